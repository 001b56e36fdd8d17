/-
  A lessor: New.
-/
import Derived.Test.YtcbngjlgcgcljaaGreatLeaseC
namespace Go.Proofs.YtcbngjlgcgcljaaGreat
open Go.RowKit Go.Tb Go.MapKept Go.ChangeMaps Go.Lib
set_option linter.unusedVariables false

def lenc (x : Int × Int) : List Value := [.int .i64 x.1, .int .i64 x.2]
theorem lenc_length (x : Int × Int) : (lenc x).length = 2 := rfl

/-- May a lease be at the beginning? -/
def firstOk (y : Int × Int) : Prop := 1 ≤ y.1 ∧ y.1 ≤ topT ∧ 1 ≤ y.2 ∧ y.2 ≤ topT
def newOk (now : Int) (ls : List (Int × Int)) : Prop := 0 ≤ now ∧ now ≤ topT ∧ ls.length ≤ 64 ∧ ∀ y ∈ ls, firstOk y
def LS.start (now : Int) : LS := { now := now, last := 0, l := fun _ => none, n := 0, keys := fun _ => none, nk := 0 }
theorem LOk.start {now : Int} (h0 : 0 ≤ now) (h1 : now ≤ topT) : LOk (LS.start now) :=
  { now0 := h0, now1 := h1, last0 := Int.le_refl _, last1 := (show (0 : Int) ≤ topT by unfold topT; decide), ids := fun i x h => (by cases h), few := Nat.zero_le _ }

/-- Leases are granted, one behind the other. -/
def grants : LS → List (Int × Int) → LS × Int
  | L, [] => (L, 0)
  | L, y :: r => if L.grantE y.1 y.2 = 0 then grants (L.granted y.1 y.2) r else (L, L.grantE y.1 y.2)

open Classical in
/-- What New says. -/
def NewSays (now : Int) (ls : List (Int × Int)) (w : World) (e : Ending) (w' : World) : Prop :=
  Upd (fun _ => False) w w' ∧
  if newOk now ls then
    if (grants (LS.start now) ls).2 = 0 then ∃ b ml mk, e = .returned (.tuple #[.pointer (some ⟨b, 0, none⟩), .int .i64 0]) ∧ IsLs w' b ml mk (grants (LS.start now) ls).1 ∧ LOk (grants (LS.start now) ls).1 ∧ w.heap.size ≤ b ∧ w.heap.size ≤ ml ∧ w.heap.size ≤ mk
    else e = .returned (.tuple #[.pointer none, .int .i64 (grants (LS.start now) ls).2])
  else e = .returned (.tuple #[.pointer none, .int .i64 1])

theorem new_made (now : Int) (w : World) :
    IsLs (((w.alloc (.map #[] 0)).alloc (.map #[] 0)).alloc (.cells #[.int .i64 now, .int .i64 0, .map (some w.heap.size), .map (some (w.heap.size + 1))] 51)) (w.heap.size + 2) w.heap.size (w.heap.size + 1) (LS.start now) := by
  have m1 := isMap_made (Value.int .i64) w
  have m2 := isMap_made skey (w.alloc (.map #[] 0))
  simp only [World.size_alloc] at m2
  have hu2 : ∀ (w : World) o, Upd (fun _ => False) w (w.alloc o) := fun w o => (Upd.refl _ _).alloc _
  refine { blk := ?_, lm := (m1.upd (hu2 _ _) (fun x => x)).upd (hu2 _ _) (fun x => x), km := m2.upd (hu2 _ _) (fun x => x), n1 := by omega, n2 := by omega, n3 := by omega }
  have := (heap_alloc ((w.alloc (.map #[] 0)).alloc (.map #[] 0)) (.cells #[.int .i64 now, .int .i64 0, .map (some w.heap.size), .map (some (w.heap.size + 1))] 51)).1
  simp only [World.size_alloc] at this
  exact this

set_option maxHeartbeats 1000000 in
theorem new_bad (now : Int) (a : Option Addr) (c : Nat) (ls : List (Int × Int)) (w : World) (h : now < 0 ∨ topT < now ∨ 64 < ls.length) :
    Calls Tryz.prog 6 #[.int .i64 now, .slice a ls.length c] w fun e w' => e = .returned (.tuple #[.pointer none, .int .i64 1]) ∧ Upd (fun _ => False) w w' := by
  have hc : now < 0 ∨ (0 ≤ now ∧ 4611686018427387904 < now) ∨ (0 ≤ now ∧ now ≤ 4611686018427387904 ∧ (64 : Int) < (ls.length : Int)) := by unfold topT at h; omega
  clear h
  generalize ls.length = n at *
  have hmm := @run_makeMap Tryz.prog
  rcases hc with h1 | ⟨h0, h1⟩ | ⟨h0, h1, h2⟩
  all_goals
    go_enter Tryz.func6, Tryz.ntmps6
    go_wp2
    go_ret2
    exact ⟨rfl, (((upd_alloc _ _ _).alloc _).alloc _)⟩

theorem lease_at {w : World} {a : Option Addr} {c : Nat} {ls : List (Int × Int)} (h : Sl lenc w (.slice a ls.length c) ls) {k : Nat} (hk : k < ls.length) :
    ∃ bb off, a = some ⟨bb, off, none⟩ ∧ w.cell? ⟨bb, off + k * 2, none⟩ = some (.int .i64 ls[k].1) ∧ w.cell? ⟨bb, off + k * 2 + 1, none⟩ = some (.int .i64 ls[k].2) := by
  obtain ⟨bb, off, cap, he, hcap, hbb, -⟩ := h.block (by omega)
  cases he
  exact ⟨bb, off, rfl, h.at lenc_length k hk 0 (by decide) _ rfl, h.at lenc_length k hk 1 (by decide) _ rfl⟩

/-- How far New has come. -/
def NewRel (w : World) (b ml mk : Nat) (L0 : LS) (ls : List (Int × Int)) (k : Nat) (wr : World) : Prop :=
  ∃ L, grants L0 ls = grants L (ls.drop k) ∧ IsLs wr b ml mk L ∧ LOk L ∧ Upd (fun x => x = b ∨ x = ml) w wr

set_option maxRecDepth 100000 in
set_option maxHeartbeats 2000000 in
theorem new_ok (now : Int) (a : Option Addr) (c : Nat) (ls : List (Int × Int)) (w : World) (hs : Sl lenc w (.slice a ls.length c) ls) (h0 : 0 ≤ now) (h1 : now ≤ topT) (h2 : ls.length ≤ 64) :
    Calls Tryz.prog 6 #[.int .i64 now, .slice a ls.length c] w (NewSays now ls w) := by
  have hmm := @run_makeMap Tryz.prog
  have hmade := new_made now w
  have HMD := Lib.hid hmade
  have HS := Lib.hid hs
  have HOK := Lib.hid (LOk.start h0 h1)
  have H1 := Lib.hid h1
  unfold topT at h1
  clear hmade hs
  go_enter Tryz.func6, Tryz.ntmps6
  go_wp2
  clear hmm
  have hu0 : Upd (fun _ => False) w (((w.alloc (.map #[] 0)).alloc (.map #[] 0)).alloc (.cells #[.int .i64 now, .int .i64 0, .map (some w.heap.size), .map (some (w.heap.size + 1))] 51)) := ((upd_alloc _ _ _).alloc _).alloc _
  have HU0 := Lib.hid hu0
  clear hu0
  generalize ((w.alloc (.map #[] 0)).alloc (.map #[] 0)).alloc (.cells #[.int .i64 now, .int .i64 0, .map (some w.heap.size), .map (some (w.heap.size + 1))] 51) = W at *
  go_loopw [31] (fun i wr => ∃ k : Nat, k ≤ ls.length ∧ i = .int .i64 k ∧ (∀ j (hj : j < ls.length), j < k → firstOk ls[j]) ∧ Upd (fun _ => False) W wr) (fun i _ => ls.length - (intOf i).toNat)
  case atStart => exact ⟨0, Nat.zero_le _, rfl, fun j _ hj => absurd hj (Nat.not_lt_zero j), Upd.refl _ _⟩
  case round =>
    obtain ⟨k, hk, rfl, hall, hu⟩ := hrel
    have HALL := Lib.hid hall
    have HU := Lib.hid hu
    clear hall hu
    by_cases hlt : k < ls.length
    · obtain ⟨bb, off, rfl, q0, q1⟩ := lease_at (HS.out.grow (HU0.out.trans HU.out)) hlt
      by_cases hy : firstOk ls[k]
      · obtain ⟨y0, y1, y2, y3⟩ := hy
        have HY := Lib.hid (show firstOk ls[k] from ⟨y0, y1, y2, y3⟩)
        unfold topT at y1 y3
        generalize hyk : ls[k] = y at *
        have HYK := Lib.hid hyk
        clear hyk
        obtain ⟨yi, yt⟩ := y
        simp only at q0 q1 y0 y1 y2 y3
        go_wp2
        go_roundw
        case rel => exact ⟨k + 1, by omega, by go_num, fun j hj hjk => by
          by_cases e : j = k
          · subst e; rw [HYK.out]; exact HY.out
          · exact HALL.out j hj (by omega), HU.out.trans (upd_alloc _ _ _)⟩
        case measure => simp [intOf]; omega
      · have HY := Lib.hid (show ¬ newOk now ls from fun h => hy (h.2.2.2 _ (List.getElem_mem hlt)))
        have hc : ls[k].1 < 1 ∨ (1 ≤ ls[k].1 ∧ 4611686018427387904 < ls[k].1) ∨ (1 ≤ ls[k].1 ∧ ls[k].1 ≤ 4611686018427387904 ∧ ls[k].2 < 1) ∨ (1 ≤ ls[k].1 ∧ ls[k].1 ≤ 4611686018427387904 ∧ 1 ≤ ls[k].2 ∧ 4611686018427387904 < ls[k].2) := by
          unfold firstOk topT at hy; omega
        clear hy
        generalize ls[k] = y at *
        obtain ⟨yi, yt⟩ := y
        simp only at q0 q1 hc
        rcases hc with z1 | ⟨z0, z1⟩ | ⟨z0, z1, z2⟩ | ⟨z0, z1, z2, z3⟩
        all_goals
          go_wp2
          go_ret2
          refine ⟨(HU0.out.trans HU.out).trans (upd_alloc _ _ _), ?_⟩
          rw [if_neg HY.out]
          rfl
    · obtain rfl : k = ls.length := by omega
      have hst : NewRel wr (w.heap.size + 2) w.heap.size (w.heap.size + 1) (LS.start now) ls 0 wr := ⟨LS.start now, rfl, HMD.out.grow HU.out, HOK.out, Upd.refl _ _⟩
      have HST := Lib.hid hst
      have HN := Lib.hid (show newOk now ls from ⟨h0, H1.out, h2, fun y hy => by obtain ⟨j, hj, rfl⟩ := List.getElem_of_mem hy; exact HALL.out j hj hj⟩)
      clear hst
      go_wp2
      rename World => W1
      have HUU := Lib.hid (HU0.out.trans HU.out)
      clear HALL HU HMD HU0 H1
      generalize hlen : ls.length = len at *
      have HLEN := Lib.hid hlen
      clear hlen
      go_loopw [56] (fun i WQ => ∃ k : Nat, k ≤ len ∧ i = .int .i64 k ∧ NewRel W1 (w.heap.size + 2) w.heap.size (w.heap.size + 1) (LS.start now) ls k WQ) (fun i _ => len - (intOf i).toNat)
      case atStart => exact ⟨0, Nat.zero_le _, rfl, HST.out⟩
      case round =>
        clear HST
        obtain ⟨k, hk, rfl, L, hg, hL, hLok, hu⟩ := hrel
        have HG := Lib.hid hg
        have HO := Lib.hid hLok
        have HU := Lib.hid hu
        have HUw := Lib.hid (show Upd (fun _ => False) w wr from HUU.out.trans' hu (fun x hx e => by omega))
        have HL := Lib.hid hL
        clear hg hLok hu hL
        by_cases hlt : k < len
        · have hk' : k < ls.length := by rw [HLEN.out]; exact hlt
          obtain ⟨bb, off, rfl, q0, q1⟩ := lease_at (w := wr) (a := a) (c := c) (by have := HS.out.grow HUw.out; rw [HLEN.out]; exact this) hk'
          have hy : firstOk ls[k] := HN.out.2.2.2 _ (List.getElem_mem hk')
          have hd : ls.drop k = ls[k] :: ls.drop (k + 1) := List.drop_eq_getElem_cons hk'
          have HY := Lib.hid hy
          have HD := Lib.hid hd
          clear hy hd
          generalize ls[k] = y at *
          clear hk'
          obtain ⟨yi, yt⟩ := y
          simp only at q0 q1
          have hgr := fun W (hW : Upd (fun _ => False) wr W) => grant_calls (w.heap.size + 2) w.heap.size (w.heap.size + 1) L yi yt W (HL.out.grow hW) HO.out
          have HGR := Lib.hid (hgr _ (upd_alloc _ wr (.cells #[.int .i64 yi, .int .i64 yt] 41)))
          clear hgr
          by_cases hE : L.grantE yi yt = 0
          · have hgi : L.gid yi = yi := if_neg (by have := HY.out.1; omega)
            have HGI := Lib.hid hgi
            have HE := Lib.hid hE
            clear hE hgi
            go_wp2_with (go_at_call 12; (with_reducible refine HGR.out.mono ?_); intro e1 w1 hs1; unfold GrantSays at hs1; rw [if_pos HE.out, HGI.out] at hs1; obtain ⟨rfl, hL1, hO1, hu1⟩ := hs1)
            go_roundw
            case rel =>
              refine ⟨k + 1, by omega, by go_num, L.granted yi yt, ?_, hL1.grow (upd_alloc _ _ _), hO1, ((HU.out.alloc _).trans hu1).alloc _⟩
              rw [HG.out, HD.out]
              show (if L.grantE yi yt = 0 then grants (L.granted yi yt) (ls.drop (k + 1)) else (L, L.grantE yi yt)) = _
              rw [if_pos HE.out]
            case measure => simp [intOf]; omega
          · have HE := Lib.hid hE
            have hne : (L.grantE yi yt != 0) = true := by simpa using hE
            have HGE := Lib.hid (show (grants (LS.start now) ls).2 = L.grantE yi yt by
              rw [HG.out, HD.out]
              show (if L.grantE yi yt = 0 then grants (L.granted yi yt) (ls.drop (k + 1)) else (L, L.grantE yi yt)).2 = _
              rw [if_neg HE.out])
            clear hE
            generalize hn : L.grantE yi yt = en at *
            have HEN := Lib.hid hn
            clear hn
            go_wp2_with (go_at_call 12; (with_reducible refine HGR.out.mono ?_); intro e1 w1 hs1; unfold GrantSays at hs1; rw [HEN.out, if_neg HE.out] at hs1; obtain ⟨rfl, hu1⟩ := hs1)
            go_ret2
            refine ⟨(HUw.out.alloc _).trans hu1 |>.alloc _, ?_⟩
            rw [if_pos HN.out, HGE.out, if_neg HE.out]
            rfl
        · obtain rfl : k = len := by omega
          have he : ls.drop k = [] := List.drop_eq_nil_of_le (by rw [HLEN.out]; exact Nat.le_refl _)
          have HGE := Lib.hid (show grants (LS.start now) ls = (L, 0) by rw [HG.out, he]; rfl)
          clear he
          go_wp2
          go_ret2
          refine ⟨HUw.out, ?_⟩
          rw [if_pos HN.out, HGE.out, if_pos rfl]
          exact ⟨_, _, _, rfl, HL.out, HO.out, by omega, by omega, by omega⟩

/-- New, whatever it is asked. -/
theorem new_calls (now : Int) (a : Option Addr) (c : Nat) (ls : List (Int × Int)) (w : World) (hs : Sl lenc w (.slice a ls.length c) ls) : Calls Tryz.prog 6 #[.int .i64 now, .slice a ls.length c] w (NewSays now ls w) := by
  by_cases h : now < 0 ∨ topT < now ∨ 64 < ls.length
  · refine (new_bad now a c ls w h).mono fun e w' h' => ⟨h'.2, ?_⟩
    rw [if_neg (fun k => by have := k.1; have := k.2.1; have := k.2.2.1; omega)]
    exact h'.1
  · exact new_ok now a c ls w hs (by omega) (by omega) (by omega)

end Go.Proofs.YtcbngjlgcgcljaaGreat
