/-
  The document's lessor: New.
-/
import Derived.Test.YtcbngjlgcgcljaaGreatRelS
import Derived.Test.YtcbngjlgcgcljaaGreatLeaseF
import Derived.Deep.RegionHeld3
namespace Go.Proofs.YtcbngjlgcgcljaaGreat
open Go.RowKit Go.Tb Go.MapKept Go.ChangeMaps Go.Lib
set_option linter.unusedVariables false

theorem grants_keys : ∀ (L : LS) (ls : List (Int × Int)), (grants L ls).1.keys = L.keys ∧ (grants L ls).1.nk = L.nk
  | L, [] => ⟨rfl, rfl⟩
  | L, y :: r => by
    unfold grants
    split
    · exact grants_keys (L.granted y.1 y.2) r
    · exact ⟨rfl, rfl⟩

theorem Rel.start (now : Int) : Rel (LS.start now) { now := now, last := 0, l := [] } :=
  { now := rfl, last := rfl, pw := .nil, len := rfl, mem := fun i x => by
      constructor
      · intro h; cases h
      · rintro ⟨r, hr, _⟩; exact (List.not_mem_nil hr).elim
    kpw := fun r hr => (List.not_mem_nil hr).elim, kmem := fun r hr => (List.not_mem_nil hr).elim }

open Classical in
/-- What New says. -/
def RNewSays (F0 : Nat → Prop) (now : Int) (ls : List (Int × Int)) (w : World) (e : Ending) (w' : World) : Prop :=
  Upd (fun _ => False) w w' ∧
  if newOk now ls then
    if (grants (LS.start now) ls).2 = 0 then ∃ R, e = .returned (.tuple #[.pointer (some ⟨w.heap.size, 0, none⟩), .int .i64 0]) ∧ IsRef (fun k => F0 k ∨ k = w.heap.size) w' w.heap.size R ∧ Rel (grants (LS.start now) ls).1 R
    else e = .returned (.tuple #[.pointer none, .int .i64 (grants (LS.start now) ls).2])
  else e = .returned (.tuple #[.pointer none, .int .i64 1])

set_option maxRecDepth 100000 in
theorem rnew_bad (F0 : Nat → Prop) (now : Int) (a1 a2 : Option Addr) (c1 c2 : Nat) (ls : List (Int × Int)) (w : World) (h : now < 0 ∨ topT < now ∨ 64 < ls.length) :
    Calls Tryz.prog 7 #[.int .i64 now, .slice a1 ls.length c1, .slice a2 ls.length c2] w (RNewSays F0 now ls w) := by
  have hp : ∀ w', w = w' → RNewSays F0 now ls w (.returned (.tuple #[.pointer none, .int .i64 1])) w' := fun w' hw => by
    subst hw
    refine ⟨Upd.refl _ _, ?_⟩
    rw [if_neg (fun k => by have := k.1; have := k.2.1; have := k.2.2.1; omega)]
  have HP := Lib.hid hp
  clear hp
  have hc : now < 0 ∨ (0 ≤ now ∧ 4611686018427387904 < now) ∨ (0 ≤ now ∧ now ≤ 4611686018427387904 ∧ 64 < ls.length) := by unfold topT at h; omega
  clear h
  generalize ls.length = n at *
  rcases hc with h | ⟨h0, h⟩ | ⟨h0, h1, h⟩
  · go_enter Tryz.func7, Tryz.ntmps7
    go_wp2
    go_ret2
    exact HP.out _ rfl
  · go_enter Tryz.func7, Tryz.ntmps7
    go_wp2
    go_ret2
    exact HP.out _ rfl
  · have h' : (64 : Int) < (n : Int) := by omega
    go_enter Tryz.func7, Tryz.ntmps7
    go_wp2
    go_ret2
    exact HP.out _ rfl

theorem at_nums {w : World} {a : Option Addr} {n c : Nat} {l : List Int} (h : Sl nenc w (.slice a n c) l) {k : Nat} (hn : l.length = n) (hk : k < n) : ∃ b off, a = some ⟨b, off, none⟩ ∧ ∀ (hk : k < l.length), w.cell? ⟨b, off + k, none⟩ = some (.int .i64 l[k]) := by
  subst hn
  obtain ⟨b, off, cap, e, -, -, -⟩ := h.block (by omega)
  cases e
  refine ⟨b, off, rfl, fun hk => ?_⟩
  have := h.at nenc_length k hk 0 (by decide) _ rfl
  rw [Nat.mul_one, Nat.add_zero] at this
  exact this

set_option maxRecDepth 100000 in
set_option maxHeartbeats 4000000 in
theorem rnew_ok (F0 : Nat → Prop) (now : Int) (a1 a2 : Option Addr) (c1 c2 : Nat) (ls : List (Int × Int)) (w : World) (hF0 : ∀ k, F0 k → k < w.heap.size) (h1 : Sl nenc w (.slice a1 ls.length c1) (ls.map Prod.fst)) (h2 : Sl nenc w (.slice a2 ls.length c2) (ls.map Prod.snd)) (n0 : 0 ≤ now) (n1 : now ≤ topT) (hl : ls.length ≤ 64) :
    Calls Tryz.prog 7 #[.int .i64 now, .slice a1 ls.length c1, .slice a2 ls.length c2] w (RNewSays F0 now ls w) := by
  have hn64 : ¬ ((64 : Int) < (ls.length : Int)) := by omega
  have hno := n1
  unfold topT at hno
  have hnn : ¬ (4611686018427387904 < now) := by omega
  have H1 := Lib.hid h1
  have H2 := Lib.hid h2
  have HF0 := Lib.hid hF0
  have HN1 := Lib.hid n1
  have HPB := Lib.hid (show ¬ (∀ y ∈ ls, firstOk y) → ∀ w', Upd (fun _ => False) w w' → RNewSays F0 now ls w (.returned (.tuple #[.pointer none, .int .i64 1])) w' from fun h w' hu => by
    refine ⟨hu, ?_⟩
    rw [if_neg (fun k => h k.2.2.2)])
  have HPG := Lib.hid (show (∀ y ∈ ls, firstOk y) → newOk now ls from fun h => ⟨n0, n1, hl, h⟩)
  clear h1 h2 hF0 n1
  generalize hlen : ls.length = n at *
  have HLEN := Lib.hid hlen
  clear hlen
  go_enter Tryz.func7, Tryz.ntmps7
  go_upto_region 4 with (fail)
  go_loopw [26] (fun i wr => ∃ k : Nat, k ≤ n ∧ i = .int .i64 k ∧ (∀ q (hq : q < ls.length), q < k → firstOk ls[q]) ∧ w = wr) (fun i _ => n - (intOf i).toNat)
  case atStart => exact ⟨0, Nat.zero_le _, rfl, fun q _ h => absurd h (Nat.not_lt_zero _), rfl⟩
  case round =>
    obtain ⟨k, hk, rfl, hfo, rfl⟩ := hrel
    have HFO := Lib.hid hfo
    clear hfo
    by_cases hlt : k < n
    · have hk' : k < ls.length := by rw [HLEN.out]; exact hlt
      obtain ⟨b1, o1, rfl, q1⟩ := at_nums H1.out (by rw [List.length_map]; exact HLEN.out) hlt
      obtain ⟨b2, o2, rfl, q2⟩ := at_nums H2.out (by rw [List.length_map]; exact HLEN.out) hlt
      have q1 := q1 (by rw [List.length_map]; exact hk')
      have q2 := q2 (by rw [List.length_map]; exact hk')
      rw [List.getElem_map] at q1 q2
      have HT := Lib.hid (show firstOk ls[k] → ∀ q (hq : q < ls.length), q < k + 1 → firstOk ls[q] from fun h q hq hq2 => by
        by_cases e : q = k
        · subst e; exact h
        · exact HFO.out q hq (by omega))
      have HB := Lib.hid (show ¬ firstOk ls[k] → ¬ (∀ y ∈ ls, firstOk y) from fun h hall => h (hall _ (List.getElem_mem hk')))
      unfold firstOk topT at HT HB
      generalize ls[k].1 = x1 at *
      generalize ls[k].2 = x2 at *
      clear hk'
      have hc : (1 ≤ x1 ∧ x1 ≤ 4611686018427387904 ∧ 1 ≤ x2 ∧ x2 ≤ 4611686018427387904) ∨ x1 < 1 ∨ (1 ≤ x1 ∧ 4611686018427387904 < x1) ∨ (1 ≤ x1 ∧ x1 ≤ 4611686018427387904 ∧ x2 < 1) ∨ (1 ≤ x1 ∧ x1 ≤ 4611686018427387904 ∧ 1 ≤ x2 ∧ 4611686018427387904 < x2) := by omega
      rcases hc with ⟨g1, g2, g3, g4⟩ | g1 | ⟨g1, g2⟩ | ⟨g1, g2, g3⟩ | ⟨g1, g2, g3, g4⟩
      · have HT2 := Lib.hid (HT.out ⟨g1, g2, g3, g4⟩)
        clear HT HB
        go_wp2
        go_roundw
        case rel => exact ⟨k + 1, by omega, by go_num, HT2.out, trivial⟩
        case measure => simp [intOf]; omega
      all_goals (
        have HB2 := Lib.hid (HPB.out (HB.out (by omega)) w (Upd.refl _ _))
        clear HT HB
        go_wp2
        go_ret2
        exact HB2.out)
    · obtain rfl : k = n := by omega
      have hall : ∀ y ∈ ls, firstOk y := fun y hy => by
        obtain ⟨q, hq, rfl⟩ := List.getElem_of_mem hy
        exact HFO.out q hq (by rw [← HLEN.out]; exact hq)
      have HNO := Lib.hid (HPG.out hall)
      have hua := upd_alloc (fun _ => False) w (.cells #[.int .i64 now, .int .i64 0, .slice none 0 0] 54)
      have ha := heap_alloc w (.cells #[.int .i64 now, .int .i64 0, .slice none 0 0] 54)
      have href : IsRef (fun k => F0 k ∨ k = w.heap.size) (w.alloc (.cells #[.int .i64 now, .int .i64 0, .slice none 0 0] 54)) w.heap.size { now := now, last := 0, l := [] } :=
        { blk := ⟨.slice none 0 0, ha.1, .inl ⟨rfl, rfl⟩, fun g hg => by cases hg⟩, ok := fun r hr => (List.not_mem_nil hr).elim, self := .inr rfl }
      have HREF := Lib.hid href
      have HUA := Lib.hid hua
      have hsz : (w.alloc (.cells #[.int .i64 now, .int .i64 0, .slice none 0 0] 54)).heap.size = w.heap.size + 1 := by simp
      have HSZ := Lib.hid hsz
      clear hall href ha hsz hua
      go_upto_region 11 with (fail)
      generalize w.alloc (.cells #[.int .i64 now, .int .i64 0, .slice none 0 0] 54) = w0 at *
      go_loopw [61] (fun i wr => ∃ p : Nat, p ≤ k ∧ i = .int .i64 p ∧ ∃ L R, grants (LS.start now) ls = grants L (ls.drop p) ∧ IsRef (fun k => F0 k ∨ k = w.heap.size) wr w.heap.size R ∧ Rel L R ∧ LOk L ∧ KOk L ∧ Upd (fun x => x = w.heap.size) w0 wr) (fun i _ => k - (intOf i).toNat)
      case atStart => exact ⟨0, Nat.zero_le _, rfl, _, _, rfl, HREF.out, Rel.start now, LOk.start n0 HN1.out, ⟨fun s i h => (by cases h), fun s i h => (by cases h)⟩, Upd.refl _ _⟩
      case round =>
        obtain ⟨p, hp, rfl, L, R, hg, hr, hrel2, hok, hkok, hu⟩ := hrel
        have huw : Upd (fun _ => False) w wr := HUA.out.trans' hu (fun x hx e => by omega)
        have HUW := Lib.hid huw
        have HG := Lib.hid hg
        by_cases hlt2 : p < k
        · have hp' : p < ls.length := by rw [HLEN.out]; exact hlt2
          have hd : Upd (fun _ => False) w wr.drew := huw.drew
          obtain ⟨b1, o1, rfl, q1⟩ := at_nums (H1.out.grow hd) (by rw [List.length_map]; exact HLEN.out) hlt2
          obtain ⟨b2, o2, rfl, q2⟩ := at_nums (H2.out.grow hd) (by rw [List.length_map]; exact HLEN.out) hlt2
          obtain ⟨b1', o1', e1', q1w⟩ := at_nums H1.out (by rw [List.length_map]; exact HLEN.out) hlt2
          cases e1'
          obtain ⟨b2', o2', e2', q2w⟩ := at_nums H2.out (by rw [List.length_map]; exact HLEN.out) hlt2
          cases e2'
          have hb1 : b1 < w.heap.size := World.block_lt_of_cell? w _ (q1w (by rw [List.length_map]; exact hp'))
          have hb2 : b2 < w.heap.size := World.block_lt_of_cell? w _ (q2w (by rw [List.length_map]; exact hp'))
          have q1 := q1 (by rw [List.length_map]; exact hp')
          have q2 := q2 (by rw [List.length_map]; exact hp')
          rw [List.getElem_map] at q1 q2
          have hdr : ls.drop p = ls[p] :: ls.drop (p + 1) := List.drop_eq_getElem_cons hp'
          have hrd := hr.grow (Upd.refl (fun _ => False) _).drew
          have hFd : ∀ k, (F0 k ∨ k = w.heap.size) → k < wr.drew.heap.size := fun x hx => by
            have h1 := HSZ.out
            have h2 := hu.size
            have h3 : wr.drew.heap.size = wr.heap.size := rfl
            rcases hx with hx | hx
            · have := HF0.out x hx; omega
            · omega
          clear q1w q2w huw hd
          by_cases hE : L.grantE ls[p].1 ls[p].2 = 0
          · have hrg := rgrant_yes (id := ls[p].1) (ttl := ls[p].2) hrd hFd hrel2 hok hkok hE
            have HG2 := Lib.hid (show grants (LS.start now) ls = grants (L.granted ls[p].1 ls[p].2) (ls.drop (p + 1)) by
              rw [hg, hdr]
              show (if L.grantE ls[p].1 ls[p].2 = 0 then _ else _) = _
              rw [if_pos hE])
            have hok2 : LOk (L.granted ls[p].1 ls[p].2) := by
              obtain ⟨⟨g0, g1, g2, g3⟩, g4, g5, g6⟩ := grantE_zero hE
              refine hok.granted ?_ ?_ g2 g3 g5
              · unfold LS.gid; have := hok.last0; split <;> omega
              · unfold LS.gid; have := hok.last1; split
                · rename_i e; have := g6 e; omega
                · exact g1
            have HO2 := Lib.hid hok2
            have HK2 := Lib.hid ((KInv.of hok hkok).granted ls[p].1 ls[p].2 hok2).k
            have HU := Lib.hid hu
            clear hr hrel2 hok hkok hu hg hdr hE hok2 hrd hFd
            generalize L.granted ls[p].1 ls[p].2 = L2 at *
            generalize L.gid ls[p].1 = gid at *
            generalize ls[p].1 = x1 at *
            generalize ls[p].2 = x2 at *
            clear hp'
            go_upto_region 13 with (fail)
            have z1 := q1
            go_region_held3 (fun w' => w'.cell? ⟨b1, o1 + p, none⟩ = some (.int .i64 x1) ∧ w'.cell? ⟨b2, o2 + p, none⟩ = some (.int .i64 x2)) (first | exact ⟨q1, q2⟩ | exact ⟨r1, r2⟩)
              (first | (go_at_call 15; (with_reducible refine hrg.mono ?_); rintro e3 w3 ⟨rfl, ⟨R2, hr3, hrel3⟩, hu3⟩; have r1 := hu3.cell q1 (by simp; omega); have r2 := hu3.cell q2 (by simp; omega); have HR3 := Lib.hid hr3; have HREL3 := Lib.hid hrel3; have HU3 := Lib.hid hu3; clear hr3 hrel3 hu3))
            go_wp2
            go_roundw
            case rel => exact ⟨p + 1, by omega, by go_num, L2, R2, HG2.out, HR3.out, HREL3.out, HO2.out, HK2.out, HU.out.drew.trans HU3.out⟩
            case measure => simp [intOf]; omega
          · have hrg := rgrant_no (id := ls[p].1) (ttl := ls[p].2) hrd hrel2 hok hE
            have HG2 := Lib.hid (show (grants (LS.start now) ls).2 = L.grantE ls[p].1 ls[p].2 by
              rw [hg, hdr]
              show (if L.grantE ls[p].1 ls[p].2 = 0 then _ else (L, _)).2 = _
              rw [if_neg hE])
            clear hr hrel2 hok hkok hu hg hdr hrd hFd
            generalize L.grantE ls[p].1 ls[p].2 = eE at *
            generalize ls[p].1 = x1 at *
            generalize ls[p].2 = x2 at *
            have hne : (eE != 0) = true := by simpa using hE
            have HE := Lib.hid hE
            clear hp' hE
            go_upto_region 13 with (fail)
            go_region_held3 (fun w' => w'.cell? ⟨b1, o1 + p, none⟩ = some (.int .i64 x1) ∧ w'.cell? ⟨b2, o2 + p, none⟩ = some (.int .i64 x2)) (exact ⟨q1, q2⟩)
              (first | (go_at_call 15; (with_reducible refine hrg.mono ?_); rintro e3 w3 ⟨rfl, rfl⟩))
            go_wp2
            go_ret2
            refine ⟨HUW.out.drew, ?_⟩
            rw [if_pos HNO.out, if_neg (by rw [HG2.out]; exact HE.out), HG2.out]
            rfl
        · obtain rfl : p = k := by omega
          have hdn : ls.drop p = [] := List.drop_eq_nil_of_le (by rw [HLEN.out]; exact Nat.le_refl _)
          have HG2 := Lib.hid (show grants (LS.start now) ls = (L, 0) by rw [hg, hdn]; rfl)
          have HR := Lib.hid hr
          have HREL := Lib.hid hrel2
          clear hr hrel2 hok hkok hu hg hdn huw
          go_wp2
          go_ret2
          refine ⟨HUW.out, ?_⟩
          rw [if_pos HNO.out, HG2.out, if_pos rfl]
          exact ⟨R, rfl, HR.out, HREL.out⟩

theorem rnew_calls (F0 : Nat → Prop) (now : Int) (a1 a2 : Option Addr) (c1 c2 : Nat) (ls : List (Int × Int)) (w : World) (hF0 : ∀ k, F0 k → k < w.heap.size) (h1 : Sl nenc w (.slice a1 ls.length c1) (ls.map Prod.fst)) (h2 : Sl nenc w (.slice a2 ls.length c2) (ls.map Prod.snd)) :
    Calls Tryz.prog 7 #[.int .i64 now, .slice a1 ls.length c1, .slice a2 ls.length c2] w (RNewSays F0 now ls w) := by
  by_cases h : now < 0 ∨ topT < now ∨ 64 < ls.length
  · exact rnew_bad F0 now a1 a2 c1 c2 ls w h
  · exact rnew_ok F0 now a1 a2 c1 c2 ls w hF0 h1 h2 (by omega) (by omega) (by omega)

end Go.Proofs.YtcbngjlgcgcljaaGreat
