/-
  batch.cut.
-/
import Derived.Test.YtidpiojanajpoaaEvC
namespace Go.Proofs.Ytidpiojanajpoaa
open Go.RowKit Go.Tb Go.MapKept Go.ChangeMaps
set_option linter.unusedVariables false

/-- How many events are of a revision, from the front. -/
def runLen (m : Int) : List Ev → Nat
  | [] => 0
  | x :: r => if x.kv.mod = m then runLen m r + 1 else 0
theorem runLen_le (m : Int) : ∀ l : List Ev, runLen m l ≤ l.length
  | [] => Nat.le_refl _
  | x :: r => by
    unfold runLen
    have := runLen_le m r
    split <;> simp <;> omega
def cutAt (l : List Ev) (most : Int) : Nat → Nat → Nat
  | 0, n => n
  | f + 1, n => match l[n]? with
    | none => n
    | some x => if 0 < n ∧ most < (n + 1 + runLen x.kv.mod (l.drop (n + 1)) : Nat) then n else cutAt l most f (n + 1 + runLen x.kv.mod (l.drop (n + 1)))
/-- How many events are the first whole revisions. -/
def cutN (l : List Ev) (most : Int) : Nat := cutAt l most l.length 0

theorem cutAt_succ (l : List Ev) (most : Int) (f n : Nat) (x : Ev) (h : l[n]? = some x) : cutAt l most (f + 1) n = if 0 < n ∧ most < (n + 1 + runLen x.kv.mod (l.drop (n + 1)) : Nat) then n else cutAt l most f (n + 1 + runLen x.kv.mod (l.drop (n + 1))) := by
  show (match l[n]? with
    | none => n
    | some x => if 0 < n ∧ most < (n + 1 + runLen x.kv.mod (l.drop (n + 1)) : Nat) then n else cutAt l most f (n + 1 + runLen x.kv.mod (l.drop (n + 1)))) = _
  rw [h]
theorem cutAt_end (l : List Ev) (most : Int) : ∀ f, cutAt l most f l.length = l.length
  | 0 => rfl
  | f + 1 => by unfold cutAt; simp
theorem cutAt_le (l : List Ev) (most : Int) : ∀ f n, n ≤ l.length → cutAt l most f n ≤ l.length
  | 0, n, h => h
  | f + 1, n, h => by
    unfold cutAt
    cases hx : l[n]? with
    | none => exact h
    | some x =>
      simp only
      split
      · exact h
      · refine cutAt_le l most f _ ?_
        have h1 := runLen_le x.kv.mod (l.drop (n + 1))
        have h2 := (List.getElem?_eq_some_iff.1 hx).1
        simp at h1; omega
theorem cutN_le (l : List Ev) (most : Int) : cutN l most ≤ l.length := cutAt_le l most _ _ (Nat.zero_le _)

/-- A Mod of an event, where it lies. -/
theorem Evs.mod {w : World} {I : Nat → Prop} {b off n c : Nat} {ps : List EvP} (h : Evs w I (.slice (some ⟨b, off, none⟩) n c) ps) (i : Nat) (hi : i < ps.length) : w.cell? ⟨b, off + i * 14 + 4, none⟩ = some (.int .i64 ps[i].kv.x.mod) := by
  obtain ⟨b', off', e, h1⟩ := h.range i hi
  cases e
  exact h1 4 _ rfl

set_option maxRecDepth 100000 in
set_option maxHeartbeats 1000000 in
theorem cut_calls (v : Value) (ps : List EvP) (I : Nat → Prop) (most : Int) (w : World) (h : Evs w I v ps) (hn : ps.length ≤ 800000000000) :
    Calls Try.prog 46 #[v, .int .i64 most] w fun e w' => e = .returned (.int .i64 (cutN (ps.map EvP.x) most : Nat)) ∧ Upd (fun _ => False) w w' := by
  obtain ⟨a, c, rfl, hc⟩ := h.1.shape
  have H := Lib.hid h
  clear h
  obtain ⟨l, hl⟩ : ∃ l, l = ps.map EvP.x := ⟨_, rfl⟩
  have hlen : l.length = ps.length := by rw [hl, List.length_map]
  have HL := Lib.hid hl
  have HLN := Lib.hid hlen
  rw [← hl]
  clear hl hlen
  go_enter Try.func46, Try.ntmps46
  go_wp2
  go_loopw [5] (fun i wr => ∃ n f : Nat, n ≤ ps.length ∧ ps.length ≤ f + n ∧ i = .int .i64 n ∧ cutN l most = cutAt l most f n ∧ Upd (fun _ => False) w wr) (fun i _ => ps.length - (intOf i).toNat)
  case atStart => exact ⟨0, ps.length, Nat.zero_le _, by omega, rfl, by unfold cutN; rw [HLN.out], Upd.refl _ _⟩
  case round =>
    obtain ⟨n, f, hn1, hf, rfl, hcut, hu⟩ := hrel
    have HC := Lib.hid hcut
    have HU := Lib.hid hu
    clear hcut hu
    by_cases hlt : n < ps.length
    · obtain ⟨b, off, rfl, -⟩ := H.out.range n hlt
      have m0 := H.out.mod n hlt
      have hxl : l[n]? = some ps[n].x := by rw [HL.out, List.getElem?_map, List.getElem?_eq_getElem hlt]; rfl
      have hmx : ps[n].x.kv.mod = ps[n].kv.x.mod := rfl
      obtain ⟨m, hm⟩ : ∃ m, m = ps[n].kv.x.mod := ⟨_, rfl⟩
      rw [← hm] at m0 hmx
      have HX := Lib.hid (show ∀ e g : Nat, f = g + 1 → e = n + 1 + runLen m (l.drop (n + 1)) → cutN l most = if 0 < n ∧ most < (e : Int) then n else cutAt l most g e from fun e g hg he => by
        rw [HC.out, hg, cutAt_succ l most g n _ hxl, hmx, he])
      clear hxl hmx hm
      go_wp2
      go_loopw [6] (fun i wr => ∃ e : Nat, n + 1 ≤ e ∧ e ≤ ps.length ∧ i = .int .i64 e ∧ n + 1 + runLen m (l.drop (n + 1)) = e + runLen m (l.drop e) ∧ Upd (fun _ => False) w wr) (fun i _ => ps.length - (intOf i).toNat)
      case atStart => exact ⟨n + 1, Nat.le_refl _, hlt, by go_num, rfl, HU.out⟩
      case round =>
        obtain ⟨e, he1, he2, rfl, hrun, hu2⟩ := hrel
        have m0' := hu2.cell m0 (fun x => x)
        have m0d := hu2.drew.cell m0 (fun x => x)
        have HU2 := Lib.hid hu2
        have HRN := Lib.hid hrun
        have y0 : (0 : Int) ≤ (n : Int) := by omega
        have y1 : (n : Int) < (ps.length : Int) := by omega
        have y2 : (0 : Int) ≤ (e : Int) := by omega
        clear hu2 hrun m0
        by_cases hle : e < ps.length
        · have m1 := HU2.out.cell (H.out.mod e hle) (fun x => x)
          have m1d := HU2.out.drew.cell (H.out.mod e hle) (fun x => x)
          have y3 : (e : Int) < (ps.length : Int) := by omega
          have hd : l.drop e = ps[e].x :: l.drop (e + 1) := by
            rw [List.drop_eq_getElem_cons (by rw [HLN.out]; exact hle)]
            congr 1
            simp [HL.out]
          by_cases hm1 : ps[e].kv.x.mod = m
          · have HN := Lib.hid (show n + 1 + runLen m (l.drop (n + 1)) = (e + 1) + runLen m (l.drop (e + 1)) from by
              rw [HRN.out, hd]
              show e + (if ps[e].kv.x.mod = m then runLen m (l.drop (e + 1)) + 1 else 0) = _
              rw [if_pos hm1]; omega)
            rw [hm1] at m1 m1d
            clear hd hm1 HRN
            go_wp2
            go_quiet (fail)
            go_wp2
            go_roundw
            case rel => exact ⟨e + 1, by omega, by omega, by go_num, HN.out, HU2.out.drewN nq⟩
            case measure => simp [intOf]; omega
          · have HN := Lib.hid (show e = n + 1 + runLen m (l.drop (n + 1)) from by
              rw [HRN.out, hd]
              show _ = e + (if ps[e].kv.x.mod = m then runLen m (l.drop (e + 1)) + 1 else 0)
              rw [if_neg hm1]; rfl)
            generalize ps[e].kv.x.mod = m2 at *
            clear hd HRN
            go_wp2
            go_quiet (fail)
            obtain ⟨g, hg⟩ : ∃ g, f = g + 1 := ⟨f - 1, by omega⟩
            have HY := Lib.hid (HX.out e g hg HN.out)
            clear HX
            by_cases hb1 : n = 0
            · have HW := Lib.hid (show cutN l most = cutAt l most g e from by rw [HY.out, if_neg (by omega)])
              clear HY
              subst hb1
              go_wp2
              go_roundw
              case rel => exact ⟨e, g, he2, by omega, by go_num, HW.out, HU2.out.drewN nq⟩
              case measure => simp [intOf]; omega
            · have hb3 : (0 : Int) < (n : Int) := by omega
              by_cases hb2 : most < (e : Int)
              · have HW := Lib.hid (show cutN l most = n from by rw [HY.out, if_pos ⟨by omega, hb2⟩])
                clear HY
                go_wp2
                go_ret
                exact ⟨by rw [HW.out]; rfl, HU2.out.drewN nq⟩
              · have HW := Lib.hid (show cutN l most = cutAt l most g e from by rw [HY.out, if_neg (fun h => hb2 h.2)])
                clear HY
                go_wp2
                go_roundw
                case rel => exact ⟨e, g, he2, by omega, by go_num, HW.out, HU2.out.drewN nq⟩
                case measure => simp [intOf]; omega
        · obtain ⟨e', he'⟩ : ∃ e', e' = e := ⟨_, rfl⟩
          have HN := Lib.hid (show e = n + 1 + runLen m (l.drop (n + 1)) from by
            rw [HRN.out, List.drop_of_length_le (by rw [HLN.out]; omega)]; rfl)
          have y3 : ((e : Int) < (ps.length : Int)) = False := by simp; omega
          have y4 : (ps.length : Int) ≤ (e : Int) := by omega
          clear HRN hle he'
          go_wp2
          go_quiet (fail)
          obtain ⟨g, hg⟩ : ∃ g, f = g + 1 := ⟨f - 1, by omega⟩
          have HY := Lib.hid (HX.out e g hg HN.out)
          clear HX
          by_cases hb1 : n = 0
          · have HW := Lib.hid (show cutN l most = cutAt l most g e from by rw [HY.out, if_neg (by omega)])
            clear HY
            subst hb1
            go_wp2
            go_roundw
            case rel => exact ⟨e, g, he2, by omega, by go_num, HW.out, HU2.out.drewN nq⟩
            case measure => simp [intOf]; omega
          · have hb3 : (0 : Int) < (n : Int) := by omega
            by_cases hb2 : most < (e : Int)
            · have HW := Lib.hid (show cutN l most = n from by rw [HY.out, if_pos ⟨by omega, hb2⟩])
              clear HY
              go_wp2
              go_ret
              exact ⟨by rw [HW.out]; rfl, HU2.out.drewN nq⟩
            · have HW := Lib.hid (show cutN l most = cutAt l most g e from by rw [HY.out, if_neg (fun h => hb2 h.2)])
              clear HY
              go_wp2
              go_roundw
              case rel => exact ⟨e, g, he2, by omega, by go_num, HW.out, HU2.out.drewN nq⟩
              case measure => simp [intOf]; omega
    · obtain rfl : n = ps.length := by omega
      have HZ := Lib.hid (show cutN l most = ps.length from by rw [HC.out, ← HLN.out]; exact cutAt_end l most f)
      go_wp2
      go_ret
      exact ⟨by rw [HZ.out]; rfl, HU.out⟩

end Go.Proofs.Ytidpiojanajpoaa
