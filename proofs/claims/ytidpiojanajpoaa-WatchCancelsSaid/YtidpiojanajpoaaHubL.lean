/-
  A hub: Drain of a cancelled watcher that has told all; Compact.
-/
import Derived.Deep.Cut
import Derived.Test.YtidpiojanajpoaaHubE
import Derived.Test.YtidpiojanajpoaaHubC
import Derived.Test.YtidpiojanajpoaaOncD
namespace Go.Proofs.Ytidpiojanajpoaa
open Go.RowKit Go.Tb Go.MapKept Go.ChangeMaps
set_option linter.unusedVariables false

def Hub.gone (H : Hub) (i : Int) : Hub := { H with f := fun j => if j = i then none else H.f j, n := H.n - 1 }
theorem IsHub.gone {w w' : World} {b m : Nat} {own : Nat → Tg} {P : Int → Option WrP} {H : Hub} {i : Int} {p : WrP} (h : IsHub w b m own P H) (hp : P i = some p) (hu : Upd (fun k => k = m) w w') (hm : IsMap (Value.int .i64) w' m (fun j => if j = i then none else mptr P j) (if (mptr P i).isSome then H.n - 1 else H.n)) :
    IsHub w' b m own (fun j => if j = i then none else P j) (H.gone i) := by
  have e1 : (mptr P i).isSome = true := by unfold mptr; rw [hp]; rfl
  have e2 : (fun j => if j = i then none else mptr P j) = mptr (fun j => if j = i then none else P j) := by
    funext j
    unfold mptr
    by_cases hj : j = i
    · simp [hj]
    · simp [hj]
  rw [if_pos e1, e2] at hm
  have hbm : b ≠ m := fun e => by have := h.om; rw [← e, h.ob] at this; cases this
  refine { hub := hu.heap h.hub hbm, map := hm, ob := h.ob, om := h.om, wt := fun j q hq => ?_, nn := fun j hj => ?_, lt := fun k hk => Nat.lt_of_lt_of_le (h.lt k hk) hu.size }
  · by_cases hj : j = i
    · rw [if_pos hj] at hq; cases hq
    · rw [if_neg hj] at hq
      obtain ⟨x, hx, hw⟩ := h.wt j q hq
      exact ⟨x, (if_neg hj).trans hx, hw.upd hu (fun k e => by rw [show k = m from e, h.om]; simp) (fun _ _ => rfl)⟩
  · by_cases hj' : j = i
    · exact if_pos hj'
    · rw [if_neg hj'] at hj
      exact (if_neg hj').trans (h.nn j hj)

set_option maxRecDepth 100000 in
set_option maxHeartbeats 2000000 in
theorem drain_end (b m : Nat) (own : Nat → Tg) (P : Int → Option WrP) (H : Hub) (i : Int) (x : Wr) (w : World) (h : IsHub w b m own P H) (hx : H.f i = some x) (hbuf : x.buf = []) (hen : x.ended = true) :
    Calls Try.prog 13 #[.pointer (some ⟨b, 0, none⟩), .int .i64 i] w fun e w' => e = .returned (.tuple #[.agg #[.int .i64 i, .slice none 0 0, .bool true, .int .i64 x.floor, .bool false, .int .i64 0], .bool true]) ∧ (∃ P', IsHub w' b m own P' (H.gone i)) ∧ Upd (fun k => own k ≠ .no) w w' := by
  have hua := upd_alloc (fun _ => False) w (.cells #[.int .i64 0, .slice none 0 0, .bool false, .int .i64 0, .bool false, .int .i64 0] 40)
  have hB := (heap_alloc w (.cells #[.int .i64 0, .slice none 0 0, .bool false, .int .i64 0, .bool false, .int .i64 0] 40)).1
  have hf := find_calls b m own P H i _ (h.grow hua)
  obtain ⟨p, hp⟩ : ∃ p, P i = some p := by
    cases hp : P i with
    | none => rw [h.nn i hp] at hx; cases hx
    | some p => exact ⟨p, rfl⟩
  obtain ⟨x0, hx0, hw⟩ := h.wt i p hp
  obtain rfl : x0 = x := Option.some.inj (hx0.symm.trans hx)
  rw [hp] at hf
  simp only [wptr, Option.map_some] at hf
  have hnb : p.b.n = 0 := by rw [hw.nb, hbuf]; rfl
  have c7 := hua.cell (show w.cell? ⟨p.blk, 7, none⟩ = some (.slice p.b.a 0 p.b.c) from by rw [← hnb]; exact cell_of hw.blk 7) (fun x => x)
  have c11 := hua.cell (show w.cell? ⟨p.blk, 11, none⟩ = some (.bool true) from by rw [← hen]; exact cell_of hw.blk 11) (fun x => x)
  have c4 := hua.cell (show w.cell? ⟨b, 4, none⟩ = some (.map (some m)) from cell_of h.hub 4) (fun x => x)
  obtain ⟨o, hdel, hm⟩ := (h.grow hua).map.delete (P := Try.prog) (keyT_int .i64) Try.underlying66 Try.underlying2 i
  have hu2 := upd_setBlock (fun k => k = m) (w.alloc (.cells #[.int .i64 0, .slice none 0 0, .bool false, .int .i64 0, .bool false, .int .i64 0] 40)) m o rfl
  have hg := (h.grow hua).gone hp hu2 hm
  have hmB : w.heap.size ≠ m := fun e => by have := h.map.lt; omega
  have hpm : p.blk ≠ m := fun e => by have := hw.ow; rw [e, h.om] at this; cases this
  have hB2 := hu2.heap hB hmB
  have c12 := hu2.cell (hua.cell (show w.cell? ⟨p.blk, 12, none⟩ = some (.int .i64 x0.floor) from cell_of hw.blk 12) (fun x => x)) hpm
  have HG := Lib.hid hg
  have HU := Lib.hid (show Upd (fun k => own k ≠ .no) w (setBlock (w.alloc (.cells #[.int .i64 0, .slice none 0 0, .bool false, .int .i64 0, .bool false, .int .i64 0] 40)) m o) from (hua.weak _).trans' hu2 (fun k _ e => by rw [show k = m from e, h.om]; simp))
  have HHU := Lib.hid h
  clear h hp hx hx0 hw hua hbuf hen hnb hm hu2 hg hmB hpm hB
  go_enter Try.func13, Try.ntmps13
  go_wp2_with (first
    | (go_at_call 32; (with_reducible refine hf.mono ?_); rintro e w' ⟨rfl, rfl⟩)
    | (refine wpList_delete hdel (by rfl) (by rfl) (by rfl) (by rfl) ?_)
    | ((with_reducible refine wpl_store (ty := 40) (cs := #[.int .i64 i, .slice none 0 0, .bool true, .int .i64 x0.floor, .bool false, .int .i64 0]) hB2 ?_ ?_ ?_ ?_ ?_ ?_); rfl; rfl; rfl; kernel_rfl; rfl; intro w5 hq5 hu5 hs5 hd5; have e0 := cell_of hq5 0; have e1 := cell_of hq5 1; have e2 := cell_of hq5 2; have e3 := cell_of hq5 3; have e4 := cell_of hq5 4; have e5 := cell_of hq5 5))
  have hno : own w.heap.size = .no := by
    cases e : own w.heap.size with
    | no => rfl
    | _ => exact absurd (HHU.out.lt w.heap.size (by rw [e]; simp)) (Nat.lt_irrefl _)
  refine bodyPost_ret (v := .tuple #[.agg #[.int .i64 i, .slice none 0 0, .bool true, .int .i64 x0.floor, .bool false, .int .i64 0], .bool true]) (by simp [results, Try.results13, go_sem, e0, e1, e2, e3, e4, e5]) rfl ⟨rfl, ⟨_, HG.out.upd hu5 (fun k hk e => by rw [show k = w.heap.size from e] at hk; exact hk hno)⟩, HU.out.trans' hu5 (fun k hk e => by omega)⟩

/-- What a compaction does to a watcher. -/
def compW (H : Hub) (floor : Int) (x : Wr) : Wr := if behindB H x && decide (x.next ≤ floor) then { x with ended := true, floor := floor + 1 } else x
def Hub.compacted (H : Hub) (floor : Int) : Hub := { H with f := fun i => (H.f i).map (compW H floor) }

set_option maxRecDepth 100000 in
set_option maxHeartbeats 4000000 in
theorem compact_calls (b m : Nat) (own : Nat → Tg) (P : Int → Option WrP) (H : Hub) (floor : Int) (w : World) (h : IsHub w b m own P H) (hf0 : -4611686018427387904 ≤ floor) (hf1 : floor ≤ 4611686018427387904) :
    Calls Try.prog 23 #[.pointer (some ⟨b, 0, none⟩), .int .i64 floor] w fun e w' => e = .returned (.tuple #[]) ∧ (∃ own' P', IsHub w' b m own' P' (H.compacted floor) ∧ ∀ k, k < w.heap.size → own' k = own k) ∧ Upd (fun k => own k ≠ .no) w w' := by
  obtain ⟨o, todo, hrun, hit, -, htodo⟩ := h.map.range (P := Try.prog) (keyT_int .i64) Try.underlying66
  have c4 : w.cell? ⟨b, 4, none⟩ = some (.map (some m)) := cell_of h.hub 4
  have hao := upd_alloc (fun _ => False) w o
  have hR : own w.heap.size = .no := by
    cases e : own w.heap.size with
    | no => rfl
    | _ => exact absurd (h.lt _ (by rw [e]; simp)) (by omega)
  have hRs : w.heap.size < (w.alloc o).heap.size := by simp
  have hst : GRel b m w.heap.size own H (compW H floor) (w.alloc o) (w.alloc o) := ⟨todo, own, P, H.f, hit, h.grow hao, fun _ _ => rfl, fun i hi => by
    have h1 : P i = none := by
      have h2 : ¬ (mptr P i).isSome = true := fun h => hi ((htodo i).2 h)
      unfold mptr at h2
      cases hp : P i with
      | none => rfl
      | some p => rw [hp] at h2; simp at h2
    rw [h.nn i h1]; rfl, fun _ _ => rfl, Upd.refl _ _⟩
  have HST := Lib.hid hst
  have HAO := Lib.hid hao
  have HHU := Lib.hid h
  have HR2 := Lib.hid hR
  have hRz := Lib.hid hRs
  clear hst hit htodo hao hR hRs h
  go_enter Try.func23, Try.ntmps23
  go_wp2
  generalize hW : w.alloc o = W at *
  generalize hRR : w.heap.size = R at *
  have HRR := Lib.hid hRR
  clear hrun c4 hW hRR
  go_loopw [] (fun wr => GRel b m R own H (compW H floor) W wr) (fun wr => wr.rangeLeft m R)
  case atStart => exact HST.out
  case round =>
    clear HST
    rcases GRel.next hrel HR2.out hRz.out with ⟨hnx, own', P', hh, hown, hu⟩ | ⟨i, p, x, v1, own', F', P', hnx, hen, hh, hp, hxF, hxH, hw, hown, hu, hstay, hput⟩
    · have HH := Lib.hid hh
      have HOW := Lib.hid hown
      have HU := Lib.hid hu
      clear hrel hh hown hu
      go_wp2
      first | go_end0 | (simp only [Exit.inBlock, Exit.then]; refine bodyPost_ret (results_none rfl _ _ _) rfl ?_) | refine bodyPost_ret (results_none rfl _ _ _) rfl ?_
      exact ⟨rfl, ⟨own', P', HH.out, fun k hk => HOW.out k (Nat.lt_of_lt_of_le hk HAO.out.size)⟩, HAO.out.seq HU.out _ (fun _ _ e => e.elim) (fun k hk e => e.elim (fun e => e) (fun e => by have := HRR.out; omega))⟩
    · have hbc := behind_calls b m own' P' { H with f := F' } i p x v1 hh hw
      have ebh : behindB { H with f := F' } x = behindB H x := rfl
      rw [ebh] at hbc
      have c6 : v1.cell? ⟨p.blk, 6, none⟩ = some (.int .i64 x.next) := cell_of hw.blk 6
      have HW := Lib.hid hw
      have HST2 := Lib.hid hstay
      have HPUT := Lib.hid hput
      clear hrel hh hp hxF hxH hw hown hu hstay hput ebh
      cases hB : behindB H x with
      | false =>
        have HS := Lib.hid (show compW H floor x = x from by unfold compW; rw [hB]; rfl)
        rw [hB] at hbc
        clear hB
        go_wp2_with (go_at_call 38; (with_reducible refine hbc.mono ?_); rintro e v2 ⟨rfl, hu2⟩; have HU2 := Lib.hid hu2; clear hu2)
        go_roundw
        case rel => exact (HST2.out HS.out v2 HU2.out).1
        case measure => exact (HST2.out HS.out v2 HU2.out).2
      | true =>
        rw [hB] at hbc
        by_cases hle : x.next ≤ floor
        · have HS := Lib.hid (show compW H floor x = { x with ended := true, floor := floor + 1 } from by unfold compW; rw [hB, decide_eq_true hle]; rfl)
          have hen2 : x.ended = false := by
            simp only [behindB, Bool.and_eq_true, Bool.not_eq_true'] at hB; exact hB.1
          have hca := Lib.hid (fun (V : World) (hu : Upd (fun _ => False) v1 V) => cancel_calls p.blk p x (floor + 1) V rfl hen2 (hu.heap HW.out.blk (fun x => x)))
          obtain ⟨nx, hnx2⟩ : ∃ nx, nx = x.next := ⟨_, rfl⟩
          rw [← hnx2] at c6 hle
          have HNX := Lib.hid hnx2
          clear hB hen2 hnx2
          go_wp2_with (first
            | (go_at_call 38; (with_reducible refine hbc.mono ?_); rintro e v2 ⟨rfl, hu2⟩; have hcc := hca.out v2 hu2; have c6' := hu2.cell c6 (fun x => x); have HU2 := Lib.hid hu2; clear hu2)
            | (go_at_call 27; (with_reducible refine hcc.mono ?_); rintro e v3 ⟨rfl, hb3, hu3⟩; have HB3 := Lib.hid hb3; have HU3 := Lib.hid hu3; clear hb3 hu3))
          obtain ⟨J, hr, hJ⟩ := HW.out.row
          have hfin := HPUT.out v3 p { x with ended := true, floor := floor + 1 } HS.out ((HU2.out.weak _).trans' HU3.out (fun k _ e => .inl e)) HB3.out rfl rfl rfl rfl ⟨J, (hr.grow HU2.out).upd HU3.out (fun k hk e => by have := HW.out.ob k hk; rw [show k = p.blk from e, HW.out.ow] at this; cases this) (fun k hk e => by have := hJ k hk; rw [show k = p.blk from e, HW.out.ow] at this; cases this), fun k hk => .inl (hJ k hk)⟩ (fun k hk => .inl hk) HW.out.eq HW.out.nb HW.out.small
          have HF := Lib.hid hfin
          clear hfin
          go_roundw
          case rel => exact HF.out.1
          case measure => exact HF.out.2
        · have HS := Lib.hid (show compW H floor x = x from by unfold compW; rw [hB, decide_eq_false hle]; rfl)
          obtain ⟨nx, hnx2⟩ : ∃ nx, nx = x.next := ⟨_, rfl⟩
          rw [← hnx2] at c6 hle
          clear hB hnx2
          go_wp2_with (go_at_call 38; (with_reducible refine hbc.mono ?_); rintro e v2 ⟨rfl, hu2⟩; have c6' := hu2.cell c6 (fun x => x); have HU2 := Lib.hid hu2; clear hu2)
          go_roundw
          case rel => exact (HST2.out HS.out v2 HU2.out).1
          case measure => exact (HST2.out HS.out v2 HU2.out).2

end Go.Proofs.Ytidpiojanajpoaa
