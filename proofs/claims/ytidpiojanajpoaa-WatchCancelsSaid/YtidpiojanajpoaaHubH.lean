/-
  A hub: Needs.
-/
import Derived.Deep.Cut
import Derived.Deep.RegionLaw
import Derived.Test.YtidpiojanajpoaaHubB
namespace Go.Proofs.Ytidpiojanajpoaa
open Go.RowKit Go.Tb Go.MapKept Go.ChangeMaps
set_option linter.unusedVariables false

abbrev zwatch : Array Value := #[.slice none 0 0, .slice none 0 0, .int .i64 0, .bool false, .bool false, .bool false]

theorem needs_not (b m : Nat) (own : Nat → Tg) (P : Int → Option WrP) (H : Hub) (i : Int) (w : World) (h : IsHub w b m own P H) (x : Wr) (hx : H.f i = some x) (hb : behindB H x = false) :
    Calls Try.prog 25 #[.pointer (some ⟨b, 0, none⟩), .int .i64 i] w fun e w' => e = .returned (.tuple #[.int .i64 0, .agg zwatch, .bool false]) ∧ Upd (fun _ => False) w w' := by
  have hua := upd_alloc (fun _ => False) w (.cells #[.slice none 0 0, .slice none 0 0, .int .i64 0, .bool false, .bool false, .bool false] 24)
  have hB := (heap_alloc w (.cells #[.slice none 0 0, .slice none 0 0, .int .i64 0, .bool false, .bool false, .bool false] 24)).1
  have hf := find_calls b m own P H i _ (h.grow hua)
  obtain ⟨p, hp⟩ : ∃ p, P i = some p := by
    cases hp : P i with
    | none => rw [h.nn i hp] at hx; cases hx
    | some p => exact ⟨p, rfl⟩
  obtain ⟨x0, hx0, hw⟩ := h.wt i p hp
  obtain rfl : x0 = x := Option.some.inj (hx0.symm.trans hx)
  rw [hp] at hf
  simp only [wptr, Option.map_some] at hf
  have hbh := behind_calls b m own P H i p x0 _ (h.grow hua) (hw.upd hua (fun k s => s.elim) (fun _ _ => rfl))
  rw [hb] at hbh
  have HU := Lib.hid hua
  have HB := Lib.hid hB
  clear h hw hp hx hx0 hua hB
  go_enter Try.func25, Try.ntmps25
  go_wp2_with (first
    | (go_at_call 32; (with_reducible refine hf.mono ?_); rintro e w' ⟨rfl, rfl⟩)
    | (go_at_call 38; (with_reducible refine hbh.mono ?_); rintro e w4 ⟨rfl, hu4⟩; have hB4 := hu4.heap HB.out (fun x => x))
    | ((with_reducible refine wpl_store (ty := 24) (cs := #[.slice none 0 0, .slice none 0 0, .int .i64 0, .bool false, .bool false, .bool false]) hB4 ?_ ?_ ?_ ?_ ?_ ?_); rfl; rfl; rfl; kernel_rfl; rfl; intro w5 hq5 hu5 hs5 hd5; have e0 : w5.cell? ⟨w.heap.size, 0, none⟩ = some (.slice none 0 0) := cell_of hq5 0; have e1 : w5.cell? ⟨w.heap.size, 1, none⟩ = some (.slice none 0 0) := cell_of hq5 1; have e2 : w5.cell? ⟨w.heap.size, 2, none⟩ = some (.int .i64 0) := cell_of hq5 2; have e3 : w5.cell? ⟨w.heap.size, 3, none⟩ = some (.bool false) := cell_of hq5 3; have e4 : w5.cell? ⟨w.heap.size, 4, none⟩ = some (.bool false) := cell_of hq5 4; have e5 : w5.cell? ⟨w.heap.size, 5, none⟩ = some (.bool false) := cell_of hq5 5))
  refine bodyPost_ret (v := .tuple #[.int .i64 0, .agg zwatch, .bool false]) (by simp [results, Try.results25, go_sem, e0, e1, e2, e3, e4, e5]) rfl ⟨rfl, ?_⟩
  exact (HU.out.trans hu4).trans' hu5 (fun x hx e => by omega)

set_option maxRecDepth 100000 in
set_option maxHeartbeats 2000000 in
theorem needs_behind (b m : Nat) (own : Nat → Tg) (P : Int → Option WrP) (H : Hub) (i : Int) (w : World) (h : IsHub w b m own P H) (x : Wr) (hx : H.f i = some x) (hb : behindB H x = true) (l1 : x.w.key.length ≤ 140737488355328) (l2 : x.w.end_.length ≤ 140737488355328) :
    Calls Try.prog 25 #[.pointer (some ⟨b, 0, none⟩), .int .i64 i] w fun e w' => ∃ a1 n1 z1 a2 n2 z2, e = .returned (.tuple #[.int .i64 x.next, .agg #[.slice a1 n1 z1, .slice a2 n2 z2, .int .i64 x.w.start, .bool x.w.np, .bool x.w.nd, .bool x.w.pv], .bool true]) ∧ Upd (fun _ => False) w w' := by
  have hua := upd_alloc (fun _ => False) w (.cells #[.slice none 0 0, .slice none 0 0, .int .i64 0, .bool false, .bool false, .bool false] 24)
  have hB := (heap_alloc w (.cells #[.slice none 0 0, .slice none 0 0, .int .i64 0, .bool false, .bool false, .bool false] 24)).1
  have hf := find_calls b m own P H i _ (h.grow hua)
  obtain ⟨p, hp⟩ : ∃ p, P i = some p := by
    cases hp : P i with
    | none => rw [h.nn i hp] at hx; cases hx
    | some p => exact ⟨p, rfl⟩
  obtain ⟨x0, hx0, hw⟩ := h.wt i p hp
  obtain rfl : x0 = x := Option.some.inj (hx0.symm.trans hx)
  rw [hp] at hf
  simp only [wptr, Option.map_some] at hf
  have hbh := behind_calls b m own P H i p x0 _ (h.grow hua) (hw.upd hua (fun k s => s.elim) (fun _ _ => rfl))
  rw [hb] at hbh
  have HU := Lib.hid hua
  have HB := Lib.hid hB
  have HW := Lib.hid hw
  have hsz : (w.alloc (.cells #[.slice none 0 0, .slice none 0 0, .int .i64 0, .bool false, .bool false, .bool false] 24)).heap.size = w.heap.size + 1 := by simp
  have HSZ := Lib.hid hsz
  clear h hw hp hx hx0 hua hB hsz
  go_enter Try.func25, Try.ntmps25
  go_upto_region 4 with (first
    | (go_at_call 32; (with_reducible refine hf.mono ?_); rintro e w' ⟨rfl, rfl⟩)
    | (go_at_call 38; (with_reducible refine hbh.mono ?_); rintro e w4 ⟨rfl, hu4⟩; have hB4 := hu4.heap HB.out (fun x => x)))
  have hw4 := HU.out.trans hu4
  have hwW : WrOk w4 own i p x0 := HW.out.upd hw4 (fun k s => s.elim) (fun _ _ => rfl)
  have hz := (heap_alloc w4 (.cells #[.slice none 0 0, .slice none 0 0, .int .i64 0, .bool false, .bool false, .bool false] 24)).1
  have huz := upd_alloc (fun _ => False) w4 (.cells #[.slice none 0 0, .slice none 0 0, .int .i64 0, .bool false, .bool false, .bool false] 24)
  have s4 : w.heap.size + 1 ≤ w4.heap.size := by have := hu4.size; have := HSZ.out; omega
  have hblk := hwW.blk
  obtain ⟨blk, ⟨ka, kn, kc⟩, ⟨ea, en, ec⟩, ⟨ba, bn, bc⟩, ps⟩ := p
  obtain ⟨⟨key, end_, start, np, nd, pv⟩, next, buf, ended, floor⟩ := x0
  have hrg : w4.rangeAt blk 0 (#[.slice ka kn kc, .slice ea en ec, .int .i64 start, .bool np, .bool nd, .bool pv] : Array Value).toList := fun j v hj => by
    rw [Nat.zero_add, cell_of hblk]
    match j, hj with
    | 0, hj => exact hj
    | 1, hj => exact hj
    | 2, hj => exact hj
    | 3, hj => exact hj
    | 4, hj => exact hj
    | 5, hj => exact hj
    | n + 6, hj => cases hj
  have HWW := Lib.hid hwW
  have HUZ := Lib.hid huz
  have HW4 := Lib.hid hw4
  have HBK := Lib.hid hblk
  clear hwW huz hw4 hblk HW
  simp only at l1 l2
  go_upto_region 5 with (first
    | ((with_reducible refine wpl_load_at (ty := 24) hrg Try.underlying24 ?_ ?_ ?_ ?_); rfl; rfl; kernel_rfl)
    | ((with_reducible refine wpl_store (ty := 24) (cs := #[.slice ka kn kc, .slice ea en ec, .int .i64 start, .bool np, .bool nd, .bool pv]) hz ?_ ?_ ?_ ?_ ?_ ?_); rfl; rfl; rfl; kernel_rfl; rfl; intro w5 hq5 hu5 hs5 hd5))
  have hw5 : Upd (fun _ => False) w4 w5 := HUZ.out.trans' hu5 (fun k hk e => by omega)
  have c0 : w5.cell? ⟨w4.heap.size, 0, none⟩ = some (.slice ka kn kc) := cell_of hq5 0
  have c1 : w5.cell? ⟨w4.heap.size, 1, none⟩ = some (.slice ea en ec) := cell_of hq5 1
  have hk5 : Go.Tb.Bytes w5.drew (.slice ka kn kc) key := HWW.out.key.upd hw5.drew (fun _ _ x => x)
  have he5 : Go.Tb.Bytes w5.drew (.slice ea en ec) end_ := HWW.out.end_.upd hw5.drew (fun _ _ x => x)
  have hcl := clone_calls (.slice ka kn kc) key _ (.inl hk5) l1
  have hcm := fun (W : World) (hu : Upd (fun _ => False) w5.drew W) => clone_calls (.slice ea en ec) end_ W (.inl (he5.upd hu (fun _ _ x => x))) l2
  have HCM := Lib.hid hcm
  have HQ5 := Lib.hid hq5
  have HW5 := Lib.hid hw5
  clear hcm hq5 hw5 hk5 he5 hu5
  go_region_law (first
    | (go_simp; go_at_call 26; with_reducible refine hcl.mono ?_; rintro e w6 ⟨v1, rfl, hy1, hg1, hu6, hn1, ho1⟩; obtain ⟨a1, n1, z1, rfl⟩ := Bytes.form (Bytes.of hy1); have c1' := hu6.undrew.cell c1 (fun x => x); have hcm := HCM.out w6 hu6)
    | (go_simp; go_at_call 26; with_reducible refine hcm.mono ?_; rintro e w7 ⟨v2, rfl, hy2, hg2, hu7, hn2, ho2⟩; obtain ⟨a2, n2, z2, rfl⟩ := Bytes.form (Bytes.of hy2); have hq := hu7.heap (hu6.undrew.heap HQ5.out (fun x => x)) (fun x => x); have e0 := cell_of hq 0; have e1 := cell_of hq 1; have f0 := free_of hq 0; have f1 := free_of hq 1))
  all_goals
    have hq8 := heap_setCell_at (heap_setCell_at hq 0 (.slice a1 n1 z1)) 1 (.slice a2 n2 z2)
    simp only [List.setIfInBounds_toArray, List.set_cons_succ, List.set_cons_zero] at hq8
    have hu8 : Upd (fun k => k = w4.heap.size) w7 ((w7.setCell ⟨w4.heap.size, 0, none⟩ (.slice a1 n1 z1)).setCell ⟨w4.heap.size, 1, none⟩ (.slice a2 n2 z2)) := (upd_setCell (fun k => k = w4.heap.size) w7 ⟨w4.heap.size, 0, none⟩ _ rfl).trans (upd_setCell (fun k => k = w4.heap.size) _ ⟨w4.heap.size, 1, none⟩ _ rfl)
    have hw8 := (HW5.out.trans (hu6.undrew.trans hu7)).trans' hu8 (fun k hk e => by omega)
    generalize (w7.setCell ⟨w4.heap.size, 0, none⟩ (.slice a1 n1 z1)).setCell ⟨w4.heap.size, 1, none⟩ (.slice a2 n2 z2) = w8 at *
    have hn6 : w8.cell? ⟨blk, 6, none⟩ = some (.int .i64 next) := hw8.cell (cell_of HBK.out 6) (fun x => x)
    have hB8 := hw8.heap hB4 (fun x => x)
    have g0 := cell_of hq8 0
    have g1 := cell_of hq8 1
    have g2 := cell_of hq8 2
    have g3 := cell_of hq8 3
    have g4 := cell_of hq8 4
    have g5 := cell_of hq8 5
    have k0 := free_of hB8 0
    have k1 := free_of hB8 1
    have k2 := free_of hB8 2
    have k3 := free_of hB8 3
    have k4 := free_of hB8 4
    have k5 := free_of hB8 5
    have j0 := cell_of hB8 0
    have j1 := cell_of hB8 1
    have j2 := cell_of hB8 2
    have j3 := cell_of hB8 3
    have j4 := cell_of hB8 4
    have j5 := cell_of hB8 5
    have HW8 := Lib.hid (HW4.out.trans hw8)
    have hw48 : w.heap.size ≠ w4.heap.size := by omega
    clear hcl hcm hy1 hy2 hg1 hg2 hn1 hn2 ho1 ho2 hu6 hu7 hu8 hq e0 e1 f0 f1 c0 c1 c1' hw8 hq8 hB8
    go_wp2
    go_region_law (first | fail)
    all_goals go_wp2
    all_goals
      refine bodyPost_ret (v := .tuple #[.int .i64 next, .agg #[.slice a1 n1 z1, .slice a2 n2 z2, .int .i64 start, .bool np, .bool nd, .bool pv], .bool true]) (by simp [results, Try.results25, go_sem, j0, j1, j2, j3, j4, j5]) rfl ?_
      exact ⟨⟨_, _, _, _, _, _, rfl⟩, (Upd.setCell (p := ⟨w.heap.size, 5, none⟩) (Upd.setCell (p := ⟨w.heap.size, 4, none⟩) (Upd.setCell (p := ⟨w.heap.size, 3, none⟩) (Upd.setCell (p := ⟨w.heap.size, 2, none⟩) (Upd.setCell (p := ⟨w.heap.size, 1, none⟩) (Upd.setCell (p := ⟨w.heap.size, 0, none⟩) (HW8.out) (fun e => absurd e (Nat.lt_irrefl _)) (.slice a1 n1 z1)) (fun e => absurd e (Nat.lt_irrefl _)) (.slice a2 n2 z2)) (fun e => absurd e (Nat.lt_irrefl _)) (.int .i64 start)) (fun e => absurd e (Nat.lt_irrefl _)) (.bool np)) (fun e => absurd e (Nat.lt_irrefl _)) (.bool nd)) (fun e => absurd e (Nat.lt_irrefl _)) (.bool pv)).drew⟩

end Go.Proofs.Ytidpiojanajpoaa
