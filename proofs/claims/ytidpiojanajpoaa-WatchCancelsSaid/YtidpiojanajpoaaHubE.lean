/-
  A hub: Drain (of a watcher that isn't cancelled).
-/
import Derived.Deep.Cut
import Derived.Deep.RegionHeld3
import Derived.Test.YtidpiojanajpoaaHubB
namespace Go.Proofs.Ytidpiojanajpoaa
open Go.RowKit Go.Tb Go.MapKept Go.ChangeMaps
set_option linter.unusedVariables false

abbrev zbatch : Array Value := #[.int .i64 0, .slice none 0 0, .bool false, .int .i64 0, .bool false, .int .i64 0]

theorem drain_none (b m : Nat) (own : Nat → Tg) (P : Int → Option WrP) (H : Hub) (i : Int) (w : World) (h : IsHub w b m own P H) (hi : ∀ x, H.f i = some x → x.buf = [] ∧ x.ended = false) :
    Calls Try.prog 13 #[.pointer (some ⟨b, 0, none⟩), .int .i64 i] w fun e w' => e = .returned (.tuple #[.agg zbatch, .bool false]) ∧ Upd (fun _ => False) w w' := by
  have hua := upd_alloc (fun _ => False) w (.cells #[.int .i64 0, .slice none 0 0, .bool false, .int .i64 0, .bool false, .int .i64 0] 40)
  have hB := (heap_alloc w (.cells #[.int .i64 0, .slice none 0 0, .bool false, .int .i64 0, .bool false, .int .i64 0] 40)).1
  have hf := find_calls b m own P H i _ (h.grow hua)
  have HU := Lib.hid hua
  cases hp : P i with
  | none =>
    rw [hp] at hf
    simp only [wptr, Option.map_none] at hf
    clear h hp hi hua
    go_enter Try.func13, Try.ntmps13
    go_wp2_with (first
      | (go_at_call 32; (with_reducible refine hf.mono ?_); rintro e w' ⟨rfl, rfl⟩)
      | ((with_reducible refine wpl_store (ty := 40) (cs := #[.int .i64 0, .slice none 0 0, .bool false, .int .i64 0, .bool false, .int .i64 0]) hB ?_ ?_ ?_ ?_ ?_ ?_); rfl; rfl; rfl; kernel_rfl; rfl; intro w4 hq5 hu5 hs5 hd5; have e0 : w4.cell? ⟨w.heap.size, 0, none⟩ = some (.int .i64 0) := cell_of hq5 0; have e1 : w4.cell? ⟨w.heap.size, 1, none⟩ = some (.slice none 0 0) := cell_of hq5 1; have e2 : w4.cell? ⟨w.heap.size, 2, none⟩ = some (.bool false) := cell_of hq5 2; have e3 : w4.cell? ⟨w.heap.size, 3, none⟩ = some (.int .i64 0) := cell_of hq5 3; have e4 : w4.cell? ⟨w.heap.size, 4, none⟩ = some (.bool false) := cell_of hq5 4; have e5 : w4.cell? ⟨w.heap.size, 5, none⟩ = some (.int .i64 0) := cell_of hq5 5))
    refine bodyPost_ret (v := .tuple #[.agg zbatch, .bool false]) (by simp [results, Try.results13, go_sem, e0, e1, e2, e3, e4, e5]) rfl ⟨rfl, ?_⟩
    exact HU.out.trans' hu5 (fun x hx e => by omega)
  | some p =>
    obtain ⟨x, hx, hw⟩ := h.wt i p hp
    obtain ⟨h1, h2⟩ := hi x hx
    have hnb : p.b.n = 0 := by rw [hw.nb, h1]; rfl
    rw [hp] at hf
    simp only [wptr, Option.map_some] at hf
    have c7 := hua.cell (show w.cell? ⟨p.blk, 7, none⟩ = some (.slice p.b.a 0 p.b.c) from by rw [← hnb]; exact cell_of hw.blk 7) (fun x => x)
    have c11 := hua.cell (show w.cell? ⟨p.blk, 11, none⟩ = some (.bool false) from by rw [← h2]; exact cell_of hw.blk 11) (fun x => x)
    clear h hp hi hua hx hw h1 h2 hnb
    go_enter Try.func13, Try.ntmps13
    go_wp2_with (first
      | (go_at_call 32; (with_reducible refine hf.mono ?_); rintro e w' ⟨rfl, rfl⟩)
      | ((with_reducible refine wpl_store (ty := 40) (cs := #[.int .i64 0, .slice none 0 0, .bool false, .int .i64 0, .bool false, .int .i64 0]) hB ?_ ?_ ?_ ?_ ?_ ?_); rfl; rfl; rfl; kernel_rfl; rfl; intro w4 hq5 hu5 hs5 hd5; have e0 : w4.cell? ⟨w.heap.size, 0, none⟩ = some (.int .i64 0) := cell_of hq5 0; have e1 : w4.cell? ⟨w.heap.size, 1, none⟩ = some (.slice none 0 0) := cell_of hq5 1; have e2 : w4.cell? ⟨w.heap.size, 2, none⟩ = some (.bool false) := cell_of hq5 2; have e3 : w4.cell? ⟨w.heap.size, 3, none⟩ = some (.int .i64 0) := cell_of hq5 3; have e4 : w4.cell? ⟨w.heap.size, 4, none⟩ = some (.bool false) := cell_of hq5 4; have e5 : w4.cell? ⟨w.heap.size, 5, none⟩ = some (.int .i64 0) := cell_of hq5 5))
    refine bodyPost_ret (v := .tuple #[.agg zbatch, .bool false]) (by simp [results, Try.results13, go_sem, e0, e1, e2, e3, e4, e5]) rfl ⟨rfl, ?_⟩
    exact HU.out.trans' hu5 (fun x hx e => by omega)

def Hub.upd (H : Hub) (i : Int) (x : Wr) : Hub := { H with f := fun j => if j = i then some x else H.f j }

/-- What a drain of a watcher that has events says. -/
def DrainSays (b m : Nat) (own : Nat → Tg) (H : Hub) (i : Int) (x : Wr) (w : World) (e : Ending) (w' : World) : Prop :=
  ∃ (a : Option Addr) (c : Nat) (rs : List EvP) (J : Nat → Prop) (own' : Nat → Tg) (P' : Int → Option WrP), e = .returned (.tuple #[.agg #[.int .i64 i, .slice a rs.length c, .bool false, .int .i64 0, .bool false, .int .i64 0], .bool true]) ∧
    rs.map EvP.x = x.buf.take (cutN x.buf H.most) ∧ IsHub w' b m own' P' (H.upd i { x with buf := x.buf.drop (cutN x.buf H.most) }) ∧ (∀ k, k < w.heap.size → own' k = own k) ∧ EvRow w' w.heap.size J (.slice a rs.length c) rs ∧ (∀ k, J k ∨ sliceBlock (.slice a rs.length c) = some k → own' k = .no) ∧ Upd (fun k => own k ≠ .no) w w'

set_option maxRecDepth 100000 in
set_option maxHeartbeats 2000000 in
theorem drain_some (b m : Nat) (own : Nat → Tg) (P : Int → Option WrP) (H : Hub) (i : Int) (x : Wr) (w : World) (h : IsHub w b m own P H) (hx : H.f i = some x) (hne : x.buf ≠ []) (hfew : x.buf.length ≤ 800000000000) :
    Calls Try.prog 13 #[.pointer (some ⟨b, 0, none⟩), .int .i64 i] w (DrainSays b m own H i x w) := by
  have hua := upd_alloc (fun _ => False) w (.cells #[.int .i64 0, .slice none 0 0, .bool false, .int .i64 0, .bool false, .int .i64 0] 40)
  have hB := (heap_alloc w (.cells #[.int .i64 0, .slice none 0 0, .bool false, .int .i64 0, .bool false, .int .i64 0] 40)).1
  have hf := find_calls b m own P H i _ (h.grow hua)
  obtain ⟨p, hp⟩ : ∃ p, P i = some p := by
    cases hp : P i with
    | none => rw [h.nn i hp] at hx; cases hx
    | some p => exact ⟨p, rfl⟩
  obtain ⟨x0, hx0, hw⟩ := h.wt i p hp
  obtain rfl : x0 = x := Option.some.inj (hx0.symm.trans hx)
  rw [hp] at hf
  simp only [wptr, Option.map_some] at hf
  have c7 : w.cell? ⟨p.blk, 7, none⟩ = some (.slice p.b.a p.b.n p.b.c) := cell_of hw.blk 7
  have c2 : w.cell? ⟨b, 2, none⟩ = some (.int .i64 H.most) := cell_of h.hub 2
  have c7a := hua.cell c7 (fun x => x)
  have c2a := hua.cell c2 (fun x => x)
  have hlen : 0 < x0.buf.length := by
    cases hb : x0.buf with
    | nil => exact absurd hb hne
    | cons _ _ => simp
  have k1 : (0 : Int) < (p.b.n : Int) := by rw [hw.nb]; omega
  obtain ⟨J0, hrow, hJ0⟩ := hw.row
  have hd := hua.drew
  have hpl : p.ps.length = x0.buf.length := by rw [← hw.eq, List.length_map]
  have hsz : (w.alloc (.cells #[.int .i64 0, .slice none 0 0, .bool false, .int .i64 0, .bool false, .int .i64 0] 40)).heap.size = w.heap.size + 1 := by simp
  have hcut := bcut_calls p.b.v p.ps J0 H.most _ ((hrow.evs).grow hd) (fun q hq => by
    have h1 := hw.small q.x (by rw [← hw.eq]; exact List.mem_map_of_mem hq)
    exact h1) (by omega)
  rw [hw.eq] at hcut
  have hcut' : Calls Try.prog 33 #[.slice p.b.a p.b.n p.b.c, .int .i64 H.most] (w.alloc (.cells #[.int .i64 0, .slice none 0 0, .bool false, .int .i64 0, .bool false, .int .i64 0] 40)).drew (CutSays x0.buf H.most (w.alloc (.cells #[.int .i64 0, .slice none 0 0, .bool false, .int .i64 0, .bool false, .int .i64 0] 40)).drew) := hcut
  have c7d := (Upd.refl (fun _ => False) (w.alloc (.cells #[.int .i64 0, .slice none 0 0, .bool false, .int .i64 0, .bool false, .int .i64 0] 40))).drew.cell c7a (fun x => x)
  have c2d := (Upd.refl (fun _ => False) (w.alloc (.cells #[.int .i64 0, .slice none 0 0, .bool false, .int .i64 0, .bool false, .int .i64 0] 40))).drew.cell c2a (fun x => x)
  have HU := Lib.hid hua
  have HB := Lib.hid hB
  have HH := Lib.hid h
  have HW := Lib.hid hw
  have HP := Lib.hid hp
  have HX := Lib.hid hx
  have HSZ := Lib.hid hsz
  clear hcut h hw hp hx hx0 hua hrow hJ0 hd hpl hlen c7 c2 hB hsz
  go_enter Try.func13, Try.ntmps13
  go_upto_region 5 with (go_at_call 32; (with_reducible refine hf.mono ?_); rintro e w' ⟨rfl, rfl⟩)
  generalize w.alloc (.cells #[.int .i64 0, .slice none 0 0, .bool false, .int .i64 0, .bool false, .int .i64 0] 40) = W at *
  go_region_held3 (fun w' => w'.cell? ⟨p.blk, 7, none⟩ = some (.slice p.b.a p.b.n p.b.c) ∧ w'.cell? ⟨b, 2, none⟩ = some (.int .i64 H.most))
    (first | exact ⟨c7a, c2a⟩ | exact ⟨hxu.cell c7a (fun x => x), hxu.cell c2a (fun x => x)⟩)
    (first | (go_at_call 33; (with_reducible refine hcut'.mono ?_); intro e1 w3 hcs; obtain ⟨a1, c1, rs1, J1, a2, c2', rs2, J2, wm, rfl, hx1, hx2, hs1, hs2, hr1, hlt1, hlt2, hr2, hu1⟩ := hcs; have hxu := hu1.undrew))
  have hw3 := HU.out.trans hxu
  have hb3 := hw3.heap HW.out.blk (fun x => x)
  have e7 : w3.cell? ⟨p.blk, 7, none⟩ = some (.slice p.b.a p.b.n p.b.c) := cell_of hb3 7
  have f7 := free_of hb3 7
  have hB3 := hxu.heap HB.out (fun x => x)
  have hpl := lt_of_heap HW.out.blk
  have HX1 := Lib.hid hx1
  have HX2 := Lib.hid hx2
  have HR1 := Lib.hid hr1
  have HR2 := Lib.hid hr2
  have HL1 := Lib.hid hlt1
  have HL2 := Lib.hid hlt2
  have HS1 := Lib.hid hs1
  have HS2 := Lib.hid hs2
  have HW3 := Lib.hid hw3
  have HB3 := Lib.hid hb3
  clear hx1 hx2 hr1 hr2 hlt1 hlt2 hs1 hs2 hw3 hb3 hxu hu1 hcut' hf c7a c2a c7d c2d
  go_upto_region 7 with (fail)
  have hu4 : Upd (fun k => k = p.blk) w3 (w3.setCell ⟨p.blk, 7, none⟩ (.slice a2 rs2.length c2')) := upd_setCell _ _ _ _ rfl
  have hb4 := heap_setCell_at HB3.out 7 (.slice a2 rs2.length c2')
  have hB4 := hu4.heap hB3 (by omega)
  have HU4 := Lib.hid hu4
  have HB4 := Lib.hid hb4
  clear hu4 hb4 e7 f7 hB3
  generalize w3.setCell ⟨p.blk, 7, none⟩ (.slice a2 rs2.length c2') = w4 at *
  go_wp2_with (first
    | ((with_reducible refine wpl_store (ty := 40) (cs := #[.int .i64 i, .slice a1 rs1.length c1, .bool false, .int .i64 0, .bool false, .int .i64 0]) hB4 ?_ ?_ ?_ ?_ ?_ ?_); rfl; rfl; rfl; kernel_rfl; rfl; intro w5 hq5 hu5 hs5 hd5; have e0 : w5.cell? ⟨w.heap.size, 0, none⟩ = some (.int .i64 i) := cell_of hq5 0; have e1 : w5.cell? ⟨w.heap.size, 1, none⟩ = some (.slice a1 rs1.length c1) := cell_of hq5 1; have e2 : w5.cell? ⟨w.heap.size, 2, none⟩ = some (.bool false) := cell_of hq5 2; have e3 : w5.cell? ⟨w.heap.size, 3, none⟩ = some (.int .i64 0) := cell_of hq5 3; have e4 : w5.cell? ⟨w.heap.size, 4, none⟩ = some (.bool false) := cell_of hq5 4; have e5 : w5.cell? ⟨w.heap.size, 5, none⟩ = some (.int .i64 0) := cell_of hq5 5))
  refine bodyPost_ret (v := .tuple #[.agg #[.int .i64 i, .slice a1 rs1.length c1, .bool false, .int .i64 0, .bool false, .int .i64 0], .bool true]) (by simp [results, Try.results13, go_sem, e0, e1, e2, e3, e4, e5]) rfl ?_
  have hWd : W.drew.heap.size = w.heap.size + 1 := HSZ.out
  have sz3 := HW3.out.size
  have hS1 := HS1.out
  have hS2 := HS2.out
  have hpb : ∀ k, sliceBlock p.b.v = some k → k ≠ p.blk := fun k hk e => by have h1 := HW.out.ob k hk; rw [e, HW.out.ow] at h1; cases h1
  have hr2' := (HR2.out.upd HU4.out (fun k hk e => by have := (HR2.out.blk k hk).1; omega) (fun k hk e => by have := (HR2.out.ge k hk).1; omega)).upd hu5 (fun k hk e => by have := (HR2.out.blk k hk).1; omega) (fun k hk e => by have := (HR2.out.ge k hk).1; omega)
  have hr1' := (HR1.out.upd HU4.out (fun k hk e => by have := (HR1.out.blk k hk).1; omega) (fun k hk e => by have := (HR1.out.ge k hk).1; omega)).upd hu5 (fun k hk e => by have := (HR1.out.blk k hk).1; omega) (fun k hk e => by have := (HR1.out.ge k hk).1; omega)
  have hb5 := hu5.heap HB4.out (by omega)
  have hu6 : Upd (fun k => k = p.blk ∨ sliceBlock p.b.v = some k) w w5 := ((HW3.out.weak _).trans' HU4.out (fun k _ e => .inl e)).trans' hu5 (fun k hk e => by omega)
  obtain ⟨own', hh', ho1, ho2⟩ := HH.out.put (x := x0) (x' := { x0 with buf := x0.buf.drop (cutN x0.buf H.most) }) (p' := { p with b := ⟨a2, rs2.length, c2'⟩, ps := rs2 }) HP.out HX.out hu6 (by
      rw [hb5]
      simp only [wrenc, List.setIfInBounds_toArray, List.set_cons_succ, List.set_cons_zero]
      rfl) rfl rfl rfl rfl ⟨hr2'.lower (Nat.zero_le _), fun k hk => .inr (by have := (HR2.out.ge k hk).1; omega)⟩ (fun k hk => .inr (by have := (HR2.out.blk k hk).1; omega)) HX2.out (by
      show rs2.length = _
      rw [← HX2.out, List.length_map]) (fun y hy => HW.out.small y (List.mem_of_mem_drop hy))
  refine ⟨a1, c1, rs1, J1, own', _, rfl, HX1.out, hh', ho1, hr1'.lower (by omega), fun k hk => ?_, hu6.mono (fun k _ e => ?_)⟩
  · have hk1 : w.heap.size ≤ k ∧ k < wm.heap.size := hk.elim (fun hk => ⟨by have := (HR1.out.ge k hk).1; omega, HL2.out k hk⟩) (fun hk => ⟨by have := (HR1.out.blk k hk).1; omega, HL1.out k hk⟩)
    cases ho : own' k with
    | no => rfl
    | _ =>
      rcases ho2 k hk1.1 (by rw [ho]; simp) with e | e
      · have h1 := (HR2.out.blk k e).1; omega
      · have := (HR2.out.ge k e).1; omega
  · rcases e with e | e
    · rw [e, HW.out.ow]; simp
    · rw [HW.out.ob k e]; simp

end Go.Proofs.Ytidpiojanajpoaa
