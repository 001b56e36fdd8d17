/-
  The document's twins of events.
-/
import Derived.Test.YtidpiojanajpoaaEvG
namespace Go.Proofs.Ytidpiojanajpoaa
open Go.RowKit Go.Tb Go.MapKept Go.ChangeMaps
set_option linter.unusedVariables false

/-- Its bytes are few. -/
structure Ev.Tiny (x : Ev) : Prop where
  a : x.kv.key.length ≤ 1000000
  b : x.kv.val.length ≤ 1000000
  c : x.prev.key.length ≤ 1000000
  d : x.prev.val.length ≤ 1000000
theorem Ev.Tiny.small {x : Ev} (h : x.Tiny) : x.Small := ⟨by have := h.a; omega, by have := h.b; omega, by have := h.c; omega, by have := h.d; omega⟩

theorem evRow_made (w : World) : EvRow (w.alloc (.cells #[] 59)) w.heap.size (fun _ => False) (.slice (some ⟨w.heap.size, 0, none⟩) 0 0) [] :=
  { own := own_empty (enc := evenc) (k := 14) evenc_length (heap_alloc w (.cells #[] 59)).1 (Nat.le_refl _), ok := fun p hp => (by cases hp), dj := fun _ _ x => x, ge := fun b hb => hb.elim }

set_option maxRecDepth 100000 in
set_option maxHeartbeats 4000000 in
theorem twins17_calls (v : Value) (ps : List EvP) (I : Nat → Prop) (w : World) (h : EvsW w I v ps) (hs : ∀ p ∈ ps, p.x.Tiny) (hn : ps.length ≤ 800000000000) :
    Calls Try.prog 31 #[v] w fun e w' => ∃ a c rs J, e = .returned (.slice a rs.length c) ∧ rs.map EvP.x = ps.map EvP.x ∧ EvRow w' w.heap.size J (.slice a rs.length c) rs ∧ Upd (fun _ => False) w w' := by
  obtain ⟨a, c, rfl⟩ := h.shape
  have hua := upd_alloc (fun _ => False) w (.cells #[] 59)
  have HST := Lib.hid (evRow_made w)
  have H := Lib.hid h
  have HS := Lib.hid hs
  have HUA := Lib.hid hua
  clear h hs hua
  go_enter Try.func31, Try.ntmps31
  go_wp2
  go_loopw [3, 9] (fun o i wr => ∃ (k : Nat) (va : Option Addr) (vc : Nat) (rs : List EvP) (J : Nat → Prop), k ≤ ps.length ∧ i = .int .i64 k ∧ o = .slice va rs.length vc ∧ rs.map EvP.x = (ps.take k).map EvP.x ∧ EvRow wr w.heap.size J (.slice va rs.length vc) rs ∧ Upd (fun _ => False) w wr) (fun _ i _ => ps.length - (intOf i).toNat)
  case atStart => exact ⟨0, _, _, [], _, Nat.zero_le _, rfl, rfl, by simp, HST.out, HUA.out⟩
  case round =>
    clear HST HUA
    obtain ⟨k, va, vc, rs, J, hk, rfl, rfl, he, hr, hu⟩ := hrel
    have hrl : rs.length = k := by have := congrArg List.length he; simpa [Nat.min_eq_left hk] using this
    have HR := Lib.hid (show EvRow wr w.heap.size J (.slice va k vc) rs from hrl ▸ hr)
    have HRL := Lib.hid hrl
    have HU := Lib.hid hu
    have HE := Lib.hid he
    by_cases hlt : k < ps.length
    · obtain ⟨b1, o1, rfl, q1⟩ := H.out.range _ _ _ rfl k hlt
      have r1 : wr.rangeAt b1 (o1 + k * 14) (evenc ps[k]).toArray.toList := by rw [List.toList_toArray]; exact rangeAt_upd q1 hu (fun x => x)
      have hpo := (H.out.ok _ (List.getElem_mem hlt)).grow hu
      have ht := HS.out _ (List.getElem_mem hlt)
      have HT1 := Lib.hid (fun (W : World) (hx : Upd (fun _ => False) wr W) => twin13_calls ps[k].kv I W (hpo.grow hx).kv ht.a ht.b)
      have HT2 := Lib.hid (fun (W : World) (hx : Upd (fun _ => False) wr W) => twin13_calls ps[k].prev I W (hpo.grow hx).prev ht.c ht.d)
      have hnext := Lib.hid (show ∀ q : EvP, q.x = ps[k].x → (rs ++ [q]).map EvP.x = (ps.take (k + 1)).map EvP.x from fun q hq => by
        rw [List.take_succ_eq_append_getElem hlt, List.map_append, List.map_append, HE.out]; simp [hq])
      have x0 : (0 : Int) ≤ (k : Int) := by omega
      have x1 : (k : Int) < (ps.length : Int) := by omega
      have hz := (heap_alloc wr (.cells #[.int .i64 0, .slice none 0 0, .slice none 0 0, .int .i64 0, .int .i64 0, .int .i64 0, .int .i64 0, .bool false, .slice none 0 0, .slice none 0 0, .int .i64 0, .int .i64 0, .int .i64 0, .int .i64 0] 59)).1
      have huz := Lib.hid (upd_alloc (fun _ => False) wr (.cells #[.int .i64 0, .slice none 0 0, .slice none 0 0, .int .i64 0, .int .i64 0, .int .i64 0, .int .i64 0, .bool false, .slice none 0 0, .slice none 0 0, .int .i64 0, .int .i64 0, .int .i64 0, .int .i64 0] 59))
      clear q1 hpo ht hr hu he
      rw [hrl]
      clear hrl
      generalize ps[k] = p at *
      obtain ⟨kind, ⟨⟨key1, val1, r1', m1', n1', l1'⟩, ⟨a1, z1, c1⟩, ⟨a2, z2, c2⟩⟩, had, ⟨⟨key2, val2, r2', m2', n2', l2'⟩, ⟨a3, z3, c3⟩, ⟨a4, z4, c4⟩⟩⟩ := p
      simp only [evenc, kvenc, Sv.v] at r1 HT1 HT2
      go_upto_region 5 with (first
        | ((with_reducible refine wpl_load_at (ty := 59) r1 Try.underlying59 ?_ ?_ ?_ ?_); rfl; rfl; kernel_rfl)
        | ((with_reducible refine wpl_store (ty := 59) (cs := #[.int .i64 kind, .slice a1 z1 c1, .slice a2 z2 c2, .int .i64 r1', .int .i64 m1', .int .i64 n1', .int .i64 l1', .bool had, .slice a3 z3 c3, .slice a4 z4 c4, .int .i64 r2', .int .i64 m2', .int .i64 n2', .int .i64 l2']) hz ?_ ?_ ?_ ?_ ?_ ?_); rfl; rfl; rfl; kernel_rfl; rfl; intro w4 hq5 hu5 hs5 hd5))
      have hu6 : Upd (fun _ => False) wr w4 := huz.out.trans' hu5 (fun x hx e => by omega)
      have ht1 := HT1.out w4 hu6
      have c10 := cell_of hq5 1; have c20 := cell_of hq5 2; have c30 := cell_of hq5 3; have c40 := cell_of hq5 4; have c50 := cell_of hq5 5; have c60 := cell_of hq5 6
      go_upto_region 6 with (go_at_call 45; (with_reducible refine ht1.mono ?_); rintro e w5 ⟨q1, rfl, hx1, hok1, hu7⟩; obtain ⟨⟨k1, v1, r1, m1, n1, l1⟩, ⟨ta1, tn1, tc1⟩, ⟨ta2, tn2, tc2⟩⟩ := q1; have hq7 := hu7.heap hq5 (fun x => x); have e1 := cell_of hq7 1; have f1 := free_of hq7 1; have e2 := cell_of hq7 2; have f2 := free_of hq7 2; have e3 := cell_of hq7 3; have f3 := free_of hq7 3; have e4 := cell_of hq7 4; have f4 := free_of hq7 4; have e5 := cell_of hq7 5; have f5 := free_of hq7 5; have e6 := cell_of hq7 6; have f6 := free_of hq7 6)
      have y1 := heap_setCell_at hq7 1 (.slice ta1 tn1 tc1)
      have y2 := heap_setCell_at y1 2 (.slice ta2 tn2 tc2)
      have y3 := heap_setCell_at y2 3 (.int .i64 r1)
      have y4 := heap_setCell_at y3 4 (.int .i64 m1)
      have y5 := heap_setCell_at y4 5 (.int .i64 n1)
      have y6 := heap_setCell_at y5 6 (.int .i64 l1)
      simp only [List.setIfInBounds_toArray, List.set_cons_succ, List.set_cons_zero] at y6
      have hu8 := ((((((Upd.refl (fun k => k = wr.heap.size) w5).setCell (p := ⟨wr.heap.size, 1, none⟩) (fun _ => rfl) (.slice ta1 tn1 tc1)).setCell (p := ⟨wr.heap.size, 2, none⟩) (fun _ => rfl) (.slice ta2 tn2 tc2)).setCell (p := ⟨wr.heap.size, 3, none⟩) (fun _ => rfl) (.int .i64 r1)).setCell (p := ⟨wr.heap.size, 4, none⟩) (fun _ => rfl) (.int .i64 m1)).setCell (p := ⟨wr.heap.size, 5, none⟩) (fun _ => rfl) (.int .i64 n1)).setCell (p := ⟨wr.heap.size, 6, none⟩) (fun _ => rfl) (.int .i64 l1)
      have hq8 : ((((((w5.setCell ⟨wr.heap.size, 1, none⟩ (.slice ta1 tn1 tc1)).setCell ⟨wr.heap.size, 2, none⟩ (.slice ta2 tn2 tc2)).setCell ⟨wr.heap.size, 3, none⟩ (.int .i64 r1)).setCell ⟨wr.heap.size, 4, none⟩ (.int .i64 m1)).setCell ⟨wr.heap.size, 5, none⟩ (.int .i64 n1)).setCell ⟨wr.heap.size, 6, none⟩ (.int .i64 l1)).heap[wr.heap.size]? = some (.cells #[.int .i64 kind, .slice ta1 tn1 tc1, .slice ta2 tn2 tc2, .int .i64 r1, .int .i64 m1, .int .i64 n1, .int .i64 l1, .bool had, .slice a3 z3 c3, .slice a4 z4 c4, .int .i64 r2', .int .i64 m2', .int .i64 n2', .int .i64 l2'] 59 (0, 0)) := y6
      have s7 := hu7.size
      have s6 := hu6.size
      have s5 := lt_of_heap hq5
      have s8 := hu8.size
      generalize ((((((w5.setCell ⟨wr.heap.size, 1, none⟩ (.slice ta1 tn1 tc1)).setCell ⟨wr.heap.size, 2, none⟩ (.slice ta2 tn2 tc2)).setCell ⟨wr.heap.size, 3, none⟩ (.int .i64 r1)).setCell ⟨wr.heap.size, 4, none⟩ (.int .i64 m1)).setCell ⟨wr.heap.size, 5, none⟩ (.int .i64 n1)).setCell ⟨wr.heap.size, 6, none⟩ (.int .i64 l1)) = w8 at hq8 hu8 s8 ⊢
      have hok1' := hok1.upd hu8 (fun b hb e => by omega)
      have hw8 := (hu6.trans hu7).trans' hu8 (fun k hk e => by omega)
      have ht2 := HT2.out w8 hw8
      have c81 := cell_of hq8 8; have c91 := cell_of hq8 9; have c101 := cell_of hq8 10; have c111 := cell_of hq8 11; have c121 := cell_of hq8 12; have c131 := cell_of hq8 13
      clear y1 y2 y3 y4 y5 y6 e1 e2 e3 e4 e5 e6 f1 f2 f3 f4 f5 f6 hq7 hu8 hu7 hu6 hok1 ht1 c10 c20 c30 c40 c50 c60
      go_upto_region 7 with (go_at_call 45; (with_reducible refine ht2.mono ?_); rintro e w9 ⟨q2, rfl, hx2, hok2, hu9⟩; obtain ⟨⟨k2, v2, r2, m2, n2, l2⟩, ⟨ta3, tn3, tc3⟩, ⟨ta4, tn4, tc4⟩⟩ := q2; have hq9 := hu9.heap hq8 (fun x => x); have e8 := cell_of hq9 8; have f8 := free_of hq9 8; have e9 := cell_of hq9 9; have f9 := free_of hq9 9; have e10 := cell_of hq9 10; have f10 := free_of hq9 10; have e11 := cell_of hq9 11; have f11 := free_of hq9 11; have e12 := cell_of hq9 12; have f12 := free_of hq9 12; have e13 := cell_of hq9 13; have f13 := free_of hq9 13)
      have y1 := heap_setCell_at hq9 8 (.slice ta3 tn3 tc3)
      have y2 := heap_setCell_at y1 9 (.slice ta4 tn4 tc4)
      have y3 := heap_setCell_at y2 10 (.int .i64 r2)
      have y4 := heap_setCell_at y3 11 (.int .i64 m2)
      have y5 := heap_setCell_at y4 12 (.int .i64 n2)
      have y6 := heap_setCell_at y5 13 (.int .i64 l2)
      simp only [List.setIfInBounds_toArray, List.set_cons_succ, List.set_cons_zero] at y6
      have hu10 := ((((((Upd.refl (fun k => k = wr.heap.size) w9).setCell (p := ⟨wr.heap.size, 8, none⟩) (fun _ => rfl) (.slice ta3 tn3 tc3)).setCell (p := ⟨wr.heap.size, 9, none⟩) (fun _ => rfl) (.slice ta4 tn4 tc4)).setCell (p := ⟨wr.heap.size, 10, none⟩) (fun _ => rfl) (.int .i64 r2)).setCell (p := ⟨wr.heap.size, 11, none⟩) (fun _ => rfl) (.int .i64 m2)).setCell (p := ⟨wr.heap.size, 12, none⟩) (fun _ => rfl) (.int .i64 n2)).setCell (p := ⟨wr.heap.size, 13, none⟩) (fun _ => rfl) (.int .i64 l2)
      have hq10 : ((((((w9.setCell ⟨wr.heap.size, 8, none⟩ (.slice ta3 tn3 tc3)).setCell ⟨wr.heap.size, 9, none⟩ (.slice ta4 tn4 tc4)).setCell ⟨wr.heap.size, 10, none⟩ (.int .i64 r2)).setCell ⟨wr.heap.size, 11, none⟩ (.int .i64 m2)).setCell ⟨wr.heap.size, 12, none⟩ (.int .i64 n2)).setCell ⟨wr.heap.size, 13, none⟩ (.int .i64 l2)).heap[wr.heap.size]? = some (.cells #[.int .i64 kind, .slice ta1 tn1 tc1, .slice ta2 tn2 tc2, .int .i64 r1, .int .i64 m1, .int .i64 n1, .int .i64 l1, .bool had, .slice ta3 tn3 tc3, .slice ta4 tn4 tc4, .int .i64 r2, .int .i64 m2, .int .i64 n2, .int .i64 l2] 59 (0, 0)) := y6
      have s9 := hu9.size
      have s10 := hu10.size
      generalize ((((((w9.setCell ⟨wr.heap.size, 8, none⟩ (.slice ta3 tn3 tc3)).setCell ⟨wr.heap.size, 9, none⟩ (.slice ta4 tn4 tc4)).setCell ⟨wr.heap.size, 10, none⟩ (.int .i64 r2)).setCell ⟨wr.heap.size, 11, none⟩ (.int .i64 m2)).setCell ⟨wr.heap.size, 12, none⟩ (.int .i64 n2)).setCell ⟨wr.heap.size, 13, none⟩ (.int .i64 l2)) = w10 at hq10 hu10 s10 ⊢
      obtain ⟨a', c', w11, hap, ⟨J', hr'⟩, hu11⟩ := HR.out.more (w4 := w10) (p := ⟨kind, ⟨⟨k1, v1, r1, m1, n1, l1⟩, ⟨ta1, tn1, tc1⟩, ⟨ta2, tn2, tc2⟩⟩, had, ⟨⟨k2, v2, r2, m2, n2, l2⟩, ⟨ta3, tn3, tc3⟩, ⟨ta4, tn4, tc4⟩⟩⟩) HRL.out.symm ((hw8.trans hu9).trans' hu10 (fun x hx e => by omega)) ⟨((hok1'.upd hu9 (fun _ _ x => x)).upd hu10 (fun b hb e => by omega)).wider (fun b hb => by omega), (hok2.upd hu10 (fun b hb e => by omega)).wider (fun b hb => by omega)⟩ HU.out.size (by rw [HRL.out]; omega)
      have HX := Lib.hid (show (⟨kind, ⟨⟨k1, v1, r1, m1, n1, l1⟩, ⟨ta1, tn1, tc1⟩, ⟨ta2, tn2, tc2⟩⟩, had, ⟨⟨k2, v2, r2, m2, n2, l2⟩, ⟨ta3, tn3, tc3⟩, ⟨ta4, tn4, tc4⟩⟩⟩ : EvP).x = ⟨kind, ⟨key1, val1, r1', m1', n1', l1'⟩, had, ⟨key2, val2, r2', m2', n2', l2'⟩⟩ from by
        show Ev.mk kind ⟨k1, v1, r1, m1, n1, l1⟩ had ⟨k2, v2, r2, m2, n2, l2⟩ = _
        rw [hx1, hx2])
      have HRR := Lib.hid hr'
      have HU11 := Lib.hid hu11
      clear y1 y2 y3 y4 y5 y6 e8 e9 e10 e11 e12 e13 f8 f9 f10 f11 f12 f13 hq9 hq8 hu9 hu10 hu11 hok1' hok2 ht2 hx1 hx2 hr' c81 c91 c101 c111 c121 c131 hq5 hu5
      go_wp2_with (first
        | ((with_reducible refine wpl_load (ty := 59) hq10 Try.underlying59 ?_ ?_ ?_ ?_); rfl; rfl; kernel_rfl)
        | (refine wpList_append hap (by rfl) (by rfl) (by rfl) (by rfl) ?_))
      go_roundw
      case rel =>
        refine ⟨k + 1, a', c', _, J', by omega, by go_num, ?_, hnext.out _ HX.out, ?_, HU.out.trans' HU11.out (fun x hx e => by have := (HR.out.blk x e).1; omega)⟩
        · rw [List.length_append, HRL.out]; rfl
        · have e : (rs ++ [(⟨kind, ⟨⟨k1, v1, r1, m1, n1, l1⟩, ⟨ta1, tn1, tc1⟩, ⟨ta2, tn2, tc2⟩⟩, had, ⟨⟨k2, v2, r2, m2, n2, l2⟩, ⟨ta3, tn3, tc3⟩, ⟨ta4, tn4, tc4⟩⟩⟩ : EvP)]).length = k + 1 := by rw [List.length_append, HRL.out]; rfl
          rw [e]; exact HRR.out
      case measure => simp [intOf]; omega
    · obtain rfl : k = ps.length := by omega
      rw [hrl]
      clear hrl hr hu he
      go_wp2
      go_ret
      exact ⟨va, vc, rs, J, by rw [HRL.out]; rfl, by rw [HE.out, List.take_length], by rw [HRL.out]; exact HR.out, HU.out⟩

end Go.Proofs.Ytidpiojanajpoaa
