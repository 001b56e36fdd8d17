/-
  The document's twins of events; at.
-/
import Derived.Deep.Cut
import Derived.Test.YtidpiojanajpoaaEvC
namespace Go.Proofs.Ytidpiojanajpoaa
open Go.RowKit Go.Tb Go.MapKept Go.ChangeMaps
set_option linter.unusedVariables false

theorem info_u8 : (Try.prog.info? 5).map (fun i => (i.zero, i.size, i.bytes)) = some (some (.int .u8 0), 1, 1) := by kernel_rfl
def uenc (x : UInt8) : List Value := [u8v x]
theorem uenc_length (x : UInt8) : (uenc x).length = 1 := rfl
theorem uenc_one (x : UInt8) : ∀ u ∈ uenc x, u.oneCell' = true := fun u hu => by rw [List.mem_singleton.1 hu]; rfl

/-- Twin: the same bytes, in a block of its own. -/
def TwinSays (l : List UInt8) (w : World) (e : Ending) (w' : World) : Prop :=
  ∃ g c, e = .returned (.slice (some ⟨g, 0, none⟩) l.length c) ∧ Go.Tb.Bytes w' (.slice (some ⟨g, 0, none⟩) l.length c) l ∧ w.heap.size ≤ g ∧ Upd (fun _ => False) w w' ∧ ∃ cur, w'.heap[g]? = some (.cells cur 5 (0, 0))

theorem bytes_sl {w : World} {v : Value} {l : List UInt8} (h : Go.Tb.Bytes w v l) : Sl uenc w v l := by
  rcases h with h | ⟨b, off, cap, rfl, hc, hb, hx⟩
  · exact .inl h
  · refine .inr ⟨b, off, cap, rfl, hc, hb, fun j u hj => ?_⟩
    have e : l.flatMap uenc = l.map u8v := flat_one l
    rw [e, List.getElem?_map] at hj
    obtain ⟨x, hx2, rfl⟩ := Option.map_eq_some_iff.1 hj
    obtain ⟨hlt, rfl⟩ := List.getElem?_eq_some_iff.1 hx2
    exact hx j hlt

set_option maxRecDepth 100000 in
theorem rtwin_calls (v : Value) (l : List UInt8) (w : World) (h : Bytes w v l) (hl : l.length ≤ 1000000) : Calls Try.prog 58 #[v] w (TwinSays l w) := by
  have hu1 : Upd (fun _ => False) w (w.alloc (.cells #[] 5)) := upd_alloc _ _ _
  have hown0 := own_empty (enc := uenc) (k := 1) uenc_length (heap_alloc w (.cells #[] 5)).1 (Nat.le_refl _)
  have key : ∃ g c w', (∀ ty, (Builtin.append_ #[22, 22] ty #[.slice (some ⟨w.heap.size, 0, none⟩) 0 0, v]).run Try.prog (w.alloc (.cells #[] 5)) = .ok (.slice (some ⟨g, 0, none⟩) l.length c) w') ∧ Go.Tb.Bytes w' (.slice (some ⟨g, 0, none⟩) l.length c) l ∧ w.heap.size ≤ g ∧ Upd (fun _ => False) w w' ∧ ∃ cur, w'.heap[g]? = some (.cells cur 5 (0, 0)) := by
    rcases h with h | ⟨rfl, a, rfl⟩
    · obtain ⟨a2, n2, w2, hap, hown, hu2, hbl⟩ := run_append_any (P := Try.prog) (t := 22) Try.underlying22 info_u8 rfl (by decide) uenc_length uenc_one hown0 (bytes_sl (Go.Tb.Bytes.upd h hu1 (fun _ _ x => x))) (by simp) (by simp [maxLen]; omega) (by simp; omega)
      have e0 : ([] ++ l : List UInt8) = l := rfl
      rw [e0] at hap hown hbl
      have e1 : l.flatMap uenc = l.map u8v := flat_one l
      have hown' := hown
      rw [e1] at hown'
      obtain ⟨hby, hge⟩ := bytes_of_own hown'
      have hu : Upd (fun _ => False) w w2 := hu1.trans' hu2 (fun x hx e => by cases e; simp at hx)
      rcases hown.2 with ⟨q, q2⟩ | ⟨g, cap', cur, q, hg, hheap, _⟩
      · exfalso
        injection q with q3
        subst q3
        rcases hbl with q | q <;> cases q
      · injection q with q3 q4 q5
        subst q3
        exact ⟨g, n2, w2, hap, hby, hg, hu, cur, hheap⟩
    · refine ⟨w.heap.size, 0, w.alloc (.cells #[] 5), fun ty => ?_, .inr ⟨w.heap.size, 0, 0, rfl, Nat.le_refl _, by simp, fun i hi => absurd hi (Nat.not_lt_zero _)⟩, Nat.le_refl _, hu1, #[], (heap_alloc w _).1⟩
      obtain ⟨i0, hi0, hz0, hz1, hz2⟩ := info_parts info_u8
      simp [Builtin.append_, run_underlying Try.underlying22, sizeOf, typeInfo, hi0, Builtin.lenOf, Builtin.firstCells, loadCells, loadCellsFrom, Result.andThen, storeCells, hz1]
  obtain ⟨g, c, w', hap, hby, hge, hu, hcur⟩ := key
  have HP := Lib.hid (show TwinSays l w (.returned (.slice (some ⟨g, 0, none⟩) l.length c)) w' from ⟨g, c, rfl, hby, hge, hu, hcur⟩)
  clear h hu1 hown0 hby hge hu hcur
  go_enter Try.func58, Try.ntmps58
  go_wp2_with (at_builtin; refine wpList_append hap rfl rfl rfl rfl ?_)
  go_ret
  exact HP.out

set_option maxRecDepth 100000 in
set_option maxHeartbeats 2000000 in
theorem twin13_calls (p : KvP) (I : Nat → Prop) (w : World) (h : p.Ok w I) (h1 : p.x.key.length ≤ 1000000) (h2 : p.x.val.length ≤ 1000000) :
    Calls Try.prog 45 #[.agg (kvenc p).toArray] w fun e w' => ∃ q : KvP, e = .returned (.agg (kvenc q).toArray) ∧ q.x = p.x ∧ q.Ok w' (fun b => w.heap.size ≤ b ∧ b < w'.heap.size) ∧ Upd (fun _ => False) w w' := by
  obtain ⟨⟨key, val, create, mod, version, lease⟩, ⟨ka, kn, kc⟩, ⟨va, vn, vc⟩⟩ := p
  obtain ⟨hk, hv, -, -⟩ := h
  simp only [Sv.v] at hk hv h1 h2
  show Calls Try.prog 45 #[.agg #[.slice ka kn kc, .slice va vn vc, .int .i64 create, .int .i64 mod, .int .i64 version, .int .i64 lease]] w _
  have ha1 := heap_alloc w (.cells #[.slice ka kn kc, .slice va vn vc, .int .i64 create, .int .i64 mod, .int .i64 version, .int .i64 lease] 57)
  have hua := upd_alloc (fun _ => False) w (.cells #[.slice ka kn kc, .slice va vn vc, .int .i64 create, .int .i64 mod, .int .i64 version, .int .i64 lease] 57)
  have ha2 := heap_alloc (w.alloc (.cells #[.slice ka kn kc, .slice va vn vc, .int .i64 create, .int .i64 mod, .int .i64 version, .int .i64 lease] 57)) (.cells #[.slice none 0 0, .slice none 0 0, .int .i64 0, .int .i64 0, .int .i64 0, .int .i64 0] 57)
  go_enter Try.func45, Try.ntmps45
  go_upto_region 1 with (fail)
  generalize hW : (w.alloc (.cells #[.slice ka kn kc, .slice va vn vc, .int .i64 create, .int .i64 mod, .int .i64 version, .int .i64 lease] 57)).alloc (.cells #[.slice none 0 0, .slice none 0 0, .int .i64 0, .int .i64 0, .int .i64 0, .int .i64 0] 57) = W
  have hu0 : Upd (fun _ => False) w W := by rw [← hW]; exact hua.alloc _
  have hb1 : W.heap[w.heap.size]? = some (.cells #[.slice ka kn kc, .slice va vn vc, .int .i64 create, .int .i64 mod, .int .i64 version, .int .i64 lease] 57 (0, 0)) := by rw [← hW, ha2.2 _ (lt_of_heap ha1.1)]; exact ha1.1
  have hb2 : W.heap[w.heap.size + 1]? = some (.cells #[.slice none 0 0, .slice none 0 0, .int .i64 0, .int .i64 0, .int .i64 0, .int .i64 0] 57 (0, 0)) := by
    have := ha2.1
    rw [hW] at this
    simpa using this
  have hWs : w.heap.size + 1 < W.heap.size := lt_of_heap hb2
  clear ha1 ha2 hua hW
  have c0 : W.cell? ⟨w.heap.size, 0, none⟩ = some (.slice ka kn kc) := cell_of hb1 0
  have ht1 := rtwin_calls (.slice ka kn kc) key W (hk.upd hu0 (fun _ _ x => x)) h1
  have HV := Lib.hid hv
  have HB1 := Lib.hid hb1
  have HB2 := Lib.hid hb2
  have HU0 := Lib.hid hu0
  clear hk hv hb1 hb2 hu0
  go_upto_region 2 with (go_at_call 58; (with_reducible refine ht1.mono ?_); intro e w1 h; obtain ⟨g1, z1, rfl, hy1, hg1, hu1, -⟩ := h; have hq1 := hu1.heap HB1.out (fun x => x); have e0 := cell_of hq1 0; have f0 := free_of hq1 0)
  have s1 : W.heap.size ≤ w1.heap.size := hu1.size
  have hu2 : Upd (fun k => k = w.heap.size) w1 (w1.setCell ⟨w.heap.size, 0, none⟩ (.slice (some ⟨g1, 0, none⟩) key.length z1)) := upd_setCell _ _ _ _ rfl
  have hq2 := heap_setCell_at hq1 0 (.slice (some ⟨g1, 0, none⟩) key.length z1)
  have hb2 := hu2.heap (hu1.heap HB2.out (fun x => x)) (by omega)
  have hy2 := hy1.upd hu2 (fun k hk e => by cases hk; have e' : g1 = w.heap.size := e; omega)
  have hw2 : Upd (fun _ => False) w (w1.setCell ⟨w.heap.size, 0, none⟩ (.slice (some ⟨g1, 0, none⟩) key.length z1)) := (HU0.out.trans hu1).trans' hu2 (fun k hk e => by omega)
  have s2 := hu2.size
  generalize w1.setCell ⟨w.heap.size, 0, none⟩ (.slice (some ⟨g1, 0, none⟩) key.length z1) = w2 at *
  have ht2 := rtwin_calls (.slice va vn vc) val w2 (HV.out.upd hw2 (fun _ _ x => x)) h2
  have c1 : w2.cell? ⟨w.heap.size, 1, none⟩ = some (.slice va vn vc) := cell_of hq2 1
  have HQ2 := Lib.hid hq2
  have HBB := Lib.hid hb2
  have HY2 := Lib.hid hy2
  have HW2 := Lib.hid hw2
  clear hq2 hb2 hy2 hw2 hu2 hq1 e0 f0 hu1 hy1 ht1 c0
  go_upto_region 3 with (go_at_call 58; (with_reducible refine ht2.mono ?_); intro e w3 h; obtain ⟨g3, z3, rfl, hy3, hg3, hu3, -⟩ := h; have hq3 := hu3.heap HQ2.out (fun x => x); have e1 := cell_of hq3 1; have f1 := free_of hq3 1)
  have hu4 : Upd (fun k => k = w.heap.size) w3 (w3.setCell ⟨w.heap.size, 1, none⟩ (.slice (some ⟨g3, 0, none⟩) val.length z3)) := upd_setCell _ _ _ _ rfl
  have hq4 := heap_setCell_at hq3 1 (.slice (some ⟨g3, 0, none⟩) val.length z3)
  simp only [List.setIfInBounds_toArray, List.set_cons_succ, List.set_cons_zero] at hq4
  have s3 := hu3.size
  have hb4 := hu4.heap (hu3.heap HBB.out (fun x => x)) (by omega)
  have hy4 := hy3.upd hu4 (fun k hk e => by cases hk; have e' : g3 = w.heap.size := e; omega)
  have hy4' := (HY2.out.upd hu3 (fun _ _ x => x)).upd hu4 (fun k hk e => by cases hk; have e' : g1 = w.heap.size := e; omega)
  have hw4 := (HW2.out.trans hu3).trans' hu4 (fun k hk e => by omega)
  have s4 := hu4.size
  generalize w3.setCell ⟨w.heap.size, 1, none⟩ (.slice (some ⟨g3, 0, none⟩) val.length z3) = w4 at *
  clear hq3 hu3 hu4 hy3 e1 f1 c1 ht2
  go_wp2_with (first
    | ((with_reducible refine wpl_load (ty := 57) hq4 Try.underlying57 ?_ ?_ ?_ ?_); rfl; rfl; kernel_rfl)
    | ((with_reducible refine wpl_store (ty := 57) (cs := #[.slice (some ⟨g1, 0, none⟩) key.length z1, .slice (some ⟨g3, 0, none⟩) val.length z3, .int .i64 create, .int .i64 mod, .int .i64 version, .int .i64 lease]) hb4 ?_ ?_ ?_ ?_ ?_ ?_); rfl; rfl; rfl; kernel_rfl; rfl; intro w5 hq5 hu5 hs5 hd5))
  refine bodyPost_ret (results_cell_row Try.results45 _ _ _ _ _ _ _ (by rfl) hq5 Try.underlying57 rfl (by kernel_rfl)) rfl ?_
  refine ⟨⟨⟨key, val, create, mod, version, lease⟩, ⟨some ⟨g1, 0, none⟩, key.length, z1⟩, ⟨some ⟨g3, 0, none⟩, val.length, z3⟩⟩, rfl, rfl, ⟨.inl (hy4'.upd hu5 (fun k hk e => by cases hk; have e' : g1 = w.heap.size + 1 := e; omega)), .inl (hy4.upd hu5 (fun k hk e => by cases hk; have e' : g3 = w.heap.size + 1 := e; omega)), fun k hk => ?_, fun k hk => ?_⟩, hw4.trans' hu5 (fun k hk e => by omega)⟩
  · exact ⟨by cases hk; show w.heap.size ≤ g1; omega, Nat.lt_of_lt_of_le (hy4'.lt hk) hu5.size⟩
  · exact ⟨by cases hk; show w.heap.size ≤ g3; omega, Nat.lt_of_lt_of_le (hy4.lt hk) hu5.size⟩

end Go.Proofs.Ytidpiojanajpoaa
