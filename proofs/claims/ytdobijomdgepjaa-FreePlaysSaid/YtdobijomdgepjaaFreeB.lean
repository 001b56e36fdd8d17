/-
  The library's Insert of one number into a row of the call's own.
-/
import Derived.Test.YtdobijomdgepjaaFreeA
import Derived.Test.YtdobijomdgepjaaRows3
import Derived.Shelf.RegionOpenPlain
import Derived.Lib.AppendZerosOnto
import Derived.Lib.Overlaps
import Derived.Laws.Externs
import Derived.Laws.NewBlocks
namespace Go.Proofs.Ytdobijomdgepjaa
open Go.RowKit Go.Tb Go.MapKept Go.ChangeMaps Go.Lib
set_option linter.unusedVariables false

theorem under_ints : Try.prog.underlying 22 = some (.slice 3) := by kernel_rfl
theorem under_int : Try.prog.underlying 3 = some (.int .i64) := by kernel_rfl
theorem size_int (w : World) : (Go.sizeOf 3).run Try.prog w = .ok 1 w := by
  obtain ⟨i0, hi0, hz0, hz1, hz2⟩ := info_parts info_int
  simp [Go.sizeOf, typeInfo, hi0, hz1]

/-- `append(x, y...)` at two types. -/
theorem run_append_two {P : Program} {t u e : TypeId} {v1 v2 : Value} {w : World} {r : Result Value} (h : ∀ ty, (Builtin.append_ #[t, t] ty #[v1, v2]).run P w = r) (ht : P.underlying t = some (.slice e)) (hu : P.underlying u = some (.slice e)) (a : Option Addr) (n c : Nat) (hv : v2 = .slice a n c) :
    ∀ ty, (Builtin.append_ #[t, u] ty #[v1, v2]).run P w = r := by
  subst hv
  intro ty
  rw [← h ty]
  cases v1 <;> simp [Builtin.append_, run_underlying ht, run_underlying hu]

set_option maxHeartbeats 4000000 in
set_option maxRecDepth 100000 in
/-- There is room, and the place lies within. -/
theorem insert_shift (g0 n c i g : Nat) (cur : Array Value) (l : List Int) (x : Int) (w : World) (hi : i < n) (hl : l.length = n) (hroom : n + 1 ≤ c) (hc63 : c ≤ 9223372036854775807)
    (hb : w.heap[g0]? = some (.cells cur 3 (0, 0))) (hcs : cur.size = c) (htake : cur.toList.take n = l.flatMap ienc) (hg : w.heap[g]? = some (.cells #[.int .i64 x] 3 (0, 0))) (hne : g ≠ g0) :
    Calls Try.prog 32 #[.slice (some ⟨g0, 0, none⟩) n c, .int .i64 i, .slice (some ⟨g, 0, none⟩) 1 1] w fun e w' => ∃ v', e = .returned v' ∧ Sl ienc w' v' (l.take i ++ x :: l.drop i) ∧ sliceBlock v' = some g0 ∧ Upd (fun k => k = g0) w w' := by
  obtain ⟨cs, hcsd⟩ : ∃ cs, cs = l.flatMap ienc := ⟨_, rfl⟩
  have hcl : cs.length = n := by rw [hcsd, flat_length ienc_length, hl, Nat.mul_one]
  rw [← hcsd] at htake
  have hcell : ∀ j, w.cell? ⟨g0, j, none⟩ = cur[j]? := cell_of hb
  have hsp : ∀ j, j < n + 1 → (w.cell? ⟨g0, j, none⟩).isSome = true := fun j hj => by rw [hcell, Array.getElem?_eq_getElem (by omega)]; rfl
  have hfz : ∀ j, w.frozen? ⟨g0, j, none⟩ = false := free_of hb
  have hold : ∀ j, j < n → w.cell? ⟨g0, j, none⟩ = cs[j]? := fun j hj => by
    rw [hcell, ← htake, List.getElem?_take, if_pos hj]; simp
  have hx0 : w.cell? ⟨g, 0, none⟩ = some (.int .i64 x) := cell_of hg 0
  have h1c : ∀ v ∈ cs, v.oneCell' = true := fun v hv => by rw [hcsd] at hv; obtain ⟨y, _, hy⟩ := List.mem_flatMap.1 hv; exact ienc_one y v hy
  have hsz : (Try.prog.info? 3).map (·.size) = some 1 := by
    obtain ⟨i0, hi0, h0, h1, h2⟩ := info_parts info_int
    rw [hi0]; simp [h1]
  have hov : ∀ lb cb, (callFunc 37 #[.slice (some ⟨g, 0, none⟩) 1 1, .slice (some ⟨g0, i + 1, none⟩) lb cb]).run Try.prog w = .ok (.value (.bool false)) w := fun lb cb => by
    rw [run_callFunc_extern Try.func37 (by kernel_rfl) (by kernel_rfl) (by kernel_rfl) (e := Extern.SlicesOverlaps.overlaps #[22, 22] #[4]) (by kernel_rfl),
      Lib.run_overlaps_apart w 22 4 3 under_ints 1 size_int ⟨g, 0, none⟩ ⟨g0, i + 1, none⟩ 1 1 lb cb hne 3 3 1 c (by simp [World.shape?, hg]) (by simp [World.shape?, hb, hcs]) (by omega) (free_of hg 0) (free_of hg 1)]
    rfl
  have hdl : (cs.drop i).length = n - i := by rw [List.length_drop, hcl]
  have hw1 : IntKind.i64.wrap ((i : Int) + 1) = (i : Int) + 1 := by rw [IntKind.wrap_i64]; omega
  have hb1 : (0 : Int) ≤ (i : Int) + 1 := by omega
  have hin : i ≤ n := by omega
  have htn : ((i : Int) + 1).toNat = i + 1 := by omega
  have hb2 : ¬ (c = i + 1) := by omega
  have hb3 : (i : Int) ≤ (n : Int) + 1 := by omega
  have hb4 : ¬ (c = i) := by omega
  have hz2 : ¬ ((i : Int) = (n : Int)) := by omega
  have hcp1 : ∀ ty, (Builtin.copy_ #[51, 51] ty #[.slice (some ⟨g0, i + 1, none⟩) (n + 1 - (i + 1)) (c - (i + 1)), .slice (some ⟨g0, i, none⟩) (n + 1 - i) (c - i)]).run Try.prog w.drew = .ok (goInt (cs.drop i).length) (w.drew.setCells g0 (i + 1) (cs.drop i)) := fun ty =>
    run_copy_cells w.drew _ _ ty 3 g0 (i + 1) (n + 1 - (i + 1)) _ ⟨g0, i, none⟩ (n + 1 - i) _ (cs.drop i) under_rising hsz (by rw [hdl]; simp only [Nat.min_def]; split <;> omega)
      (fun j v hj => by rw [Addr.add_lit]; exact (hold (i + j) (by have := (List.getElem?_eq_some_iff.1 hj).1; omega)).trans (by rwa [List.getElem?_drop] at hj))
      (fun j hj => hsp _ (by omega)) (fun j hj => hfz _) (fun v hv => h1c v (List.mem_of_mem_drop hv))
  obtain ⟨W1, hW1⟩ : ∃ W1, W1 = w.drew.setCells g0 (i + 1) (cs.drop i) := ⟨_, rfl⟩
  have hsd : ∀ j, j < (cs.drop i).length → (w.drew.cell? ⟨g0, i + 1 + j, none⟩).isSome = true := fun j hj => hsp _ (by omega)
  have hsp1 : ∀ k, k < n + 1 → (W1.cell? ⟨g0, k, none⟩).isSome = true := fun k hk => by
    rw [hW1]; exact some_setCells g0 _ _ w.drew hsd _ (hsp k hk)
  have hcp2 : ∀ ty, (Builtin.copy_ #[51, 22] ty #[.slice (some ⟨g0, i, none⟩) (n + 1 - i) (c - i), .slice (some ⟨g, 0, none⟩) 1 1]).run Try.prog W1 = .ok (goInt 1) (W1.setCells g0 i [.int .i64 x]) := fun ty =>
    run_copy_cells W1 _ _ ty 3 g0 i (n + 1 - i) _ ⟨g, 0, none⟩ 1 1 [.int .i64 x] under_rising hsz (by simp only [List.length_singleton, Nat.min_def]; split <;> omega)
      (fun j v hj => by
        rw [Addr.add_lit, hW1, World.cell?_setCells_out g0 _ _ _ _ (fun h _ => absurd h hne)]
        match j, hj with
        | 0, hj => cases hj; exact hx0)
      (fun j hj => hsp1 _ (by simp at hj; omega)) (fun j hj => by rw [hW1, World.frozen?_setCells]; exact hfz _) (fun v hv => by simp at hv; subst hv; rfl)
  have hfin : Sl ienc (W1.setCells g0 i [.int .i64 x]) (.slice (some ⟨g0, 0, none⟩) (n + 1) c) (l.take i ++ x :: l.drop i) ∧ Upd (fun k => k = g0) w (W1.setCells g0 i [.int .i64 x]) := by
    constructor
    · refine .inr ⟨g0, 0, c, ?_, ?_, ?_, ?_⟩
      · congr 1; simp; omega
      · simp; omega
      · rw [hW1]
        exact Nat.lt_of_lt_of_le (lt_of_heap hb) (((Upd.refl (fun _ => True) w).drew.trans (upd_setCells _ g0 trivial _ _ _)).trans (upd_setCells _ g0 trivial _ _ _)).size
      · have e : (l.take i ++ x :: l.drop i).flatMap ienc = cs.take i ++ ([Value.int .i64 x] ++ cs.drop i) := by
          rw [List.flatMap_append, List.flatMap_cons, flat_take ienc_length, flat_drop ienc_length, Nat.mul_one, ← hcsd]; rfl
        rw [e]
        refine insert_cells (W := w) (by omega) (fun j hj => hold j (by omega)) (fun k => ?_)
        rw [setCells_get g0 _ _ W1 (fun j hj => hsp1 _ (by simp at hj; omega)), hW1, setCells_get g0 _ _ w.drew hsd]
        simp only [List.length_singleton]
        by_cases q1 : i ≤ k ∧ k < i + 1
        · rw [if_pos q1, if_neg (by omega), if_pos q1]
        · rw [if_neg q1]
          by_cases q2 : i + 1 ≤ k ∧ k < i + 1 + (cs.drop i).length
          · rw [if_pos q2, if_pos q2]
          · rw [if_neg q2, if_neg q2, if_neg q1]; rfl
    · rw [hW1]
      exact ((Upd.refl _ w).drew.trans (upd_setCells (fun k => k = g0) g0 rfl _ _ _)).trans (upd_setCells (fun k => k = g0) g0 rfl _ _ _)
  rw [← hW1] at hcp1
  have Hfin := Lib.hid hfin
  clear hfin hold hcell hsp hfz hsp1 hsd hW1 htake hb hg hx0 h1c hcsd
  go_enter Try.func32, Try.ntmps32
  go_wp2_with (simp only [hov])
  have mixed : Try.prog.follows Departure.mixedOrders = true := by kernel_rfl
  go_region_law_o (refine step_copy hcp1 (by rfl) (by rfl) (by simp [Act.eval, Act.put]) (by simp [Act.eval, Act.put]) ?_)
  go_wp2_with (at_builtin; refine wpList_copy hcp2 rfl rfl rfl rfl ?_)
  go_ret
  exact ⟨_, rfl, Hfin.out.1, rfl, Hfin.out.2⟩

set_option maxHeartbeats 4000000 in
set_option maxRecDepth 100000 in
/-- There is no room, and the place lies within. -/
theorem insert_grow (g0 n c i g : Nat) (cur : Array Value) (l : List Int) (x : Int) (w : World) (hi : i < n) (hl : l.length = n) (hnc : n ≤ c) (hroom : c < n + 1) (hbig : n ≤ 1000000)
    (hb : w.heap[g0]? = some (.cells cur 3 (0, 0))) (hcs : cur.size = c) (htake : cur.toList.take n = l.flatMap ienc) (hg : w.heap[g]? = some (.cells #[.int .i64 x] 3 (0, 0))) (hne : g ≠ g0) :
    Calls Try.prog 32 #[.slice (some ⟨g0, 0, none⟩) n c, .int .i64 i, .slice (some ⟨g, 0, none⟩) 1 1] w fun e w' => ∃ v', e = .returned v' ∧ Sl ienc w' v' (l.take i ++ x :: l.drop i) ∧ sliceBlock v' = some w.heap.size ∧ Upd (fun _ => False) w w' := by
  obtain ⟨cs, hcsd⟩ : ∃ cs, cs = l.flatMap ienc := ⟨_, rfl⟩
  have hcl : cs.length = n := by rw [hcsd, flat_length ienc_length, hl, Nat.mul_one]
  rw [← hcsd] at htake
  obtain rfl : c = n := by omega
  have hcell : ∀ j, w.cell? ⟨g0, j, none⟩ = cur[j]? := cell_of hb
  have hold : ∀ j, j < c → w.cell? ⟨g0, j, none⟩ = cs[j]? := fun j hj => by
    rw [hcell, ← htake, List.getElem?_take, if_pos hj]; simp
  have hx0 : w.cell? ⟨g, 0, none⟩ = some (.int .i64 x) := cell_of hg 0
  have hbw := lt_of_heap hb
  have hgw := lt_of_heap hg
  have h1c : ∀ v ∈ cs, v.oneCell' = true := fun v hv => by rw [hcsd] at hv; obtain ⟨y, _, hy⟩ := List.mem_flatMap.1 hv; exact ienc_one y v hy
  obtain ⟨i0, hi0, hz0, hz1, hz8⟩ := info_parts info_int
  have hsz : (Try.prog.info? 3).map (·.size) = some 1 := by rw [hi0]; simp [hz1]
  have hdl : (cs.drop i).length = c - i := by rw [List.length_drop, hcl]
  have hkk : (c : Int) + 1 - (i : Int) = ((c + 1 - i : Nat) : Int) := by omega
  have hik : i + (c + 1 - i) = c + 1 := by omega
  have hfst : (Builtin.firstCells i0.size i (.slice (some ⟨g0, 0, none⟩) i c)).run Try.prog w.drew = .ok (cs.take i).toArray w.drew := by
    rw [hz1]
    exact run_firstCells_some w.drew 1 i ⟨g0, 0, none⟩ i c (cs.take i) (by rw [List.length_take]; omega) (fun j v hj => by
      rw [Addr.add_lit, Nat.zero_add]
      rw [List.getElem?_take] at hj
      split at hj
      · rename_i hlt
        exact (hold j (by omega)).trans hj
      · cases hj)
  obtain ⟨G, hG⟩ : ∃ G, G = grownCap w (c + 1) c 3 := ⟨_, rfl⟩
  obtain ⟨ROW, hROW⟩ : ∃ ROW : Array Value, ROW = (cs.take i).toArray ++ Builtin.zeroCells (Value.int .i64 0).cells (c + 1 - i) ++ Builtin.zeroCells (Value.int .i64 0).cells (G - (c + 1)) := ⟨_, rfl⟩
  obtain ⟨W1, hW1⟩ : ∃ W1, W1 = w.drew.alloc (.cells ROW 3) := ⟨_, rfl⟩
  have hrz : ∀ ty, (Builtin.append_ #[51, 3] ty #[.slice (some ⟨g0, 0, none⟩) i c, .int .i64 ((c : Int) + 1 - (i : Int))]).run Try.prog w = .ok (.slice (some ⟨w.heap.size, 0, none⟩) (c + 1) G) W1 := fun ty => by
    have h := Lib.run_append_grow_zeros (P := Try.prog) w 51 3 ty 3 i0 _ .i64 .i64 under_rising under_int hi0 hz0 (some ⟨g0, 0, none⟩) i c (cs.take i) hfst (c + 1 - i) (by omega) (by omega) (by omega) (by omega) (by rw [hz8]; omega) (by rw [hz8, hik]; exact growslice_fits hroom (by omega))
    rw [hik] at h
    rw [hkk, hW1, hROW, hG]
    exact h
  have hRl : c + 1 ≤ ROW.size := by
    rw [hROW]
    simp [Builtin.zeroCells, Value.cells]
    omega
  have hRo : ∀ j, j < i → ROW[j]? = cs[j]? := fun j hj => by
    have e : ROW.toList = cs.take i ++ ((Builtin.zeroCells (Value.int .i64 0).cells (c + 1 - i)).toList ++ (Builtin.zeroCells (Value.int .i64 0).cells (G - (c + 1))).toList) := by rw [hROW]; simp
    rw [← Array.getElem?_toList, e, List.getElem?_append_left (by rw [List.length_take]; omega), List.getElem?_take, if_pos hj]
  have hGn : c + 1 ≤ G := by rw [hG]; exact grownCap_ge w _ _ _
  have hG63 : G ≤ 9223372036854775807 := by
    have := grownCap_le_maxLen w (c + 1) c 3 (by unfold maxLen; omega)
    rw [← hG] at this
    unfold maxLen at this
    omega
  have hGi : ¬ (G = i) := by omega
  have hGim : ¬ (G = i + 1) := by omega
  have hci : ¬ (c = i) := by omega
  have hW1c : ∀ j, W1.cell? ⟨w.heap.size, j, none⟩ = ROW[j]? := fun j => by rw [hW1]; exact World.cell?_alloc_at (w := w.drew) ROW _ w.heap.size j rfl
  have hN : ∀ j, j < c + 1 → (W1.cell? ⟨w.heap.size, j, none⟩).isSome = true := fun j hj => by rw [hW1c, Array.getElem?_eq_getElem (by omega)]; rfl
  have hNf : ∀ j, W1.frozen? ⟨w.heap.size, j, none⟩ = false := fun j => by rw [hW1]; exact World.frozen?_alloc_at (w := w.drew) ROW _ w.heap.size j rfl
  have hU1 : Upd (fun _ => False) w W1 := by rw [hW1]; exact (Upd.refl _ w).drew.alloc _
  have hs1 : W1.heap.size = w.heap.size + 1 := by rw [hW1]; simp
  have hcpA : ∀ ty, (Builtin.copy_ #[51, 22] ty #[.slice (some ⟨w.heap.size, i, none⟩) (c + 1 - i) (G - i), .slice (some ⟨g, 0, none⟩) 1 1]).run Try.prog W1 = .ok (goInt 1) (W1.setCells w.heap.size i [.int .i64 x]) := fun ty =>
    run_copy_cells W1 _ _ ty 3 w.heap.size i (c + 1 - i) _ ⟨g, 0, none⟩ 1 1 [.int .i64 x] under_rising hsz (by simp only [List.length_singleton, Nat.min_def]; split <;> omega)
      (fun j v hj => by
        rw [Addr.add_lit]
        match j, hj with
        | 0, hj => cases hj; exact hU1.cell hx0 (fun x => x))
      (fun j hj => hN _ (by simp at hj; omega)) (fun j hj => hNf _) (fun v hv => by simp at hv; subst hv; rfl)
  obtain ⟨W2, hW2⟩ : ∃ W2, W2 = W1.setCells w.heap.size i [.int .i64 x] := ⟨_, rfl⟩
  have h2s : ∀ j, j < c + 1 → (W2.cell? ⟨w.heap.size, j, none⟩).isSome = true := fun j hj => by
    rw [hW2]; exact some_setCells _ _ _ _ (fun j hj => hN _ (by simp at hj; omega)) _ (hN _ hj)
  have hcpB : ∀ ty, (Builtin.copy_ #[51, 51] ty #[.slice (some ⟨w.heap.size, i + 1, none⟩) (c + 1 - (i + 1)) (G - (i + 1)), .slice (some ⟨g0, i, none⟩) (c - i) (c - i)]).run Try.prog W2.drew = .ok (goInt (cs.drop i).length) (W2.drew.setCells w.heap.size (i + 1) (cs.drop i)) := fun ty =>
    run_copy_cells W2.drew _ _ ty 3 w.heap.size (i + 1) (c + 1 - (i + 1)) _ ⟨g0, i, none⟩ (c - i) _ (cs.drop i) under_rising hsz (by rw [hdl]; simp only [Nat.min_def]; split <;> omega)
      (fun j v hj => by
        rw [Addr.add_lit]
        have hjl : j < c - i := by have := (List.getElem?_eq_some_iff.1 hj).1; omega
        have h0 : w.cell? ⟨g0, i + j, none⟩ = some v := (hold (i + j) (by omega)).trans (by rwa [List.getElem?_drop] at hj)
        show W2.cell? _ = _
        rw [hW2, World.cell?_setCells_out _ _ _ _ _ (fun h _ => absurd h (by show g0 ≠ w.heap.size; omega))]
        exact hU1.cell h0 (fun x => x))
      (fun j hj => h2s _ (by omega)) (fun j hj => by show W2.frozen? _ = _; rw [hW2, World.frozen?_setCells]; exact hNf _) (fun v hv => h1c v (List.mem_of_mem_drop hv))
  have hfin : Sl ienc (W2.drew.setCells w.heap.size (i + 1) (cs.drop i)) (.slice (some ⟨w.heap.size, 0, none⟩) (c + 1) G) (l.take i ++ x :: l.drop i) ∧ Upd (fun _ => False) w (W2.drew.setCells w.heap.size (i + 1) (cs.drop i)) := by
    have hU2 : Upd (fun k => k = w.heap.size) W1 (W2.drew.setCells w.heap.size (i + 1) (cs.drop i)) := by
      rw [hW2]
      exact (upd_setCells (fun k => k = w.heap.size) w.heap.size rfl _ _ _).drew.trans (upd_setCells (fun k => k = w.heap.size) w.heap.size rfl _ _ _)
    constructor
    · refine .inr ⟨w.heap.size, 0, G, ?_, ?_, ?_, ?_⟩
      · congr 1; simp; omega
      · simp; omega
      · have := hU2.size
        omega
      · have e : (l.take i ++ x :: l.drop i).flatMap ienc = cs.take i ++ ([Value.int .i64 x] ++ cs.drop i) := by
          rw [List.flatMap_append, List.flatMap_cons, flat_take ienc_length, flat_drop ienc_length, Nat.mul_one, ← hcsd]; rfl
        rw [e]
        refine insert_cells (W := W1) (by omega) (fun j hj => (hW1c j).trans (hRo j hj)) (fun k => ?_)
        rw [setCells_get _ _ _ W2.drew (fun j hj => h2s _ (by omega))]
        simp only [List.length_singleton]
        split
        · rfl
        · show W2.cell? _ = _
          rw [hW2, setCells_get _ _ _ W1 (fun j hj => hN _ (by simp at hj; omega))]
          rfl
    · exact hU1.trans' hU2 (fun y hy e => by omega)
  rw [← hW2] at hcpA
  have Hfin := Lib.hid hfin
  have hw1 : IntKind.i64.wrap ((i : Int) + 1) = (i : Int) + 1 := by rw [IntKind.wrap_i64]; omega
  have hb1 : (0 : Int) ≤ (i : Int) + 1 := by omega
  have hin : i ≤ c := by omega
  have htn : ((i : Int) + 1).toNat = i + 1 := by omega
  have hz2 : ¬ ((i : Int) = (c : Int)) := by omega
  have hz3 : (c : Int) < (c : Int) + 1 := by omega
  have hb3 : (i : Int) ≤ (c : Int) := by omega
  clear hfin hold hcell hW2 hW1 htake hb hg hx0 h1c hcsd hkk hik hfst hROW hG hRl hRo hW1c hN hNf hU1 hs1 h2s hi0 hz0 hz1 hz8 hcl
  go_enter Try.func32, Try.ntmps32
  go_wp2_with (first
    | (at_builtin; refine wpList_append2 hrz rfl rfl rfl rfl ?_)
    | (at_builtin; refine wpList_copy hcpA rfl rfl rfl rfl ?_))
  have mixed : Try.prog.follows Departure.mixedOrders = true := by kernel_rfl
  go_region_law_o (refine step_copy hcpB (by rfl) (by rfl) (by simp [Act.eval, Act.put]) (by simp [Act.eval, Act.put]) ?_)
  go_wp2
  go_ret
  exact ⟨_, rfl, Hfin.out.1, rfl, Hfin.out.2⟩

set_option maxHeartbeats 1000000 in
/-- The place lies behind. -/
theorem insert_end (base : Nat) (v : Value) (g : Nat) (l : List Int) (x : Int) (w : World) (hown : w.ownsRow base 3 1 v l.length (l.flatMap ienc)) (hbase : base ≤ w.heap.size) (hbig : l.length ≤ 1000000)
    (hg : w.heap[g]? = some (.cells #[.int .i64 x] 3 (0, 0))) :
    Calls Try.prog 32 #[v, .int .i64 (l.length : Nat), .slice (some ⟨g, 0, none⟩) 1 1] w fun e w' => ∃ v', e = .returned v' ∧ Sl ienc w' v' (l ++ [x]) ∧ (∀ b, sliceBlock v' = some b → base ≤ b) ∧ Upd (fun k => base ≤ k) w w' := by
  obtain ⟨v', w', hap, ho', hg', hn'⟩ := run_append_sl (P := Try.prog) (t := 51) (z := .int .i64 0) under_rising info_int rfl (by decide) ienc_length ienc_one hown (sl_one (enc := ienc) (x := x) hg) hbase (by simp [maxLen]; omega) (by simp; omega)
  have hap2 := run_append_two hap under_rising under_ints _ _ _ rfl
  have hsl := sl_of_own ienc_length ho'
  have hu : Upd (fun k => base ≤ k) w w' := (Upd.ofGrown hg').mono (fun k hk e => (hown.lt k e.symm).1)
  have Hfin := Lib.hid (And.intro hsl hu)
  rcases hown.2 with ⟨rfl, h0⟩ | ⟨g0, cap, cur, rfl, hg0, hh, hnc, hm, hs, htake⟩
  · have hl0 : l = [] := List.eq_nil_of_length_eq_zero h0
    subst hl0
    clear hap hg' ho' hn' hsl hu hown hg
    go_enter Try.func32, Try.ntmps32
    go_wp2_with (at_builtin; refine wpList_append2 hap2 rfl rfl rfl rfl ?_)
    go_ret
    exact ⟨_, rfl, Hfin.out.1.1, Hfin.out.1.2, Hfin.out.2⟩
  · clear hap hg' ho' hn' hsl hu hown hg htake hh hs hm
    by_cases hcm : cap = l.length
    · go_enter Try.func32, Try.ntmps32
      go_wp2_with (at_builtin; refine wpList_append2 hap2 rfl rfl rfl rfl ?_)
      go_ret
      exact ⟨_, rfl, Hfin.out.1.1, Hfin.out.1.2, Hfin.out.2⟩
    · go_enter Try.func32, Try.ntmps32
      go_wp2_with (at_builtin; refine wpList_append2 hap2 rfl rfl rfl rfl ?_)
      go_ret
      exact ⟨_, rfl, Hfin.out.1.1, Hfin.out.1.2, Hfin.out.2⟩

/-- slices.Insert of one number. -/
theorem insert_calls (base : Nat) (v : Value) (g i : Nat) (l : List Int) (x : Int) (w : World) (hi : i ≤ l.length) (hown : w.ownsRow base 3 1 v l.length (l.flatMap ienc)) (hbase : base ≤ w.heap.size) (hbig : l.length ≤ 1000000)
    (hg : w.heap[g]? = some (.cells #[.int .i64 x] 3 (0, 0))) (hne : sliceBlock v ≠ some g) :
    Calls Try.prog 32 #[v, .int .i64 i, .slice (some ⟨g, 0, none⟩) 1 1] w fun e w' => ∃ v', e = .returned v' ∧ Sl ienc w' v' (l.take i ++ x :: l.drop i) ∧ (∀ b, sliceBlock v' = some b → base ≤ b) ∧ Upd (fun k => base ≤ k) w w' := by
  by_cases he : i = l.length
  · subst he
    refine (insert_end base v g l x w hown hbase hbig hg).mono ?_
    rintro e w' ⟨v', rfl, h1, h2, h3⟩
    exact ⟨v', rfl, by simpa using h1, h2, h3⟩
  · rcases hown.2 with ⟨rfl, h0⟩ | ⟨g0, cap, cur, rfl, hg0, hh, hnc, hm, hs, htake⟩
    · omega
    · rw [Nat.mul_one] at hs htake
      have hgg : g ≠ g0 := fun e => hne (by rw [e]; rfl)
      by_cases hroom : l.length + 1 ≤ cap
      · refine (insert_shift g0 l.length cap i g cur l x w (by omega) rfl hroom (by simpa [maxLen] using hm) hh hs htake hg hgg).mono ?_
        rintro e w' ⟨v', rfl, h1, h2, h3⟩
        exact ⟨v', rfl, h1, fun b hb => by rw [h2] at hb; cases hb; exact hg0, h3.mono (fun k hk e => by subst e; exact hg0)⟩
      · refine (insert_grow g0 l.length cap i g cur l x w (by omega) rfl hnc (by omega) hbig hh hs htake hg hgg).mono ?_
        rintro e w' ⟨v', rfl, h1, h2, h3⟩
        exact ⟨v', rfl, h1, fun b hb => by rw [h2] at hb; cases hb; exact hbase, h3.weak _⟩

end Go.Proofs.Ytdobijomdgepjaa
