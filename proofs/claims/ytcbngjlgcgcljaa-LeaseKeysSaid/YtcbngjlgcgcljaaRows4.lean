/-
  Structs that are stored and loaded whole (no program in sight).
-/
import Derived.Test.YtcbngjlgcgcljaaRows2
import Derived.Deep.MidRow
import Derived.Laws.Rows
namespace Go.Tb
open Go.RowKit Go.MapKept Go.ChangeMaps
set_option linter.unusedVariables false

theorem rangeAt_of_heap {w : World} {g : Nat} {cs : Array Value} {t : TypeId} {f : Nat × Nat} (h : w.heap[g]? = some (.cells cs t f)) : w.rangeAt g 0 cs.toList := fun j v hj => by
  rw [Nat.zero_add, cell_of h]; simpa using hj
theorem there_of_heap {w : World} {g : Nat} {cs : Array Value} {t : TypeId} (h : w.heap[g]? = some (.cells cs t (0, 0))) : w.there g 0 cs.size := fun j hj => by
  refine ⟨?_, free_of h _⟩
  rw [Nat.zero_add, cell_of h]; simp [hj]

theorem heap_setCells {g : Nat} {t : TypeId} : ∀ (vs : List Value) (o : Nat) (w : World) (cs : Array Value), w.heap[g]? = some (.cells cs t (0, 0)) → ∃ cs' : Array Value, (w.setCells g o vs).heap[g]? = some (.cells cs' t (0, 0)) ∧ cs'.size = cs.size ∧ ∀ i, i < cs.size → cs'[i]? = if o ≤ i ∧ i < o + vs.length then vs[i - o]? else cs[i]?
  | [], o, w, cs, h => ⟨cs, h, rfl, fun i _ => by rw [if_neg (by simp only [List.length_nil]; omega)]⟩
  | v :: r, o, w, cs, h => by
    obtain ⟨cs', h1, h2, h3⟩ := heap_setCells r (o + 1) (w.setCell ⟨g, o, none⟩ v) _ (heap_setCell_at h o v)
    refine ⟨cs', h1, by simpa using h2, fun i hi => ?_⟩
    rw [h3 i (by simpa using hi)]
    by_cases e : i = o
    · subst e
      rw [if_neg (by omega), if_pos (by simp), Nat.sub_self]
      simp [hi]
    · by_cases hr : o + 1 ≤ i ∧ i < o + 1 + r.length
      · rw [if_pos hr, if_pos (by simp; omega), show i - o = (i - (o + 1)) + 1 by omega]; rfl
      · rw [if_neg hr, if_neg (by simp; omega), Array.getElem?_setIfInBounds_ne (fun q => e q.symm)]

/-- A struct's block, written over whole. -/
theorem heap_row {w : World} {g : Nat} {old cs : Array Value} {t : TypeId} (h : w.heap[g]? = some (.cells old t (0, 0))) (hs : cs.size = old.size) : (w.setCells g 0 cs.toList).heap[g]? = some (.cells cs t (0, 0)) := by
  obtain ⟨cs', h1, h2, h3⟩ := heap_setCells cs.toList 0 w old h
  rw [h1]
  congr 2
  apply Array.ext (by omega)
  intro i hi1 hi2
  have := h3 i (by omega)
  rw [if_pos (by simp; omega)] at this
  rw [Array.getElem?_eq_getElem hi1] at this
  simpa [hi2] using this

theorem setCells_size (g : Nat) : ∀ (vs : List Value) (o : Nat) (w : World), (w.setCells g o vs).heap.size = w.heap.size
  | [], _, _ => rfl
  | v :: r, o, w => by
    show ((w.setCell ⟨g, o, none⟩ v).setCells g (o + 1) r).heap.size = _
    rw [setCells_size g r]; simp
theorem setCells_drawn (g : Nat) : ∀ (vs : List Value) (o : Nat) (w : World), (w.setCells g o vs).drawn = w.drawn
  | [], _, _ => rfl
  | v :: r, o, w => by
    show ((w.setCell ⟨g, o, none⟩ v).setCells g (o + 1) r).drawn = _
    rw [setCells_drawn g r]; rfl
theorem upd_setCells' (S : Nat → Prop) (b : Nat) (hb : S b) : ∀ (vs : List Value) (o : Nat) (w : World), Upd S w (w.setCells b o vs)
  | [], _, w => Upd.refl _ w
  | v :: r, o, w => (upd_setCell S w ⟨b, o, none⟩ v hb).trans (upd_setCells' S b hb r (o + 1) _)

/-- A struct is stored whole. -/
theorem wpList_store_row {P : Program} {ops : Array Oper} {rest : List Oper} {op : Oper} {a : Act} {w : World} {Q : Exit → Act → World → Prop} (hgd : op.guard = none) (ty : TypeId) (x y : Operand) (ho : op.op = .store ty x y)
    (g : Nat) (cells old : Array Value) (t : TypeId) (hx : a.eval x = .pointer (some ⟨g, 0, none⟩)) (hy : a.eval y = .agg cells) (hg : w.heap[g]? = some (.cells old t (0, 0))) (hs : cells.size = old.size)
    (hi : (P.info? ty).map (·.size) = some cells.size) (h1 : cells.all (·.oneCell') = true)
    (h : ∀ w', w'.heap[g]? = some (.cells cells t (0, 0)) → Upd (fun k => k = g) w w' → w'.heap.size = w.heap.size → w'.drawn = w.drawn → wpList P ops Q rest (a.put op.dst undef) w') : wpList P ops Q (op :: rest) a w :=
  wpList_store_mid hgd ty x y ho g 0 cells hx hy (by rw [hs]; exact there_of_heap hg) hi h1 (h _ (heap_row hg hs) (upd_setCells' (fun k => k = g) g rfl _ _ _) (setCells_size g _ _ _) (setCells_drawn g _ _ _))

/-- A struct is loaded whole, wherever it lies. -/
theorem wpList_load_at {P : Program} {ops : Array Oper} {rest : List Oper} {op : Oper} {a : Act} {w : World} {Q : Exit → Act → World → Prop} (hgd : op.guard = none) (ty : TypeId) (x : Operand) (ho : op.op = .load ty x)
    (b o : Nat) (hx : a.eval x = .pointer (some ⟨b, o, none⟩)) (cs : Array Value) (d : TypeDesc) (hc : w.rangeAt b o cs.toList)
    (hu : P.underlying ty = some d) (hd : d.isRow = true) (hi : (P.info? ty).map (·.size) = some cs.size)
    (h : wpList P ops Q rest (a.put op.dst (.agg cs)) w) : wpList P ops Q (op :: rest) a w :=
  wpList_load_mid hgd ty x ho b o hx cs.toList d hc hu hd (by rw [hi]; simp) (by simpa using h)

theorem rangeAt_upd {w w' : World} {b o : Nat} {cs : List Value} {S : Nat → Prop} (h : w.rangeAt b o cs) (hu : Upd S w w') (hn : ¬ S b) : w'.rangeAt b o cs := fun j v hj => hu.cell (h j v hj) hn
theorem rangeAt_of_cells {w : World} {b off : Nat} {cs : List Value} (h : CellsAt w b off cs) : w.rangeAt b off cs := h

/-! In the walk's own spelling. -/
section
variable {P : Program} {ops : Array Oper} {rest : List Oper} {dst : Option Tmp} {type : TypeId} {pos : String} {after : Array Edge} {a : Act} {w : World} {Q : Exit → Act → World → Prop} {ty : TypeId} {x y : Operand} {g o : Nat} {cs old : Array Value} {t : TypeId} {fr : Nat × Nat} {d : TypeDesc}
theorem wpl_load (hg : w.heap[g]? = some (.cells cs t fr)) (hu : P.underlying ty = some d) (hx : a.eval x = .pointer (some ⟨g, 0, none⟩)) (hd : d.isRow = true) (hi : (P.info? ty).map (·.size) = some cs.size)
    (h : wpList P ops Q rest (a.put dst (.agg cs)) w) : wpList P ops Q (⟨dst, .load ty x, type, pos, after, none⟩ :: rest) a w :=
  wpList_load_at rfl ty x rfl g 0 hx cs d (rangeAt_of_heap hg) hu hd hi h
theorem wpl_load_at (hc : w.rangeAt g o cs.toList) (hu : P.underlying ty = some d) (hx : a.eval x = .pointer (some ⟨g, o, none⟩)) (hd : d.isRow = true) (hi : (P.info? ty).map (·.size) = some cs.size)
    (h : wpList P ops Q rest (a.put dst (.agg cs)) w) : wpList P ops Q (⟨dst, .load ty x, type, pos, after, none⟩ :: rest) a w :=
  wpList_load_at rfl ty x rfl g o hx cs d hc hu hd hi h
theorem wpl_store (hg : w.heap[g]? = some (.cells old t (0, 0))) (hx : a.eval x = .pointer (some ⟨g, 0, none⟩)) (hy : a.eval y = .agg cs) (hs : cs.size = old.size) (hi : (P.info? ty).map (·.size) = some cs.size) (h1 : cs.toList.all (·.oneCell') = true)
    (h : ∀ w', w'.heap[g]? = some (.cells cs t (0, 0)) → Upd (fun k => k = g) w w' → w'.heap.size = w.heap.size → w'.drawn = w.drawn → wpList P ops Q rest (a.put dst undef) w') : wpList P ops Q (⟨dst, .store ty x y, type, pos, after, none⟩ :: rest) a w :=
  wpList_store_row rfl ty x y rfl g cs old t hx hy hg hs hi (by rw [← Array.all_toList]; exact h1) h
end

end Go.Tb
