/-
  Slices of whatever elements: `Sl enc k w v l`: v is a slice whose elements are l, each of k cells (no program in sight).
-/
import Derived.Test.YtcbngjlgcgcljaaBase
namespace Go.Tb
open Go.RowKit Go.MapKept Go.ChangeMaps
set_option linter.unusedVariables false

/-- The cells from `off` on. -/
def CellsAt (w : World) (b off : Nat) (cs : List Value) : Prop := ∀ j v, cs[j]? = some v → w.cell? ⟨b, off + j, none⟩ = some v

theorem CellsAt.upd {S : Nat → Prop} {w w' : World} {b off : Nat} {cs : List Value} (h : CellsAt w b off cs) (hu : Upd S w w') (hn : ¬ S b) : CellsAt w' b off cs :=
  fun j v hj => hu.cell (h j v hj) hn
theorem CellsAt.take {w : World} {b off : Nat} {cs : List Value} (h : CellsAt w b off cs) (n : Nat) : CellsAt w b off (cs.take n) := fun j v hj => by
  rw [List.getElem?_take] at hj
  split at hj
  · exact h j v hj
  · cases hj
theorem CellsAt.drop {w : World} {b off : Nat} {cs : List Value} (h : CellsAt w b off cs) (n : Nat) : CellsAt w b (off + n) (cs.drop n) := fun j v hj => by
  rw [List.getElem?_drop] at hj
  rw [Nat.add_assoc]
  exact h (n + j) v hj

section
variable {α : Type}

theorem flat_length {enc : α → List Value} {k : Nat} (hk : ∀ x, (enc x).length = k) (l : List α) : (l.flatMap enc).length = l.length * k := by
  induction l with
  | nil => simp
  | cons x r ih => rw [List.flatMap_cons, List.length_append, hk, ih, List.length_cons, Nat.succ_mul]; omega
theorem flat_take {enc : α → List Value} {k : Nat} (hk : ∀ x, (enc x).length = k) (l : List α) (n : Nat) : (l.take n).flatMap enc = (l.flatMap enc).take (n * k) := by
  induction l generalizing n with
  | nil => simp
  | cons x r ih =>
    cases n with
    | zero => simp
    | succ n =>
      have e : (enc x).take (n * k + k) = enc x := List.take_of_length_le (by rw [hk]; omega)
      rw [List.take_succ_cons, List.flatMap_cons, List.flatMap_cons, ih, List.take_append, hk, Nat.succ_mul, e, Nat.add_sub_cancel]
theorem flat_drop {enc : α → List Value} {k : Nat} (hk : ∀ x, (enc x).length = k) (l : List α) (n : Nat) : (l.drop n).flatMap enc = (l.flatMap enc).drop (n * k) := by
  induction l generalizing n with
  | nil => simp
  | cons x r ih =>
    cases n with
    | zero => simp
    | succ n =>
      have e : (enc x).drop (n * k + k) = [] := List.drop_of_length_le (by rw [hk]; omega)
      rw [List.drop_succ_cons, List.flatMap_cons, ih, List.drop_append, hk, Nat.succ_mul, e, List.nil_append, Nat.add_sub_cancel]
theorem flat_get {enc : α → List Value} {k : Nat} (hk : ∀ x, (enc x).length = k) (l : List α) (i : Nat) (hi : i < l.length) (j : Nat) (hj : j < k) : (l.flatMap enc)[i * k + j]? = (enc l[i])[j]? := by
  induction l generalizing i with
  | nil => simp at hi
  | cons x r ih =>
    rw [List.flatMap_cons]
    cases i with
    | zero => rw [Nat.zero_mul, Nat.zero_add, List.getElem?_append_left (by rw [hk]; exact hj)]; rfl
    | succ i =>
      rw [List.getElem?_append_right (by rw [hk, Nat.succ_mul]; omega), hk, Nat.succ_mul, show i * k + k + j - k = i * k + j by omega]
      exact ih i (by simpa using hi)
theorem flat_one {enc : α → Value} (l : List α) : l.flatMap (fun x => [enc x]) = l.map enc := by
  induction l with
  | nil => rfl
  | cons x r ih => simp [ih]

/-- `v` is a slice of the elements `l`, each of the cells `enc`. -/
def Sl (enc : α → List Value) (w : World) (v : Value) (l : List α) : Prop :=
  (v = .slice none 0 0 ∧ l = []) ∨ ∃ b off cap, v = .slice (some ⟨b, off, none⟩) l.length cap ∧ l.length ≤ cap ∧ b < w.heap.size ∧ CellsAt w b off (l.flatMap enc)

variable {enc : α → List Value} {w w' : World} {v : Value} {l : List α} {k : Nat}

theorem Sl.upd {S : Nat → Prop} (h : Sl enc w v l) (hu : Upd S w w') (hn : ∀ b, sliceBlock v = some b → ¬ S b) : Sl enc w' v l := by
  rcases h with h | ⟨b, off, cap, rfl, hc, hb, h⟩
  · exact .inl h
  · exact .inr ⟨b, off, cap, rfl, hc, Nat.lt_of_lt_of_le hb hu.size, h.upd hu (hn b rfl)⟩
theorem Sl.grow (h : Sl enc w v l) (hu : Upd (fun _ => False) w w') : Sl enc w' v l := h.upd hu (fun _ _ x => x)
theorem Sl.lt (h : Sl enc w v l) {b : Nat} (hb : sliceBlock v = some b) : b < w.heap.size := by
  rcases h with ⟨rfl, _⟩ | ⟨b', off, cap, rfl, hc, hl, h⟩
  · cases hb
  · cases hb; exact hl
theorem sl_nil (enc : α → List Value) (w : World) : Sl enc w (.slice none 0 0) ([] : List α) := .inl ⟨rfl, rfl⟩
theorem Sl.size {a : Option Addr} {n cap : Nat} (h : Sl enc w (.slice a n cap) l) : l.length = n := by
  rcases h with ⟨h, rfl⟩ | ⟨b', off', cap', h, hc, hb, hl⟩
  · cases h; rfl
  · cases h; rfl
/-- Its shape. -/
theorem Sl.shape (h : Sl enc w v l) : ∃ a cap, v = .slice a l.length cap ∧ l.length ≤ cap := by
  rcases h with ⟨rfl, rfl⟩ | ⟨b, off, cap, rfl, hc, hb, _⟩
  · exact ⟨_, _, rfl, Nat.le_refl _⟩
  · exact ⟨_, _, rfl, hc⟩
/-- Where there is an element, there is a block. -/
theorem Sl.block (h : Sl enc w v l) (hl : 0 < l.length) : ∃ b off cap, v = .slice (some ⟨b, off, none⟩) l.length cap ∧ l.length ≤ cap ∧ b < w.heap.size ∧ CellsAt w b off (l.flatMap enc) := by
  rcases h with ⟨_, rfl⟩ | h
  · simp at hl
  · exact h
/-- A cell of the i-th element. -/
theorem Sl.at {b off n cap : Nat} (h : Sl enc w (.slice (some ⟨b, off, none⟩) n cap) l) (hk : ∀ x, (enc x).length = k) (i : Nat) (hi : i < l.length) (j : Nat) (hj : j < k) (u : Value) (hu : (enc l[i])[j]? = some u) :
    w.cell? ⟨b, off + i * k + j, none⟩ = some u := by
  rcases h with ⟨h, _⟩ | ⟨b', off', cap', h, hc, hb, hl⟩
  · cases h
  · cases h
    rw [Nat.add_assoc]
    exact hl (i * k + j) u (by rw [flat_get hk l i hi j hj]; exact hu)
theorem Sl.take {b off n cap : Nat} (h : Sl enc w (.slice (some ⟨b, off, none⟩) n cap) l) (hk : ∀ x, (enc x).length = k) (m : Nat) (hm : m ≤ n) : Sl enc w (.slice (some ⟨b, off, none⟩) m cap) (l.take m) := by
  have hs := h.size
  rcases h with ⟨h, _⟩ | ⟨b', off', cap', h, hc, hb, hl⟩
  · cases h
  · cases h
    refine .inr ⟨b, off, cap, by rw [List.length_take, Nat.min_eq_left (by omega)], by rw [List.length_take]; omega, hb, ?_⟩
    rw [flat_take hk]
    exact hl.take _
theorem Sl.drop {b off n cap c : Nat} (h : Sl enc w (.slice (some ⟨b, off, none⟩) n cap) l) (hk : ∀ x, (enc x).length = k) (m : Nat) (hm : m ≤ n) (hc : n - m ≤ c) : Sl enc w (.slice (some ⟨b, off + m * k, none⟩) (n - m) c) (l.drop m) := by
  have hs := h.size
  rcases h with ⟨h, _⟩ | ⟨b', off', cap', h, hc', hb, hl⟩
  · cases h
  · cases h
    refine .inr ⟨b, off + m * k, c, by rw [List.length_drop], by rw [List.length_drop]; exact hc, hb, ?_⟩
    rw [flat_drop hk]
    exact hl.drop _

/-- `s[m:]`, wherever it begins. -/
theorem Sl.slice_from {P : Program} {t e : TypeId} (ht : P.underlying t = some (.slice e)) (hs : (P.info? e).map (·.size) = some k) {b off n cap : Nat} (h : Sl enc w (.slice (some ⟨b, off, none⟩) n cap) l) (hk : ∀ x, (enc x).length = k) (hc : n ≤ cap) (m : Nat) (hm : m ≤ n) :
    ∃ o1 n1 c1, (∀ w, (Instr.slice t (.slice (some ⟨b, off, none⟩) n cap) (some (.int .i64 (m : Int))) none none).run P w = .ok (.slice (some ⟨b, o1, none⟩) n1 c1) w) ∧ Sl enc w (.slice (some ⟨b, o1, none⟩) n1 c1) (l.drop m) := by
  refine ⟨_, _, _, run_slice_from ht hs b off n cap m hm, ?_⟩
  by_cases e : cap = m
  · subst e
    obtain rfl : n = cap := by omega
    have hl := h.size
    rcases h with ⟨h, _⟩ | ⟨b', off', cap', h, hc', hb, hl'⟩
    · cases h
    · cases h
      refine .inr ⟨b, off, 0, by simp, by simp, hb, fun j v hj => ?_⟩
      simp at hj
  · rw [if_neg e]
    exact h.drop hk m hm (by omega)

/-- What a row of the call's own reads as. -/
theorem sl_of_own {base : Nat} {e : TypeId} (hk : ∀ x, (enc x).length = k) (h : w.ownsRow base e k v l.length (l.flatMap enc)) : Sl enc w v l ∧ ∀ b, sliceBlock v = some b → base ≤ b := by
  rcases h.2 with ⟨rfl, h0⟩ | ⟨g, cap', cur, rfl, hg, hheap, hn, hm, hs, htake⟩
  · exact ⟨.inl ⟨rfl, List.eq_nil_of_length_eq_zero h0⟩, fun b hb => by cases hb⟩
  · refine ⟨.inr ⟨g, 0, cap', rfl, hn, lt_of_heap hheap, fun j u hj => ?_⟩, fun b hb => by cases hb; exact hg⟩
    rw [cell_of hheap, Nat.zero_add]
    have hlt : j < l.length * k := by
      have := (List.getElem?_eq_some_iff.1 hj).1
      rw [flat_length hk] at this; exact this
    rw [← htake, List.getElem?_take, if_pos hlt] at hj
    simpa using hj

theorem own_grow {base : Nat} {e : TypeId} {n : Nat} {xs : List Value} (h : w.ownsRow base e k v n xs) (hu : Upd (fun _ => False) w w') : w'.ownsRow base e k v n xs :=
  h.kept (row := none) ⟨hu.os, hu.tape, hu.output, hu.size, fun k hk _ => hu.block k hk (fun x => x)⟩ (by cases h : v.ownBlock <;> simp)
theorem own_upd' {base : Nat} {e : TypeId} {n : Nat} {xs : List Value} {S : Nat → Prop} (h : w.ownsRow base e k v n xs) (hu : Upd S w w') (hn : ∀ b, sliceBlock v = some b → ¬ S b) : w'.ownsRow base e k v n xs := by
  refine ⟨h.1, ?_⟩
  rcases h.2 with h2 | ⟨g, cap, cur, rfl, hg, hh, r⟩
  · exact .inl h2
  · exact .inr ⟨g, cap, cur, rfl, hg, hu.heap hh (hn g rfl), r⟩

theorem sl_cells {b off n cap : Nat} (h : Sl enc w (.slice (some ⟨b, off, none⟩) n cap) l) : ∀ j u, (l.flatMap enc)[j]? = some u → w.cell? ((⟨b, off, none⟩ : Addr).add j) = some u := by
  rcases h with ⟨h, _⟩ | ⟨b', off', cap', h, hc', hb, hl⟩
  · cases h
  · cases h
    intro j u hj
    rw [show (⟨b, off, none⟩ : Addr).add j = ⟨b, off + j, none⟩ from Addr.add_lit b off j]
    exact hl j u hj

/-- `append(x, y...)` onto a row of the call's own. -/
theorem run_append_sl {P : Program} {t e : TypeId} {z : Value} {bytes : Nat} (ht : P.underlying t = some (.slice e)) (hi : (P.info? e).map (fun i => (i.zero, i.size, i.bytes)) = some (some z, k, bytes)) (hz : z.cells.size = k) (hk0 : 0 < k)
    (hk : ∀ x, (enc x).length = k) (h1 : ∀ x, ∀ u ∈ enc x, u.oneCell' = true)
    {base : Nat} {l2 : List α} (hown : w.ownsRow base e k v l.length (l.flatMap enc)) {b off n cap : Nat} (h2 : Sl enc w (.slice (some ⟨b, off, none⟩) n cap) l2) (hbase : base ≤ w.heap.size)
    (hm : l.length + l2.length ≤ maxLen) (hb : (l.length + l2.length) * bytes ≤ 140737488355328) :
    ∃ v' w', (∀ ty, (Builtin.append_ #[t, t] ty #[v, .slice (some ⟨b, off, none⟩) n cap]).run P w = .ok v' w') ∧ w'.ownsRow base e k v' (l ++ l2).length ((l ++ l2).flatMap enc) ∧ w.grownBy w' v.ownBlock ∧ (v' = .slice none 0 0 ↔ v = .slice none 0 0 ∧ l2 = []) := by
  obtain ⟨i0, hi0, hz0, hz1, hz2⟩ := info_parts hi
  have hn := h2.size
  subst hn
  obtain ⟨v', w', hr, h3, h4, h5⟩ := run_append_own (P := P) w base t 0 e i0 z k bytes ht hi0 hz0 hz1 hz2 hz hk0 v l.length (l.flatMap enc) hown ⟨b, off, none⟩ l2.length cap (l2.flatMap enc) (flat_length hk l2) (sl_cells h2)
    (fun u hu => by obtain ⟨x, _, hx⟩ := List.mem_flatMap.1 hu; exact h1 x u hx) hm hb hbase
  exact ⟨v', w', fun _ => hr, by rw [List.length_append, List.flatMap_append]; exact h3, h4, by rw [h5, List.length_eq_zero_iff]⟩

/-- .. of a nil slice. -/
theorem run_append_nil' {P : Program} {t e : TypeId} {z : Value} {bytes : Nat} (ht : P.underlying t = some (.slice e)) (hi : (P.info? e).map (fun i => (i.zero, i.size, i.bytes)) = some (some z, k, bytes)) (a : Option Addr) (n cap : Nat) (hc : n ≤ cap) :
    ∀ ty, (Builtin.append_ #[t, t] ty #[.slice a n cap, .slice none 0 0]).run P w = .ok (.slice a n cap) w := by
  obtain ⟨i0, hi0, hz0, hz1, hz2⟩ := info_parts hi
  intro ty
  cases a <;> simp [Builtin.append_, run_underlying ht, sizeOf, typeInfo, hi0, Builtin.lenOf, Builtin.firstCells, loadCells, hc, Result.andThen, storeCells]
end

/-- One element: what `append(x, y)` is handed. -/
theorem sl_one {α : Type} {enc : α → List Value} {w : World} {g : Nat} {t : TypeId} {x : α} (h : w.heap[g]? = some (.cells (enc x).toArray t (0, 0))) : Sl enc w (.slice (some ⟨g, 0, none⟩) 1 1) [x] :=
  .inr ⟨g, 0, 1, rfl, by simp, lt_of_heap h, fun j u hj => by rw [cell_of h, Nat.zero_add]; simpa using hj⟩

end Go.Tb
