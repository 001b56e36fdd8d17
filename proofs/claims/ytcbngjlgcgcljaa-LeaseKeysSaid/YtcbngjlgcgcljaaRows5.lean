/-
  Appends: where the new row lies (no program in sight).
-/
import Derived.Test.YtcbngjlgcgcljaaRows4
import Derived.Maps.AppendAt
namespace Go.Tb
open Go.RowKit Go.MapKept Go.ChangeMaps
set_option linter.unusedVariables false
section
variable {α : Type} {enc : α → List Value} {w w' : World} {v : Value} {l : List α} {k : Nat}

/-- `append(x, y)` of one element that lies in a block of its own, onto a row of the call's own. -/
theorem run_append_one {P : Program} {t e : TypeId} {z : Value} {bytes : Nat} (ht : P.underlying t = some (.slice e)) (hi : (P.info? e).map (fun i => (i.zero, i.size, i.bytes)) = some (some z, k, bytes)) (hz : z.cells.size = k) (hk0 : 0 < k)
    (hk : ∀ x, (enc x).length = k) (h1 : ∀ x, ∀ u ∈ enc x, u.oneCell' = true)
    {base : Nat} (x : α) (hown : w.ownsRow base e k v l.length (l.flatMap enc)) {g : Nat} {te : TypeId} (h2 : w.heap[g]? = some (.cells (enc x).toArray te (0, 0))) (hbase : base ≤ w.heap.size)
    (hm : l.length + 1 ≤ maxLen) (hb : (l.length + 1) * bytes ≤ 140737488355328) :
    ∃ a c w', (∀ ty, (Builtin.append_ #[t, t] ty #[v, .slice (some ⟨g, 0, none⟩) 1 1]).run P w = .ok (.slice a (l.length + 1) c) w') ∧ w'.ownsRow base e k (.slice a (l.length + 1) c) (l ++ [x]).length ((l ++ [x]).flatMap enc) ∧ Upd (fun b => sliceBlock v = some b) w w' ∧
      (sliceBlock (.slice a (l.length + 1) c) = sliceBlock v ∨ sliceBlock (.slice a (l.length + 1) c) = some w.heap.size) := by
  obtain ⟨i0, hi0, hz0, hz1, hz2⟩ := info_parts hi
  obtain ⟨v', w', hr, h3, h4, h5, h6⟩ := run_append_own_at (P := P) (w := w) base t 0 e i0 z k bytes ht hi0 hz0 hz1 hz2 hz hk0 v l.length (l.flatMap enc) hown ⟨g, 0, none⟩ 1 1 (enc x) (by rw [hk, Nat.one_mul])
    (fun j u hj => by rw [show (⟨g, 0, none⟩ : Addr).add j = ⟨g, 0 + j, none⟩ from Addr.add_lit g 0 j, cell_of h2, Nat.zero_add]; simpa using hj) (h1 x) hm hb hbase
  have ho : w'.ownsRow base e k v' (l ++ [x]).length ((l ++ [x]).flatMap enc) := by
    rw [List.length_append, List.flatMap_append]
    simpa using h3
  obtain ⟨a, c, hv, _⟩ := (sl_of_own hk ho).1.shape
  rw [List.length_append] at hv
  subst hv
  exact ⟨a, c, w', fun ty => hr, ho, (Upd.ofGrown h4).mono (fun b _ e => e.symm), h6⟩
end

theorem own_shape {w : World} {base : Nat} {e : TypeId} {k n : Nat} {v : Value} {xs : List Value} (h : w.ownsRow base e k v n xs) : ∃ a c, v = .slice a n c ∧ n ≤ c := by
  rcases h.2 with ⟨rfl, h0⟩ | ⟨g, cap, cur, rfl, _, _, hn, _⟩
  · exact ⟨none, 0, by rw [h0], by omega⟩
  · exact ⟨_, _, rfl, hn⟩
theorem own_ge {w : World} {base : Nat} {e : TypeId} {k n : Nat} {v : Value} {xs : List Value} (h : w.ownsRow base e k v n xs) : ∀ b, sliceBlock v = some b → base ≤ b ∧ b < w.heap.size := by
  rcases h.2 with ⟨rfl, h0⟩ | ⟨g, cap, cur, rfl, hg, hh, _⟩
  · exact fun b hb => by cases hb
  · exact fun b hb => by cases hb; exact ⟨hg, lt_of_heap hh⟩

end Go.Tb
