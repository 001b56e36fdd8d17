/-
  Rows that are cut and written over (no program in sight).
-/
import Derived.Test.YtidpiojanajpoaaBase
namespace Go.Tb
open Go.RowKit Go.MapKept Go.ChangeMaps
set_option linter.unusedVariables false

theorem block_len (a : Option Addr) (n n' c c' : Nat) : sliceBlock (.slice a n c) = sliceBlock (.slice a n' c') := by
  cases a <;> rfl
theorem own_take {w : World} {base : Nat} {e : TypeId} {k n c m : Nat} {a : Option Addr} {xs : List Value} (h : w.ownsRow base e k (.slice a n c) n xs) (hm : m ≤ n) : w.ownsRow base e k (.slice a m c) m (xs.take (m * k)) := by
  obtain ⟨h1, h2⟩ := h
  have hmk : m * k ≤ n * k := Nat.mul_le_mul_right k hm
  refine ⟨by rw [List.length_take, h1]; omega, ?_⟩
  rcases h2 with ⟨hv, h0⟩ | ⟨g, cap, cur, hv, hg, hh, hnc, hmx, hs, ht⟩
  · cases hv
    obtain rfl : m = 0 := by omega
    exact .inl ⟨rfl, rfl⟩
  · cases hv
    refine .inr ⟨g, c, cur, rfl, hg, hh, by omega, hmx, hs, ?_⟩
    rw [← ht, List.take_take, Nat.min_eq_left hmk]

theorem own_block {w : World} {base : Nat} {e : TypeId} {k n c : Nat} {a : Option Addr} {xs : List Value} (h : w.ownsRow base e k (.slice a n c) n xs) (i : Nat) (hi : i < n * k) : ∃ g, a = some ⟨g, 0, none⟩ ∧ base ≤ g ∧ w.cell? ⟨g, i, none⟩ = xs[i]? ∧ w.frozen? ⟨g, i, none⟩ = false := by
  obtain ⟨h1, h2⟩ := h
  rcases h2 with ⟨hv, h0⟩ | ⟨g, cap, cur, hv, hg, hh, hnc, hmx, hs, ht⟩
  · subst h0; simp at hi
  · cases hv
    refine ⟨g, rfl, hg, ?_, free_of hh i⟩
    rw [cell_of hh, ← ht, List.getElem?_take, if_pos hi]
    simp
theorem own_set {w : World} {base : Nat} {e : TypeId} {k n c g : Nat} {xs : List Value} (h : w.ownsRow base e k (.slice (some ⟨g, 0, none⟩) n c) n xs) (i : Nat) (u : Value) : (w.setCell ⟨g, i, none⟩ u).ownsRow base e k (.slice (some ⟨g, 0, none⟩) n c) n (xs.set i u) := by
  obtain ⟨h1, h2⟩ := h
  refine ⟨by rw [List.length_set]; exact h1, ?_⟩
  rcases h2 with ⟨hv, h0⟩ | ⟨g', cap, cur, hv, hg, hh, hnc, hmx, hs, ht⟩
  · cases hv
  · cases hv
    refine .inr ⟨g, c, cur.setIfInBounds i u, rfl, hg, heap_setCell_at hh i u, hnc, hmx, by simpa using hs, ?_⟩
    rw [← ht]
    simp [List.take_set]

theorem flat_set {α : Type} {enc : α → List Value} {k : Nat} (hk : ∀ x, (enc x).length = k) (l : List α) (i j : Nat) (hi : i < l.length) (hj : j < k) (x : α) (u : Value) (hx : enc x = (enc l[i]).set j u) : (l.flatMap enc).set (i * k + j) u = (l.set i x).flatMap enc := by
  have hk0 : 0 < k := by omega
  apply List.ext_getElem?
  intro t
  by_cases ht : t < l.length * k
  · have hq : t / k < l.length := Nat.div_lt_of_lt_mul (by rw [Nat.mul_comm]; exact ht)
    have hr : t % k < k := Nat.mod_lt _ hk0
    have e : t = t / k * k + t % k := by rw [Nat.mul_comm]; exact (Nat.div_add_mod t k).symm
    generalize t / k = a at *
    generalize t % k = b at *
    subst e
    rw [flat_get hk (l.set i x) a (by simpa using hq) b hr]
    by_cases hai : a = i
    · subst hai
      rw [List.getElem_set_self, hx]
      by_cases hbj : b = j
      · subst hbj
        rw [List.getElem?_set_self (by rw [flat_length hk]; exact ht), List.getElem?_set_self (by rw [hk]; exact hr)]
      · rw [List.getElem?_set_ne (by omega), List.getElem?_set_ne (by omega), flat_get hk l a hq b hr]
    · rw [List.getElem_set_ne (fun q => hai q.symm), List.getElem?_set_ne (fun q => ?_), flat_get hk l a hq b hr]
      have h1 : i * k + j < (i + 1) * k := by rw [Nat.succ_mul]; omega
      have h2 : a * k + b < (a + 1) * k := by rw [Nat.succ_mul]; omega
      rcases Nat.lt_or_gt_of_ne hai with h | h
      · have : (a + 1) * k ≤ i * k := Nat.mul_le_mul_right k h
        omega
      · have : (i + 1) * k ≤ a * k := Nat.mul_le_mul_right k h
        omega
  · rw [List.getElem?_eq_none (by rw [List.length_set, flat_length hk]; omega), List.getElem?_eq_none (by rw [flat_length hk, List.length_set]; omega)]

end Go.Tb
