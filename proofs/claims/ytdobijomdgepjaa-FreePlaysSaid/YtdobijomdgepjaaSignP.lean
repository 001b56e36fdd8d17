/-
  The signs of the pages of a list (no program in sight).
-/
import Derived.Test.YtdobijomdgepjaaFreeF
namespace Go.Proofs.Ytdobijomdgepjaa
set_option linter.unusedVariables false

def signOf (L : LS) (i : Int) : Int := if i ∈ L.spare then 1 else if i ∈ L.held then 2 else 0
/-- Of each page its sign. -/
def signs (L : LS) : List Int := (List.range L.size.toNat).map fun (i : Nat) => signOf L (i : Int)

theorem signs_length (L : LS) : (signs L).length = L.size.toNat := by simp [signs]
theorem signs_get (L : LS) (i : Nat) (h : i < (signs L).length) : (signs L)[i] = signOf L (i : Int) := by simp [signs]

/-- The pages of a sign, as far as one has come. -/
def allTo (L : LS) (s : Int) (k : Nat) : List Int := ((List.range k).filter fun (i : Nat) => signOf L (i : Int) == s).map fun (i : Nat) => (i : Int)
theorem allTo_succ (L : LS) (s : Int) (k : Nat) : allTo L s (k + 1) = if signOf L (k : Int) = s then allTo L s k ++ [(k : Int)] else allTo L s k := by
  unfold allTo
  rw [List.range_succ, List.filter_append, List.map_append]
  by_cases h : signOf L (k : Int) = s <;> simp [h]
theorem mem_allTo {L : LS} {s : Int} {k : Nat} {x : Int} : x ∈ allTo L s k ↔ (0 ≤ x ∧ x < k) ∧ signOf L x = s := by
  unfold allTo
  rw [List.mem_map]
  constructor
  · rintro ⟨i, hi, rfl⟩
    rw [List.mem_filter, List.mem_range] at hi
    exact ⟨⟨by omega, by omega⟩, by simpa using hi.2⟩
  · rintro ⟨⟨h0, h1⟩, h2⟩
    refine ⟨x.toNat, ?_, by omega⟩
    rw [List.mem_filter, List.mem_range]
    refine ⟨by omega, ?_⟩
    rw [show ((x.toNat : Nat) : Int) = x by omega]
    simpa using h2
theorem allTo_sorted (L : LS) (s : Int) (k : Nat) : (allTo L s k).Pairwise (· < ·) := by
  induction k with
  | zero => simp [allTo]
  | succ k ih =>
    rw [allTo_succ]
    split
    · refine List.pairwise_append.2 ⟨ih, by simp, fun a ha b hb => ?_⟩
      rw [List.mem_singleton] at hb
      subst hb
      exact (mem_allTo.1 ha).1.2
    · exact ih
theorem all_spare {L : LS} (h : L.Ok) : allTo L 1 L.size.toNat = L.spare := by
  refine sorted_unique (allTo_sorted _ _ _) h.ss (fun x => ?_)
  rw [mem_allTo]
  unfold signOf
  constructor
  · rintro ⟨_, hs⟩
    by_cases hx : x ∈ L.spare
    · exact hx
    · rw [if_neg hx] at hs
      split at hs <;> cases hs
  · intro hx
    have := h.rs x hx
    have := h.s1
    exact ⟨⟨by omega, by omega⟩, if_pos hx⟩
theorem all_held {L : LS} (h : L.Ok) (hd : Dj L) : allTo L 2 L.size.toNat = L.held := by
  refine sorted_unique (allTo_sorted _ _ _) h.sh (fun x => ?_)
  rw [mem_allTo]
  unfold signOf
  constructor
  · rintro ⟨_, hs⟩
    by_cases hx : x ∈ L.spare
    · rw [if_pos hx] at hs; cases hs
    · rw [if_neg hx] at hs
      by_cases hh : x ∈ L.held
      · exact hh
      · rw [if_neg hh] at hs; cases hs
  · intro hx
    have := h.rh x hx
    have := h.s1
    have hn : x ∉ L.spare := fun q => hd x q hx
    refine ⟨⟨by omega, by omega⟩, ?_⟩
    rw [if_neg hn, if_pos hx]

end Go.Proofs.Ytdobijomdgepjaa
