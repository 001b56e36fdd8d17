/-
  The document's New.
-/
import Derived.Test.YtdobijomdgepjaaRefD
import Derived.Laws.MakeOwn
namespace Go.Proofs.Ytdobijomdgepjaa
open Go.RowKit Go.Tb Go.MapKept Go.ChangeMaps
set_option linter.unusedVariables false

/-- Of each page, whether it is told. -/
def markOf (n : Nat) (l : List Int) : List Int := (List.range n).map fun (i : Nat) => if (i : Int) ∈ l then 1 else 0
theorem markOf_length (n : Nat) (l : List Int) : (markOf n l).length = n := by simp [markOf]
theorem markOf_get (n : Nat) (l : List Int) (i : Nat) (h : i < n) : (markOf n l)[i]'(by rw [markOf_length]; exact h) = if (i : Int) ∈ l then 1 else 0 := by simp [markOf]
theorem markOf_nil (n : Nat) : markOf n [] = List.replicate n 0 := by
  apply List.ext_getElem (by simp [markOf])
  intro i h1 h2; simp [markOf]
theorem markOf_snoc (n : Nat) (l : List Int) (x : Nat) : markOf n (l ++ [(x : Int)]) = (markOf n l).set x 1 := by
  apply List.ext_getElem (by simp [markOf])
  intro i h1 h2
  have hi : i < n := by rw [markOf_length] at h1; exact h1
  rw [markOf_get n _ i hi]
  by_cases e : i = x
  · subst e; simp
  · rw [List.getElem_set_ne (fun q => e q.symm), markOf_get n l i hi]
    have : (i : Int) ≠ (x : Int) := by omega
    simp [this]
theorem markOf_signs {n : Nat} {l : List Int} {L : LS} (hs : L.size = (n : Int)) (hh : L.held = []) (hp : L.spare.Perm l) : markOf n l = signs L := by
  unfold markOf signs
  rw [hs, Int.toNat_natCast]
  refine List.map_congr_left (fun i _ => ?_)
  unfold signOf
  rw [hh]
  by_cases h : (i : Int) ∈ l
  · rw [if_pos h, if_pos (hp.mem_iff.2 h)]
  · rw [if_neg h, if_neg (fun q => h (hp.mem_iff.1 q))]; simp

/-- What the document's New says. -/
def RNewSays (n : Nat) (l : List Int) (w : World) (e : Ending) (w' : World) : Prop :=
  ((∃ x ∈ l, ¬ (2 ≤ x ∧ x < (n : Int))) ∧ e = .returned (.tuple #[.pointer none, .int .i64 2])) ∨
  ((∀ x ∈ l, 2 ≤ x ∧ x < (n : Int)) ∧ ¬ l.Nodup ∧ e = .returned (.tuple #[.pointer none, .int .i64 8])) ∨
  ((∀ x ∈ l, 2 ≤ x ∧ x < (n : Int)) ∧ l.Nodup ∧ ∃ b g, e = .returned (.tuple #[.pointer (some ⟨b, 0, none⟩), .int .i64 0]) ∧ IsRef w' b g (markOf n l) ∧ w.heap.size ≤ b ∧ w.heap.size ≤ g)

theorem make_ints (n : Nat) (hn : n ≤ 1024) (w : World) : (Instr.makeSlice 22 (.int .i64 (n : Int)) (.int .i64 (n : Int))).run Try.prog w = .ok (.slice (some ⟨w.heap.size, 0, none⟩) n n) (w.alloc (.cells ((markOf n []).map (Value.int .i64)).toArray 3)) := by
  obtain ⟨i0, hi0, hz0, hz1, hz8⟩ := info_parts info_int
  have h := run_makeSlice (P := Try.prog) (w := w) 22 3 i0 _ under_ints hi0 hz0 .i64 .i64 (n : Int) (n : Int) (by omega) (by omega) (by rw [hz1]; simp; omega) (by rw [hz8]; omega) (by omega)
  rw [h]
  simp only [Int.toNat_natCast, hz1, Nat.mul_one]
  congr 4
  rw [markOf_nil]
  apply Array.ext'
  simp [madeCells, Value.cells]
  apply List.ext_getElem (by simp)
  intro i h1 h2
  simp [Nat.mod_one]

end Go.Proofs.Ytdobijomdgepjaa
