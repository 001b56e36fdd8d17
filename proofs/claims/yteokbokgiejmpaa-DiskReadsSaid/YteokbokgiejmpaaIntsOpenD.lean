/-
  The numbers that a law is handed.
-/
import Derived.Test.YteokbokgiejmpaaReadsW
import Derived.Test.YteokbokgiejmpaaDiskActs
import Derived.Test.YteokbokgiejmpaaRowLib
namespace Go.Proofs.Yteokbokgiejmpaa
open Go.ChangeShapes Go.WideShapes Go.ChangeAt Go.RowKit Go.Tb Go.Deep
set_option linter.unusedVariables false


theorem open_ints {H : Type} {enc : TypeId × Value → H} {w : World} {base : Nat} {spare : Nat → Bool} {held : Bool} {v : Value} {d : DataW H} {ps : List MemPlace} {a : Option Addr} {len cap : Nat} (hv : v = .slice a len cap)
    (h : DataW.Trod enc Try.prog w base spare held 51 v d ps) : ∃ l : List Int, l.length = len ∧ IntsOf w a l ∧ len ≤ 9223372036854775807 ∧ len ≤ cap := by
  subst hv
  obtain ⟨fuel, hf⟩ := h
  rcases open_slice Try.underlying51 hf with ⟨hcs, _⟩ | ⟨a', len', cap', m, n, D, Pl, hcs, _, hl, hm, hmm, _, hx⟩
  · simp [Value.cells] at hcs
    obtain ⟨rfl, rfl, rfl⟩ := hcs
    exact ⟨[], rfl, fun i hi => absurd hi (Nat.not_lt_zero _), by decide, Nat.le_refl _⟩
  · simp [Value.cells] at hcs
    obtain ⟨rfl, rfl, rfl⟩ := hcs
    have hle : len ≤ m := by rw [hmm]; split <;> omega
    rw [cellsInt] at hx
    have each : ∀ i, i < len → ∃ x : Int, a'.spot = none → w.cell? ⟨a'.block, a'.off + i, none⟩ = some (.int .i64 x) := by
      intro i hi
      obtain ⟨cs', h1, h2⟩ := hx i (by omega)
      obtain ⟨k, e0, _, _⟩ := DataW.trod_int Try.underlying3 h2
      subst e0
      refine ⟨k, fun hs => ?_⟩
      have hc := cells_at h1 (by decide) hs
      simpa using hc 0 (by simp)
    obtain ⟨f, hf'⟩ := choose_lt (α := Int) (n := len) each
    refine ⟨(List.range len).map f, by simp, fun i hi => ?_, by unfold maxLen at hm; omega, by omega⟩
    simp at hi
    have hs : a'.spot = none := by
      obtain ⟨cs', h1, _⟩ := hx 0 (by omega)
      exact cells_spot h1 (by decide) (by omega)
    refine ⟨a'.block, a'.off, ?_, ?_⟩
    · obtain ⟨b, o, s⟩ := a'
      cases hs; rfl
    · simpa using hf' i hi hs

end Go.Proofs.Yteokbokgiejmpaa
