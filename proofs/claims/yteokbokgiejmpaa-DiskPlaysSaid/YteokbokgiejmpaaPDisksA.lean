/-
  The acts that a law of the disk is handed.
-/
import Derived.Test.YteokbokgiejmpaaPDiskL
import Derived.Test.YteokbokgiejmpaaRowLib
namespace Go.Proofs.Yteokbokgiejmpaa
open Go.ChangeShapes Go.WideShapes Go.ChangeAt Go.RowKit Go.Tb Go.Deep
set_option linter.unusedVariables false

theorem cellsAct : Try.prog.cellsOf 33 = 4 := by kernel_rfl
theorem cellsInt : Try.prog.cellsOf 3 = 1 := by kernel_rfl
theorem cellsU8 : Try.prog.cellsOf 5 = 1 := by kernel_rfl

theorem open_acts {H : Type} {enc : TypeId × Value → H} {w : World} {base : Nat} {spare : Nat → Bool} {held : Bool} {v : Value} {d : DataW H} {ps : List MemPlace} {a : Option Addr} {len cap : Nat} (hv : v = .slice a len cap)
    (h : DataW.Trod enc Try.prog w base spare held 22 v d ps) : ∃ l : List ActV, l.length = len ∧ ActsOf w a l ∧ len ≤ 9223372036854775807 := by
  subst hv
  obtain ⟨fuel, hf⟩ := h
  rcases open_slice Try.underlying22 hf with ⟨hcs, _⟩ | ⟨a', len', cap', m, n, D, Pl, hcs, _, hl, hm, hmm, _, hx⟩
  · simp [Value.cells] at hcs
    obtain ⟨rfl, rfl, rfl⟩ := hcs
    exact ⟨[], rfl, fun i hi => absurd hi (Nat.not_lt_zero _), by decide⟩
  · simp [Value.cells] at hcs
    obtain ⟨rfl, rfl, rfl⟩ := hcs
    have hle : len ≤ m := by rw [hmm]; split <;> omega
    rw [cellsAct] at hx
    have each : ∀ i, i < len → ∃ x : ActV, a'.spot = none → x.n ≤ 9223372036854775807 ∧ w.cell? ⟨a'.block, a'.off + i * 4, none⟩ = some (.int .i64 x.kind) ∧ w.cell? ⟨a'.block, a'.off + i * 4 + 1, none⟩ = some (.int .i64 x.page) ∧ w.cell? ⟨a'.block, a'.off + i * 4 + 2, none⟩ = some (.int .i64 x.n) ∧ w.cell? ⟨a'.block, a'.off + i * 4 + 3, none⟩ = some (.int .u8 (x.x.toNat : Int)) := by
      intro i hi
      obtain ⟨cs', h1, h2⟩ := hx i (by omega)
      obtain ⟨y0, y1, y2, y3, n', _, hcl, t0, t1, t2, t3⟩ := Go.Joins.trod_struct4 Try.underlying33 h2
      rw [cellsAct] at hcl
      obtain ⟨c0, c1, c2, c3, rfl⟩ := len4 hcl
      simp only [cellsInt, cellsU8, List.drop_zero, List.drop_succ_cons, List.take_succ_cons, List.take_zero] at t0 t1 t2 t3
      obtain ⟨k, e0, _, _⟩ := DataW.trod_int Try.underlying3 t0
      obtain ⟨p, e1, _, _⟩ := DataW.trod_int Try.underlying3 t1
      obtain ⟨q, e2, _, w2⟩ := DataW.trod_int Try.underlying3 t2
      obtain ⟨x, e3, _, w3⟩ := DataW.trod_int Try.underlying5 t3
      simp only [List.cons.injEq, and_true] at e0 e1 e2 e3
      subst e0 e1 e2 e3
      obtain ⟨x', rfl⟩ := u8_of w3
      refine ⟨⟨k, p, q, x'⟩, fun hs => ?_⟩
      have hc := cells_at h1 (by decide) hs
      exact ⟨(bounds_i64 w2).2, hc 0 (by simp), hc 1 (by simp), hc 2 (by simp), hc 3 (by simp)⟩
    obtain ⟨f, hf'⟩ := choose_lt (α := ActV) (n := len) each
    refine ⟨(List.range len).map f, by simp, fun i hi => ?_, by unfold maxLen at hm; omega⟩
    simp at hi
    have hs : a'.spot = none := by
      obtain ⟨cs', h1, _⟩ := hx 0 (by omega)
      exact cells_spot h1 (by decide) (by omega)
    obtain ⟨q1, q2⟩ := hf' i hi hs
    refine ⟨a'.block, a'.off, ?_, ?_⟩
    · obtain ⟨b, o, s⟩ := a'
      cases hs; rfl
    · simpa using ⟨q1, q2⟩

end Go.Proofs.Yteokbokgiejmpaa
