/-
  LeaseDue: leases that are due are taken away (no program in sight).
-/
import Derived.Test.YtcbngjlgcgcljaaLeaseI
namespace Go.Proofs.Ytcbngjlgcgcljaa
open Go.RowKit Go.Tb Go.MapKept Go.ChangeMaps Go.Lib
set_option linter.unusedVariables false

/-- Each deadline is the granted time (all were granted at 0). -/
def AtZero (L : LS) : Prop := ∀ i x, L.l i = some x → x.2 = x.1

theorem later_zero {t : Int} (h : t ≤ topT) : laterI 0 t = t := by unfold laterI; rw [if_neg (by omega)]; omega

theorem grants_keep : ∀ (ls : List (Int × Int)) (L : LS), L.now = 0 → AtZero L → NoKeys L → (∀ y ∈ ls, firstOk y) → AtZero (grants L ls).1 ∧ NoKeys (grants L ls).1 ∧ (grants L ls).1.now = 0
  | [], L, h0, h1, h2, _ => ⟨h1, h2, h0⟩
  | y :: r, L, h0, h1, h2, h3 => by
    unfold grants
    split
    · refine grants_keep r (L.granted y.1 y.2) h0 ?_ h2 (fun z hz => h3 z (.tail _ hz))
      intro i x hx
      have hx' : (if i = L.gid y.1 then some (y.2, laterI L.now y.2) else L.l i) = some x := hx
      by_cases e : i = L.gid y.1
      · rw [if_pos e, h0, later_zero (h3 y (.head _)).2.2.2] at hx'
        cases hx'
        rfl
      · rw [if_neg e] at hx'
        exact h1 i x hx'
    · exact ⟨h1, h2, h0⟩

/-- Some leases are gone. -/
def LS.without (L : LS) (ds : List Int) : LS := { L with l := fun i => if i ∈ ds then none else L.l i, n := L.n - ds.length }
theorem without_step (L : LS) (ds : List Int) (id : Int) : (L.without ds).revoked id = L.without (ds ++ [id]) := by
  unfold LS.revoked LS.without
  simp only
  congr 1
  · funext i
    by_cases e : i = id
    · simp [e]
    · simp [e]
  · simp; omega
theorem without_nil (L : LS) : L.without [] = L := by unfold LS.without; simp
theorem without_get {L : LS} {ds : List Int} {i : Int} (h : i ∉ ds) : (L.without ds).l i = L.l i := if_neg h
theorem LOk.without {L : LS} (h : LOk L) (ds : List Int) : LOk (L.without ds) :=
  { h with
    ids := fun i x hx => by
      have hx' : (if i ∈ ds then none else L.l i) = some x := hx
      by_cases e : i ∈ ds
      · rw [if_pos e] at hx'; cases hx'
      · rw [if_neg e] at hx'; exact h.ids i x hx'
    few := by have := h.few; show L.n - ds.length ≤ 64; omega }

/-- The deadlines never fall. -/
theorem due_rises {L : LS} {l : List Int} (h : l.Pairwise (fun x y => ¬ L.cmp y x < 0)) {i j : Nat} (hij : i < j) (hj : j < l.length) : L.due (l[i]'(by omega)) ≤ L.due l[j] := by
  have := List.pairwise_iff_getElem.1 h i j (by omega) hj hij
  rw [cmpL_neg] at this
  omega
end Go.Proofs.Ytcbngjlgcgcljaa
