/-
  The leases that a law is handed.
-/
import Derived.Test.YtcbngjlgcgcljaaGreatLeaseF
import Derived.Test.YtcbngjlgcgcljaaGreatRowLib
import Derived.Lib.AtoiErrMem
import Derived.ChangeSame
namespace Go.Proofs.YtcbngjlgcgcljaaGreat
open Go.ChangeShapes Go.WideShapes Go.ChangeAt Go.RowKit Go.Tb Go.Deep Go.MapKept Go.ChangeMaps
set_option linter.unusedVariables false
theorem has_spot {P : Program} {w : World} {r : Reach} {base : Nat} {a : Addr} {e : TypeId} {n : Nat} (h : w.has P r base a e n) : a.spot = none ∧ a.block < w.heap.size := by
  obtain ⟨_, h1, row, cells, h2, _⟩ := h
  refine ⟨h1, ?_⟩
  unfold World.shape? at h2
  cases hh : w.heap[a.block]? with
  | none => rw [hh] at h2; cases h2
  | some o => exact (Array.getElem?_eq_some_iff.1 hh).1

theorem ok_slice {P : Program} {w : World} {r : Reach} {base : Nat} {t e : TypeId} {a : Addr} {n c : Nat} (ht : P.underlying t = some (.slice e)) (h : Value.okWide P w r base t (.slice (some a) n c)) : a.spot = none ∧ a.block < w.heap.size ∧ n ≤ c := by
  simp only [Value.okWide, ht, Cell.okWide, Cell.ok] at h
  exact ⟨(has_spot h.2.2).1, (has_spot h.2.2).2, h.1⟩

variable {H : Type} {enc : TypeId × Value → H} {w : World} {base : Nat} {held : Bool}

theorem pair_of {α : Type} {l : List α} (h : l.length = 2) : ∃ a b, l = [a, b] := by
  match l, h with
  | [a, b], _ => exact ⟨a, b, rfl⟩
theorem cellsLease : Tryz.prog.cellsOf 41 = 2 := by kernel_rfl
theorem cellsI64 : Tryz.prog.cellsOf 2 = 1 := by kernel_rfl

set_option maxRecDepth 100000 in
theorem open_leases {r : Reach} {b0 : Nat} {v : Value} {d : DataW H} {ps : List MemPlace} (hval : Value.okWide Tryz.prog w r b0 47 v)
    (h : DataW.Trod enc Tryz.prog w base (fun _ => true) held 47 v d ps) : ∃ (a : Option Addr) (c : Nat) (l : List (Int × Int)), v = .slice a l.length c ∧ Sl lenc w v l ∧ l.length ≤ 9223372036854775807 := by
  obtain ⟨a, len, cap, rfl⟩ := okWide_slice Tryz.underlying47 hval
  obtain ⟨fuel, hf⟩ := h
  rcases open_slice Tryz.underlying47 hf with ⟨hcs, _⟩ | ⟨a', len', cap', m, n, D, Pl, hcs, _, hl, hm, hmm, _, hx⟩
  · simp [Value.cells] at hcs
    obtain ⟨rfl, rfl, rfl⟩ := hcs
    exact ⟨none, 0, [], rfl, .inl ⟨rfl, rfl⟩, by simp⟩
  · simp [Value.cells] at hcs
    obtain ⟨rfl, rfl, rfl⟩ := hcs
    have hle : len ≤ m := by rw [hmm]; split <;> omega
    obtain ⟨hs, hb, _⟩ := ok_slice Tryz.underlying47 hval
    rw [cellsLease] at hx
    have each : ∀ i, i < len → ∃ p : Int × Int, ∀ j u, (lenc p)[j]? = some u → w.cell? ⟨a'.block, a'.off + i * 2 + j, none⟩ = some u := by
      intro i hi
      obtain ⟨cs', h1, h2⟩ := hx i (by omega)
      obtain ⟨y0, y1, n', _, hcl, t0, t1⟩ := Go.ChangeShapes.trod_struct2 Tryz.underlying41 h2
      rw [cellsLease] at hcl
      obtain ⟨c0, c1, rfl⟩ := pair_of hcl
      · simp only [cellsI64, List.drop_zero, List.drop_succ_cons, List.take_succ_cons, List.take_zero] at t0 t1
        obtain ⟨k0, e0, _, _⟩ := DataW.trod_int Tryz.underlying2 t0
        obtain ⟨k1, e1, _, _⟩ := DataW.trod_int Tryz.underlying2 t1
        simp only [List.cons.injEq, and_true] at e0 e1
        subst e0 e1
        have hc := cells_at h1 (by decide) hs
        refine ⟨(k0, k1), fun j u hj => ?_⟩
        obtain ⟨hj1, hj2⟩ := List.getElem?_eq_some_iff.1 hj
        rw [hc j hj1]
        exact congrArg some hj2
    obtain ⟨f, hf'⟩ := choose_lt (α := Int × Int) (n := len) each
    obtain ⟨b, o, s⟩ := a'
    cases hs
    have hlen : ((List.range len).map f).length = len := by simp
    refine ⟨some ⟨b, o, none⟩, cap, (List.range len).map f, by rw [hlen], .inr ⟨b, o, cap, by rw [hlen], by rw [hlen]; exact hl, hb, fun j u hj => ?_⟩, by rw [hlen]; unfold maxLen at hm; omega⟩
    have hjl : j < ((List.range len).map f).length * 2 := by rw [← flat_length lenc_length]; exact (List.getElem?_eq_some_iff.1 hj).1
    rw [hlen] at hjl
    have hq : j / 2 < len := by omega
    have hr : j % 2 < 2 := by omega
    have e : j = j / 2 * 2 + j % 2 := by omega
    rw [e] at hj
    rw [flat_get lenc_length _ (j / 2) (by rw [hlen]; exact hq) (j % 2) hr] at hj
    have := hf' (j / 2) hq (j % 2) u (by simpa using hj)
    rw [e, ← Nat.add_assoc]; exact this

end Go.Proofs.YtcbngjlgcgcljaaGreat
