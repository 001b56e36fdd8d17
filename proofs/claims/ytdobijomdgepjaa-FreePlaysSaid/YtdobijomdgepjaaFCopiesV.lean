/-
  FreeCopies: all inputs; the acts that a law is handed.
-/
import Derived.Test.YtdobijomdgepjaaFCopiesW
import Derived.Test.YtdobijomdgepjaaIntsOpen
namespace Go.Proofs.Ytdobijomdgepjaa
open Go.RowKit Go.Tb Go.MapKept Go.ChangeMaps Go.ChangeShapes Go.WideShapes Go.ChangeAt Go.Deep
set_option linter.unusedVariables false

set_option maxRecDepth 100000 in
set_option maxHeartbeats 1000000 in
theorem fcopies_walk (a1 a2 a3 : Option Addr) (c1 c2 c3 : Nat) (l : List Int) (l1 l2 : List FAct) (w : World) (hl : IntsOf w a1 l) (h1 : FActsOf w a2 l1) (h2 : FActsOf w a3 l2) :
    Calls Try.prog 7 #[.slice a1 l.length c1, .slice a2 l1.length c2, .slice a3 l2.length c3] w fun e w' => e = .returned (.bool true) ∧ Upd (fun _ => False) w w' := by
  by_cases hb0 : l.length ≤ 1100
  · by_cases hb1 : l1.length ≤ 80
    · by_cases hb2 : l2.length ≤ 80
      · by_cases hok : (∀ x ∈ l, 2 ≤ x ∧ x < 64) ∧ l.Nodup
        · exact fcopies_ok a1 a2 a3 c1 c2 c3 l l1 l2 w hl h1 h2 hb0 hb1 hb2 hok
        · have hnew := fun w1 (hu : Upd (fun _ => False) w w1) => new_no 64 a1 c1 l w1 (fun i hi => by obtain ⟨b, off, h1, h2⟩ := hl i hi; exact ⟨b, off, h1, hu.cell h2 (fun x => x)⟩) (by omega) (by decide) (by decide) hok
          have hne := newNo_ne 64 l
          generalize newNo 64 l = n at *
          clear hok hl h1 h2
          go_enter Try.func7, Try.ntmps7
          go_wp2_with (first
            | (go_at_call 8; refine (lives_calls w).mono ?_; rintro e w1 ⟨rfl, hu1⟩)
            | (go_at_call 9; refine (hnew w1 hu1).mono ?_; rintro e w2 ⟨rfl, hu2⟩))
          go_ret
          exact ⟨rfl, hu1.trans hu2⟩
      · clear hl h1 h2
        go_enter Try.func7, Try.ntmps7
        go_wp2_with (first
          | (go_at_call 8; with_reducible refine (lives_calls w).mono ?_; rintro e w1 ⟨rfl, hu1⟩)
          | (go_at_call 8; with_reducible refine (lives_calls w1).mono ?_; rintro e w2 ⟨rfl, hu2⟩))
        go_ret
        exact ⟨rfl, hu1.trans hu2⟩
    · clear hl h1 h2
      go_enter Try.func7, Try.ntmps7
      go_wp2_with (first
        | (go_at_call 8; with_reducible refine (lives_calls w).mono ?_; rintro e w1 ⟨rfl, hu1⟩)
        | (go_at_call 8; with_reducible refine (lives_calls w1).mono ?_; rintro e w2 ⟨rfl, hu2⟩))
      go_ret
      exact ⟨rfl, hu1.trans hu2⟩
  · clear hl h1 h2
    go_enter Try.func7, Try.ntmps7
    go_wp2_with (first
      | (go_at_call 8; with_reducible refine (lives_calls w).mono ?_; rintro e w1 ⟨rfl, hu1⟩)
      | (go_at_call 8; with_reducible refine (lives_calls w1).mono ?_; rintro e w2 ⟨rfl, hu2⟩))
    go_ret
    exact ⟨rfl, hu1.trans hu2⟩

instance : Inhabited FAct := ⟨⟨0, 0⟩⟩
theorem cellsFAct : Try.prog.cellsOf 40 = 2 := by kernel_rfl

theorem open_facts {H : Type} {enc : TypeId × Value → H} {w : World} {base : Nat} {spare : Nat → Bool} {held : Bool} {v : Value} {d : DataW H} {ps : List MemPlace} {a : Option Addr} {len cap : Nat} (hv : v = .slice a len cap)
    (h : DataW.Trod enc Try.prog w base spare held 37 v d ps) : ∃ l : List FAct, l.length = len ∧ FActsOf w a l ∧ len ≤ 9223372036854775807 := by
  subst hv
  obtain ⟨fuel, hf⟩ := h
  rcases open_slice Try.underlying37 hf with ⟨hcs, _⟩ | ⟨a', len', cap', m, n, D, Pl, hcs, _, hl, hm, hmm, _, hx⟩
  · simp [Value.cells] at hcs
    obtain ⟨rfl, rfl, rfl⟩ := hcs
    exact ⟨[], rfl, fun i hi => absurd hi (Nat.not_lt_zero _), by decide⟩
  · simp [Value.cells] at hcs
    obtain ⟨rfl, rfl, rfl⟩ := hcs
    have hle : len ≤ m := by rw [hmm]; split <;> omega
    rw [cellsFAct] at hx
    have each : ∀ i, i < len → ∃ x : FAct, a'.spot = none → w.cell? ⟨a'.block, a'.off + i * 2, none⟩ = some (.int .i64 x.kind) ∧ w.cell? ⟨a'.block, a'.off + i * 2 + 1, none⟩ = some (.int .i64 x.id) := by
      intro i hi
      obtain ⟨cs', h1, h2⟩ := hx i (by omega)
      obtain ⟨y0, y1, n', _, hcl, t0, t1⟩ := Go.ChangeShapes.trod_struct2 Try.underlying40 h2
      rw [cellsFAct] at hcl
      obtain ⟨c0, c1, rfl⟩ := len2 hcl
      simp only [cellsInt, List.drop_zero, List.drop_succ_cons, List.take_succ_cons, List.take_zero] at t0 t1
      obtain ⟨k, e0, _, _⟩ := DataW.trod_int Try.underlying3 t0
      obtain ⟨p, e1, _, _⟩ := DataW.trod_int Try.underlying3 t1
      simp only [List.cons.injEq, and_true] at e0 e1
      subst e0 e1
      refine ⟨⟨k, p⟩, fun hs => ?_⟩
      have hc := cells_at h1 (by decide) hs
      exact ⟨hc 0 (by simp), hc 1 (by simp)⟩
    obtain ⟨f, hf'⟩ := choose_lt (α := FAct) (n := len) each
    refine ⟨(List.range len).map f, by simp, fun i hi => ?_, by unfold maxLen at hm; omega⟩
    simp at hi
    have hs : a'.spot = none := by
      obtain ⟨cs', h1, _⟩ := hx 0 (by omega)
      exact cells_spot h1 (by decide) (by omega)
    obtain ⟨q1, q2⟩ := hf' i hi hs
    refine ⟨a'.block, a'.off, ?_, ?_⟩
    · obtain ⟨b, o, s⟩ := a'
      cases hs; rfl
    · simpa using ⟨q1, q2⟩

end Go.Proofs.Ytdobijomdgepjaa
