/-
  The document's lessor: Grant refused.
-/
import Derived.Test.YtcbngjlgcgcljaaGreatRefG
namespace Go.Proofs.YtcbngjlgcgcljaaGreat
open Go.RowKit Go.Tb Go.MapKept Go.ChangeMaps Go.Lib
set_option linter.unusedVariables false

set_option maxRecDepth 100000 in
theorem rgrant_arg (b : Nat) (id ttl : Int) (w : World) (h : id < 0 ∨ topT < id ∨ ttl < 1 ∨ topT < ttl) :
    Calls Tryz.prog 15 #[.pointer (some ⟨b, 0, none⟩), .int .i64 id, .int .i64 ttl] w fun e w' => e = .returned (.tuple #[.int .i64 0, .int .i64 1]) ∧ w = w' := by
  have hc : id < 0 ∨ (0 ≤ id ∧ 4611686018427387904 < id) ∨ (0 ≤ id ∧ id ≤ 4611686018427387904 ∧ ttl < 1) ∨ (0 ≤ id ∧ id ≤ 4611686018427387904 ∧ 1 ≤ ttl ∧ 4611686018427387904 < ttl) := by unfold topT at h; omega
  clear h
  rcases hc with h | ⟨h1, h⟩ | ⟨h1, h2, h⟩ | ⟨h1, h2, h3, h⟩
  all_goals go_enter Tryz.func15, Tryz.ntmps15
  all_goals go_wp2
  all_goals go_ret2
  all_goals exact ⟨rfl, rfl⟩

set_option maxRecDepth 100000 in
theorem rgrant_exist (F : Nat → Prop) (b : Nat) (R : RS) (id ttl : Int) (w : World) (h : IsRef F w b R) (hlen : R.l.length ≤ 1000) (hp : (R.l.map (·.id)).Pairwise (· < ·)) (j : Nat) (hj : j < R.l.length) (hid : R.l[j].id = id)
    (h0 : 0 ≤ id) (h1 : id ≤ topT) (h2 : 1 ≤ ttl) (h3 : ttl ≤ topT) :
    Calls Tryz.prog 15 #[.pointer (some ⟨b, 0, none⟩), .int .i64 id, .int .i64 ttl] w fun e w' => e = .returned (.tuple #[.int .i64 0, .int .i64 8]) ∧ w = w' := by
  unfold topT at h1 h3
  have ha := rat_yes F b R id w h hlen hp j hj hid
  have hj0 : ¬ ((j : Int) < 0) := by omega
  clear h hp hid hj
  go_enter Tryz.func15, Tryz.ntmps15
  go_wp2_with (go_at_call 38; (with_reducible refine ha.mono ?_); rintro e1 w1 ⟨rfl, rfl⟩)
  go_ret2
  exact ⟨rfl, rfl⟩

set_option maxRecDepth 100000 in
theorem rgrant_many (F : Nat → Prop) (b : Nat) (R : RS) (id ttl : Int) (w : World) (h : IsRef F w b R) (hlen : R.l.length ≤ 1000) (hno : ∀ r ∈ R.l, r.id ≠ id)
    (h0 : 0 ≤ id) (h1 : id ≤ topT) (h2 : 1 ≤ ttl) (h3 : ttl ≤ topT) (hm : 64 ≤ R.l.length ∨ (id = 0 ∧ R.last = topT)) :
    Calls Tryz.prog 15 #[.pointer (some ⟨b, 0, none⟩), .int .i64 id, .int .i64 ttl] w fun e w' => e = .returned (.tuple #[.int .i64 0, .int .i64 15]) ∧ w = w' := by
  unfold topT at h1 h3
  have ha := rat_no F b R id w h hlen hno
  obtain ⟨v, hblk, hsl, -⟩ := h.blk
  obtain ⟨a, c, rfl, -⟩ := hsl.shape
  have c2 : w.cell? ⟨b, 2, none⟩ = some (.slice a R.l.length c) := cell_of hblk 2
  have c1 : w.cell? ⟨b, 1, none⟩ = some (.int .i64 R.last) := cell_of hblk 1
  clear h hno hblk hsl
  generalize R.l.length = n at *
  generalize R.last = last at *
  by_cases hn : 64 ≤ n
  · have hn' : (64 : Int) ≤ (n : Int) := by omega
    clear hm hn
    go_enter Tryz.func15, Tryz.ntmps15
    go_wp2_with (go_at_call 38; (with_reducible refine ha.mono ?_); rintro e1 w1 ⟨rfl, rfl⟩)
    go_ret2
    exact ⟨rfl, rfl⟩
  · have hn' : ¬ (64 : Int) ≤ (n : Int) := by omega
    obtain ⟨rfl, hl⟩ : id = 0 ∧ last = topT := by omega
    unfold topT at hl
    subst hl
    clear hm hn
    go_enter Tryz.func15, Tryz.ntmps15
    go_wp2_with (go_at_call 38; (with_reducible refine ha.mono ?_); rintro e1 w1 ⟨rfl, rfl⟩)
    go_ret2
    exact ⟨rfl, rfl⟩

end Go.Proofs.YtcbngjlgcgcljaaGreat
