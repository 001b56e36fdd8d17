/-
  cmp.Compare, cmp.Or of numbers.
-/
import Derived.Test.YtcbngjlgcgcljaaGreatProg
import Derived.Test.YtcbngjlgcgcljaaGreatBase
import Derived.Test.YtcbngjlgcgcljaaGreatOrdP
namespace Go.Proofs.YtcbngjlgcgcljaaGreat
open Go.RowKit Go.Tb Go.MapKept Go.ChangeMaps Go.Lib
set_option linter.unusedVariables false

/-- cmp.Compare of numbers. -/
theorem compare_calls (w : World) (x y : Int) : Calls Tryz.prog 37 #[.int .i64 x, .int .i64 y] w fun e w' => e = .returned (.int .i64 (compareInt x y)) ∧ w = w' := by
  have hn : ∀ (z : Int), Calls Tryz.prog 48 #[.int .i64 z] w fun e w' => e = .returned (.bool false) ∧ w = w' := fun z => by
    go_enter Tryz.func48, Tryz.ntmps48
    go_wp2
    go_ret
    exact ⟨by simp, rfl⟩
  have H := Lib.hid hn
  clear hn
  by_cases h1 : x < y
  · have e : compareInt x y = -1 := by unfold compareInt; rw [if_pos h1]
    rw [e]
    clear e
    go_enter Tryz.func37, Tryz.ntmps37
    go_wp2_with (go_at_call 48; refine (H.out _).mono ?_; rintro e w' ⟨rfl, rfl⟩)
    go_ret
    exact ⟨rfl, rfl⟩
  · by_cases h2 : y < x
    · have e : compareInt x y = 1 := by unfold compareInt; rw [if_neg h1, if_pos h2]
      rw [e]
      clear e
      go_enter Tryz.func37, Tryz.ntmps37
      go_wp2_with (go_at_call 48; refine (H.out _).mono ?_; rintro e w' ⟨rfl, rfl⟩)
      go_ret
      exact ⟨rfl, rfl⟩
    · have e : compareInt x y = 0 := by unfold compareInt; rw [if_neg h1, if_neg h2]
      rw [e]
      clear e
      go_enter Tryz.func37, Tryz.ntmps37
      go_wp2_with (go_at_call 48; refine (H.out _).mono ?_; rintro e w' ⟨rfl, rfl⟩)
      go_ret
      exact ⟨rfl, rfl⟩

def orI (n m : Int) : Int := if n = 0 then m else n

set_option maxRecDepth 100000 in
set_option maxHeartbeats 1000000 in
theorem or_calls (b : Nat) (n m : Int) (t : TypeId) (w : World) (h : w.heap[b]? = some (.cells #[.int .i64 n, .int .i64 m] t (0, 0))) :
    Calls Tryz.prog 36 #[.slice (some ⟨b, 0, none⟩) 2 2] w fun e w' => e = .returned (.int .i64 (orI n m)) ∧ w = w' := by
  have c0 : w.cell? ⟨b, 0, none⟩ = some (.int .i64 n) := cell_of h 0
  have c1 : w.cell? ⟨b, 1, none⟩ = some (.int .i64 m) := cell_of h 1
  clear h
  have hcell : ∀ k : Nat, k < 2 → w.cell? ⟨b, k, none⟩ = some (.int .i64 (if k = 0 then n else m)) := fun k hk => by
    match k, hk with
    | 0, _ => exact c0
    | 1, _ => exact c1
  have Hc := Lib.hid hcell
  clear hcell c0 c1
  go_enter Tryz.func36, Tryz.ntmps36
  go_wp2
  go_loopw [8] (fun i wr => ∃ k : Nat, k ≤ 2 ∧ i = .int .i64 k ∧ (0 < k → n = 0) ∧ (1 < k → m = 0) ∧ w = wr) (fun i _ => 2 - (intOf i).toNat)
  case atStart => exact ⟨0, Nat.zero_le _, rfl, fun h => absurd h (by decide), fun h => absurd h (by decide), rfl⟩
  case round =>
    obtain ⟨k, hk, rfl, h0, h1, rfl⟩ := hrel
    have H0 := Lib.hid h0
    have H1 := Lib.hid h1
    clear h0 h1
    by_cases hlt : k < 2
    · have q := Hc.out k hlt
      by_cases hz : (if k = 0 then n else m) = 0
      · rw [hz] at q
        have Hz := Lib.hid hz
        clear hz
        go_wp2
        go_roundw
        case rel => exact ⟨k + 1, by omega, by go_num, fun _ => by
          by_cases e : k = 0
          · have := Hz.out; rwa [if_pos e] at this
          · exact H0.out (by omega), fun hk1 => by have := Hz.out; rwa [if_neg (by omega)] at this, by trivial⟩
        case measure => simp [intOf]; omega
      · have Hz := Lib.hid hz
        have He := Lib.hid (show orI n m = if k = 0 then n else m by
          unfold orI
          by_cases e : k = 0
          · rw [if_pos e] at hz ⊢; rw [if_neg hz]
          · rw [if_neg e, if_pos (H0.out (by omega))])
        generalize (if k = 0 then n else m) = z at *
        go_wp2
        go_ret
        exact ⟨by rw [He.out]; rfl, rfl⟩
    · have He := Lib.hid (show orI n m = 0 by unfold orI; rw [if_pos (H0.out (by omega)), H1.out (by omega)])
      go_wp2
      go_ret
      exact ⟨by rw [He.out]; rfl, rfl⟩


end Go.Proofs.YtcbngjlgcgcljaaGreat
