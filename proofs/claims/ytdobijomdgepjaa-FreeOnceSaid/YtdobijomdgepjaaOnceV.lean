/-
  FreeOnce: all inputs.
-/
import Derived.Test.YtdobijomdgepjaaOnceW
import Derived.Test.YtdobijomdgepjaaFCopiesV
namespace Go.Proofs.Ytdobijomdgepjaa
open Go.RowKit Go.Tb Go.MapKept Go.ChangeMaps
set_option linter.unusedVariables false

set_option maxRecDepth 100000 in
set_option maxHeartbeats 1000000 in
theorem once_walk (a1 a2 : Option Addr) (c1 c2 : Nat) (l : List Int) (l1 : List FAct) (w : World) (hl : IntsOf w a1 l) (h1 : FActsOf w a2 l1) (hb1 : l1.length ≤ 9223372036854775807) :
    Calls Try.prog 5 #[.slice a1 l.length c1, .slice a2 l1.length c2] w fun e w' => e = .returned (.bool true) ∧ Upd (fun _ => False) w w' := by
  by_cases hb0 : l.length ≤ 1100
  · by_cases hok : (∀ x ∈ l, 2 ≤ x ∧ x < 64) ∧ l.Nodup
    · exact once_ok a1 a2 c1 c2 l l1 w hl h1 hb0 hb1 hok
    · have hnew := fun w1 (hu : Upd (fun _ => False) w w1) => new_no 64 a1 c1 l w1 (fun i hi => by obtain ⟨b, off, h1, h2⟩ := hl i hi; exact ⟨b, off, h1, hu.cell h2 (fun x => x)⟩) (by omega) (by decide) (by decide) hok
      have hne := newNo_ne 64 l
      generalize newNo 64 l = n at *
      clear hok hl h1
      go_enter Try.func5, Try.ntmps5
      go_wp2_with (first
        | (go_at_call 8; refine (lives_calls w).mono ?_; rintro e w1 ⟨rfl, hu1⟩)
        | (go_at_call 9; refine (hnew w1 hu1).mono ?_; rintro e w2 ⟨rfl, hu2⟩))
      go_ret
      exact ⟨rfl, hu1.trans hu2⟩
  · clear hl h1
    go_enter Try.func5, Try.ntmps5
    go_wp2_with (first
      | (go_at_call 8; with_reducible refine (lives_calls w).mono ?_; rintro e w1 ⟨rfl, hu1⟩)
      | (go_at_call 8; with_reducible refine (lives_calls w1).mono ?_; rintro e w2 ⟨rfl, hu2⟩))
    go_ret
    exact ⟨rfl, hu1.trans hu2⟩

end Go.Proofs.Ytdobijomdgepjaa
