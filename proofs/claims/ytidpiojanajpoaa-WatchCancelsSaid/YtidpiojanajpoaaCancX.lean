/-
  WatchCancels: the walk.
-/
import Derived.Test.YtidpiojanajpoaaCancW
namespace Go.Proofs.Ytidpiojanajpoaa
open Go.RowKit Go.Tb Go.MapKept Go.ChangeMaps
set_option linter.unusedVariables false

set_option maxRecDepth 100000 in
set_option maxHeartbeats 4000000 in
theorem cancels_walk (start floor writes late : Int) (w : World) :
    Calls Try.prog 6 #[.int .i64 start, .int .i64 floor, .int .i64 writes, .int .i64 late] w fun e w' => e = .returned (.bool true) ∧ Upd (fun _ => False) w w' := by
  by_cases g1 : start < 1
  ·
    go_enter Try.func6, Try.ntmps6
    go_wp2_with (first | (go_at_call 7; (with_reducible refine (lives_calls w).mono ?_); rintro e w' ⟨rfl, hux⟩; have HUX := Lib.hid hux; have hlv := lives_calls w'; clear hux) | (go_at_call 7; (with_reducible refine hlv.mono ?_); rintro e w2 ⟨rfl, huy⟩))
    go_ret
    exact ⟨rfl, HUX.out.trans huy⟩
  by_cases g2 : 1000 < start
  ·
    go_enter Try.func6, Try.ntmps6
    go_wp2_with (first | (go_at_call 7; (with_reducible refine (lives_calls w).mono ?_); rintro e w' ⟨rfl, hux⟩; have HUX := Lib.hid hux; have hlv := lives_calls w'; clear hux) | (go_at_call 7; (with_reducible refine hlv.mono ?_); rintro e w2 ⟨rfl, huy⟩))
    go_ret
    exact ⟨rfl, HUX.out.trans huy⟩
  by_cases g3 : floor < 0
  ·
    go_enter Try.func6, Try.ntmps6
    go_wp2_with (first | (go_at_call 7; (with_reducible refine (lives_calls w).mono ?_); rintro e w' ⟨rfl, hux⟩; have HUX := Lib.hid hux; have hlv := lives_calls w'; clear hux) | (go_at_call 7; (with_reducible refine hlv.mono ?_); rintro e w2 ⟨rfl, huy⟩))
    go_ret
    exact ⟨rfl, HUX.out.trans huy⟩
  by_cases g4 : 1000 < floor
  ·
    go_enter Try.func6, Try.ntmps6
    go_wp2_with (first | (go_at_call 7; (with_reducible refine (lives_calls w).mono ?_); rintro e w' ⟨rfl, hux⟩; have HUX := Lib.hid hux; have hlv := lives_calls w'; clear hux) | (go_at_call 7; (with_reducible refine hlv.mono ?_); rintro e w2 ⟨rfl, huy⟩))
    go_ret
    exact ⟨rfl, HUX.out.trans huy⟩
  exact cancels_good start floor writes late w (by omega) (by omega) (by omega) (by omega)

end Go.Proofs.Ytidpiojanajpoaa
