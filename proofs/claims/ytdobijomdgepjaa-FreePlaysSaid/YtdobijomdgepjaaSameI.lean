/-
  The same numbers?
-/
import Derived.Test.YtdobijomdgepjaaFreeE
namespace Go.Proofs.Ytdobijomdgepjaa
open Go.RowKit Go.Tb Go.MapKept Go.ChangeMaps
set_option linter.unusedVariables false

set_option maxRecDepth 100000 in
set_option maxHeartbeats 1000000 in
theorem same_calls (v1 v2 : Value) (l : List Int) (w : World) (h1 : Sl ienc w v1 l) (h2 : Sl ienc w v2 l) (hlen : l.length ≤ 1000000) :
    Calls Try.prog 13 #[v1, v2] w fun e w' => e = .returned (.bool true) ∧ Upd (fun _ => False) w w' := by
  obtain ⟨a1, c1, rfl, hc1⟩ := h1.shape
  obtain ⟨a2, c2, rfl, hc2⟩ := h2.shape
  have H1 := Lib.hid h1
  have H2 := Lib.hid h2
  clear h1 h2
  go_enter Try.func13, Try.ntmps13
  go_wp2
  go_loopw [13] (fun i wr => ∃ k : Nat, k ≤ l.length ∧ i = .int .i64 k ∧ Upd (fun _ => False) w wr) (fun i _ => l.length - (intOf i).toNat)
  case atStart => exact ⟨0, Nat.zero_le _, rfl, Upd.refl _ _⟩
  case round =>
    obtain ⟨k, hk, rfl, hu⟩ := hrel
    by_cases hlt : k < l.length
    · obtain ⟨b1, o1, rfl, q1⟩ := ints_at H1.out k hlt
      obtain ⟨b2, o2, rfl, q2⟩ := ints_at H2.out k hlt
      have r1 := hu.cell q1 (fun x => x)
      have r2 := hu.cell q2 (fun x => x)
      generalize l[k] = x at *
      clear q1 q2
      go_wp2
      go_region
      go_wp2
      go_roundw
      case rel => exact ⟨k + 1, by omega, by go_num, hu.drew⟩
      case measure => simp [intOf]; omega
    · go_wp2
      go_ret
      exact ⟨rfl, hu⟩

end Go.Proofs.Ytdobijomdgepjaa
