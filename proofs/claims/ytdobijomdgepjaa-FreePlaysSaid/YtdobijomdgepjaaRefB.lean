/-
  The document's Take.
-/
import Derived.Test.YtdobijomdgepjaaRefA
namespace Go.Proofs.Ytdobijomdgepjaa
open Go.RowKit Go.Tb Go.MapKept Go.ChangeMaps
set_option linter.unusedVariables false

def RTakes (sg : List Int) (b g : Nat) (e : Ending) (w' : World) : Prop :=
  (∃ i, ∃ h : i < sg.length, sg[i] = 1 ∧ (∀ j (hj : j < sg.length), j < i → sg[j] ≠ 1) ∧ e = .returned (.tuple #[.int .i64 (i : Int), .int .i64 0]) ∧ IsRef w' b g (sg.set i 0)) ∨
  ((∀ j (hj : j < sg.length), sg[j] ≠ 1) ∧ e = .returned (.tuple #[.int .i64 0, .int .i64 9]) ∧ IsRef w' b g sg)

set_option maxRecDepth 100000 in
set_option maxHeartbeats 1000000 in
theorem rtake_calls (b g : Nat) (sg : List Int) (w : World) (h : IsRef w b g sg) (hbig : sg.length ≤ 1000000) :
    Calls Try.prog 20 #[.pointer (some ⟨b, 0, none⟩)] w fun e w' => RTakes sg b g e w' ∧ Upd (fun k => k = g) w w' := by
  have c0 : w.cell? ⟨b, 0, none⟩ = some (.slice (some ⟨g, 0, none⟩) sg.length sg.length) := cell_of h.blk 0
  have H := Lib.hid h
  clear h
  go_enter Try.func20, Try.ntmps20
  go_wp2
  go_loopw [11] (fun i wr => ∃ k : Nat, k ≤ sg.length ∧ i = .int .i64 k ∧ wr = w ∧ ∀ j (hj : j < sg.length), j < k → sg[j] ≠ 1) (fun i _ => sg.length - (intOf i).toNat)
  case atStart => exact ⟨0, Nat.zero_le _, rfl, rfl, fun j hj h => absurd h (Nat.not_lt_zero _)⟩
  case round =>
    obtain ⟨k, hk, rfl, rfl, hn⟩ := hrel
    have Hn := Lib.hid hn
    clear hn
    by_cases hlt : k < sg.length
    · have c1 := H.out.at k hlt
      have f1 := free_of H.out.row k
      have Hset := Lib.hid (H.out.set k 0)
      by_cases hz : sg[k] = 1
      · rw [hz] at c1
        have Hz := Lib.hid hz
        clear hz
        go_wp2
        go_ret2
        exact ⟨.inl ⟨k, hlt, Hz.out, Hn.out, rfl, Hset.out⟩, upd_setCell _ _ _ _ rfl⟩
      · have Hz := Lib.hid hz
        have Hnx := Lib.hid (show ∀ j (hj : j < sg.length), j < k + 1 → sg[j] ≠ 1 from fun j hj hjk => by
          by_cases e : j = k
          · subst e; exact Hz.out
          · exact Hn.out j hj (by omega))
        generalize sg[k] = z at *
        go_wp2
        go_roundw
        case rel => exact ⟨k + 1, by omega, by go_num, by trivial, Hnx.out⟩
        case measure => simp [intOf]; omega
    · have Hall := Lib.hid (show ∀ j (hj : j < sg.length), sg[j] ≠ 1 from fun j hj => Hn.out j hj (by omega))
      go_wp2
      go_ret2
      exact ⟨.inr ⟨Hall.out, rfl, H.out⟩, Upd.refl _ _⟩

end Go.Proofs.Ytdobijomdgepjaa
