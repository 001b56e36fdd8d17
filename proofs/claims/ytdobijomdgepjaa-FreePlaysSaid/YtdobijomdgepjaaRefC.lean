/-
  The document's Settle.
-/
import Derived.Test.YtdobijomdgepjaaRefB
namespace Go.Proofs.Ytdobijomdgepjaa
open Go.RowKit Go.Tb Go.MapKept Go.ChangeMaps
set_option linter.unusedVariables false

def settleTo (sg : List Int) (k : Nat) : List Int := sg.mapIdx fun j x => if j < k ∧ x = 2 then 1 else x
theorem settleTo_length (sg : List Int) (k : Nat) : (settleTo sg k).length = sg.length := by simp [settleTo]
theorem settleTo_zero (sg : List Int) : settleTo sg 0 = sg := by
  apply List.ext_getElem (by simp [settleTo])
  intro i h1 h2; simp [settleTo]
theorem settleTo_get (sg : List Int) (k i : Nat) (h : i < sg.length) : (settleTo sg k)[i]'(by rw [settleTo_length]; exact h) = if i < k ∧ sg[i] = 2 then 1 else sg[i] := by simp [settleTo]
theorem settleTo_succ (sg : List Int) (k : Nat) (h : k < sg.length) : settleTo sg (k + 1) = if sg[k] = 2 then (settleTo sg k).set k 1 else settleTo sg k := by
  apply List.ext_getElem (by split <;> simp [settleTo])
  intro i h1 h2
  have hi : i < sg.length := by rw [settleTo_length] at h1; exact h1
  rw [settleTo_get sg (k + 1) i hi]
  by_cases e : i = k
  · subst e
    by_cases h3 : sg[i] = 2
    · simp [h3]
    · simp only [if_neg h3]
      rw [settleTo_get sg i i hi]
      simp [h3]
  · have hne : k ≠ i := fun q => e q.symm
    by_cases h3 : sg[k] = 2
    · simp only [if_pos h3]
      rw [List.getElem_set_ne hne, settleTo_get sg k i hi]
      have : i < k + 1 ↔ i < k := by omega
      simp [this]
    · simp only [if_neg h3]
      rw [settleTo_get sg k i hi]
      have : i < k + 1 ↔ i < k := by omega
      simp [this]

set_option maxRecDepth 100000 in
set_option maxHeartbeats 1000000 in
theorem rsettle_calls (b g : Nat) (sg : List Int) (w : World) (h : IsRef w b g sg) (hbig : sg.length ≤ 1000000) :
    Calls Try.prog 22 #[.pointer (some ⟨b, 0, none⟩)] w fun e w' => e = .returned (.tuple #[]) ∧ IsRef w' b g (settleTo sg sg.length) ∧ Upd (fun k => k = g) w w' := by
  have c0 : w.cell? ⟨b, 0, none⟩ = some (.slice (some ⟨g, 0, none⟩) sg.length sg.length) := cell_of h.blk 0
  have H := Lib.hid h
  clear h
  go_enter Try.func22, Try.ntmps22
  go_wp2
  go_loopw [9] (fun i wr => ∃ k : Nat, k ≤ sg.length ∧ i = .int .i64 k ∧ IsRef wr b g (settleTo sg k) ∧ Upd (fun k => k = g) w wr) (fun i _ => sg.length - (intOf i).toNat)
  case atStart => exact ⟨0, Nat.zero_le _, rfl, by rw [settleTo_zero]; exact H.out, Upd.refl _ _⟩
  case round =>
    obtain ⟨k, hk, rfl, hr, hu⟩ := hrel
    by_cases hlt : k < sg.length
    · have c1 := hr.at k (by rw [settleTo_length]; exact hlt)
      rw [settleTo_get sg k k hlt, if_neg (by omega)] at c1
      have f1 := free_of hr.row k
      have c2 : wr.cell? ⟨b, 0, none⟩ = some (.slice (some ⟨g, 0, none⟩) sg.length sg.length) := by rw [cell_of hr.blk 0, settleTo_length]; rfl
      have Hs := Lib.hid (settleTo_succ sg k hlt)
      have Hr := Lib.hid hr
      have Hset := Lib.hid (hr.set k 1)
      clear hr
      by_cases hz : sg[k] = 2
      · rw [hz] at c1
        have He := Lib.hid (show settleTo sg (k + 1) = (settleTo sg k).set k 1 by rw [Hs.out, if_pos hz])
        clear hz
        go_wp2
        go_roundw
        case rel => exact ⟨k + 1, by omega, by go_num, by rw [He.out]; exact Hset.out, hu.trans (upd_setCell _ _ _ _ rfl)⟩
        case measure => simp [intOf]; omega
      · have He := Lib.hid (show settleTo sg (k + 1) = settleTo sg k by rw [Hs.out, if_neg hz])
        clear Hs
        generalize sg[k] = z at *
        go_wp2
        go_roundw
        case rel => exact ⟨k + 1, by omega, by go_num, by rw [He.out]; exact Hr.out, hu⟩
        case measure => simp [intOf]; omega
    · obtain rfl : k = sg.length := by omega
      have Hr := Lib.hid hr
      clear hr
      go_wp2
      go_end0
      exact ⟨rfl, Hr.out, hu⟩

end Go.Proofs.Ytdobijomdgepjaa
