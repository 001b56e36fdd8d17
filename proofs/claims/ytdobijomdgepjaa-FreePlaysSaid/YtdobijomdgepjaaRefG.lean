/-
  The document's list beside the program's.
-/
import Derived.Test.YtdobijomdgepjaaRefF
import Derived.Test.YtdobijomdgepjaaSameI
namespace Go.Proofs.Ytdobijomdgepjaa
open Go.RowKit Go.Tb Go.MapKept Go.ChangeMaps
set_option linter.unusedVariables false

theorem signs_ext {L : LS} {sg : List Int} (hl : sg.length = L.size.toNat) (h : ∀ i (hi : i < sg.length), sg[i] = signOf L (i : Int)) : sg = signs L := by
  apply List.ext_getElem (by rw [hl, signs_length])
  intro i h1 h2
  rw [h i h1, signs_get]

theorem signOf_zero {L : LS} {x : Int} (h1 : x ∉ L.spare) (h2 : x ∉ L.held) : signOf L x = 0 := by unfold signOf; rw [if_neg h1, if_neg h2]
theorem signOf_spare {L : LS} {x : Int} (h1 : x ∈ L.spare) : signOf L x = 1 := if_pos h1
theorem signOf_held {L : LS} {x : Int} (h1 : x ∉ L.spare) (h2 : x ∈ L.held) : signOf L x = 2 := by unfold signOf; rw [if_neg h1, if_pos h2]

theorem signs_give {L : LS} (i : Nat) (hc : L.check (i : Int) = 0) : (signs L).set i 1 = signs (L.give (i : Int)) := by
  have hg : L.give (i : Int) = { L with spare := insl (i : Int) L.spare } := if_pos hc
  rw [hg]
  apply signs_ext
  · rw [List.length_set, signs_length]
  · intro j hj
    by_cases e : j = i
    · subst e
      rw [List.getElem_set_self, signOf_spare (mem_insl.2 (.inl rfl))]
    · rw [List.getElem_set_ne (fun q => e q.symm), signs_get]
      have hne : (j : Int) ≠ (i : Int) := by omega
      have hm : (j : Int) ∈ insl (i : Int) L.spare ↔ (j : Int) ∈ L.spare := by rw [mem_insl]; simp [hne]
      unfold signOf
      by_cases h : (j : Int) ∈ L.spare
      · rw [if_pos h, if_pos (hm.2 h)]
      · rw [if_neg h, if_neg (fun q => h (hm.1 q))]
theorem signs_hold {L : LS} (i : Nat) (hc : L.check (i : Int) = 0) : (signs L).set i 2 = signs (L.hold (i : Int)) := by
  have hg : L.hold (i : Int) = { L with held := insl (i : Int) L.held } := if_pos hc
  have hn := (check_zero hc).2.1
  rw [hg]
  apply signs_ext
  · rw [List.length_set, signs_length]
  · intro j hj
    by_cases e : j = i
    · subst e
      rw [List.getElem_set_self]
      exact (signOf_held (L := { L with held := insl (j : Int) L.held }) hn (mem_insl.2 (.inl rfl))).symm
    · rw [List.getElem_set_ne (fun q => e q.symm), signs_get]
      have hne : (j : Int) ≠ (i : Int) := by omega
      have hm : (j : Int) ∈ insl (i : Int) L.held ↔ (j : Int) ∈ L.held := by rw [mem_insl]; simp [hne]
      unfold signOf
      by_cases h : (j : Int) ∈ L.spare
      · rw [if_pos h]; exact (if_pos h).symm
      · rw [if_neg h]
        refine Eq.trans ?_ (if_neg h).symm
        by_cases h' : (j : Int) ∈ L.held
        · rw [if_pos h', if_pos (hm.2 h')]
        · rw [if_neg h', if_neg (fun q => h' (hm.1 q))]
theorem signs_settle {L : LS} : settleTo (signs L) (signs L).length = signs L.settle := by
  apply signs_ext
  · rw [settleTo_length, signs_length]; rfl
  · intro i hi
    have hi' : i < (signs L).length := by rw [settleTo_length] at hi; exact hi
    rw [settleTo_get (signs L) _ i hi', signs_get]
    unfold signOf
    by_cases h : (i : Int) ∈ L.spare
    · rw [if_pos h, if_neg (by omega), if_pos (mem_settle.2 (.inl h))]
    · rw [if_neg h]
      by_cases h' : (i : Int) ∈ L.held
      · rw [if_pos h', if_pos ⟨hi', rfl⟩, if_pos (mem_settle.2 (.inr h'))]
      · rw [if_neg h', if_neg (by omega), if_neg (fun q => (mem_settle.1 q).elim h h')]
        exact (if_neg (fun q => by cases q)).symm

/-- The document's Set. -/
theorem rset_calls (b g : Nat) (L : LS) (id : Int) (s : Int) (w : World) (h : IsRef w b g (signs L)) (hok : L.Ok) (hs : s = 1 ∨ s = 2) :
    Calls Try.prog 21 #[.pointer (some ⟨b, 0, none⟩), .int .i64 id, .int .i64 s] w fun e w' => e = .returned (.int .i64 (L.check id)) ∧ IsRef w' b g (signs (if s = 1 then L.give id else L.hold id)) ∧ Upd (fun k => k = g) w w' := by
  have h8 := hok.s1
  by_cases hr : 2 ≤ id ∧ id < L.size
  · obtain ⟨i, rfl⟩ := Int.eq_ofNat_of_zero_le (show 0 ≤ id by omega)
    have hi : i < (signs L).length := by rw [signs_length]; omega
    refine (set_in b g i (signs L) s w h (by omega) hi).mono ?_
    rintro e w' ⟨rfl, h1, h2⟩
    rw [signs_get] at h1
    by_cases hz : signOf L (i : Int) = 0
    · have hn1 : (i : Int) ∉ L.spare := fun q => by rw [signOf_spare q] at hz; cases hz
      have hn2 : (i : Int) ∉ L.held := fun q => by rw [signOf_held hn1 q] at hz; cases hz
      have hc : L.check (i : Int) = 0 := by unfold LS.check; rw [if_pos hr, if_neg (fun q => q.elim hn1 hn2)]
      rw [if_pos hz] at h1
      refine ⟨by rw [signs_get, if_pos hz, hc], ?_, h2⟩
      rcases hs with rfl | rfl
      · rw [if_pos rfl, ← signs_give i hc]; exact h1
      · rw [if_neg (by decide), ← signs_hold i hc]; exact h1
    · have hc : L.check (i : Int) = 8 := by
        unfold LS.check
        rw [if_pos hr, if_pos]
        by_cases q1 : (i : Int) ∈ L.spare
        · exact .inl q1
        · by_cases q2 : (i : Int) ∈ L.held
          · exact .inr q2
          · exact absurd (signOf_zero q1 q2) hz
      have hne : ¬ L.check (i : Int) = 0 := by rw [hc]; decide
      rw [if_neg hz] at h1
      refine ⟨by rw [signs_get, if_neg hz, hc], ?_, h2⟩
      have e1 : L.give (i : Int) = L := if_neg hne
      have e2 : L.hold (i : Int) = L := if_neg hne
      rw [e1, e2]
      split <;> exact h1
  · have hc : L.check id = 2 := by unfold LS.check; rw [if_neg hr]
    have hne : ¬ L.check id = 0 := by rw [hc]; decide
    refine (set_out b g (signs L) id s w h (by rw [signs_length]; omega)).mono ?_
    rintro e w' ⟨rfl, rfl⟩
    have e1 : L.give id = L := if_neg hne
    have e2 : L.hold id = L := if_neg hne
    rw [hc, e1, e2]
    exact ⟨rfl, by split <;> exact h, Upd.refl _ _⟩

end Go.Proofs.Ytdobijomdgepjaa
