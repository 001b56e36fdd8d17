/-
  The order of keys (no program in sight).
-/
import Derived.Lib.Bytealg
import Derived.Lib.Small
namespace Go.Tb
open Go.Lib

theorem cmpB_swap : ∀ (a b : List UInt8), compareBytes b a = - compareBytes a b
  | [], [] => rfl
  | [], _ :: _ => rfl
  | _ :: _, [] => rfl
  | a :: as, b :: bs => by
    simp only [compareBytes]
    by_cases h1 : a < b
    · have h2 : ¬ b < a := fun h => by rw [UInt8.lt_iff_toNat_lt] at *; omega
      simp [h1, h2]
    · by_cases h2 : b < a
      · simp [h1, h2]
      · simp only [h1, h2, if_false]; exact cmpB_swap as bs
theorem cmpB_zero : ∀ (a b : List UInt8), compareBytes a b = 0 ↔ a = b
  | [], [] => by simp [compareBytes]
  | [], _ :: _ => by simp [compareBytes]
  | _ :: _, [] => by simp [compareBytes]
  | a :: as, b :: bs => by
    simp only [compareBytes]
    by_cases h1 : a < b
    · have : a ≠ b := fun e => by subst e; rw [UInt8.lt_iff_toNat_lt] at h1; omega
      simp [h1, this]
    · by_cases h2 : b < a
      · have : a ≠ b := fun e => by subst e; rw [UInt8.lt_iff_toNat_lt] at h2; omega
        simp [h1, h2, this]
      · have e : a = b := by
          apply UInt8.toNat_inj.1
          rw [UInt8.lt_iff_toNat_lt] at h1 h2
          omega
        subst e
        simp only [h1, if_false]
        rw [cmpB_zero as bs]; simp
theorem cmpB_range (a b : List UInt8) : compareBytes a b = -1 ∨ compareBytes a b = 0 ∨ compareBytes a b = 1 := by
  induction a generalizing b with
  | nil => cases b <;> simp [compareBytes]
  | cons x r ih =>
    cases b with
    | nil => simp [compareBytes]
    | cons y s =>
      simp only [compareBytes]
      split
      · simp
      · split
        · simp
        · exact ih s
/-- a comes ahead of b. -/
def ltB (a b : List UInt8) : Prop := compareBytes a b < 0
instance (a b : List UInt8) : Decidable (ltB a b) := inferInstanceAs (Decidable (_ < _))
theorem ltB_trans : ∀ {a b c : List UInt8}, ltB a b → ltB b c → ltB a c
  | [], [], _, h, _ => by simp [ltB, compareBytes] at h
  | [], _ :: _, [], _, h => by simp [ltB, compareBytes] at h
  | [], _ :: _, _ :: _, _, _ => by simp [ltB, compareBytes]
  | _ :: _, [], _, h, _ => by simp [ltB, compareBytes] at h
  | _ :: _, _ :: _, [], _, h => by simp [ltB, compareBytes] at h
  | a :: as, b :: bs, c :: cs, h, k => by
    simp only [ltB, compareBytes] at h k ⊢
    by_cases h1 : a < b
    · by_cases k1 : b < c
      · have : a < c := by rw [UInt8.lt_iff_toNat_lt] at *; omega
        simp [this]
      · by_cases k2 : c < b
        · simp [k1, k2] at k
        · have e : b = c := by
            apply UInt8.toNat_inj.1
            rw [UInt8.lt_iff_toNat_lt] at k1 k2
            omega
          subst e; simp [h1]
    · by_cases h2 : b < a
      · simp [h1, h2] at h
      · have e : a = b := by
          apply UInt8.toNat_inj.1
          rw [UInt8.lt_iff_toNat_lt] at h1 h2
          omega
        subst e
        simp only [h1, if_false] at h
        by_cases k1 : a < c
        · simp [k1]
        · by_cases k2 : c < a
          · simp [k1, k2] at k
          · simp only [k1, k2, if_false] at k ⊢
            exact ltB_trans h k
theorem ltB_irrefl (a : List UInt8) : ¬ ltB a a := by unfold ltB; rw [(cmpB_zero a a).2 rfl]; decide
theorem ltB_asymm {a b : List UInt8} (h : ltB a b) : ¬ ltB b a := fun k => ltB_irrefl _ (ltB_trans h k)
theorem ltB_total (a b : List UInt8) : ltB a b ∨ a = b ∨ ltB b a := by
  unfold ltB
  rw [cmpB_swap a b]
  rcases cmpB_range a b with h | h | h
  · exact .inl (by omega)
  · exact .inr (.inl ((cmpB_zero a b).1 h))
  · exact .inr (.inr (by omega))

theorem compareInt_swap (x y : Int) : compareInt y x = - compareInt x y := by unfold compareInt; split <;> split <;> simp_all <;> omega
theorem compareInt_zero (x y : Int) : compareInt x y = 0 ↔ x = y := by unfold compareInt; split <;> (try split) <;> omega
theorem compareInt_neg (x y : Int) : compareInt x y < 0 ↔ x < y := by unfold compareInt; split <;> (try split) <;> omega

end Go.Tb
