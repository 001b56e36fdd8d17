/-
  bytes.Equal, octets.In.
-/
import Derived.Test.YtidpiojanajpoaaEvA
namespace Go.Proofs.Ytidpiojanajpoaa
open Go.RowKit Go.Tb Go.MapKept Go.ChangeMaps Go.Lib
set_option linter.unusedVariables false

theorem bequal_calls (va vb : Value) (a b : List UInt8) (w : World) (ha : Bytes w va a) (hb : Bytes w vb b) :
    Calls Try.prog 50 #[va, vb] w fun e w' => e = .returned (.bool (a == b)) ∧ w = w' := by
  have h1 := run_to_str (src := 22) (dst := 9) Try.underlying22 Try.underlying5 Try.underlying9 ha
  have h2 := run_to_str (src := 22) (dst := 9) Try.underlying22 Try.underlying5 Try.underlying9 hb
  go_enter Try.func50, Try.ntmps50
  go_wp2
  go_ret
  have e : ∀ l, (strB l).toList = l := fun l => by rw [ByteArray.toList_eq]; simp [strB]
  exact ⟨by show Ending.returned (.bool ((strB a).toList == (strB b).toList)) = _; rw [e, e], rfl⟩

/-- Is a key in a range? -/
def inB (k key e : List UInt8) : Bool := if e.length = 0 then k == key else if e = [0] then decide (0 ≤ compareBytes k key) else decide (0 ≤ compareBytes k key) && decide (compareBytes k e < 0)

set_option maxRecDepth 100000 in
set_option maxHeartbeats 1000000 in
theorem in_calls (vk vq ve : Value) (k q e : List UInt8) (w : World) (hk : Bytes w vk k) (hq : Bytes w vq q) (he : Bytes w ve e) :
    Calls Try.prog 36 #[vk, vq, ve] w fun r w' => r = .returned (.bool (inB k q e)) ∧ Upd (fun _ => False) w w' := by
  have h1 := bequal_calls vk vq k q w hk hq
  have h2 := bcompare_calls w vk vq k q hk hq
  have h3 := bcompare_calls w vk ve k e hk he
  have hsz := fun a n c (h : ve = .slice a n c) => (show Bytes w (.slice a n c) e from h ▸ he).size
  obtain ⟨a, n, c, rfl⟩ := he.form
  obtain ⟨a1, n1, c1, rfl⟩ := hk.form
  obtain ⟨a2, n2, c2, rfl⟩ := hq.form
  have hn := hsz a n c rfl
  clear hsz hk hq
  unfold inB
  by_cases h0 : e.length = 0
  · rw [if_pos h0]
    have n0 : n = 0 := by omega
    subst n0
    clear h2 h3 he hn h0
    generalize (k == q) = b at *
    go_enter Try.func36, Try.ntmps36
    go_wp2_with (go_at_call 50; refine h1.mono ?_; rintro r w' ⟨rfl, rfl⟩)
    go_ret
    exact ⟨rfl, Upd.refl _ _⟩
  · rw [if_neg h0]
    clear h1
    have hn0 : ((n : Int) == 0) = false := by simp; omega
    rcases he with (⟨he, _⟩ | ⟨b, off, cap, he, hc, hlt, hcell⟩) | ⟨rfl, _⟩
    · cases he; exact absurd hn h0
    · cases he
      by_cases hl : e.length = 1
      · obtain ⟨x, rfl⟩ := List.length_eq_one_iff.1 hl
        have hx : w.cell? ⟨b, off, none⟩ = some (.int .u8 (x.toNat : Int)) := by simpa using hcell 0 (by simp)
        simp only [List.length_singleton] at h3 ⊢
        by_cases hx0 : x = 0
        · subst hx0
          rw [if_pos rfl]
          generalize compareBytes k q = z at *
          clear hcell h3 hn h0 hl hlt hc
          go_enter Try.func36, Try.ntmps36
          go_wp2_with (go_at_call 51; refine h2.mono ?_; rintro r w' ⟨rfl, rfl⟩)
          go_ret
          exact ⟨rfl, Upd.refl _ _⟩
        · rw [if_neg (by simpa using hx0)]
          have hx1 : ((x.toNat : Int) == 0) = false := by
            simp only [beq_eq_false_iff_ne, ne_eq]
            intro h
            exact hx0 (UInt8.toNat_inj.1 (by simpa using h))
          generalize (x.toNat : Int) = y at *
          generalize compareBytes k q = z at *
          generalize compareBytes k [x] = z2 at *
          clear hcell hn h0 hl hlt hc hx0
          go_enter Try.func36, Try.ntmps36
          go_wp2_with (first | (go_at_call 51; (with_reducible refine h2.mono ?_); rintro r w' ⟨rfl, rfl⟩) | (go_at_call 51; (with_reducible refine h3.mono ?_); rintro r w' ⟨rfl, rfl⟩))
          all_goals go_ret
          all_goals exact ⟨by simp [*] <;> omega, Upd.refl _ _⟩
      · rw [if_neg (by rintro rfl; exact hl rfl)]
        have hn1 : ((e.length : Int) == 1) = false := by simp; omega
        clear hcell h0 hl hlt hc hn
        generalize e.length = n at *
        generalize compareBytes k q = z at *
        generalize compareBytes k e = z2 at *
        go_enter Try.func36, Try.ntmps36
        go_wp2_with (first | (go_at_call 51; (with_reducible refine h2.mono ?_); rintro r w' ⟨rfl, rfl⟩) | (go_at_call 51; (with_reducible refine h3.mono ?_); rintro r w' ⟨rfl, rfl⟩))
        all_goals go_ret
        all_goals exact ⟨by simp [*] <;> omega, Upd.refl _ _⟩
    · exact absurd rfl h0

end Go.Proofs.Ytidpiojanajpoaa
