/-
  LeaseEnds: the walk.
-/
import Derived.Test.YtcbngjlgcgcljaaLeaseH
namespace Go.Proofs.Ytcbngjlgcgcljaa
open Go.RowKit Go.Tb Go.MapKept Go.ChangeMaps Go.Lib
set_option linter.unusedVariables false

theorem later_end {now : Int} (h0 : 0 ≤ now) (h1 : now ≤ topT) : laterI now topT = topT := by
  unfold laterI; split <;> omega

set_option maxRecDepth 100000 in
set_option maxHeartbeats 2000000 in
theorem ends_ok (now ttl n : Int) (w : World) (h0 : 0 ≤ now) (h1 : now ≤ 4611686018427387904) (h2 : 1 ≤ ttl) (h3 : ttl ≤ 4611686018427387904) (h4 : 0 ≤ n) :
    Calls Try.prog 4 #[.int .i64 now, .int .i64 ttl, .int .i64 n] w fun e w' => e = .returned (.bool true) ∧ Upd (fun _ => False) w w' := by
  have h1' : now ≤ topT := h1
  have h3' : ttl ≤ topT := h3
  have hd := laterI_range h0 h1' (show 0 ≤ ttl by omega)
  have hn := laterI_range h0 h1' h4
  have he := later_end hn.1 hn.2.1
  have hdt : laterI now ttl ≤ now + ttl := by unfold laterI; split <;> omega
  have hnew := fun W g hg => new_one now 7 ttl g 28 W hg h0 h1' h2 h3' (by decide) (by unfold topT; decide)
  generalize hdd : laterI now ttl = d at *
  generalize hnn : laterI now n = m at *
  have HNEW := Lib.hid hnew
  have HN := Lib.hid hnn
  have HE := Lib.hid he
  obtain ⟨d0, d1, d2⟩ := hd
  obtain ⟨n0, n1, n2⟩ := hn
  have HD1 := Lib.hid d1
  unfold topT at d1 n1
  clear h1' h3' hnew hdd hnn he
  have hl : 0 ≤ max 0 (d - m) ∧ max 0 (d - m) ≤ ttl := by omega
  obtain ⟨l0, l1⟩ := hl
  generalize hlf : max 0 (d - m) = lf at *
  have HLF := Lib.hid hlf
  clear hlf
  go_enter Try.func4, Try.ntmps4
  go_wp2_with (first
    | (go_at_call 8; (with_reducible refine (lives_calls w).mono ?_); rintro e0 w0 ⟨rfl, hu0⟩; have HU0 := Lib.hid hu0; have hn0 := HNEW.out _ _ (heap_alloc w0 (.cells #[.int .i64 7, .int .i64 ttl] 28)).1; clear hu0)
    | (go_at_call 9; (with_reducible refine hn0.mono ?_); rintro e1 w1 ⟨b, ml, mk, rfl, hO1, hb, hml, hmk, hu1⟩; have HU1 := Lib.hid ((HU0.out.alloc _).trans hu1); have hs0 := HU0.out.size; have HO1 := Lib.hid hO1; have hbw : w.heap.size ≤ b := (by simp at hb; omega); clear hu1 hO1 hb hml hmk hn0)
    | (go_at_call 11; (with_reducible refine (HO1.out.tick n h4).mono ?_); rintro e2 w2 ⟨rfl, hO2, hu2⟩; have HU2 := Lib.hid (HU1.out.trans' hu2 (fun x hx e => by omega)); have HO2 := Lib.hid (show OneAt b ml mk 7 ttl d m w2 from by rw [HN.out] at hO2; exact hO2); clear hu2 hO2)
    | (go_at_call 14; (with_reducible refine HO2.out.now_.mono ?_); rintro e3 w3 ⟨rfl, rfl⟩)
    | (go_at_call 15; (with_reducible refine HO2.out.left.mono ?_); rintro e4 w4 ⟨rfl, hu4⟩; rw [HLF.out]; have HU4 := Lib.hid (HU2.out.trans hu4); have HO4 := Lib.hid (HO2.out.grow hu4); clear hu4)
    | (go_at_call 11; (with_reducible refine (HO4.out.tick 4611686018427387904 (by decide)).mono ?_); rintro e5 w5 ⟨rfl, hO5, hu5⟩; have HU5 := Lib.hid (HU4.out.trans' hu5 (fun x hx e => by omega)); have HO5 := Lib.hid (show OneAt b ml mk 7 ttl d 4611686018427387904 w5 from by have := HE.out; unfold topT at this; rw [this] at hO5; exact hO5); clear hu5 hO5)
    | (go_at_call 12; (with_reducible refine (HO5.out.yes d1).mono ?_); rintro e6 w6 ⟨a6, c6, rfl, hs6, hu6⟩; have HU6 := Lib.hid (HU5.out.trans hu6); have HO6 := Lib.hid (HO5.out.grow hu6); obtain ⟨bb, off, cap, hee, hcap, hbb, hcl⟩ := hs6.block (by decide); cases hee; have cl : w6.cell? ⟨bb, off, none⟩ = some (.int .i64 7) := hcl 0 _ rfl; clear hu6 hs6 hcl)
    | (go_at_call 14; (with_reducible refine HO6.out.now_.mono ?_); rintro e7 w7 ⟨rfl, rfl⟩))
  go_ret
  exact ⟨by simp, HU6.out⟩

set_option maxRecDepth 100000 in
set_option maxHeartbeats 2000000 in
theorem ends_walk (now ttl n : Int) (w : World) :
    Calls Try.prog 4 #[.int .i64 now, .int .i64 ttl, .int .i64 n] w fun e w' => e = .returned (.bool true) ∧ Upd (fun _ => False) w w' := by
  have hc : (0 ≤ now ∧ now ≤ 4611686018427387904 ∧ 1 ≤ ttl ∧ ttl ≤ 4611686018427387904 ∧ 0 ≤ n) ∨ now < 0 ∨ (0 ≤ now ∧ 4611686018427387904 < now) ∨ (0 ≤ now ∧ now ≤ 4611686018427387904 ∧ ttl < 1) ∨
      (0 ≤ now ∧ now ≤ 4611686018427387904 ∧ 1 ≤ ttl ∧ 4611686018427387904 < ttl) ∨ (0 ≤ now ∧ now ≤ 4611686018427387904 ∧ 1 ≤ ttl ∧ ttl ≤ 4611686018427387904 ∧ n < 0) := by omega
  rcases hc with ⟨h0, h1, h2, h3, h4⟩ | h0 | ⟨h0, h1⟩ | ⟨h0, h1, h2⟩ | ⟨h0, h1, h2, h3⟩ | ⟨h0, h1, h2, h3, h4⟩
  · exact ends_ok now ttl n w h0 h1 h2 h3 h4
  all_goals
    go_enter Try.func4, Try.ntmps4
    go_wp2_with (first
      | (go_at_call 8; (with_reducible refine (lives_calls w).mono ?_); rintro e0 w0 ⟨rfl, hu0⟩)
      | (go_at_call 8; (with_reducible refine (lives_calls w0).mono ?_); rintro e1 w1 ⟨rfl, hu1⟩))
    go_ret
    exact ⟨rfl, hu0.trans hu1⟩

end Go.Proofs.Ytcbngjlgcgcljaa
