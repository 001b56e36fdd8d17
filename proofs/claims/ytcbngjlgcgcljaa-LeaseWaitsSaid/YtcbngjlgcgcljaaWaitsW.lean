/-
  LeaseWaits: the walk.
-/
import Derived.Test.YtcbngjlgcgcljaaLeaseG
namespace Go.Proofs.Ytcbngjlgcgcljaa
open Go.RowKit Go.Tb Go.MapKept Go.ChangeMaps Go.Lib
set_option linter.unusedVariables false

set_option maxRecDepth 100000 in
set_option maxHeartbeats 2000000 in
theorem waits_ok (now ttl ahead more : Int) (w : World) (h0 : 0 ≤ now) (h1 : now ≤ 1099511627776) (h2 : 1 ≤ ttl) (h3 : ttl ≤ 1099511627776) (h4 : 0 ≤ ahead) (h5 : ahead < ttl) (h6 : 0 ≤ more) (h7 : more ≤ 1099511627776) :
    Calls Try.prog 3 #[.int .i64 now, .int .i64 ttl, .int .i64 ahead, .int .i64 more] w fun e w' => e = .returned (.bool true) ∧ Upd (fun _ => False) w w' := by
  have hnew := fun W => new_none now W h0 (by unfold topT; omega)
  have hgr := fun b ml mk W hL => grant_first b ml mk now ttl W hL h0 (by unfold topT; omega) h2 (by unfold topT; omega)
  have HG := Lib.hid hgr
  clear hgr
  have e1 : laterI now ttl = now + ttl := laterI_small (by unfold topT; omega)
  have e2 : laterI now ahead = now + ahead := laterI_small (by unfold topT; omega)
  have e3 : laterI (now + ahead) ttl = now + ahead + ttl := laterI_small (by unfold topT; omega)
  have e4 : laterI (now + ahead) (ttl - 1) = now + ahead + ttl - 1 := by rw [laterI_small (by unfold topT; omega)]; omega
  have e5 : laterI (now + ahead + ttl - 1) 1 = now + ahead + ttl := by rw [laterI_small (by unfold topT; omega)]; omega
  have e6 : laterI (now + ahead + ttl) more = now + ahead + ttl + more := laterI_small (by unfold topT; omega)
  have E1 := Lib.hid e1
  have E2 := Lib.hid e2
  have E3 := Lib.hid e3
  have E4 := Lib.hid e4
  have E5 := Lib.hid e5
  have E6 := Lib.hid e6
  clear e1 e2 e3 e4 e5 e6
  go_enter Try.func3, Try.ntmps3
  go_wp2_with (first
    | (go_at_call 8; (with_reducible refine (lives_calls w).mono ?_); rintro e0 w0 ⟨rfl, hu0⟩; have HU0 := Lib.hid hu0; clear hu0)
    | (go_at_call 9; (with_reducible refine (hnew w0).mono ?_); rintro e1 w1 ⟨b, ml, mk, rfl, hL1, hb, hml, hmk, hu1⟩; have hg := HG.out b ml mk w1 hL1; have HU1 := Lib.hid (HU0.out.trans hu1); have hs0 := HU0.out.size; clear hu1 hL1)
    | (go_at_call 10; (with_reducible refine hg.mono ?_); rintro e2 w2 ⟨rfl, hO2, hu2⟩; have HU2 := Lib.hid (HU1.out.trans' hu2 (fun x hx e => by omega)); have HO2 := Lib.hid (show OneAt b ml mk 1 ttl (now + ttl) now w2 from by rw [E1.out] at hO2; exact hO2); have hlt2 := HO2.out.lt; clear hu2 hO2 hg)
    | (go_at_call 11; (with_reducible refine ((HO2.out.grow (upd_alloc _ w2 (.cells #[.int .i64 1, .int .i64 ttl] 28))).tick ahead h4).mono ?_); rintro e3 w3 ⟨rfl, hO3, hu3⟩; have HU3 := Lib.hid ((HU2.out.alloc (.cells #[.int .i64 1, .int .i64 ttl] 28)).trans' hu3 (fun x hx e => by omega)); have HO3 := Lib.hid (show OneAt b ml mk 1 ttl (now + ttl) (now + ahead) w3 from by rw [E2.out] at hO3; exact hO3); have C3 := Lib.hid (hu3.cell (cell_of (heap_alloc w2 (.cells #[.int .i64 1, .int .i64 ttl] 28)).1 0) (by simp; omega)); clear hu3 hO3)
    | (go_at_call 12; (with_reducible refine (HO3.out.no (by omega)).mono ?_); rintro e4 w4 ⟨a4, c4, rfl, hu4⟩; have HU4 := Lib.hid (HU3.out.trans hu4); have HO4 := Lib.hid (HO3.out.grow hu4); have c4' := hu4.cell C3.out (fun x => x); clear hu4)
    | (go_at_call 13; (with_reducible refine HO4.out.keep.mono ?_); rintro e5 w5 ⟨rfl, hO5, hu5⟩; have HU5 := Lib.hid (HU4.out.trans' hu5 (fun x hx e => by omega)); have HO5 := Lib.hid (show OneAt b ml mk 1 ttl (now + ahead + ttl) (now + ahead) w5 from by rw [E3.out] at hO5; exact hO5); clear c4' hu5 hO5)
    | (go_at_call 11; (with_reducible refine (HO5.out.tick (ttl - 1) (by omega)).mono ?_); rintro e6 w6 ⟨rfl, hO6, hu6⟩; have HU6 := Lib.hid (HU5.out.trans' hu6 (fun x hx e => by omega)); have HO6 := Lib.hid (show OneAt b ml mk 1 ttl (now + ahead + ttl) (now + ahead + ttl - 1) w6 from by rw [E4.out] at hO6; exact hO6); clear hu6 hO6)
    | (go_at_call 12; (with_reducible refine (HO6.out.no (by omega)).mono ?_); rintro e7 w7 ⟨a7, c7, rfl, hu7⟩; have HU7 := Lib.hid (HU6.out.trans hu7); have HO7 := Lib.hid (HO6.out.grow hu7); clear hu7)
    | (go_at_call 11; (with_reducible refine (HO7.out.tick 1 (by omega)).mono ?_); rintro e8 w8 ⟨rfl, hO8, hu8⟩; have HU8 := Lib.hid (HU7.out.trans' hu8 (fun x hx e => by omega)); have HO8 := Lib.hid (show OneAt b ml mk 1 ttl (now + ahead + ttl) (now + ahead + ttl) w8 from by rw [E5.out] at hO8; exact hO8); clear hu8 hO8)
    | (go_at_call 12; (with_reducible refine (HO8.out.yes (by omega)).mono ?_); rintro e9 w9 ⟨a9, c9, rfl, hs9, hu9⟩; have HU9 := Lib.hid (HU8.out.trans hu9); have HO9 := Lib.hid (HO8.out.grow hu9); clear hu9 hs9)
    | (go_at_call 11; (with_reducible refine (HO9.out.tick more h6).mono ?_); rintro e10 w10 ⟨rfl, hO10, hu10⟩; have HU10 := Lib.hid (HU9.out.trans' hu10 (fun x hx e => by omega)); have HO10 := Lib.hid (show OneAt b ml mk 1 ttl (now + ahead + ttl) (now + ahead + ttl + more) w10 from by rw [E6.out] at hO10; exact hO10); clear hu10 hO10)
    | (go_at_call 12; (with_reducible refine (HO10.out.yes (by omega)).mono ?_); rintro e11 w11 ⟨a11, c11, rfl, hs11, hu11⟩; have HU11 := Lib.hid (HU10.out.trans hu11); have HO11 := Lib.hid (HO10.out.grow hu11); clear hu11 hs11)
    | (go_at_call 14; (with_reducible refine HO11.out.now_.mono ?_); rintro e12 w12 ⟨rfl, rfl⟩))
  go_ret
  exact ⟨by simp, HU11.out⟩

set_option maxRecDepth 100000 in
set_option maxHeartbeats 2000000 in
theorem waits_walk (now ttl ahead more : Int) (w : World) :
    Calls Try.prog 3 #[.int .i64 now, .int .i64 ttl, .int .i64 ahead, .int .i64 more] w fun e w' => e = .returned (.bool true) ∧ Upd (fun _ => False) w w' := by
  have hc : (0 ≤ now ∧ now ≤ 1099511627776 ∧ 1 ≤ ttl ∧ ttl ≤ 1099511627776 ∧ 0 ≤ ahead ∧ ahead < ttl ∧ 0 ≤ more ∧ more ≤ 1099511627776) ∨ now < 0 ∨ (0 ≤ now ∧ 1099511627776 < now) ∨ (0 ≤ now ∧ now ≤ 1099511627776 ∧ ttl < 1) ∨
      (0 ≤ now ∧ now ≤ 1099511627776 ∧ 1 ≤ ttl ∧ 1099511627776 < ttl) ∨ (0 ≤ now ∧ now ≤ 1099511627776 ∧ 1 ≤ ttl ∧ ttl ≤ 1099511627776 ∧ ahead < 0) ∨ (0 ≤ now ∧ now ≤ 1099511627776 ∧ 1 ≤ ttl ∧ ttl ≤ 1099511627776 ∧ 0 ≤ ahead ∧ ttl ≤ ahead) ∨
      (0 ≤ now ∧ now ≤ 1099511627776 ∧ 1 ≤ ttl ∧ ttl ≤ 1099511627776 ∧ 0 ≤ ahead ∧ ahead < ttl ∧ more < 0) ∨ (0 ≤ now ∧ now ≤ 1099511627776 ∧ 1 ≤ ttl ∧ ttl ≤ 1099511627776 ∧ 0 ≤ ahead ∧ ahead < ttl ∧ 0 ≤ more ∧ 1099511627776 < more) := by omega
  rcases hc with ⟨h0, h1, h2, h3, h4, h5, h6, h7⟩ | h0 | ⟨h0, h1⟩ | ⟨h0, h1, h2⟩ | ⟨h0, h1, h2, h3⟩ | ⟨h0, h1, h2, h3, h4⟩ | ⟨h0, h1, h2, h3, h4, h5⟩ | ⟨h0, h1, h2, h3, h4, h5, h6⟩ | ⟨h0, h1, h2, h3, h4, h5, h6, h7⟩
  · exact waits_ok now ttl ahead more w h0 h1 h2 h3 h4 h5 h6 h7
  all_goals
    go_enter Try.func3, Try.ntmps3
    go_wp2_with (first
      | (go_at_call 8; (with_reducible refine (lives_calls w).mono ?_); rintro e0 w0 ⟨rfl, hu0⟩)
      | (go_at_call 8; (with_reducible refine (lives_calls w0).mono ?_); rintro e1 w1 ⟨rfl, hu1⟩))
    go_ret
    exact ⟨rfl, hu0.trans hu1⟩

end Go.Proofs.Ytcbngjlgcgcljaa
