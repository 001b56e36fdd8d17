/-
  SiftLimits: the walk, with its ways out.
-/
import Derived.Test.YtpbenicglhccmaaLimitsW
namespace Go.Proofs.Ytpbenicglhccmaa
open Go.RowKit Go.Tb Go.MapKept Go.ChangeMaps Go.Lib
set_option linter.unusedVariables false

set_option maxRecDepth 100000 in
set_option maxHeartbeats 4000000 in
theorem limits_walk (k e : Sv) (q : Qr) (a : Option Addr) (c : Nat) (ps : List KvP) (w : World) (hs : Kvs w (fun _ => True) (.slice a ps.length c) ps) :
    Calls Try.prog 3 #[.agg (qcells k.v e.v q), .slice a ps.length c] w fun e w' => e = .returned (.bool true) ∧ Upd (fun _ => False) w w' := by
  have Hs := Lib.hid hs
  have Hu0 := Lib.hid (upd_alloc (fun _ => False) w (.cells (qcells k.v e.v q) 24))
  have Hq0 := Lib.hid (heap_alloc w (.cells (qcells k.v e.v q) 24)).1
  clear hs
  cases hf : fewB ps with
  | false =>
    have Hf := Lib.hid hf
    clear hf
    go_enter Try.func3, Try.ntmps3
    go_wp2_with (first
      | (go_at_call 7; (with_reducible refine (lives_calls (w.alloc (.cells (qcells k.v e.v q) 24))).mono ?_); rintro e1 w1 ⟨rfl, hu1⟩; have U1 := Lib.hid (Hu0.out.trans hu1); clear hu1)
      | (go_at_call 8; (with_reducible refine (few_at Hf.out a c _ w1 (Hs.out.grow U1.out)).mono ?_); rintro e2 w2 ⟨rfl, hu2⟩; have U2 := Lib.hid (U1.out.trans hu2); clear hu2)
      | (go_at_call 7; (with_reducible refine (lives_calls w2).mono ?_); rintro e3 w3 ⟨rfl, hu3⟩; have U3 := Lib.hid (U2.out.trans hu3); clear hu3))
    go_ret
    exact ⟨rfl, U3.out⟩
  | true =>
    have Hf := Lib.hid hf
    clear hf
    cases hr : rightQ q with
    | false =>
      have Hr := Lib.hid hr
      clear hr
      go_enter Try.func3, Try.ntmps3
      go_wp2_with (first | (go_at_call 7; (with_reducible refine (lives_calls (w.alloc (.cells (qcells k.v e.v q) 24))).mono ?_); rintro e1 w1 ⟨rfl, hu1⟩; have U1 := Lib.hid (Hu0.out.trans hu1); have Q1 := Lib.hid (hu1.heap Hq0.out (fun x => x)); clear hu1) | (go_at_call 8; (with_reducible refine (few_at Hf.out a c _ w1 (Hs.out.grow U1.out)).mono ?_); rintro e2 w2 ⟨rfl, hu2⟩; have U2 := Lib.hid (U1.out.trans hu2); have Q2 := Lib.hid (hu2.heap Q1.out (fun x => x)); have d0 : w2.cell? ⟨w.heap.size, 0, none⟩ = some (k.v) := cell_of Q2.out 0; have d1 : w2.cell? ⟨w.heap.size, 1, none⟩ = some (e.v) := cell_of Q2.out 1; have d2 : w2.cell? ⟨w.heap.size, 2, none⟩ = some (.int .i64 q.at_) := cell_of Q2.out 2; have d3 : w2.cell? ⟨w.heap.size, 3, none⟩ = some (.int .i64 q.lim) := cell_of Q2.out 3; have d4 : w2.cell? ⟨w.heap.size, 4, none⟩ = some (.int .i64 q.sort) := cell_of Q2.out 4; have d5 : w2.cell? ⟨w.heap.size, 5, none⟩ = some (.bool q.desc) := cell_of Q2.out 5; have d6 : w2.cell? ⟨w.heap.size, 6, none⟩ = some (.bool q.keys) := cell_of Q2.out 6; have d7 : w2.cell? ⟨w.heap.size, 7, none⟩ = some (.bool q.count) := cell_of Q2.out 7; have d8 : w2.cell? ⟨w.heap.size, 8, none⟩ = some (.int .i64 q.mm) := cell_of Q2.out 8; have d9 : w2.cell? ⟨w.heap.size, 9, none⟩ = some (.int .i64 q.xm) := cell_of Q2.out 9; have d10 : w2.cell? ⟨w.heap.size, 10, none⟩ = some (.int .i64 q.mc) := cell_of Q2.out 10; have d11 : w2.cell? ⟨w.heap.size, 11, none⟩ = some (.int .i64 q.xc) := cell_of Q2.out 11; clear hu2) | (go_at_call 9; refine (right_at Hr.out k.v e.v w2).mono ?_; rintro e3 w3 ⟨rfl, hu3⟩; have U3 := Lib.hid (U2.out.trans hu3); have Q3 := Lib.hid (hu3.heap Q2.out (fun x => x)); clear d0 d1 d2 d3 d4 d5 d6 d7 d8 d9 d10 d11; skip; skip; clear hu3) | (go_at_call 7; (with_reducible refine (lives_calls w3).mono ?_); rintro e4 w4 ⟨rfl, hu4⟩; have U4 := Lib.hid (U3.out.trans hu4); clear hu4))
      go_ret
      exact ⟨rfl, U4.out⟩
    | true =>
      cases hc : q.count with
      | false => exact limits_ok _ _ _ _ _ _ q a c ps w Hs.out Hf.out hr hc
      | true =>
        have Hr := Lib.hid hr
        have Hc := Lib.hid hc
        clear hr hc
        go_enter Try.func3, Try.ntmps3
        go_wp2_with (first | (go_at_call 7; (with_reducible refine (lives_calls (w.alloc (.cells (qcells k.v e.v q) 24))).mono ?_); rintro e1 w1 ⟨rfl, hu1⟩; have U1 := Lib.hid (Hu0.out.trans hu1); have Q1 := Lib.hid (hu1.heap Hq0.out (fun x => x)); clear hu1) | (go_at_call 8; (with_reducible refine (few_at Hf.out a c _ w1 (Hs.out.grow U1.out)).mono ?_); rintro e2 w2 ⟨rfl, hu2⟩; have U2 := Lib.hid (U1.out.trans hu2); have Q2 := Lib.hid (hu2.heap Q1.out (fun x => x)); have d0 : w2.cell? ⟨w.heap.size, 0, none⟩ = some (k.v) := cell_of Q2.out 0; have d1 : w2.cell? ⟨w.heap.size, 1, none⟩ = some (e.v) := cell_of Q2.out 1; have d2 : w2.cell? ⟨w.heap.size, 2, none⟩ = some (.int .i64 q.at_) := cell_of Q2.out 2; have d3 : w2.cell? ⟨w.heap.size, 3, none⟩ = some (.int .i64 q.lim) := cell_of Q2.out 3; have d4 : w2.cell? ⟨w.heap.size, 4, none⟩ = some (.int .i64 q.sort) := cell_of Q2.out 4; have d5 : w2.cell? ⟨w.heap.size, 5, none⟩ = some (.bool q.desc) := cell_of Q2.out 5; have d6 : w2.cell? ⟨w.heap.size, 6, none⟩ = some (.bool q.keys) := cell_of Q2.out 6; have d7 : w2.cell? ⟨w.heap.size, 7, none⟩ = some (.bool q.count) := cell_of Q2.out 7; have d8 : w2.cell? ⟨w.heap.size, 8, none⟩ = some (.int .i64 q.mm) := cell_of Q2.out 8; have d9 : w2.cell? ⟨w.heap.size, 9, none⟩ = some (.int .i64 q.xm) := cell_of Q2.out 9; have d10 : w2.cell? ⟨w.heap.size, 10, none⟩ = some (.int .i64 q.mc) := cell_of Q2.out 10; have d11 : w2.cell? ⟨w.heap.size, 11, none⟩ = some (.int .i64 q.xc) := cell_of Q2.out 11; clear hu2) | (go_at_call 9; refine (right_at Hr.out k.v e.v w2).mono ?_; rintro e3 w3 ⟨rfl, hu3⟩; have U3 := Lib.hid (U2.out.trans hu3); have Q3 := Lib.hid (hu3.heap Q2.out (fun x => x)); clear d0 d1 d2 d3 d4 d5 d6 d7 d8 d9 d10 d11; have c7 : w3.cell? ⟨w.heap.size, 7, none⟩ = some (.bool true) := (cell_of Q3.out 7).trans (Hc.out ▸ rfl); skip; clear hu3) | (go_at_call 7; (with_reducible refine (lives_calls w3).mono ?_); rintro e4 w4 ⟨rfl, hu4⟩; have U4 := Lib.hid (U3.out.trans hu4); clear hu4))
        go_ret
        exact ⟨rfl, U4.out⟩

end Go.Proofs.Ytpbenicglhccmaa
