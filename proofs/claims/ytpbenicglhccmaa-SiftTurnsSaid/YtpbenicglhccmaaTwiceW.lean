/-
  SiftTwice: the walk.
-/
import Derived.Test.YtpbenicglhccmaaTwiceA
namespace Go.Proofs.Ytpbenicglhccmaa
open Go.RowKit Go.Tb Go.MapKept Go.ChangeMaps Go.Lib
set_option linter.unusedVariables false

/-- How a law begins: the query lies in a block; lives, Few, Right have been asked. -/
theorem few_at {b : Bool} {ps : List KvP} (h : fewB ps = b) (a : Option Addr) (c : Nat) (I : Nat → Prop) (w : World) (hs : Kvs w I (.slice a ps.length c) ps) :
    Calls Try.prog 8 #[.slice a ps.length c] w fun e w' => e = .returned (.bool b) ∧ Upd (fun _ => False) w w' := by
  rw [← h]; exact few_calls a c ps I w hs
theorem right_at {b : Bool} {q : Qr} (h : rightQ q = b) (k e : Value) (w : World) :
    Calls Try.prog 9 #[.agg (qcells k e q)] w fun e w' => e = .returned (.bool b) ∧ Upd (fun _ => False) w w' := by
  rw [← h]; exact right_calls k e q w

set_option maxRecDepth 100000 in
set_option maxHeartbeats 4000000 in
theorem twice_walk (k e : Value) (q : Qr) (a : Option Addr) (c : Nat) (ps : List KvP) (w : World) (hs : Kvs w (fun _ => True) (.slice a ps.length c) ps) :
    Calls Try.prog 6 #[.agg (qcells k e q), .slice a ps.length c] w fun e w' => e = .returned (.bool true) ∧ Upd (fun _ => False) w w' := by
  have Hs := Lib.hid hs
  have Hu0 := Lib.hid (upd_alloc (fun _ => False) w (.cells (qcells k e q) 24))
  have Hq0 := Lib.hid (heap_alloc w (.cells (qcells k e q) 24)).1
  clear hs
  cases hf : fewB ps with
  | false =>
    have Hf := Lib.hid hf
    clear hf
    go_enter Try.func6, Try.ntmps6
    go_wp2_with (first
      | (go_at_call 7; (with_reducible refine (lives_calls (w.alloc (.cells (qcells k e q) 24))).mono ?_); rintro e1 w1 ⟨rfl, hu1⟩; have U1 := Lib.hid (Hu0.out.trans hu1); clear hu1)
      | (go_at_call 8; (with_reducible refine (few_at Hf.out a c _ w1 (Hs.out.grow U1.out)).mono ?_); rintro e2 w2 ⟨rfl, hu2⟩; have U2 := Lib.hid (U1.out.trans hu2); clear hu2)
      | (go_at_call 7; (with_reducible refine (lives_calls w2).mono ?_); rintro e3 w3 ⟨rfl, hu3⟩; have U3 := Lib.hid (U2.out.trans hu3); clear hu3))
    go_ret
    exact ⟨rfl, U3.out⟩
  | true =>
    have Hf := Lib.hid hf
    clear hf
    cases hr : rightQ q with
    | false =>
      have Hr := Lib.hid hr
      clear hr
      go_enter Try.func6, Try.ntmps6
      go_wp2_with (first | (go_at_call 7; (with_reducible refine (lives_calls (w.alloc (.cells (qcells k e q) 24))).mono ?_); rintro e1 w1 ⟨rfl, hu1⟩; have U1 := Lib.hid (Hu0.out.trans hu1); have Q1 := Lib.hid (hu1.heap Hq0.out (fun x => x)); clear hu1) | (go_at_call 8; (with_reducible refine (few_at Hf.out a c _ w1 (Hs.out.grow U1.out)).mono ?_); rintro e2 w2 ⟨rfl, hu2⟩; have U2 := Lib.hid (U1.out.trans hu2); have Q2 := Lib.hid (hu2.heap Q1.out (fun x => x)); have d0 : w2.cell? ⟨w.heap.size, 0, none⟩ = some (k) := cell_of Q2.out 0; have d1 : w2.cell? ⟨w.heap.size, 1, none⟩ = some (e) := cell_of Q2.out 1; have d2 : w2.cell? ⟨w.heap.size, 2, none⟩ = some (.int .i64 q.at_) := cell_of Q2.out 2; have d3 : w2.cell? ⟨w.heap.size, 3, none⟩ = some (.int .i64 q.lim) := cell_of Q2.out 3; have d4 : w2.cell? ⟨w.heap.size, 4, none⟩ = some (.int .i64 q.sort) := cell_of Q2.out 4; have d5 : w2.cell? ⟨w.heap.size, 5, none⟩ = some (.bool q.desc) := cell_of Q2.out 5; have d6 : w2.cell? ⟨w.heap.size, 6, none⟩ = some (.bool q.keys) := cell_of Q2.out 6; have d7 : w2.cell? ⟨w.heap.size, 7, none⟩ = some (.bool q.count) := cell_of Q2.out 7; have d8 : w2.cell? ⟨w.heap.size, 8, none⟩ = some (.int .i64 q.mm) := cell_of Q2.out 8; have d9 : w2.cell? ⟨w.heap.size, 9, none⟩ = some (.int .i64 q.xm) := cell_of Q2.out 9; have d10 : w2.cell? ⟨w.heap.size, 10, none⟩ = some (.int .i64 q.mc) := cell_of Q2.out 10; have d11 : w2.cell? ⟨w.heap.size, 11, none⟩ = some (.int .i64 q.xc) := cell_of Q2.out 11; clear hu2) | (go_at_call 9; refine (right_at Hr.out k e w2).mono ?_; rintro e3 w3 ⟨rfl, hu3⟩; have U3 := Lib.hid (U2.out.trans hu3); have Q3 := Lib.hid (hu3.heap Q2.out (fun x => x)); clear d0 d1 d2 d3 d4 d5 d6 d7 d8 d9 d10 d11; skip; skip; clear hu3) | (go_at_call 7; (with_reducible refine (lives_calls w3).mono ?_); rintro e4 w4 ⟨rfl, hu4⟩; have U4 := Lib.hid (U3.out.trans hu4); clear hu4))
      go_ret
      exact ⟨rfl, U4.out⟩
    | true =>
      have Hr := Lib.hid hr
      clear hr
      cases hck : q.count with
      | true =>
        have Hc := Lib.hid hck
        clear hck
        go_enter Try.func6, Try.ntmps6
        go_wp2_with (first | (go_at_call 7; (with_reducible refine (lives_calls (w.alloc (.cells (qcells k e q) 24))).mono ?_); rintro e1 w1 ⟨rfl, hu1⟩; have U1 := Lib.hid (Hu0.out.trans hu1); have Q1 := Lib.hid (hu1.heap Hq0.out (fun x => x)); clear hu1) | (go_at_call 8; (with_reducible refine (few_at Hf.out a c _ w1 (Hs.out.grow U1.out)).mono ?_); rintro e2 w2 ⟨rfl, hu2⟩; have U2 := Lib.hid (U1.out.trans hu2); have Q2 := Lib.hid (hu2.heap Q1.out (fun x => x)); have d0 : w2.cell? ⟨w.heap.size, 0, none⟩ = some (k) := cell_of Q2.out 0; have d1 : w2.cell? ⟨w.heap.size, 1, none⟩ = some (e) := cell_of Q2.out 1; have d2 : w2.cell? ⟨w.heap.size, 2, none⟩ = some (.int .i64 q.at_) := cell_of Q2.out 2; have d3 : w2.cell? ⟨w.heap.size, 3, none⟩ = some (.int .i64 q.lim) := cell_of Q2.out 3; have d4 : w2.cell? ⟨w.heap.size, 4, none⟩ = some (.int .i64 q.sort) := cell_of Q2.out 4; have d5 : w2.cell? ⟨w.heap.size, 5, none⟩ = some (.bool q.desc) := cell_of Q2.out 5; have d6 : w2.cell? ⟨w.heap.size, 6, none⟩ = some (.bool q.keys) := cell_of Q2.out 6; have d7 : w2.cell? ⟨w.heap.size, 7, none⟩ = some (.bool q.count) := cell_of Q2.out 7; have d8 : w2.cell? ⟨w.heap.size, 8, none⟩ = some (.int .i64 q.mm) := cell_of Q2.out 8; have d9 : w2.cell? ⟨w.heap.size, 9, none⟩ = some (.int .i64 q.xm) := cell_of Q2.out 9; have d10 : w2.cell? ⟨w.heap.size, 10, none⟩ = some (.int .i64 q.mc) := cell_of Q2.out 10; have d11 : w2.cell? ⟨w.heap.size, 11, none⟩ = some (.int .i64 q.xc) := cell_of Q2.out 11; clear hu2) | (go_at_call 9; refine (right_at Hr.out k e w2).mono ?_; rintro e3 w3 ⟨rfl, hu3⟩; have U3 := Lib.hid (U2.out.trans hu3); have Q3 := Lib.hid (hu3.heap Q2.out (fun x => x)); clear d0 d1 d2 d3 d4 d5 d6 d7 d8 d9 d10 d11; have c7 : w3.cell? ⟨w.heap.size, 7, none⟩ = some (.bool true) := (cell_of Q3.out 7).trans (Hc.out ▸ rfl); skip; clear hu3) | (go_at_call 7; (with_reducible refine (lives_calls w3).mono ?_); rintro e4 w4 ⟨rfl, hu4⟩; have U4 := Lib.hid (U3.out.trans hu4); clear hu4))
        go_ret
        exact ⟨rfl, U4.out⟩
      | false =>
        cases hkk : q.keys with
        | true =>
          have Hc := Lib.hid hck
          have Hk := Lib.hid hkk
          clear hck hkk
          go_enter Try.func6, Try.ntmps6
          go_wp2_with (first | (go_at_call 7; (with_reducible refine (lives_calls (w.alloc (.cells (qcells k e q) 24))).mono ?_); rintro e1 w1 ⟨rfl, hu1⟩; have U1 := Lib.hid (Hu0.out.trans hu1); have Q1 := Lib.hid (hu1.heap Hq0.out (fun x => x)); clear hu1) | (go_at_call 8; (with_reducible refine (few_at Hf.out a c _ w1 (Hs.out.grow U1.out)).mono ?_); rintro e2 w2 ⟨rfl, hu2⟩; have U2 := Lib.hid (U1.out.trans hu2); have Q2 := Lib.hid (hu2.heap Q1.out (fun x => x)); have d0 : w2.cell? ⟨w.heap.size, 0, none⟩ = some (k) := cell_of Q2.out 0; have d1 : w2.cell? ⟨w.heap.size, 1, none⟩ = some (e) := cell_of Q2.out 1; have d2 : w2.cell? ⟨w.heap.size, 2, none⟩ = some (.int .i64 q.at_) := cell_of Q2.out 2; have d3 : w2.cell? ⟨w.heap.size, 3, none⟩ = some (.int .i64 q.lim) := cell_of Q2.out 3; have d4 : w2.cell? ⟨w.heap.size, 4, none⟩ = some (.int .i64 q.sort) := cell_of Q2.out 4; have d5 : w2.cell? ⟨w.heap.size, 5, none⟩ = some (.bool q.desc) := cell_of Q2.out 5; have d6 : w2.cell? ⟨w.heap.size, 6, none⟩ = some (.bool q.keys) := cell_of Q2.out 6; have d7 : w2.cell? ⟨w.heap.size, 7, none⟩ = some (.bool q.count) := cell_of Q2.out 7; have d8 : w2.cell? ⟨w.heap.size, 8, none⟩ = some (.int .i64 q.mm) := cell_of Q2.out 8; have d9 : w2.cell? ⟨w.heap.size, 9, none⟩ = some (.int .i64 q.xm) := cell_of Q2.out 9; have d10 : w2.cell? ⟨w.heap.size, 10, none⟩ = some (.int .i64 q.mc) := cell_of Q2.out 10; have d11 : w2.cell? ⟨w.heap.size, 11, none⟩ = some (.int .i64 q.xc) := cell_of Q2.out 11; clear hu2) | (go_at_call 9; refine (right_at Hr.out k e w2).mono ?_; rintro e3 w3 ⟨rfl, hu3⟩; have U3 := Lib.hid (U2.out.trans hu3); have Q3 := Lib.hid (hu3.heap Q2.out (fun x => x)); clear d0 d1 d2 d3 d4 d5 d6 d7 d8 d9 d10 d11; have c7 : w3.cell? ⟨w.heap.size, 7, none⟩ = some (.bool false) := (cell_of Q3.out 7).trans (Hc.out ▸ rfl); have c6 : w3.cell? ⟨w.heap.size, 6, none⟩ = some (.bool true) := (cell_of Q3.out 6).trans (Hk.out ▸ rfl); clear hu3) | (go_at_call 7; (with_reducible refine (lives_calls w3).mono ?_); rintro e4 w4 ⟨rfl, hu4⟩; have U4 := Lib.hid (U3.out.trans hu4); clear hu4))
          go_ret
          exact ⟨rfl, U4.out⟩
        | false =>
          have Hc := Lib.hid hck
          have Hk := Lib.hid hkk
          clear hck hkk
          go_enter Try.func6, Try.ntmps6
          go_wp2_with (first
            | (go_at_call 7; (with_reducible refine (lives_calls (w.alloc (.cells (qcells k e q) 24))).mono ?_); rintro e1 w1 ⟨rfl, hu1⟩; have U1 := Lib.hid (Hu0.out.trans hu1); have Q1 := Lib.hid (hu1.heap Hq0.out (fun x => x)); clear hu1) | (go_at_call 8; (with_reducible refine (few_at Hf.out a c _ w1 (Hs.out.grow U1.out)).mono ?_); rintro e2 w2 ⟨rfl, hu2⟩; have U2 := Lib.hid (U1.out.trans hu2); have Q2 := Lib.hid (hu2.heap Q1.out (fun x => x)); have d0 : w2.cell? ⟨w.heap.size, 0, none⟩ = some (k) := cell_of Q2.out 0; have d1 : w2.cell? ⟨w.heap.size, 1, none⟩ = some (e) := cell_of Q2.out 1; have d2 : w2.cell? ⟨w.heap.size, 2, none⟩ = some (.int .i64 q.at_) := cell_of Q2.out 2; have d3 : w2.cell? ⟨w.heap.size, 3, none⟩ = some (.int .i64 q.lim) := cell_of Q2.out 3; have d4 : w2.cell? ⟨w.heap.size, 4, none⟩ = some (.int .i64 q.sort) := cell_of Q2.out 4; have d5 : w2.cell? ⟨w.heap.size, 5, none⟩ = some (.bool q.desc) := cell_of Q2.out 5; have d6 : w2.cell? ⟨w.heap.size, 6, none⟩ = some (.bool q.keys) := cell_of Q2.out 6; have d7 : w2.cell? ⟨w.heap.size, 7, none⟩ = some (.bool q.count) := cell_of Q2.out 7; have d8 : w2.cell? ⟨w.heap.size, 8, none⟩ = some (.int .i64 q.mm) := cell_of Q2.out 8; have d9 : w2.cell? ⟨w.heap.size, 9, none⟩ = some (.int .i64 q.xm) := cell_of Q2.out 9; have d10 : w2.cell? ⟨w.heap.size, 10, none⟩ = some (.int .i64 q.mc) := cell_of Q2.out 10; have d11 : w2.cell? ⟨w.heap.size, 11, none⟩ = some (.int .i64 q.xc) := cell_of Q2.out 11; clear hu2) | (go_at_call 9; refine (right_at Hr.out k e w2).mono ?_; rintro e3 w3 ⟨rfl, hu3⟩; have U3 := Lib.hid (U2.out.trans hu3); have Q3 := Lib.hid (hu3.heap Q2.out (fun x => x)); clear d0 d1 d2 d3 d4 d5 d6 d7 d8 d9 d10 d11; have c7 : w3.cell? ⟨w.heap.size, 7, none⟩ = some (.bool false) := (cell_of Q3.out 7).trans (Hc.out ▸ rfl); have c6 : w3.cell? ⟨w.heap.size, 6, none⟩ = some (.bool false) := (cell_of Q3.out 6).trans (Hk.out ▸ rfl); clear hu3)
            | ((with_reducible refine wpl_load (ty := 24) Q3.out Try.underlying24 ?_ ?_ ?_ ?_); rfl; rfl; kernel_rfl)
            | (go_at_call 10; (with_reducible refine (first_calls k e q a c ps w3 Hr.out Hc.out Hk.out (Hs.out.grow U3.out) (fewB_true Hf.out)).mono ?_); rintro e4 w4 ⟨a4, c4, rs, m4, rfl, hkv4, hl4, hag4, hu4⟩; have Hkv4 := Lib.hid (hkv4.grow (upd_alloc (fun _ => False) w4 (.cells #[.slice a4 rs.length c4, .int .i64 (ps.length : Nat), .bool m4] 30))); have U4 := Lib.hid ((U3.out.trans hu4).alloc (.cells #[.slice a4 rs.length c4, .int .i64 (ps.length : Nat), .bool m4] 30)); have Q4 := Lib.hid ((upd_alloc (fun _ => False) w4 (.cells #[.slice a4 rs.length c4, .int .i64 (ps.length : Nat), .bool m4] 30)).heap (hu4.heap Q3.out (fun x => x)) (fun x => x)); have R4 := Lib.hid (heap_alloc w4 (.cells #[.slice a4 rs.length c4, .int .i64 (ps.length : Nat), .bool m4] 30)).1; have L4 := Lib.hid hl4; have Ag4 := Lib.hid (hag4 _ (upd_alloc (fun _ => False) w4 (.cells #[.slice a4 rs.length c4, .int .i64 (ps.length : Nat), .bool m4] 30))); clear hkv4 hl4 hag4 hu4)
            | ((with_reducible refine wpl_load (ty := 24) Q4.out Try.underlying24 ?_ ?_ ?_ ?_); rfl; rfl; kernel_rfl)
            | (go_at_call 10; (with_reducible refine Ag4.out.mono ?_); rintro e5 w5 ⟨a5, c5, rs2, rfl, hsame, hkv5, hu5⟩; have Same := Lib.hid hsame; have ua5 := upd_alloc (fun _ => False) w5 (.cells #[.slice a5 rs2.length c5, .int .i64 (rs.length : Nat), .bool false] 30); have Kv4 := Lib.hid ((Hkv4.out.grow hu5).grow ua5); have Kv5 := Lib.hid (hkv5.grow ua5); have U5 := Lib.hid ((U4.out.trans hu5).trans ua5); have R45 := Lib.hid (ua5.heap (hu5.heap R4.out (fun x => x)) (fun x => x)); have R5 := Lib.hid (heap_alloc w5 (.cells #[.slice a5 rs2.length c5, .int .i64 (rs.length : Nat), .bool false] 30)).1; clear hsame hkv5 hu5 ua5)
            | (go_at_call 10; (with_reducible refine (zero_calls a c ps _ (Hs.out.grow U5.out) (fewB_true Hf.out)).mono ?_); rintro e6 w6 ⟨a6, c6', rfl, hu6⟩; have ua6 := upd_alloc (fun _ => False) w6 (.cells #[.slice a6 ps.length c6', .int .i64 (ps.length : Nat), .bool false] 30); have V4 := Lib.hid ((Kv4.out.grow hu6).grow ua6); have V5 := Lib.hid ((Kv5.out.grow hu6).grow ua6); have U6 := Lib.hid ((U5.out.trans hu6).trans ua6); have R46 := Lib.hid (ua6.heap (hu6.heap R45.out (fun x => x)) (fun x => x)); have R56 := Lib.hid (ua6.heap (hu6.heap R5.out (fun x => x)) (fun x => x)); have R6 := Lib.hid (heap_alloc w6 (.cells #[.slice a6 ps.length c6', .int .i64 (ps.length : Nat), .bool false] 30)).1; have f40 := cell_of R46.out 0; have f50 := cell_of R56.out 0; have hsa := sameall_calls _ _ rs rs2 _ _ _ V4.out V5.out (by have := L4.out; omega); rw [Same.out] at hsa; clear hu6 ua6)
            | (go_at_call 11; (with_reducible refine hsa.mono ?_); rintro e7 w7 ⟨rfl, hu7⟩; have U7 := Lib.hid (U6.out.trans hu7); have g40 := cell_of (hu7.heap R46.out (fun x => x)) 0; have g51 := cell_of (hu7.heap R56.out (fun x => x)) 1; have g52 := cell_of (hu7.heap R56.out (fun x => x)) 2; have g60 := cell_of (hu7.heap R6.out (fun x => x)) 0; have g62 := cell_of (hu7.heap R6.out (fun x => x)) 2; clear hu7))
          go_ret
          exact ⟨rfl, U7.out⟩

end Go.Proofs.Ytpbenicglhccmaa
