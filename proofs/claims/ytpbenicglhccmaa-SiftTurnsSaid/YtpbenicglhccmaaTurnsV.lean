/-
  SiftTurns: the walk, with its ways out.
-/
import Derived.Test.YtpbenicglhccmaaTurnsW
namespace Go.Proofs.Ytpbenicglhccmaa
open Go.RowKit Go.Tb Go.MapKept Go.ChangeMaps Go.Lib
set_option linter.unusedVariables false

set_option maxRecDepth 100000 in
set_option maxHeartbeats 4000000 in
theorem turns_walk (k e : Sv) (q : Qr) (a : Option Addr) (c : Nat) (ps : List KvP) (turn : Int) (w : World) (hs : Kvs w (fun _ => True) (.slice a ps.length c) ps) :
    Calls Try.prog 4 #[.agg (qcells k.v e.v q), .slice a ps.length c, .int .i64 turn] w fun e w' => e = .returned (.bool true) ∧ Upd (fun _ => False) w w' := by
  have Hs := Lib.hid hs
  have Hu0 := Lib.hid (upd_alloc (fun _ => False) w (.cells (qcells k.v e.v q) 24))
  clear hs
  cases hf : fewB ps with
  | false =>
    have Hf := Lib.hid hf
    clear hf
    go_enter Try.func4, Try.ntmps4
    go_wp2_with (first
      | (go_at_call 7; (with_reducible refine (lives_calls (w.alloc (.cells (qcells k.v e.v q) 24))).mono ?_); rintro e1 w1 ⟨rfl, hu1⟩; have U1 := Lib.hid (Hu0.out.trans hu1); clear hu1)
      | (go_at_call 8; (with_reducible refine (few_at Hf.out a c _ w1 (Hs.out.grow U1.out)).mono ?_); rintro e2 w2 ⟨rfl, hu2⟩; have U2 := Lib.hid (U1.out.trans hu2); clear hu2)
      | (go_at_call 7; (with_reducible refine (lives_calls w2).mono ?_); rintro e3 w3 ⟨rfl, hu3⟩; have U3 := Lib.hid (U2.out.trans hu3); clear hu3))
    go_ret
    exact ⟨rfl, U3.out⟩
  | true =>
    by_cases hpos : 0 < ps.length
    · exact turns_ok _ _ _ _ _ _ q a c ps turn w Hs.out hf hpos
    · have Hf := Lib.hid hf
      have hz : ps.length = 0 := by omega
      have Hs2 := Lib.hid (show Kvs w (fun _ => True) (.slice a 0 c) ps by rw [← hz]; exact Hs.out)
      clear hf hpos Hs
      rw [hz]
      clear hz
      go_enter Try.func4, Try.ntmps4
      go_wp2_with (first
        | (go_at_call 7; (with_reducible refine (lives_calls (w.alloc (.cells (qcells k.v e.v q) 24))).mono ?_); rintro e1 w1 ⟨rfl, hu1⟩; have U1 := Lib.hid (Hu0.out.trans hu1); have hfw := few_at Hf.out a c _ w1 (by have := Hs2.out.grow U1.out; have e0 : ps.length = 0 := this.1.size; rw [e0]; exact this); have e0 := Lib.hid (show ps.length = 0 from Hs2.out.1.size); rw [e0.out] at hfw; clear hu1)
        | (go_at_call 8; (with_reducible refine hfw.mono ?_); rintro e2 w2 ⟨rfl, hu2⟩; have U2 := Lib.hid (U1.out.trans hu2); clear hu2)
        | (go_at_call 7; (with_reducible refine (lives_calls w2).mono ?_); rintro e3 w3 ⟨rfl, hu3⟩; have U3 := Lib.hid (U2.out.trans hu3); clear hu3))
      go_ret
      exact ⟨rfl, U3.out⟩

end Go.Proofs.Ytpbenicglhccmaa
