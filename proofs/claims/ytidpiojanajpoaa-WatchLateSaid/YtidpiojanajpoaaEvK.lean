/-
  SameBatch of equal batches.
-/
import Derived.Test.YtidpiojanajpoaaEvJ
namespace Go.Proofs.Ytidpiojanajpoaa
open Go.RowKit Go.Tb Go.MapKept Go.ChangeMaps
set_option linter.unusedVariables false

set_option maxRecDepth 100000 in
set_option maxHeartbeats 1000000 in
theorem sameb_true (i f r : Int) (cn pg : Bool) (a1 a2 : Option Addr) (n1 z1 n2 z2 : Nat) (ps qs : List EvP) (I J : Nat → Prop) (w : World) (hp : Evs w I (.slice a1 n1 z1) ps) (hq : Evs w J (.slice a2 n2 z2) qs) (he : ps.map EvP.x = qs.map EvP.x) (hn : ps.length ≤ 800000000000) :
    Calls Try.prog 14 #[.agg #[.int .i64 i, .slice a1 n1 z1, .bool cn, .int .i64 f, .bool pg, .int .i64 r], .agg #[.int .i64 i, .slice a2 n2 z2, .bool cn, .int .i64 f, .bool pg, .int .i64 r]] w fun e w' => e = .returned (.bool true) ∧ Upd (fun _ => False) w w' := by
  have hu := (upd_alloc (fun _ => False) w (.cells #[.int .i64 i, .slice a1 n1 z1, .bool cn, .int .i64 f, .bool pg, .int .i64 r] 40)).alloc (.cells #[.int .i64 i, .slice a2 n2 z2, .bool cn, .int .i64 f, .bool pg, .int .i64 r] 40)
  have hs := same17_true _ _ ps qs I J _ (hp.grow hu) (hq.grow hu) he hn
  have k1 : (i == i) = true := by simp
  have k2 : (cn == cn) = true := by simp
  have k3 : (f == f) = true := by simp
  have k4 : (pg == pg) = true := by simp
  have k5 : (r == r) = true := by simp
  have HU := Lib.hid hu
  clear hp hq he hu
  go_enter Try.func14, Try.ntmps14
  go_wp2_with (go_at_call 19; (with_reducible refine hs.mono ?_); rintro e w' ⟨rfl, hu1⟩)
  go_ret
  exact ⟨rfl, HU.out.trans hu1⟩

end Go.Proofs.Ytidpiojanajpoaa
