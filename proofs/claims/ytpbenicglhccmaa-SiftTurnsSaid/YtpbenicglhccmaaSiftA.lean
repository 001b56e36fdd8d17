/-
  A query: Right, Keeps, compare.
-/
import Derived.Test.YtpbenicglhccmaaKvC
namespace Go.Proofs.Ytpbenicglhccmaa
open Go.RowKit Go.Tb Go.MapKept Go.ChangeMaps Go.Lib
set_option linter.unusedVariables false

/-- What a query says. -/
structure Qr where
  at_ : Int
  lim : Int
  sort : Int
  desc : Bool
  keys : Bool
  count : Bool
  mm : Int
  xm : Int
  mc : Int
  xc : Int
def qcells (k e : Value) (q : Qr) : Array Value := #[k, e, .int .i64 q.at_, .int .i64 q.lim, .int .i64 q.sort, .bool q.desc, .bool q.keys, .bool q.count, .int .i64 q.mm, .int .i64 q.xm, .int .i64 q.mc, .int .i64 q.xc]

def rightQ (q : Qr) : Bool := decide (0 ≤ q.sort ∧ q.sort ≤ 4 ∧ 0 ≤ q.lim ∧ q.lim ≤ 4096 ∧ 0 ≤ q.mm ∧ 0 ≤ q.xm ∧ 0 ≤ q.mc ∧ 0 ≤ q.xc)

def m2 (a b : Int) : Int := if b < a then b else a
theorem run_min4 {P : Program} (w : World) (ats : Array TypeId) (ty : TypeId) (a b c d : Int) : (Builtin.min_ ats ty #[.int .i64 a, .int .i64 b, .int .i64 c, .int .i64 d]).run P w = .ok (.int .i64 (m2 (m2 (m2 a b) c) d)) w := by
  simp only [Builtin.min_, List.foldlM_cons, List.foldlM_nil, Builtin.min2, Sem.run_bind, Sem.run_pure, Result.andThen_ok]
  rfl
theorem m2_nonneg (a b : Int) : 0 ≤ m2 a b ↔ 0 ≤ a ∧ 0 ≤ b := by unfold m2; split <;> omega

set_option maxRecDepth 100000 in
set_option maxHeartbeats 2000000 in
theorem right_calls (k e : Value) (q : Qr) (w : World) :
    Calls Try.prog 9 #[.agg (qcells k e q)] w fun e w' => e = .returned (.bool (rightQ q)) ∧ Upd (fun _ => False) w w' := by
  obtain ⟨at_, lim, sort, desc, keys, count, mm, xm, mc, xc⟩ := q
  show Calls Try.prog 9 #[.agg #[k, e, .int .i64 at_, .int .i64 lim, .int .i64 sort, .bool desc, .bool keys, .bool count, .int .i64 mm, .int .i64 xm, .int .i64 mc, .int .i64 xc]] w fun e w' => e = .returned (.bool (decide (0 ≤ sort ∧ sort ≤ 4 ∧ 0 ≤ lim ∧ lim ≤ 4096 ∧ 0 ≤ mm ∧ 0 ≤ xm ∧ 0 ≤ mc ∧ 0 ≤ xc))) ∧ Upd (fun _ => False) w w'
  have hmin := fun (W : World) (ats : Array TypeId) (ty : TypeId) => run_min4 (P := Try.prog) W ats ty mm xm mc xc
  have hm4 : 0 ≤ m2 (m2 (m2 mm xm) mc) xc ↔ ((0 ≤ mm ∧ 0 ≤ xm) ∧ 0 ≤ mc) ∧ 0 ≤ xc := by rw [m2_nonneg, m2_nonneg, m2_nonneg]
  have Hm4 := Lib.hid hm4
  clear hm4
  generalize m2 (m2 (m2 mm xm) mc) xc = m4 at *
  go_enter Try.func9, Try.ntmps9
  go_wp2
  all_goals go_ret
  all_goals refine ⟨?_, upd_alloc _ _ _⟩
  all_goals
    have hm := Hm4.out
    refine congrArg (fun b => Ending.returned (.bool b)) ?_
    rw [Bool.eq_iff_iff]
    simp only [Bool.and_eq_true, decide_eq_true_eq, Bool.false_eq_true, false_iff]
    omega

def leastB (n b : Int) : Bool := decide (b = 0 ∨ b ≤ n)
def mostB (n b : Int) : Bool := decide (b = 0 ∨ n ≤ b)
def keepsQ (q : Qr) (x : KV) : Bool := leastB x.mod q.mm && mostB x.mod q.xm && leastB x.create q.mc && mostB x.create q.xc

theorem least_calls (n b : Int) (w : World) : Calls Try.prog 20 #[.int .i64 n, .int .i64 b] w fun e w' => e = .returned (.bool (leastB n b)) ∧ w = w' := by
  by_cases h0 : b = 0
  · subst h0
    go_enter Try.func20, Try.ntmps20
    go_wp2
    go_ret
    exact ⟨by simp [leastB], rfl⟩
  · have z0 : (b == 0) = false := by simpa using h0
    by_cases h1 : b ≤ n
    · have e : leastB n b = true := decide_eq_true (.inr h1)
      rw [e]; clear e
      go_enter Try.func20, Try.ntmps20
      go_wp2
      go_ret
      exact ⟨rfl, rfl⟩
    · have e : leastB n b = false := decide_eq_false (by omega)
      rw [e]; clear e
      have h2 : n < b := by omega
      go_enter Try.func20, Try.ntmps20
      go_wp2
      go_ret
      exact ⟨rfl, rfl⟩
theorem most_calls (n b : Int) (w : World) : Calls Try.prog 21 #[.int .i64 n, .int .i64 b] w fun e w' => e = .returned (.bool (mostB n b)) ∧ w = w' := by
  by_cases h0 : b = 0
  · subst h0
    go_enter Try.func21, Try.ntmps21
    go_wp2
    go_ret
    exact ⟨by simp [mostB], rfl⟩
  · have z0 : (b == 0) = false := by simpa using h0
    by_cases h1 : n ≤ b
    · have e : mostB n b = true := decide_eq_true (.inr h1)
      rw [e]; clear e
      go_enter Try.func21, Try.ntmps21
      go_wp2
      go_ret
      exact ⟨rfl, rfl⟩
    · have e : mostB n b = false := decide_eq_false (by omega)
      rw [e]; clear e
      have h2 : b < n := by omega
      go_enter Try.func21, Try.ntmps21
      go_wp2
      go_ret
      exact ⟨rfl, rfl⟩

set_option maxRecDepth 100000 in
set_option maxHeartbeats 2000000 in
theorem keeps_calls (k e : Value) (q : Qr) (vk vv : Value) (x : KV) (w : World) :
    Calls Try.prog 14 #[.agg (qcells k e q), kvv vk vv x] w fun e w' => e = .returned (.bool (keepsQ q x)) ∧ Upd (fun _ => False) w w' := by
  obtain ⟨at_, lim, sort, desc, keys, count, mm, xm, mc, xc⟩ := q
  obtain ⟨key, val, create, mod, version, lease⟩ := x
  show Calls Try.prog 14 #[.agg #[k, e, .int .i64 at_, .int .i64 lim, .int .i64 sort, .bool desc, .bool keys, .bool count, .int .i64 mm, .int .i64 xm, .int .i64 mc, .int .i64 xc], .agg #[vk, vv, .int .i64 create, .int .i64 mod, .int .i64 version, .int .i64 lease]] w fun e w' => e = .returned (.bool (leastB mod mm && mostB mod xm && leastB create mc && mostB create xc)) ∧ Upd (fun _ => False) w w'
  have h1 := fun W => least_calls mod mm W
  have h2 := fun W => most_calls mod xm W
  have h3 := fun W => least_calls create mc W
  have h4 := fun W => most_calls create xc W
  generalize leastB mod mm = b1 at *
  generalize mostB mod xm = b2 at *
  generalize leastB create mc = b3 at *
  generalize mostB create xc = b4 at *
  have H1 := Lib.hid h1
  have H2 := Lib.hid h2
  have H3 := Lib.hid h3
  have H4 := Lib.hid h4
  clear h1 h2 h3 h4
  cases b1
  · go_enter Try.func14, Try.ntmps14
    go_wp2_with (first | (go_at_call 20; (with_reducible refine (H1.out _).mono ?_); rintro e w' ⟨rfl, rfl⟩))
    go_ret
    exact ⟨rfl, (upd_alloc _ _ _).alloc _⟩
  · cases b2
    · go_enter Try.func14, Try.ntmps14
      go_wp2_with (first | (go_at_call 20; (with_reducible refine (H1.out _).mono ?_); rintro e w' ⟨rfl, rfl⟩) | (go_at_call 21; (with_reducible refine (H2.out _).mono ?_); rintro e w' ⟨rfl, rfl⟩))
      go_ret
      exact ⟨rfl, (upd_alloc _ _ _).alloc _⟩
    · cases b3
      · go_enter Try.func14, Try.ntmps14
        go_wp2_with (first | (go_at_call 20; (with_reducible refine (H1.out _).mono ?_); rintro e w' ⟨rfl, rfl⟩) | (go_at_call 21; (with_reducible refine (H2.out _).mono ?_); rintro e w' ⟨rfl, rfl⟩) | (go_at_call 20; (with_reducible refine (H3.out _).mono ?_); rintro e w' ⟨rfl, rfl⟩))
        go_ret
        exact ⟨rfl, (upd_alloc _ _ _).alloc _⟩
      · go_enter Try.func14, Try.ntmps14
        go_wp2_with (first | (go_at_call 20; (with_reducible refine (H1.out _).mono ?_); rintro e w' ⟨rfl, rfl⟩) | (go_at_call 21; (with_reducible refine (H2.out _).mono ?_); rintro e w' ⟨rfl, rfl⟩) | (go_at_call 20; (with_reducible refine (H3.out _).mono ?_); rintro e w' ⟨rfl, rfl⟩) | (go_at_call 21; (with_reducible refine (H4.out _).mono ?_); rintro e w' ⟨rfl, rfl⟩))
        go_ret
        exact ⟨rfl, (upd_alloc _ _ _).alloc _⟩

end Go.Proofs.Ytpbenicglhccmaa
