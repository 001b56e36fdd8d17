/-
  Feed of no events: the region of its tests, whatever its order.
-/
import Derived.Test.YtidpiojanajpoaaRegInv
import Derived.Test.YtidpiojanajpoaaFeedB
namespace Go.Tb
open Go
set_option linter.unusedVariables false
section
variable {P : Program} {ops : Array Oper} {Q : Exit → Act → World → Prop} {a0 : Act} {ds : List Nat} {J : (Nat → Bool) → (Nat → Value) → World → Prop} {i : Nat} {o : Oper}
/-- A guarded operation that is not wanted. -/
theorem inv_off {j d : Nat} {b : Bool} (hg : o.guard = some (j, b)) (hd : o.dst = some d) (hnd : ds.Nodup) (hm : d ∈ ds)
    (h : ∀ D f w, J D f w → D i = false → (o.after.all fun e => !Region.binds .any e || D e.on) = true → (∃ v, yielded ops (fill a0 ds f).tmps j = v ∧ v ≠ some b) ∧ J (fun j => Nat.beq j i || D j) (upf f d undef) w) :
    InvStep P ops Q a0 ds J i o := by
  refine ⟨fun D f w hJ hD hdep => ?_⟩
  obtain ⟨⟨v, hv, hne⟩, h2⟩ := h D f w hJ hD hdep
  rw [if_neg (by simp [Region.wanted, hg, hv, hne])]
  exact ⟨_, by rw [hd, fill_put hnd hm], h2⟩
/-- One that is. -/
theorem inv_on {j : Nat} {b : Bool} (hg : o.guard = some (j, b))
    (h : ∀ D f w, J D f w → D i = false → (o.after.all fun e => !Region.binds .any e || D e.on) = true → yielded ops (fill a0 ds f).tmps j = some b ∧ ∀ K : Act → World → Prop, (∀ f' w', J (fun j => Nat.beq j i || D j) f' w' → K (fill a0 ds f') w') → OpWp P o (fill a0 ds f) w K Q) :
    InvStep P ops Q a0 ds J i o := by
  refine ⟨fun D f w hJ hD hdep => ?_⟩
  obtain ⟨h1, h2⟩ := h D f w hJ hD hdep
  rw [if_pos (by simp [Region.wanted, hg, h1])]
  exact (h2 _ (fun f' w' hj => ⟨f', rfl, hj⟩)).run
theorem yielded_bool {j d : Nat} {tm : Array Value} (a : Act) (ha : a.tmps = tm) (hj : (ops[j]?).bind (·.dst) = some d) (hs : d < a.tmps.size) {b : Bool} (hv : a.eval (.tmp d) = .bool b) : yielded ops tm j = some b := by
  subst ha
  unfold yielded
  rw [hj]
  have e : a.tmps[d]? = some (.bool b) := by
    rw [Array.getElem?_eq_getElem hs]
    rw [← hv]
    simp [Act.eval, hs]
  simp only [Option.bind_some, e]
theorem yielded_undef {j d : Nat} {tm : Array Value} (a : Act) (ha : a.tmps = tm) (hj : (ops[j]?).bind (·.dst) = some d) (hs : d < a.tmps.size) (hv : a.eval (.tmp d) = undef) : yielded ops tm j = none := by
  subst ha
  unfold yielded
  rw [hj]
  have e : a.tmps[d]? = some undef := by
    rw [Array.getElem?_eq_getElem hs]
    rw [← hv]
    simp [Act.eval, hs]
  simp only [Option.bind_some, e]
  rfl
theorem ex_not {P : Program} {ρ : Operand → Value} {x : Operand} {t : TypeId} {b : Bool} {w : World} (ho : o.op = .unOp .not t x) (hx : ρ x = .bool b) : (execOp ρ o).run P w = .ok (.value (.bool !b)) w := by
  unfold execOp; rw [ho]; simp [hx, Op.unary]
theorem ex_pick_f {P : Program} {ρ : Operand → Value} {x y z : Operand} {v : Value} {w : World} (ho : o.op = .pick x y z) (hx : ρ x = .bool false) (hv : ρ z = v) : (execOp ρ o).run P w = .ok (.value v) w := by
  unfold execOp; rw [ho]; subst hv; simp [hx, asBool]
theorem ex_assign {P : Program} {ρ : Operand → Value} {x : Operand} {v : Value} {w : World} (ho : o.op = .assign x) (hx : ρ x = v) : (execOp ρ o).run P w = .ok (.value v) w := by
  subst hx; unfold execOp; rw [ho]; rfl
theorem ex_len {P : Program} {ρ : Operand → Value} {x : Operand} {t : TypeId} {a : Option Addr} {n c : Nat} {w : World} (ho : o.op = Op.call { callee := Callee.builtin Builtin.len, args := #[x], argTypes := #[t] }) (hx : ρ x = .slice a n c) {e : TypeId} (hu : (underlying t).run P w = .ok (.slice e) w) :
    (execOp ρ o).run P w = .ok (.value (.int .i64 n)) w := by
  simp [execOp, ho, resolve, invoke, builtin, hx, Result.andThen, Builtin.len_, hu, goInt]
end
end Go.Tb
namespace Go.Proofs.Ytidpiojanajpoaa
open Go.RowKit Go.Tb Go.MapKept Go.ChangeMaps
set_option linter.unusedVariables false

def FeedJ (a : Option Addr) (c : Nat) (W0 : World) (D : Nat → Bool) (f : Nat → Value) (w : World) : Prop :=
  (D 0 = true → f 23 = .slice a 0 c) ∧ (D 1 = true → f 24 = .bool true) ∧ (D 2 = true → f 25 = .bool false) ∧ (D 3 = true → f 26 = .bool false) ∧ (D 4 = true → f 27 = .slice a 0 c) ∧ (D 5 = true → f 28 = .int .i64 0) ∧ (D 6 = true → f 29 = .bool false) ∧ (D 7 = true → f 30 = .bool false) ∧ (D 18 = true → f 41 = undef) ∧ (D 33 = true → f 56 = .bool false) ∧ (D 34 = true → f 57 = .bool false) ∧ (D 35 = true → f 22 = .bool false) ∧ (D 1 = false → w = W0) ∧ Upd (fun _ => False) W0 w
def FeedF (a : Option Addr) (c : Nat) (a0 : Act) : Prop := 57 < a0.tmps.size ∧ a0.eval (.tmp 2) = .slice a 0 c
def feedDs : List Nat := [23, 24, 25, 26, 27, 28, 29, 30, 31, 32, 33, 34, 35, 36, 37, 38, 39, 40, 41, 42, 43, 44, 45, 46, 47, 48, 49, 50, 51, 52, 53, 54, 55, 56, 57, 22]

set_option maxRecDepth 100000 in
set_option maxHeartbeats 4000000 in
theorem feed_steps (ops : Array Oper) (hops : Try.f34.body.bind (regionOf 6) = some ops) (a0 : Act) (Q : Exit → Act → World → Prop) (W0 : World) (a : Option Addr) (c : Nat) (hF : FeedF a c a0)
    (hr : Calls Try.prog 48 #[.slice a 0 c] W0 fun e w' => e = .returned (.bool true) ∧ Upd (fun _ => False) W0 w') :
    InvSteps Try.prog ops Q a0 feedDs (FeedJ a c W0) 0 ops.toList := by
  obtain rfl := Option.some.inj (hops.symm.trans (show Try.f34.body.bind (regionOf 6) = some _ from rfl))
  obtain ⟨hsz, e2⟩ := hF
  have nd : feedDs.Nodup := by decide
  simp only [InvSteps]
  refine ⟨?_, ?_, ?_, ?_, ?_, ?_, ?_, ?_, ?_, ?_, ?_, ?_, ?_, ?_, ?_, ?_, ?_, ?_, ?_, ?_, ?_, ?_, ?_, ?_, ?_, ?_, ?_, ?_, ?_, ?_, ?_, ?_, ?_, ?_, ?_, ?_, trivial⟩
  · refine inv_of (by rfl) ?_
    rintro D f wr ⟨k0, k1, k2, k3, k4, k5, k6, k7, k18, k33, k34, k35, jw, ju⟩ hD hdep K hK
    simp [Region.binds] at hdep
    exact opwp_exec (d := 23) (by rfl) nd (by decide) (ex_move (x := .tmp 2) (by rfl) ((eval_out (by decide)).trans e2)) (hK _ _ ⟨fun _ => rfl, k1, k2, k3, k4, k5, k6, k7, k18, k33, k34, k35, jw, ju⟩)
  · refine inv_of (by rfl) ?_
    rintro D f wr ⟨k0, k1, k2, k3, k4, k5, k6, k7, k18, k33, k34, k35, jw, ju⟩ hD hdep K hK
    simp [Region.binds] at hdep
    have d0 : D 0 = true := by simp_all
    obtain rfl := jw hD
    refine opwp_call (d := 24) (by rfl) nd (by decide) (by rfl) (fun _ _ => by rfl) (vs := #[.slice a 0 c]) (by simp only [List.map_toArray, List.map_cons, List.map_nil]; rw [eval_in nd (by decide) (by omega), k0 d0]) (hr.mono ?_)
    rintro e w2 ⟨rfl, hu⟩
    exact ⟨_, rfl, hK _ _ ⟨k0, fun _ => rfl, k2, k3, k4, k5, k6, k7, k18, k33, k34, k35, fun h => (by cases h), hu⟩⟩
  · refine inv_of (by rfl) ?_
    rintro D f wr ⟨k0, k1, k2, k3, k4, k5, k6, k7, k18, k33, k34, k35, jw, ju⟩ hD hdep K hK
    simp [Region.binds] at hdep
    have d1 : D 1 = true := by simp_all
    exact opwp_exec (d := 25) (by rfl) nd (by decide) (ex_not (x := .tmp 24) (by rfl) ((eval_in nd (by decide) (by omega)).trans (k1 d1))) (hK _ _ ⟨k0, k1, fun _ => rfl, k3, k4, k5, k6, k7, k18, k33, k34, k35, jw, ju⟩)
  · refine inv_of (by rfl) ?_
    rintro D f wr ⟨k0, k1, k2, k3, k4, k5, k6, k7, k18, k33, k34, k35, jw, ju⟩ hD hdep K hK
    simp [Region.binds] at hdep
    have d2 : D 2 = true := by simp_all
    exact opwp_exec (d := 26) (by rfl) nd (by decide) (ex_move (x := .tmp 25) (by rfl) ((eval_in nd (by decide) (by omega)).trans (k2 d2))) (hK _ _ ⟨k0, k1, k2, fun _ => rfl, k4, k5, k6, k7, k18, k33, k34, k35, jw, ju⟩)
  · refine inv_on (by rfl) ?_
    rintro D f wr ⟨k0, k1, k2, k3, k4, k5, k6, k7, k18, k33, k34, k35, jw, ju⟩ hD hdep
    simp [Region.binds] at hdep
    have d3 : D 3 = true := by simp_all
    refine ⟨yielded_bool (d := 26) _ rfl (by rfl) (by rw [fill_size]; omega) ((eval_in nd (by decide) (by omega)).trans (k3 d3)), fun K hK => ?_⟩
    exact opwp_exec (d := 27) (by rfl) nd (by decide) (ex_move (x := .tmp 2) (by rfl) ((eval_out (by decide)).trans e2)) (hK _ _ ⟨k0, k1, k2, k3, fun _ => rfl, k5, k6, k7, k18, k33, k34, k35, jw, ju⟩)
  · refine inv_on (by rfl) ?_
    rintro D f wr ⟨k0, k1, k2, k3, k4, k5, k6, k7, k18, k33, k34, k35, jw, ju⟩ hD hdep
    simp [Region.binds] at hdep
    have d3 : D 3 = true := by simp_all
    refine ⟨yielded_bool (d := 26) _ rfl (by rfl) (by rw [fill_size]; omega) ((eval_in nd (by decide) (by omega)).trans (k3 d3)), fun K hK => ?_⟩
    have d4 : D 4 = true := by simp_all
    exact opwp_exec (d := 28) (by rfl) nd (by decide) (ex_len (x := .tmp 27) (by rfl) ((eval_in nd (by decide) (by omega)).trans (k4 d4)) (by rfl)) (hK _ _ ⟨k0, k1, k2, k3, k4, fun _ => rfl, k6, k7, k18, k33, k34, k35, jw, ju⟩)
  · refine inv_on (by rfl) ?_
    rintro D f wr ⟨k0, k1, k2, k3, k4, k5, k6, k7, k18, k33, k34, k35, jw, ju⟩ hD hdep
    simp [Region.binds] at hdep
    have d3 : D 3 = true := by simp_all
    refine ⟨yielded_bool (d := 26) _ rfl (by rfl) (by rw [fill_size]; omega) ((eval_in nd (by decide) (by omega)).trans (k3 d3)), fun K hK => ?_⟩
    have d5 : D 5 = true := by simp_all
    exact opwp_exec (d := 29) (by rfl) nd (by decide) (ex_bin (x := .tmp 28) (y := .const (.int .i64 0)) (by rfl) ((eval_in nd (by decide) (by omega)).trans (k5 d5)) rfl (by rfl)) (hK _ _ ⟨k0, k1, k2, k3, k4, k5, fun _ => rfl, k7, k18, k33, k34, k35, jw, ju⟩)
  · refine inv_on (by rfl) ?_
    rintro D f wr ⟨k0, k1, k2, k3, k4, k5, k6, k7, k18, k33, k34, k35, jw, ju⟩ hD hdep
    simp [Region.binds] at hdep
    have d3 : D 3 = true := by simp_all
    refine ⟨yielded_bool (d := 26) _ rfl (by rfl) (by rw [fill_size]; omega) ((eval_in nd (by decide) (by omega)).trans (k3 d3)), fun K hK => ?_⟩
    have d6 : D 6 = true := by simp_all
    exact opwp_exec (d := 30) (by rfl) nd (by decide) (ex_move (x := .tmp 29) (by rfl) ((eval_in nd (by decide) (by omega)).trans (k6 d6))) (hK _ _ ⟨k0, k1, k2, k3, k4, k5, k6, fun _ => rfl, k18, k33, k34, k35, jw, ju⟩)
  · refine inv_off (d := 31) (by rfl) (by rfl) nd (by decide) ?_
    rintro D f wr ⟨k0, k1, k2, k3, k4, k5, k6, k7, k18, k33, k34, k35, jw, ju⟩ hD hdep
    simp [Region.binds] at hdep
    have d7 : D 7 = true := by simp_all
    exact ⟨⟨_, yielded_bool (d := 30) _ rfl (by rfl) (by rw [fill_size]; omega) ((eval_in nd (by decide) (by omega)).trans (k7 d7)), by simp⟩, ⟨k0, k1, k2, k3, k4, k5, k6, k7, k18, k33, k34, k35, jw, ju⟩⟩
  · refine inv_off (d := 32) (by rfl) (by rfl) nd (by decide) ?_
    rintro D f wr ⟨k0, k1, k2, k3, k4, k5, k6, k7, k18, k33, k34, k35, jw, ju⟩ hD hdep
    simp [Region.binds] at hdep
    have d7 : D 7 = true := by simp_all
    exact ⟨⟨_, yielded_bool (d := 30) _ rfl (by rfl) (by rw [fill_size]; omega) ((eval_in nd (by decide) (by omega)).trans (k7 d7)), by simp⟩, ⟨k0, k1, k2, k3, k4, k5, k6, k7, k18, k33, k34, k35, jw, ju⟩⟩
  · refine inv_off (d := 33) (by rfl) (by rfl) nd (by decide) ?_
    rintro D f wr ⟨k0, k1, k2, k3, k4, k5, k6, k7, k18, k33, k34, k35, jw, ju⟩ hD hdep
    simp [Region.binds] at hdep
    have d7 : D 7 = true := by simp_all
    exact ⟨⟨_, yielded_bool (d := 30) _ rfl (by rfl) (by rw [fill_size]; omega) ((eval_in nd (by decide) (by omega)).trans (k7 d7)), by simp⟩, ⟨k0, k1, k2, k3, k4, k5, k6, k7, k18, k33, k34, k35, jw, ju⟩⟩
  · refine inv_off (d := 34) (by rfl) (by rfl) nd (by decide) ?_
    rintro D f wr ⟨k0, k1, k2, k3, k4, k5, k6, k7, k18, k33, k34, k35, jw, ju⟩ hD hdep
    simp [Region.binds] at hdep
    have d7 : D 7 = true := by simp_all
    exact ⟨⟨_, yielded_bool (d := 30) _ rfl (by rfl) (by rw [fill_size]; omega) ((eval_in nd (by decide) (by omega)).trans (k7 d7)), by simp⟩, ⟨k0, k1, k2, k3, k4, k5, k6, k7, k18, k33, k34, k35, jw, ju⟩⟩
  · refine inv_off (d := 35) (by rfl) (by rfl) nd (by decide) ?_
    rintro D f wr ⟨k0, k1, k2, k3, k4, k5, k6, k7, k18, k33, k34, k35, jw, ju⟩ hD hdep
    simp [Region.binds] at hdep
    have d7 : D 7 = true := by simp_all
    exact ⟨⟨_, yielded_bool (d := 30) _ rfl (by rfl) (by rw [fill_size]; omega) ((eval_in nd (by decide) (by omega)).trans (k7 d7)), by simp⟩, ⟨k0, k1, k2, k3, k4, k5, k6, k7, k18, k33, k34, k35, jw, ju⟩⟩
  · refine inv_off (d := 36) (by rfl) (by rfl) nd (by decide) ?_
    rintro D f wr ⟨k0, k1, k2, k3, k4, k5, k6, k7, k18, k33, k34, k35, jw, ju⟩ hD hdep
    simp [Region.binds] at hdep
    have d7 : D 7 = true := by simp_all
    exact ⟨⟨_, yielded_bool (d := 30) _ rfl (by rfl) (by rw [fill_size]; omega) ((eval_in nd (by decide) (by omega)).trans (k7 d7)), by simp⟩, ⟨k0, k1, k2, k3, k4, k5, k6, k7, k18, k33, k34, k35, jw, ju⟩⟩
  · refine inv_off (d := 37) (by rfl) (by rfl) nd (by decide) ?_
    rintro D f wr ⟨k0, k1, k2, k3, k4, k5, k6, k7, k18, k33, k34, k35, jw, ju⟩ hD hdep
    simp [Region.binds] at hdep
    have d7 : D 7 = true := by simp_all
    exact ⟨⟨_, yielded_bool (d := 30) _ rfl (by rfl) (by rw [fill_size]; omega) ((eval_in nd (by decide) (by omega)).trans (k7 d7)), by simp⟩, ⟨k0, k1, k2, k3, k4, k5, k6, k7, k18, k33, k34, k35, jw, ju⟩⟩
  · refine inv_off (d := 38) (by rfl) (by rfl) nd (by decide) ?_
    rintro D f wr ⟨k0, k1, k2, k3, k4, k5, k6, k7, k18, k33, k34, k35, jw, ju⟩ hD hdep
    simp [Region.binds] at hdep
    have d7 : D 7 = true := by simp_all
    exact ⟨⟨_, yielded_bool (d := 30) _ rfl (by rfl) (by rw [fill_size]; omega) ((eval_in nd (by decide) (by omega)).trans (k7 d7)), by simp⟩, ⟨k0, k1, k2, k3, k4, k5, k6, k7, k18, k33, k34, k35, jw, ju⟩⟩
  · refine inv_off (d := 39) (by rfl) (by rfl) nd (by decide) ?_
    rintro D f wr ⟨k0, k1, k2, k3, k4, k5, k6, k7, k18, k33, k34, k35, jw, ju⟩ hD hdep
    simp [Region.binds] at hdep
    have d7 : D 7 = true := by simp_all
    exact ⟨⟨_, yielded_bool (d := 30) _ rfl (by rfl) (by rw [fill_size]; omega) ((eval_in nd (by decide) (by omega)).trans (k7 d7)), by simp⟩, ⟨k0, k1, k2, k3, k4, k5, k6, k7, k18, k33, k34, k35, jw, ju⟩⟩
  · refine inv_off (d := 40) (by rfl) (by rfl) nd (by decide) ?_
    rintro D f wr ⟨k0, k1, k2, k3, k4, k5, k6, k7, k18, k33, k34, k35, jw, ju⟩ hD hdep
    simp [Region.binds] at hdep
    have d7 : D 7 = true := by simp_all
    exact ⟨⟨_, yielded_bool (d := 30) _ rfl (by rfl) (by rw [fill_size]; omega) ((eval_in nd (by decide) (by omega)).trans (k7 d7)), by simp⟩, ⟨k0, k1, k2, k3, k4, k5, k6, k7, k18, k33, k34, k35, jw, ju⟩⟩
  · refine inv_off (d := 41) (by rfl) (by rfl) nd (by decide) ?_
    rintro D f wr ⟨k0, k1, k2, k3, k4, k5, k6, k7, k18, k33, k34, k35, jw, ju⟩ hD hdep
    simp [Region.binds] at hdep
    have d7 : D 7 = true := by simp_all
    exact ⟨⟨_, yielded_bool (d := 30) _ rfl (by rfl) (by rw [fill_size]; omega) ((eval_in nd (by decide) (by omega)).trans (k7 d7)), by simp⟩, ⟨k0, k1, k2, k3, k4, k5, k6, k7, fun _ => rfl, k33, k34, k35, jw, ju⟩⟩
  · refine inv_off (d := 42) (by rfl) (by rfl) nd (by decide) ?_
    rintro D f wr ⟨k0, k1, k2, k3, k4, k5, k6, k7, k18, k33, k34, k35, jw, ju⟩ hD hdep
    simp [Region.binds] at hdep
    have d18 : D 18 = true := by simp_all
    exact ⟨⟨_, yielded_undef (d := 41) _ rfl (by rfl) (by rw [fill_size]; omega) ((eval_in nd (by decide) (by omega)).trans (k18 d18)), by simp⟩, ⟨k0, k1, k2, k3, k4, k5, k6, k7, k18, k33, k34, k35, jw, ju⟩⟩
  · refine inv_off (d := 43) (by rfl) (by rfl) nd (by decide) ?_
    rintro D f wr ⟨k0, k1, k2, k3, k4, k5, k6, k7, k18, k33, k34, k35, jw, ju⟩ hD hdep
    simp [Region.binds] at hdep
    have d18 : D 18 = true := by simp_all
    exact ⟨⟨_, yielded_undef (d := 41) _ rfl (by rfl) (by rw [fill_size]; omega) ((eval_in nd (by decide) (by omega)).trans (k18 d18)), by simp⟩, ⟨k0, k1, k2, k3, k4, k5, k6, k7, k18, k33, k34, k35, jw, ju⟩⟩
  · refine inv_off (d := 44) (by rfl) (by rfl) nd (by decide) ?_
    rintro D f wr ⟨k0, k1, k2, k3, k4, k5, k6, k7, k18, k33, k34, k35, jw, ju⟩ hD hdep
    simp [Region.binds] at hdep
    have d18 : D 18 = true := by simp_all
    exact ⟨⟨_, yielded_undef (d := 41) _ rfl (by rfl) (by rw [fill_size]; omega) ((eval_in nd (by decide) (by omega)).trans (k18 d18)), by simp⟩, ⟨k0, k1, k2, k3, k4, k5, k6, k7, k18, k33, k34, k35, jw, ju⟩⟩
  · refine inv_off (d := 45) (by rfl) (by rfl) nd (by decide) ?_
    rintro D f wr ⟨k0, k1, k2, k3, k4, k5, k6, k7, k18, k33, k34, k35, jw, ju⟩ hD hdep
    simp [Region.binds] at hdep
    have d18 : D 18 = true := by simp_all
    exact ⟨⟨_, yielded_undef (d := 41) _ rfl (by rfl) (by rw [fill_size]; omega) ((eval_in nd (by decide) (by omega)).trans (k18 d18)), by simp⟩, ⟨k0, k1, k2, k3, k4, k5, k6, k7, k18, k33, k34, k35, jw, ju⟩⟩
  · refine inv_off (d := 46) (by rfl) (by rfl) nd (by decide) ?_
    rintro D f wr ⟨k0, k1, k2, k3, k4, k5, k6, k7, k18, k33, k34, k35, jw, ju⟩ hD hdep
    simp [Region.binds] at hdep
    have d18 : D 18 = true := by simp_all
    exact ⟨⟨_, yielded_undef (d := 41) _ rfl (by rfl) (by rw [fill_size]; omega) ((eval_in nd (by decide) (by omega)).trans (k18 d18)), by simp⟩, ⟨k0, k1, k2, k3, k4, k5, k6, k7, k18, k33, k34, k35, jw, ju⟩⟩
  · refine inv_off (d := 47) (by rfl) (by rfl) nd (by decide) ?_
    rintro D f wr ⟨k0, k1, k2, k3, k4, k5, k6, k7, k18, k33, k34, k35, jw, ju⟩ hD hdep
    simp [Region.binds] at hdep
    have d18 : D 18 = true := by simp_all
    exact ⟨⟨_, yielded_undef (d := 41) _ rfl (by rfl) (by rw [fill_size]; omega) ((eval_in nd (by decide) (by omega)).trans (k18 d18)), by simp⟩, ⟨k0, k1, k2, k3, k4, k5, k6, k7, k18, k33, k34, k35, jw, ju⟩⟩
  · refine inv_off (d := 48) (by rfl) (by rfl) nd (by decide) ?_
    rintro D f wr ⟨k0, k1, k2, k3, k4, k5, k6, k7, k18, k33, k34, k35, jw, ju⟩ hD hdep
    simp [Region.binds] at hdep
    have d18 : D 18 = true := by simp_all
    exact ⟨⟨_, yielded_undef (d := 41) _ rfl (by rfl) (by rw [fill_size]; omega) ((eval_in nd (by decide) (by omega)).trans (k18 d18)), by simp⟩, ⟨k0, k1, k2, k3, k4, k5, k6, k7, k18, k33, k34, k35, jw, ju⟩⟩
  · refine inv_off (d := 49) (by rfl) (by rfl) nd (by decide) ?_
    rintro D f wr ⟨k0, k1, k2, k3, k4, k5, k6, k7, k18, k33, k34, k35, jw, ju⟩ hD hdep
    simp [Region.binds] at hdep
    have d18 : D 18 = true := by simp_all
    exact ⟨⟨_, yielded_undef (d := 41) _ rfl (by rfl) (by rw [fill_size]; omega) ((eval_in nd (by decide) (by omega)).trans (k18 d18)), by simp⟩, ⟨k0, k1, k2, k3, k4, k5, k6, k7, k18, k33, k34, k35, jw, ju⟩⟩
  · refine inv_off (d := 50) (by rfl) (by rfl) nd (by decide) ?_
    rintro D f wr ⟨k0, k1, k2, k3, k4, k5, k6, k7, k18, k33, k34, k35, jw, ju⟩ hD hdep
    simp [Region.binds] at hdep
    have d18 : D 18 = true := by simp_all
    exact ⟨⟨_, yielded_undef (d := 41) _ rfl (by rfl) (by rw [fill_size]; omega) ((eval_in nd (by decide) (by omega)).trans (k18 d18)), by simp⟩, ⟨k0, k1, k2, k3, k4, k5, k6, k7, k18, k33, k34, k35, jw, ju⟩⟩
  · refine inv_off (d := 51) (by rfl) (by rfl) nd (by decide) ?_
    rintro D f wr ⟨k0, k1, k2, k3, k4, k5, k6, k7, k18, k33, k34, k35, jw, ju⟩ hD hdep
    simp [Region.binds] at hdep
    have d18 : D 18 = true := by simp_all
    exact ⟨⟨_, yielded_undef (d := 41) _ rfl (by rfl) (by rw [fill_size]; omega) ((eval_in nd (by decide) (by omega)).trans (k18 d18)), by simp⟩, ⟨k0, k1, k2, k3, k4, k5, k6, k7, k18, k33, k34, k35, jw, ju⟩⟩
  · refine inv_off (d := 52) (by rfl) (by rfl) nd (by decide) ?_
    rintro D f wr ⟨k0, k1, k2, k3, k4, k5, k6, k7, k18, k33, k34, k35, jw, ju⟩ hD hdep
    simp [Region.binds] at hdep
    have d18 : D 18 = true := by simp_all
    exact ⟨⟨_, yielded_undef (d := 41) _ rfl (by rfl) (by rw [fill_size]; omega) ((eval_in nd (by decide) (by omega)).trans (k18 d18)), by simp⟩, ⟨k0, k1, k2, k3, k4, k5, k6, k7, k18, k33, k34, k35, jw, ju⟩⟩
  · refine inv_off (d := 53) (by rfl) (by rfl) nd (by decide) ?_
    rintro D f wr ⟨k0, k1, k2, k3, k4, k5, k6, k7, k18, k33, k34, k35, jw, ju⟩ hD hdep
    simp [Region.binds] at hdep
    have d18 : D 18 = true := by simp_all
    exact ⟨⟨_, yielded_undef (d := 41) _ rfl (by rfl) (by rw [fill_size]; omega) ((eval_in nd (by decide) (by omega)).trans (k18 d18)), by simp⟩, ⟨k0, k1, k2, k3, k4, k5, k6, k7, k18, k33, k34, k35, jw, ju⟩⟩
  · refine inv_off (d := 54) (by rfl) (by rfl) nd (by decide) ?_
    rintro D f wr ⟨k0, k1, k2, k3, k4, k5, k6, k7, k18, k33, k34, k35, jw, ju⟩ hD hdep
    simp [Region.binds] at hdep
    have d18 : D 18 = true := by simp_all
    exact ⟨⟨_, yielded_undef (d := 41) _ rfl (by rfl) (by rw [fill_size]; omega) ((eval_in nd (by decide) (by omega)).trans (k18 d18)), by simp⟩, ⟨k0, k1, k2, k3, k4, k5, k6, k7, k18, k33, k34, k35, jw, ju⟩⟩
  · refine inv_off (d := 55) (by rfl) (by rfl) nd (by decide) ?_
    rintro D f wr ⟨k0, k1, k2, k3, k4, k5, k6, k7, k18, k33, k34, k35, jw, ju⟩ hD hdep
    simp [Region.binds] at hdep
    have d7 : D 7 = true := by simp_all
    exact ⟨⟨_, yielded_bool (d := 30) _ rfl (by rfl) (by rw [fill_size]; omega) ((eval_in nd (by decide) (by omega)).trans (k7 d7)), by simp⟩, ⟨k0, k1, k2, k3, k4, k5, k6, k7, k18, k33, k34, k35, jw, ju⟩⟩
  · refine inv_on (by rfl) ?_
    rintro D f wr ⟨k0, k1, k2, k3, k4, k5, k6, k7, k18, k33, k34, k35, jw, ju⟩ hD hdep
    simp [Region.binds] at hdep
    have d3 : D 3 = true := by simp_all
    refine ⟨yielded_bool (d := 26) _ rfl (by rfl) (by rw [fill_size]; omega) ((eval_in nd (by decide) (by omega)).trans (k3 d3)), fun K hK => ?_⟩
    have d7 : D 7 = true := by simp_all
    exact opwp_exec (d := 56) (by rfl) nd (by decide) (ex_pick_f (x := .tmp 30) (y := .tmp 55) (z := .const (.bool false)) (by rfl) ((eval_in nd (by decide) (by omega)).trans (k7 d7)) rfl) (hK _ _ ⟨k0, k1, k2, k3, k4, k5, k6, k7, k18, fun _ => rfl, k34, k35, jw, ju⟩)
  · refine inv_of (by rfl) ?_
    rintro D f wr ⟨k0, k1, k2, k3, k4, k5, k6, k7, k18, k33, k34, k35, jw, ju⟩ hD hdep K hK
    simp [Region.binds] at hdep
    have d3 : D 3 = true := by simp_all
    have d33 : D 33 = true := by simp_all
    exact opwp_exec (d := 57) (by rfl) nd (by decide) (ex_pick_f (x := .tmp 26) (y := .const (.bool true)) (z := .tmp 56) (by rfl) ((eval_in nd (by decide) (by omega)).trans (k3 d3)) ((eval_in nd (by decide) (by omega)).trans (k33 d33))) (hK _ _ ⟨k0, k1, k2, k3, k4, k5, k6, k7, k18, k33, fun _ => rfl, k35, jw, ju⟩)
  · refine inv_of (by rfl) ?_
    rintro D f wr ⟨k0, k1, k2, k3, k4, k5, k6, k7, k18, k33, k34, k35, jw, ju⟩ hD hdep K hK
    simp [Region.binds] at hdep
    have d34 : D 34 = true := by simp_all
    exact opwp_exec (d := 22) (by rfl) nd (by decide) (ex_assign (x := .tmp 57) (by rfl) ((eval_in nd (by decide) (by omega)).trans (k34 d34))) (hK _ _ ⟨k0, k1, k2, k3, k4, k5, k6, k7, k18, k33, k34, fun _ => rfl, jw, ju⟩)

end Go.Proofs.Ytidpiojanajpoaa
