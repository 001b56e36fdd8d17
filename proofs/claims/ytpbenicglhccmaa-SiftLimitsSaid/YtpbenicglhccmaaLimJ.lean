/-
  SiftLimits: the region of the two sifts, whatever its order.
-/
import Derived.Test.YtpbenicglhccmaaLimS
namespace Go.Proofs.Ytpbenicglhccmaa
open Go.RowKit Go.Tb Go.MapKept Go.ChangeMaps Go.Lib
set_option linter.unusedVariables false

/-- What stands in the midst of the two sifts. -/
def LimJ (w5 : World) (qc qd : Array Value) (sl : Value) (q : Qr) (ps : List KvP) (D : Nat → Bool) (f : Nat → Value) (w : World) : Prop :=
  ∃ own : Nat → Nat, (∀ b, b < w5.heap.size → own b = 99) ∧ Upd (fun _ => False) w5 w ∧ (D 0 = true → f 28 = .agg qc) ∧ (D 1 = true → f 29 = sl) ∧ (D 2 = true → RetAt own 2 w (f 30) (ps.length : Nat) (LimPure q ps)) ∧
    (D 3 = true → f 31 = .agg qd) ∧ (D 4 = true → f 32 = sl) ∧ (D 5 = true → RetAt own 5 w (f 33) (ps.length : Nat) (LimPure (q0 q) ps)) ∧ (D 6 = true → SlotIs own 6 w (f 6) (f 30) (D 8)) ∧ (D 7 = true → SlotIs own 7 w (f 7) (f 33) (D 9)) ∧ (D 8 = true → D 2 = true ∧ D 6 = true) ∧ (D 9 = true → D 5 = true ∧ D 7 = true)


/-- What the region's frame says. -/
def LimF (sl : Value) (g ga : Nat) (a0 : Act) : Prop := a0.tmps.size = 87 ∧ a0.eval (.tmp 1) = sl ∧ a0.eval (.tmp 2) = .pointer (some ⟨g, 0, none⟩) ∧ a0.eval (.tmp 5) = .pointer (some ⟨ga, 0, none⟩)

set_option maxRecDepth 100000 in
set_option maxHeartbeats 1000000 in
theorem lim_steps (ops : Array Oper) (hops : Try.f3.body.bind (regionOf 5) = some ops) (a0 : Act) (Q : Exit → Act → World → Prop) (w5 : World) (kv ev : Value) (sl : Value) (q : Qr) (ps : List KvP) (g ga : Nat) (t t2 : TypeId)
    (hF : LimF sl g ga a0) (hQ : w5.heap[g]? = some (.cells (qcells kv ev q) t (0, 0))) (hA : w5.heap[ga]? = some (.cells (qcells kv ev (q0 q)) t2 (0, 0)))
    (HA : ∀ W, Upd (fun _ => False) w5 W → Calls Try.prog 10 #[.agg (qcells kv ev q), sl] W (LimSays q ps W))
    (HB : ∀ W, Upd (fun _ => False) w5 W → Calls Try.prog 10 #[.agg (qcells kv ev (q0 q)), sl] W (LimSays (q0 q) ps W)) :
    InvSteps Try.prog ops Q a0 [28, 29, 30, 31, 32, 33, 6, 7] (LimJ w5 (qcells kv ev q) (qcells kv ev (q0 q)) sl q ps) 0 ops.toList := by
  obtain rfl := Option.some.inj (hops.symm.trans (show Try.f3.body.bind (regionOf 5) = some _ from rfl))
  obtain ⟨hsz, e1, e2, e5⟩ := hF
  have nd : [28, 29, 30, 31, 32, 33, 6, 7].Nodup := by decide
  simp only [InvSteps, List.toList_toArray]
  refine ⟨?_, ?_, ?_, ?_, ?_, ?_, ?_, ?_, ?_, ?_, trivial⟩
  all_goals refine inv_of (by rfl) ?_
  all_goals rintro D f wr ⟨own, j0, ju, k0, k1, k2, k3, k4, k5, k6, k7, k8, k9⟩ hD hdep K hK
  · exact opwp_load (d := 28) (by rfl) nd (by decide) (by rfl) ((eval_out (by decide)).trans e2) (ju.heap hQ (fun x => x)) Try.underlying24 rfl (by kernel_rfl) (hK _ _ ⟨own, j0, ju, fun _ => rfl, k1, k2, k3, k4, k5, k6, k7, k8, k9⟩)
  · exact opwp_move (d := 29) (x := .tmp 1) (by rfl) nd (by decide) (by rfl) ((eval_out (by decide)).trans e1) (hK _ _ ⟨own, j0, ju, k0, fun _ => rfl, k2, k3, k4, k5, k6, k7, k8, k9⟩)
  · simp [Region.binds] at hdep
    obtain ⟨d0, d1⟩ := hdep
    refine opwp_call (d := 30) (by rfl) nd (by decide) (by rfl) (enters_of Try.func10 (by kernel_rfl) rfl) (vs := #[.agg (qcells kv ev q), sl]) ?_ ((HA wr ju).mono fun e w' hs => ?_)
    · simp only [List.map_toArray, List.map_cons, List.map_nil]
      rw [eval_in nd (by decide) (by omega), eval_in nd (by decide) (by omega), k0 d0, k1 d1]
    · obtain ⟨v, rfl, hr, hu⟩ := retAt_new (own := own) (k := 2) hs
      have ho := ownBy_old own wr.heap.size 2
      exact ⟨v, rfl, hK _ _ ⟨_, fun b hb => (ho b (Nat.lt_of_lt_of_le hb ju.size)).trans (j0 b hb), ju.trans hu, k0, k1, fun _ => hr, k3, k4, fun h => (k5 h).grow hu ho, fun h => ((k6 h).grow hu ho).vague _ (fun e => by have := (k8 e).1; rw [hD] at this; cases this), fun h => (k7 h).grow hu ho, fun h => ⟨rfl, (k8 h).2⟩, k9⟩⟩
  · exact opwp_load (d := 31) (by rfl) nd (by decide) (by rfl) ((eval_out (by decide)).trans e5) (ju.heap hA (fun x => x)) Try.underlying24 rfl (by kernel_rfl) (hK _ _ ⟨own, j0, ju, k0, k1, k2, fun _ => rfl, k4, k5, k6, k7, k8, k9⟩)
  · exact opwp_move (d := 32) (x := .tmp 1) (by rfl) nd (by decide) (by rfl) ((eval_out (by decide)).trans e1) (hK _ _ ⟨own, j0, ju, k0, k1, k2, k3, fun _ => rfl, k5, k6, k7, k8, k9⟩)
  · simp [Region.binds] at hdep
    obtain ⟨d3, d4, d2⟩ := hdep
    refine opwp_call (d := 33) (by rfl) nd (by decide) (by rfl) (enters_of Try.func10 (by kernel_rfl) rfl) (vs := #[.agg (qcells kv ev (q0 q)), sl]) ?_ ((HB wr ju).mono fun e w' hs => ?_)
    · simp only [List.map_toArray, List.map_cons, List.map_nil]
      rw [eval_in nd (by decide) (by omega), eval_in nd (by decide) (by omega), k3 d3, k4 d4]
    · obtain ⟨v, rfl, hr, hu⟩ := retAt_new (own := own) (k := 5) hs
      have ho := ownBy_old own wr.heap.size 5
      exact ⟨v, rfl, hK _ _ ⟨_, fun b hb => (ho b (Nat.lt_of_lt_of_le hb ju.size)).trans (j0 b hb), ju.trans hu, k0, k1, fun h => (k2 h).grow hu ho, k3, k4, fun _ => hr, fun h => (k6 h).grow hu ho, fun h => ((k7 h).grow hu ho).vague _ (fun e => by have := (k9 e).1; rw [hD] at this; cases this), k8, fun h => ⟨rfl, (k9 h).2⟩⟩⟩
  · refine opwp_alloc (d := 6) (by rfl) nd (by decide) (by rfl) run_alloc_result ?_
    intro g6 w' hg hh hu hs
    have ho := ownBy_old own wr.heap.size 6
    refine hK _ _ ⟨_, fun b hb => (ho b (Nat.lt_of_lt_of_le hb ju.size)).trans (j0 b hb), ju.trans hu, k0, k1, fun h => (k2 h).grow hu ho, k3, k4, fun h => (k5 h).grow hu ho, fun _ => ⟨_, ⟨g6, rfl, if_neg (by omega), by omega, hh, rfl⟩, fun e => ?_⟩, fun h => (k7 h).grow hu ho, fun h => ⟨(k8 h).1, rfl⟩, k9⟩
    have := (k8 e).2; rw [hD] at this; cases this
  · refine opwp_alloc (d := 7) (by rfl) nd (by decide) (by rfl) run_alloc_result ?_
    intro g6 w' hg hh hu hs
    have ho := ownBy_old own wr.heap.size 7
    refine hK _ _ ⟨_, fun b hb => (ho b (Nat.lt_of_lt_of_le hb ju.size)).trans (j0 b hb), ju.trans hu, k0, k1, fun h => (k2 h).grow hu ho, k3, k4, fun h => (k5 h).grow hu ho, fun h => (k6 h).grow hu ho, fun _ => ⟨_, ⟨g6, rfl, if_neg (by omega), by omega, hh, rfl⟩, fun e => ?_⟩, k8, fun h => ⟨(k9 h).1, rfl⟩⟩
    have := (k9 e).2; rw [hD] at this; cases this
  · simp [Region.binds] at hdep
    have d6 : D 6 = true := hdep.1
    have d2 : D 2 = true := hdep.2.1
    obtain ⟨cs, ⟨g6, hp, hog, hlt, hh, hsz3⟩, -⟩ := k6 d6
    obtain ⟨cs', hv, hs', h1'⟩ := (k2 d2).shape
    refine opwp_store (by rfl) (by rfl) hh ((eval_in nd (by decide) (by omega)).trans hp) ((eval_in nd (by decide) (by omega)).trans hv) (hs'.trans hsz3.symm) (by rw [hs']; kernel_rfl) h1' ?_
    intro w' hh' hu hsz'
    exact hK _ _ ⟨own, j0, ju.trans' hu (fun x hx e => by subst e; have := j0 x hx; omega), k0, k1, fun h => (k2 h).store hu (by omega), k3, k4, fun h => (k5 h).store hu (by omega), fun _ => ⟨cs', ⟨g6, hp, hog, by omega, hh', hs'⟩, fun _ => hv⟩, fun h => (k7 h).store hu (by omega), fun _ => ⟨d2, d6⟩, k9⟩
  · simp [Region.binds] at hdep
    have d7 : D 7 = true := hdep.1
    have d5 : D 5 = true := hdep.2.1
    obtain ⟨cs, ⟨g7, hp, hog, hlt, hh, hsz3⟩, -⟩ := k7 d7
    obtain ⟨cs', hv, hs', h1'⟩ := (k5 d5).shape
    refine opwp_store (by rfl) (by rfl) hh ((eval_in nd (by decide) (by omega)).trans hp) ((eval_in nd (by decide) (by omega)).trans hv) (hs'.trans hsz3.symm) (by rw [hs']; kernel_rfl) h1' ?_
    intro w' hh' hu hsz'
    exact hK _ _ ⟨own, j0, ju.trans' hu (fun x hx e => by subst e; have := j0 x hx; omega), k0, k1, fun h => (k2 h).store hu (by omega), k3, k4, fun h => (k5 h).store hu (by omega), fun h => (k6 h).store hu (by omega), fun _ => ⟨cs', ⟨g7, hp, hog, by omega, hh', hs'⟩, fun _ => hv⟩, k8, fun _ => ⟨d5, d7⟩⟩

theorem lim_end {w5 : World} {kv ev sl : Value} {q : Qr} {ps : List KvP} {D : Nat → Bool} {f : Nat → Value} {wx : World} {g : Nat} (h : LimJ w5 (qcells kv ev q) (qcells kv ev (q0 q)) sl q ps D f wx) (hD : ∀ i, i < 10 → D i = true)
    (hQ : w5.heap[g]? = some (.cells (qcells kv ev q) 24 (0, 0))) : LimAt w5 g kv ev q ps (f 6) (f 7) wx := by
  obtain ⟨own, j0, ju, k0, k1, k2, k3, k4, k5, k6, k7, k8, k9⟩ := h
  obtain ⟨a1, c1, rs, m1, lo, hi, h1, p1, v1, _, _⟩ := k2 (hD 2 (by decide))
  obtain ⟨a2, c2, rs2, m2, lo2, hi2, h2, p2, v2, _, _⟩ := k5 (hD 5 (by decide))
  obtain ⟨cs, ⟨g6, e6, _, _, hh6, _⟩, x6⟩ := k6 (hD 6 (by decide))
  obtain ⟨cs', ⟨g7, e7, _, _, hh7, _⟩, x7⟩ := k7 (hD 7 (by decide))
  have y6 := x6 (hD 8 (by decide))
  have y7 := x7 (hD 9 (by decide))
  rw [h1] at y6
  rw [h2] at y7
  cases y6
  cases y7
  exact ⟨g6, g7, a1, c1, rs, m1, a2, c2, rs2, m2, e6, e7, hh6, hh7, p1, p2, v1.kvs, v2.kvs, ju.heap hQ (fun x => x), ju⟩

end Go.Proofs.Ytpbenicglhccmaa
