/-
  SiftTurns: the region of the three sifts, whatever its order.
-/
import Derived.Test.YtpbenicglhccmaaTurnS
namespace Go.Proofs.Ytpbenicglhccmaa
open Go.RowKit Go.Tb Go.MapKept Go.ChangeMaps Go.Lib
set_option linter.unusedVariables false

/-- What stands in the midst of the three sifts. -/
def TurnJ (w5 : World) (kv ev sl so : Value) (q : Qr) (ps qs : List KvP) (D : Nat → Bool) (f : Nat → Value) (w : World) : Prop :=
  ∃ own : Nat → Nat, (∀ b, b < w5.heap.size → own b = 99) ∧ Upd (fun _ => False) w5 w ∧ (D 0 = true → f 50 = .agg (qcells kv ev q)) ∧ (D 1 = true → f 51 = sl) ∧ (D 2 = true → RetAt own 2 w (f 52) (cntQ q ps) (AnyP q ps)) ∧ (D 3 = true → f 53 = .agg (qcells kv ev q)) ∧ (D 4 = true → f 54 = so) ∧ (D 5 = true → RetAt own 5 w (f 55) (cntQ q qs) (AnyP q qs)) ∧ (D 6 = true → f 56 = .agg (qcells kv ev (flipQ q))) ∧ (D 7 = true → f 57 = sl) ∧ (D 8 = true → RetAt own 8 w (f 58) (cntQ (flipQ q) ps) (AnyP (flipQ q) ps)) ∧ (D 9 = true → SlotIs own 9 w (f 10) (f 52) (D 12)) ∧ (D 10 = true → SlotIs own 10 w (f 11) (f 55) (D 13)) ∧ (D 11 = true → SlotIs own 11 w (f 12) (f 58) (D 14)) ∧ (D 12 = true → D 2 = true ∧ D 9 = true) ∧ (D 13 = true → D 5 = true ∧ D 10 = true) ∧ (D 14 = true → D 8 = true ∧ D 11 = true)

/-- What the region's frame says. -/
def TurnF (sl so : Value) (g ga : Nat) (a0 : Act) : Prop := a0.tmps.size = 94 ∧ a0.eval (.tmp 1) = sl ∧ a0.eval (.tmp 8) = so ∧ a0.eval (.tmp 3) = .pointer (some ⟨g, 0, none⟩) ∧ a0.eval (.tmp 9) = .pointer (some ⟨ga, 0, none⟩)

set_option maxRecDepth 100000 in
set_option maxHeartbeats 1000000 in
theorem turn_steps (ops : Array Oper) (hops : Try.f4.body.bind (regionOf 8) = some ops) (a0 : Act) (Q : Exit → Act → World → Prop) (w5 : World) (kv ev sl so : Value) (q : Qr) (ps qs : List KvP) (g ga : Nat) (t t2 : TypeId)
    (hF : TurnF sl so g ga a0) (hQ : w5.heap[g]? = some (.cells (qcells kv ev q) t (0, 0))) (hA : w5.heap[ga]? = some (.cells (qcells kv ev (flipQ q)) t2 (0, 0)))
    (HA : ∀ W, Upd (fun _ => False) w5 W → Calls Try.prog 10 #[.agg (qcells kv ev q), sl] W (AnySays q ps W))
    (HB : ∀ W, Upd (fun _ => False) w5 W → Calls Try.prog 10 #[.agg (qcells kv ev q), so] W (AnySays q qs W))
    (HC : ∀ W, Upd (fun _ => False) w5 W → Calls Try.prog 10 #[.agg (qcells kv ev (flipQ q)), sl] W (AnySays (flipQ q) ps W)) :
    InvSteps Try.prog ops Q a0 [50, 51, 52, 53, 54, 55, 56, 57, 58, 10, 11, 12] (TurnJ w5 kv ev sl so q ps qs) 0 ops.toList := by
  obtain rfl := Option.some.inj (hops.symm.trans (show Try.f4.body.bind (regionOf 8) = some _ from rfl))
  obtain ⟨hsz, e1, e8, e3, e9⟩ := hF
  have nd : [50, 51, 52, 53, 54, 55, 56, 57, 58, 10, 11, 12].Nodup := by decide
  simp only [InvSteps, List.toList_toArray]
  refine ⟨?_, ?_, ?_, ?_, ?_, ?_, ?_, ?_, ?_, ?_, ?_, ?_, ?_, ?_, ?_, trivial⟩
  all_goals refine inv_of (by rfl) ?_
  all_goals rintro D f wr ⟨own, j0, ju, k0, k1, k2, k3, k4, k5, k6, k7, k8, s0, s1, s2, z0, z1, z2⟩ hD hdep K hK
  · exact opwp_load (d := 50) (by rfl) nd (by decide) (by rfl) ((eval_out (by decide)).trans e3) (ju.heap hQ (fun x => x)) Try.underlying24 rfl (by kernel_rfl) (hK _ _ ⟨own, j0, ju, fun _ => rfl, k1, k2, k3, k4, k5, k6, k7, k8, s0, s1, s2, z0, z1, z2⟩)
  · exact opwp_move (d := 51) (x := .tmp 1) (by rfl) nd (by decide) (by rfl) ((eval_out (by decide)).trans e1) (hK _ _ ⟨own, j0, ju, k0, fun _ => rfl, k2, k3, k4, k5, k6, k7, k8, s0, s1, s2, z0, z1, z2⟩)
  · simp [Region.binds] at hdep
    obtain ⟨da, db⟩ := hdep
    refine opwp_call (d := 52) (by rfl) nd (by decide) (by rfl) (enters_of Try.func10 (by kernel_rfl) rfl) (vs := #[.agg (qcells kv ev q), sl]) ?_ ((HA wr ju).mono fun e w' hs => ?_)
    · simp only [List.map_toArray, List.map_cons, List.map_nil]
      rw [eval_in nd (by decide) (by omega), eval_in nd (by decide) (by omega), k0 da, k1 db]
    · obtain ⟨v, rfl, hr, hu⟩ := retAny_new (own := own) (k := 2) hs
      have ho := ownBy_old own wr.heap.size 2
      exact ⟨v, rfl, hK _ _ ⟨_, fun b hb => (ho b (Nat.lt_of_lt_of_le hb ju.size)).trans (j0 b hb), ju.trans hu, k0, k1, fun _ => hr, k3, k4, fun h => (k5 h).grow hu ho, k6, k7, fun h => (k8 h).grow hu ho, fun h => ((s0 h).grow hu ho).vague _ (fun e => by have := (z0 e).1; rw [hD] at this; cases this), fun h => (s1 h).grow hu ho, fun h => (s2 h).grow hu ho, fun h => ⟨rfl, (z0 h).2⟩, z1, z2⟩⟩
  · exact opwp_load (d := 53) (by rfl) nd (by decide) (by rfl) ((eval_out (by decide)).trans e3) (ju.heap hQ (fun x => x)) Try.underlying24 rfl (by kernel_rfl) (hK _ _ ⟨own, j0, ju, k0, k1, k2, fun _ => rfl, k4, k5, k6, k7, k8, s0, s1, s2, z0, z1, z2⟩)
  · exact opwp_move (d := 54) (x := .tmp 8) (by rfl) nd (by decide) (by rfl) ((eval_out (by decide)).trans e8) (hK _ _ ⟨own, j0, ju, k0, k1, k2, k3, fun _ => rfl, k5, k6, k7, k8, s0, s1, s2, z0, z1, z2⟩)
  · simp [Region.binds] at hdep
    obtain ⟨da, db, dc⟩ := hdep
    refine opwp_call (d := 55) (by rfl) nd (by decide) (by rfl) (enters_of Try.func10 (by kernel_rfl) rfl) (vs := #[.agg (qcells kv ev q), so]) ?_ ((HB wr ju).mono fun e w' hs => ?_)
    · simp only [List.map_toArray, List.map_cons, List.map_nil]
      rw [eval_in nd (by decide) (by omega), eval_in nd (by decide) (by omega), k3 da, k4 db]
    · obtain ⟨v, rfl, hr, hu⟩ := retAny_new (own := own) (k := 5) hs
      have ho := ownBy_old own wr.heap.size 5
      exact ⟨v, rfl, hK _ _ ⟨_, fun b hb => (ho b (Nat.lt_of_lt_of_le hb ju.size)).trans (j0 b hb), ju.trans hu, k0, k1, fun h => (k2 h).grow hu ho, k3, k4, fun _ => hr, k6, k7, fun h => (k8 h).grow hu ho, fun h => (s0 h).grow hu ho, fun h => ((s1 h).grow hu ho).vague _ (fun e => by have := (z1 e).1; rw [hD] at this; cases this), fun h => (s2 h).grow hu ho, z0, fun h => ⟨rfl, (z1 h).2⟩, z2⟩⟩
  · exact opwp_load (d := 56) (by rfl) nd (by decide) (by rfl) ((eval_out (by decide)).trans e9) (ju.heap hA (fun x => x)) Try.underlying24 rfl (by kernel_rfl) (hK _ _ ⟨own, j0, ju, k0, k1, k2, k3, k4, k5, fun _ => rfl, k7, k8, s0, s1, s2, z0, z1, z2⟩)
  · exact opwp_move (d := 57) (x := .tmp 1) (by rfl) nd (by decide) (by rfl) ((eval_out (by decide)).trans e1) (hK _ _ ⟨own, j0, ju, k0, k1, k2, k3, k4, k5, k6, fun _ => rfl, k8, s0, s1, s2, z0, z1, z2⟩)
  · simp [Region.binds] at hdep
    obtain ⟨da, db, dc⟩ := hdep
    refine opwp_call (d := 58) (by rfl) nd (by decide) (by rfl) (enters_of Try.func10 (by kernel_rfl) rfl) (vs := #[.agg (qcells kv ev (flipQ q)), sl]) ?_ ((HC wr ju).mono fun e w' hs => ?_)
    · simp only [List.map_toArray, List.map_cons, List.map_nil]
      rw [eval_in nd (by decide) (by omega), eval_in nd (by decide) (by omega), k6 da, k7 db]
    · obtain ⟨v, rfl, hr, hu⟩ := retAny_new (own := own) (k := 8) hs
      have ho := ownBy_old own wr.heap.size 8
      exact ⟨v, rfl, hK _ _ ⟨_, fun b hb => (ho b (Nat.lt_of_lt_of_le hb ju.size)).trans (j0 b hb), ju.trans hu, k0, k1, fun h => (k2 h).grow hu ho, k3, k4, fun h => (k5 h).grow hu ho, k6, k7, fun _ => hr, fun h => (s0 h).grow hu ho, fun h => (s1 h).grow hu ho, fun h => ((s2 h).grow hu ho).vague _ (fun e => by have := (z2 e).1; rw [hD] at this; cases this), z0, z1, fun h => ⟨rfl, (z2 h).2⟩⟩⟩
  · refine opwp_alloc (d := 10) (by rfl) nd (by decide) (by rfl) run_alloc_result ?_
    intro g6 w' hg hh hu hs
    have ho := ownBy_old own wr.heap.size 9
    refine hK _ _ ⟨_, fun b hb => (ho b (Nat.lt_of_lt_of_le hb ju.size)).trans (j0 b hb), ju.trans hu, k0, k1, fun h => (k2 h).grow hu ho, k3, k4, fun h => (k5 h).grow hu ho, k6, k7, fun h => (k8 h).grow hu ho, fun _ => ⟨_, ⟨g6, rfl, if_neg (by omega), by omega, hh, rfl⟩, fun e => ?_⟩, fun h => (s1 h).grow hu ho, fun h => (s2 h).grow hu ho, fun h => ⟨(z0 h).1, rfl⟩, z1, z2⟩
    have := (z0 e).2; rw [hD] at this; cases this
  · refine opwp_alloc (d := 11) (by rfl) nd (by decide) (by rfl) run_alloc_result ?_
    intro g6 w' hg hh hu hs
    have ho := ownBy_old own wr.heap.size 10
    refine hK _ _ ⟨_, fun b hb => (ho b (Nat.lt_of_lt_of_le hb ju.size)).trans (j0 b hb), ju.trans hu, k0, k1, fun h => (k2 h).grow hu ho, k3, k4, fun h => (k5 h).grow hu ho, k6, k7, fun h => (k8 h).grow hu ho, fun h => (s0 h).grow hu ho, fun _ => ⟨_, ⟨g6, rfl, if_neg (by omega), by omega, hh, rfl⟩, fun e => ?_⟩, fun h => (s2 h).grow hu ho, z0, fun h => ⟨(z1 h).1, rfl⟩, z2⟩
    have := (z1 e).2; rw [hD] at this; cases this
  · refine opwp_alloc (d := 12) (by rfl) nd (by decide) (by rfl) run_alloc_result ?_
    intro g6 w' hg hh hu hs
    have ho := ownBy_old own wr.heap.size 11
    refine hK _ _ ⟨_, fun b hb => (ho b (Nat.lt_of_lt_of_le hb ju.size)).trans (j0 b hb), ju.trans hu, k0, k1, fun h => (k2 h).grow hu ho, k3, k4, fun h => (k5 h).grow hu ho, k6, k7, fun h => (k8 h).grow hu ho, fun h => (s0 h).grow hu ho, fun h => (s1 h).grow hu ho, fun _ => ⟨_, ⟨g6, rfl, if_neg (by omega), by omega, hh, rfl⟩, fun e => ?_⟩, z0, z1, fun h => ⟨(z2 h).1, rfl⟩⟩
    have := (z2 e).2; rw [hD] at this; cases this
  · simp [Region.binds] at hdep
    have d6 : D 9 = true := hdep.1
    have d2 : D 2 = true := hdep.2.1
    obtain ⟨cs, ⟨g6, hp, hog, hlt, hh, hsz3⟩, -⟩ := s0 d6
    obtain ⟨cs', hv, hs', h1'⟩ := (k2 d2).shape
    refine opwp_store (by rfl) (by rfl) hh ((eval_in nd (by decide) (by omega)).trans hp) ((eval_in nd (by decide) (by omega)).trans hv) (hs'.trans hsz3.symm) (by rw [hs']; kernel_rfl) h1' ?_
    intro w' hh' hu hsz'
    exact hK _ _ ⟨own, j0, ju.trans' hu (fun x hx e => by subst e; have := j0 x hx; omega), k0, k1, fun h => (k2 h).store hu (by omega), k3, k4, fun h => (k5 h).store hu (by omega), k6, k7, fun h => (k8 h).store hu (by omega), fun _ => ⟨cs', ⟨g6, hp, hog, by omega, hh', hs'⟩, fun _ => hv⟩, fun h => (s1 h).store hu (by omega), fun h => (s2 h).store hu (by omega), fun _ => ⟨d2, d6⟩, z1, z2⟩
  · simp [Region.binds] at hdep
    have d6 : D 10 = true := hdep.1
    have d2 : D 5 = true := hdep.2.1
    obtain ⟨cs, ⟨g6, hp, hog, hlt, hh, hsz3⟩, -⟩ := s1 d6
    obtain ⟨cs', hv, hs', h1'⟩ := (k5 d2).shape
    refine opwp_store (by rfl) (by rfl) hh ((eval_in nd (by decide) (by omega)).trans hp) ((eval_in nd (by decide) (by omega)).trans hv) (hs'.trans hsz3.symm) (by rw [hs']; kernel_rfl) h1' ?_
    intro w' hh' hu hsz'
    exact hK _ _ ⟨own, j0, ju.trans' hu (fun x hx e => by subst e; have := j0 x hx; omega), k0, k1, fun h => (k2 h).store hu (by omega), k3, k4, fun h => (k5 h).store hu (by omega), k6, k7, fun h => (k8 h).store hu (by omega), fun h => (s0 h).store hu (by omega), fun _ => ⟨cs', ⟨g6, hp, hog, by omega, hh', hs'⟩, fun _ => hv⟩, fun h => (s2 h).store hu (by omega), z0, fun _ => ⟨d2, d6⟩, z2⟩
  · simp [Region.binds] at hdep
    have d6 : D 11 = true := hdep.1
    have d2 : D 8 = true := hdep.2.1
    obtain ⟨cs, ⟨g6, hp, hog, hlt, hh, hsz3⟩, -⟩ := s2 d6
    obtain ⟨cs', hv, hs', h1'⟩ := (k8 d2).shape
    refine opwp_store (by rfl) (by rfl) hh ((eval_in nd (by decide) (by omega)).trans hp) ((eval_in nd (by decide) (by omega)).trans hv) (hs'.trans hsz3.symm) (by rw [hs']; kernel_rfl) h1' ?_
    intro w' hh' hu hsz'
    exact hK _ _ ⟨own, j0, ju.trans' hu (fun x hx e => by subst e; have := j0 x hx; omega), k0, k1, fun h => (k2 h).store hu (by omega), k3, k4, fun h => (k5 h).store hu (by omega), k6, k7, fun h => (k8 h).store hu (by omega), fun h => (s0 h).store hu (by omega), fun h => (s1 h).store hu (by omega), fun _ => ⟨cs', ⟨g6, hp, hog, by omega, hh', hs'⟩, fun _ => hv⟩, z0, z1, fun _ => ⟨d2, d6⟩⟩

/-- What stands behind the three sifts. -/
theorem turn_end {w5 : World} {kv ev sl so : Value} {q : Qr} {ps qs : List KvP} {D : Nat → Bool} {f : Nat → Value} {wx : World} (h : TurnJ w5 kv ev sl so q ps qs D f wx) (hD : ∀ i, i < 15 → D i = true) :
    ∃ (g1 g2 g3 : Nat) (a1 a2 a3 : Option Addr) (c1 c2 c3 : Nat) (rs1 rs2 rs3 : List KvP) (m1 m2 m3 : Bool), f 10 = .pointer (some ⟨g1, 0, none⟩) ∧ f 11 = .pointer (some ⟨g2, 0, none⟩) ∧ f 12 = .pointer (some ⟨g3, 0, none⟩) ∧
      wx.heap[g1]? = some (.cells #[.slice a1 rs1.length c1, .int .i64 (cntQ q ps), .bool m1] 30 (0, 0)) ∧ wx.heap[g2]? = some (.cells #[.slice a2 rs2.length c2, .int .i64 (cntQ q qs), .bool m2] 30 (0, 0)) ∧
      wx.heap[g3]? = some (.cells #[.slice a3 rs3.length c3, .int .i64 (cntQ (flipQ q) ps), .bool m3] 30 (0, 0)) ∧
      AnyP q ps rs1 m1 ∧ AnyP q qs rs2 m2 ∧ AnyP (flipQ q) ps rs3 m3 ∧ Kvs wx (fun _ => True) (.slice a1 rs1.length c1) rs1 ∧ Kvs wx (fun _ => True) (.slice a2 rs2.length c2) rs2 ∧ Kvs wx (fun _ => True) (.slice a3 rs3.length c3) rs3 ∧ Upd (fun _ => False) w5 wx := by
  obtain ⟨own, j0, ju, k0, k1, k2, k3, k4, k5, k6, k7, k8, s0, s1, s2, z0, z1, z2⟩ := h
  obtain ⟨a1, c1, rs1, m1, lo, hi, h1, p1, v1, _, _⟩ := k2 (hD 2 (by decide))
  obtain ⟨a2, c2, rs2, m2, lo2, hi2, h2, p2, v2, _, _⟩ := k5 (hD 5 (by decide))
  obtain ⟨a3, c3, rs3, m3, lo3, hi3, h3, p3, v3, _, _⟩ := k8 (hD 8 (by decide))
  obtain ⟨cs1, ⟨g1, e1, _, _, hh1, _⟩, x1⟩ := s0 (hD 9 (by decide))
  obtain ⟨cs2, ⟨g2, e2, _, _, hh2, _⟩, x2⟩ := s1 (hD 10 (by decide))
  obtain ⟨cs3, ⟨g3, e3, _, _, hh3, _⟩, x3⟩ := s2 (hD 11 (by decide))
  have y1 := x1 (hD 12 (by decide))
  have y2 := x2 (hD 13 (by decide))
  have y3 := x3 (hD 14 (by decide))
  rw [h1] at y1
  rw [h2] at y2
  rw [h3] at y3
  cases y1
  cases y2
  cases y3
  exact ⟨g1, g2, g3, a1, a2, a3, c1, c2, c3, rs1, rs2, rs3, m1, m2, m3, e1, e2, e3, hh1, hh2, hh3, p1, p2, p3, v1.kvs, v2.kvs, v3.kvs, ju⟩

end Go.Proofs.Ytpbenicglhccmaa
