/-
  The document's lessor: the region of Revoke, whatever its order.
-/
import Derived.Test.YtcbngjlgcgcljaaGreatRefL
import Derived.Test.YtcbngjlgcgcljaaGreatRegInv
namespace Go.Proofs.YtcbngjlgcgcljaaGreat
open Go.RowKit Go.Tb Go.MapKept Go.ChangeMaps Go.Lib
set_option linter.unusedVariables false

/-- The world, by what is done. -/
def revW (W0 W1 W2 W4 W5 : World) (D : Nat → Bool) : World := if D 19 = true then W5 else if D 16 = true then W4 else if D 8 = true then W2 else if D 1 = true then W1 else W0

/-- What stands in the midst of it. -/
def RevJ (W0 W1 W2 W4 W5 : World) (b j : Nat) (E0 V S1 A1 S2 A2 : Value) (D : Nat → Bool) (f : Nat → Value) (w : World) : Prop :=
  (D 0 = true → f 21 = .pointer (some ⟨b, 0, none⟩)) ∧ (D 1 = true → f 22 = E0) ∧ (D 2 = true → f 23 = .pointer (some ⟨b, 0, none⟩)) ∧ (D 3 = true → f 24 = .pointer (some ⟨b, 0, none⟩)) ∧ (D 4 = true → f 25 = .pointer (some ⟨b, 2, none⟩)) ∧ (D 5 = true → f 26 = V) ∧ (D 6 = true → f 27 = .int .i64 (j : Nat)) ∧ (D 7 = true → f 28 = S1) ∧ (D 8 = true → f 29 = A1) ∧ (D 9 = true → f 30 = .pointer (some ⟨b, 0, none⟩)) ∧ (D 10 = true → f 31 = .pointer (some ⟨b, 0, none⟩)) ∧ (D 11 = true → f 32 = .pointer (some ⟨b, 2, none⟩)) ∧ (D 12 = true → f 33 = V) ∧ (D 13 = true → f 34 = .int .i64 (j : Nat)) ∧ (D 14 = true → f 35 = .int .i64 ((j + 1 : Nat) : Int)) ∧ (D 15 = true → f 36 = S2) ∧ (D 16 = true → f 37 = A2) ∧ (D 17 = true → f 38 = .pointer (some ⟨b, 0, none⟩)) ∧ (D 18 = true → f 39 = .pointer (some ⟨b, 2, none⟩))
  ∧ (D 8 = true → D 7 = true ∧ D 1 = true) ∧ (D 7 = true → D 5 = true) ∧ (D 16 = true → D 15 = true ∧ D 8 = true) ∧ (D 15 = true → D 12 = true) ∧ (D 19 = true → D 16 = true) ∧ w = revW W0 W1 W2 W4 W5 D

def RevF (b j : Nat) (a0 : Act) : Prop := a0.tmps.size = 41 ∧ a0.eval (.tmp 0) = .pointer (some ⟨b, 0, none⟩) ∧ a0.eval (.tmp 6) = .int .i64 (j : Nat)

theorem off_of {x y : Bool} (h : x = true → y = true) (hy : y = false) : x = false := by cases x with | false => rfl | true => exact absurd (h rfl) (by rw [hy]; decide)

set_option maxRecDepth 100000 in
set_option maxHeartbeats 1000000 in
theorem rev_steps (ops : Array Oper) (hops : Tryz.f18.body.bind (regionOf 5) = some ops) (a0 : Act) (Q : Exit → Act → World → Prop) (W0 W1 W2 W4 W5 : World) (b j : Nat) (E0 V S1 A1 S2 A2 : Value)
    (hF : RevF b j a0)
    (hfld : ∀ w, (Instr.fieldAt 54 (.pointer (some ⟨b, 0, none⟩)) 2).run Tryz.prog w = .ok (.pointer (some ⟨b, 2, none⟩)) w)
    (hmk : (Instr.buildSlice 52 0 #[]).run Tryz.prog W0 = .ok E0 W1)
    (l0 : (Instr.loadAt 52 (.pointer (some ⟨b, 2, none⟩))).run Tryz.prog W0 = .ok V W0) (l1 : (Instr.loadAt 52 (.pointer (some ⟨b, 2, none⟩))).run Tryz.prog W1 = .ok V W1) (l2 : (Instr.loadAt 52 (.pointer (some ⟨b, 2, none⟩))).run Tryz.prog W2 = .ok V W2)
    (hs1 : ∀ w, (Instr.sliceAt 52 V none (some (.int .i64 (j : Nat))) none).run Tryz.prog w = .ok S1 w) (hs2 : ∀ w, (Instr.sliceAt 52 V (some (.int .i64 ((j + 1 : Nat) : Int))) none none).run Tryz.prog w = .ok S2 w)
    (hadd : ∀ w, (do eqGuard .add 3 (.tmp 34) (.const (.int .i64 1)) (.int .i64 (j : Nat)) (.int .i64 1); binOp .add 3 (.int .i64 (j : Nat)) (.int .i64 1) : Sem Value).run Tryz.prog w = .ok (.int .i64 ((j + 1 : Nat) : Int)) w)
    (ha1 : ∀ ty, (Builtin.append_ #[52, 52] ty #[E0, S1]).run Tryz.prog W1 = .ok A1 W2) (ha2 : ∀ ty, (Builtin.append_ #[52, 52] ty #[A1, S2]).run Tryz.prog W2 = .ok A2 W4)
    (hst : (Instr.storeAt 52 (.pointer (some ⟨b, 2, none⟩)) A2).run Tryz.prog W4 = .ok () W5) :
    InvSteps Tryz.prog ops Q a0 [21, 22, 23, 24, 25, 26, 27, 28, 29, 30, 31, 32, 33, 34, 35, 36, 37, 38, 39] (RevJ W0 W1 W2 W4 W5 b j E0 V S1 A1 S2 A2) 0 ops.toList := by
  obtain rfl := Option.some.inj (hops.symm.trans (show Tryz.f18.body.bind (regionOf 5) = some _ from rfl))
  obtain ⟨hsz, e0, e6⟩ := hF
  have nd : ([21, 22, 23, 24, 25, 26, 27, 28, 29, 30, 31, 32, 33, 34, 35, 36, 37, 38, 39] : List Nat).Nodup := by decide
  simp only [InvSteps]
  refine ⟨?_, ?_, ?_, ?_, ?_, ?_, ?_, ?_, ?_, ?_, ?_, ?_, ?_, ?_, ?_, ?_, ?_, ?_, ?_, ?_, trivial⟩
  all_goals refine inv_of (by rfl) ?_
  all_goals rintro D f wr ⟨k0, k1, k2, k3, k4, k5, k6, k7, k8, k9, k10, k11, k12, k13, k14, k15, k16, k17, k18, c8, c7, c16, c15, c19, jw⟩ hD hdep K hK
  all_goals simp [Region.binds] at hdep

  · exact opwp_exec (d := 21) (by rfl) nd (by decide) (ex_move (x := .tmp 0) (by rfl) ((eval_out (by decide)).trans e0)) (hK _ _ ⟨fun _ => rfl, k1, k2, k3, k4, k5, k6, k7, k8, k9, k10, k11, k12, k13, k14, k15, k16, k17, k18, c8, c7, c16, c15, c19, jw⟩)
  · have g8 := off_of (fun h => (c8 h).2) hD
    have g16 := off_of (fun h => (c16 h).2) g8
    have g19 := off_of c19 g16
    have ew : wr = W0 := by rw [jw]; unfold revW; rw [g19, g16, g8, hD]; rfl
    subst ew
    exact opwp_exec (d := 22) (by rfl) nd (by decide) (ex_make0 (by rfl) hmk) (hK _ _ ⟨k0, fun _ => rfl, k2, k3, k4, k5, k6, k7, k8, k9, k10, k11, k12, k13, k14, k15, k16, k17, k18, fun h => ⟨(c8 h).1, rfl⟩, c7, c16, c15, c19, by show _ = revW _ _ _ _ _ _; unfold revW; simp [g19, g16, g8]⟩)
  · exact opwp_exec (d := 23) (by rfl) nd (by decide) (ex_move (x := .tmp 0) (by rfl) ((eval_out (by decide)).trans e0)) (hK _ _ ⟨k0, k1, fun _ => rfl, k3, k4, k5, k6, k7, k8, k9, k10, k11, k12, k13, k14, k15, k16, k17, k18, c8, c7, c16, c15, c19, jw⟩)
  · have d2 : D 2 = true := by simp_all
    exact opwp_exec (d := 24) (by rfl) nd (by decide) (ex_nil (x := .tmp 23) (by rfl) ((eval_in nd (by decide) (by omega)).trans (k2 d2))) (hK _ _ ⟨k0, k1, k2, fun _ => rfl, k4, k5, k6, k7, k8, k9, k10, k11, k12, k13, k14, k15, k16, k17, k18, c8, c7, c16, c15, c19, jw⟩)
  · have d3 : D 3 = true := by simp_all
    exact opwp_exec (d := 25) (by rfl) nd (by decide) (ex_field (x := .tmp 24) (by rfl) ((eval_in nd (by decide) (by omega)).trans (k3 d3)) (hfld _)) (hK _ _ ⟨k0, k1, k2, k3, fun _ => rfl, k5, k6, k7, k8, k9, k10, k11, k12, k13, k14, k15, k16, k17, k18, c8, c7, c16, c15, c19, jw⟩)
  · have d4 : D 4 = true := by simp_all
    have g7 := off_of c7 hD
    have g8 := off_of (fun h => (c8 h).1) g7
    have g16 := off_of (fun h => (c16 h).2) g8
    have g19 := off_of c19 g16
    refine opwp_exec (d := 26) (by rfl) nd (by decide) (v := V) (w' := wr) (ex_load (x := .tmp 25) (by rfl) ((eval_in nd (by decide) (by omega)).trans (k4 d4)) ?_) (hK _ _ ⟨k0, k1, k2, k3, k4, fun _ => rfl, k6, k7, k8, k9, k10, k11, k12, k13, k14, k15, k16, k17, k18, c8, fun h => rfl, c16, c15, c19, jw⟩)
    rw [jw]
    unfold revW
    rw [g19, g16, g8]
    cases D 1
    · exact l0
    · exact l1
  · exact opwp_exec (d := 27) (by rfl) nd (by decide) (ex_move (x := .tmp 6) (by rfl) ((eval_out (by decide)).trans e6)) (hK _ _ ⟨k0, k1, k2, k3, k4, k5, fun _ => rfl, k7, k8, k9, k10, k11, k12, k13, k14, k15, k16, k17, k18, c8, c7, c16, c15, c19, jw⟩)
  · have d5 : D 5 = true := by simp_all
    have d6 : D 6 = true := by simp_all
    exact opwp_exec (d := 28) (by rfl) nd (by decide) (ex_slice_hi (x := .tmp 26) (y := .tmp 27) (by rfl) ((eval_in nd (by decide) (by omega)).trans (k5 d5)) ((eval_in nd (by decide) (by omega)).trans (k6 d6)) (hs1 _)) (hK _ _ ⟨k0, k1, k2, k3, k4, k5, k6, fun _ => rfl, k8, k9, k10, k11, k12, k13, k14, k15, k16, k17, k18, fun h => ⟨rfl, (c8 h).2⟩, fun _ => d5, c16, c15, c19, jw⟩)
  · have d1 : D 1 = true := by simp_all
    have d7 : D 7 = true := by simp_all
    have d1 : D 1 = true := by simp_all
    have g16 := off_of (fun h => (c16 h).2) hD
    have g19 := off_of c19 g16
    have ew : wr = W1 := by rw [jw]; unfold revW; rw [g19, g16, hD, d1]; rfl
    subst ew
    exact opwp_exec (d := 29) (by rfl) nd (by decide) (ex_append (x := .tmp 22) (y := .tmp 28) (by rfl) ((eval_in nd (by decide) (by omega)).trans (k1 d1)) ((eval_in nd (by decide) (by omega)).trans (k7 d7)) ha1) (hK _ _ ⟨k0, k1, k2, k3, k4, k5, k6, k7, fun _ => rfl, k9, k10, k11, k12, k13, k14, k15, k16, k17, k18, fun h => ⟨d7, d1⟩, c7, fun h => ⟨(c16 h).1, rfl⟩, c15, c19, by show _ = revW _ _ _ _ _ _; unfold revW; simp [g19, g16]⟩)
  · exact opwp_exec (d := 30) (by rfl) nd (by decide) (ex_move (x := .tmp 0) (by rfl) ((eval_out (by decide)).trans e0)) (hK _ _ ⟨k0, k1, k2, k3, k4, k5, k6, k7, k8, fun _ => rfl, k10, k11, k12, k13, k14, k15, k16, k17, k18, c8, c7, c16, c15, c19, jw⟩)
  · have d9 : D 9 = true := by simp_all
    exact opwp_exec (d := 31) (by rfl) nd (by decide) (ex_nil (x := .tmp 30) (by rfl) ((eval_in nd (by decide) (by omega)).trans (k9 d9))) (hK _ _ ⟨k0, k1, k2, k3, k4, k5, k6, k7, k8, k9, fun _ => rfl, k11, k12, k13, k14, k15, k16, k17, k18, c8, c7, c16, c15, c19, jw⟩)
  · have d10 : D 10 = true := by simp_all
    exact opwp_exec (d := 32) (by rfl) nd (by decide) (ex_field (x := .tmp 31) (by rfl) ((eval_in nd (by decide) (by omega)).trans (k10 d10)) (hfld _)) (hK _ _ ⟨k0, k1, k2, k3, k4, k5, k6, k7, k8, k9, k10, fun _ => rfl, k12, k13, k14, k15, k16, k17, k18, c8, c7, c16, c15, c19, jw⟩)
  · have d11 : D 11 = true := by simp_all
    have g15 := off_of c15 hD
    have g16 := off_of (fun h => (c16 h).1) g15
    have g19 := off_of c19 g16
    refine opwp_exec (d := 33) (by rfl) nd (by decide) (v := V) (w' := wr) (ex_load (x := .tmp 32) (by rfl) ((eval_in nd (by decide) (by omega)).trans (k11 d11)) ?_) (hK _ _ ⟨k0, k1, k2, k3, k4, k5, k6, k7, k8, k9, k10, k11, fun _ => rfl, k13, k14, k15, k16, k17, k18, c8, c7, c16, fun h => rfl, c19, jw⟩)
    rw [jw]
    unfold revW
    rw [g19, g16]
    cases D 8
    · cases D 1
      · exact l0
      · exact l1
    · exact l2
  · exact opwp_exec (d := 34) (by rfl) nd (by decide) (ex_move (x := .tmp 6) (by rfl) ((eval_out (by decide)).trans e6)) (hK _ _ ⟨k0, k1, k2, k3, k4, k5, k6, k7, k8, k9, k10, k11, k12, fun _ => rfl, k14, k15, k16, k17, k18, c8, c7, c16, c15, c19, jw⟩)
  · have d13 : D 13 = true := by simp_all
    exact opwp_exec (d := 35) (by rfl) nd (by decide) (ex_bin (x := .tmp 34) (y := .const (.int .i64 1)) (by rfl) ((eval_in nd (by decide) (by omega)).trans (k13 d13)) rfl (hadd _)) (hK _ _ ⟨k0, k1, k2, k3, k4, k5, k6, k7, k8, k9, k10, k11, k12, k13, fun _ => rfl, k15, k16, k17, k18, c8, c7, c16, c15, c19, jw⟩)
  · have d12 : D 12 = true := by simp_all
    have d14 : D 14 = true := by simp_all
    exact opwp_exec (d := 36) (by rfl) nd (by decide) (ex_slice_lo (x := .tmp 33) (y := .tmp 35) (by rfl) ((eval_in nd (by decide) (by omega)).trans (k12 d12)) ((eval_in nd (by decide) (by omega)).trans (k14 d14)) (hs2 _)) (hK _ _ ⟨k0, k1, k2, k3, k4, k5, k6, k7, k8, k9, k10, k11, k12, k13, k14, fun _ => rfl, k16, k17, k18, c8, c7, fun h => ⟨rfl, (c16 h).2⟩, fun _ => d12, c19, jw⟩)
  · have d8 : D 8 = true := by simp_all
    have d15 : D 15 = true := by simp_all
    have g19 := off_of c19 hD
    have ew : wr = W2 := by rw [jw]; unfold revW; rw [g19, hD, d8]; rfl
    subst ew
    exact opwp_exec (d := 37) (by rfl) nd (by decide) (ex_append (x := .tmp 29) (y := .tmp 36) (by rfl) ((eval_in nd (by decide) (by omega)).trans (k8 d8)) ((eval_in nd (by decide) (by omega)).trans (k15 d15)) ha2) (hK _ _ ⟨k0, k1, k2, k3, k4, k5, k6, k7, k8, k9, k10, k11, k12, k13, k14, k15, fun _ => rfl, k17, k18, c8, c7, fun h => ⟨d15, d8⟩, c15, fun h => rfl, by show _ = revW _ _ _ _ _ _; unfold revW; simp [g19]⟩)
  · have d0 : D 0 = true := by simp_all
    exact opwp_exec (d := 38) (by rfl) nd (by decide) (ex_nil (x := .tmp 21) (by rfl) ((eval_in nd (by decide) (by omega)).trans (k0 d0))) (hK _ _ ⟨k0, k1, k2, k3, k4, k5, k6, k7, k8, k9, k10, k11, k12, k13, k14, k15, k16, fun _ => rfl, k18, c8, c7, c16, c15, c19, jw⟩)
  · have d17 : D 17 = true := by simp_all
    exact opwp_exec (d := 39) (by rfl) nd (by decide) (ex_field (x := .tmp 38) (by rfl) ((eval_in nd (by decide) (by omega)).trans (k17 d17)) (hfld _)) (hK _ _ ⟨k0, k1, k2, k3, k4, k5, k6, k7, k8, k9, k10, k11, k12, k13, k14, k15, k16, k17, fun _ => rfl, c8, c7, c16, c15, c19, jw⟩)
  · have d18 : D 18 = true := by simp_all
    have d16 : D 16 = true := by simp_all
    have ew : wr = W4 := by rw [jw]; unfold revW; rw [hD, d16]; rfl
    subst ew
    exact opwp_skip (by rfl) (ex_store (x := .tmp 39) (y := .tmp 37) (by rfl) ((eval_in nd (by decide) (by omega)).trans (k18 d18)) ((eval_in nd (by decide) (by omega)).trans (k16 d16)) hst) (hK _ _ ⟨k0, k1, k2, k3, k4, k5, k6, k7, k8, k9, k10, k11, k12, k13, k14, k15, k16, k17, k18, c8, c7, c16, c15, fun h => d16, by show _ = revW _ _ _ _ _ _; unfold revW; simp⟩)

end Go.Proofs.YtcbngjlgcgcljaaGreat
