/-
  DiskPlays: the region that writes n zeros to both, in whatever order. Printed by tools/gendef.py.
-/
import Derived.Test.YteokbokgiejmpaaPDiskM
import Derived.Test.YteokbokgiejmpaaPDiskG
import Derived.Test.YteokbokgiejmpaaRegInv
namespace Go.Proofs.Yteokbokgiejmpaa
open Go.RowKit Go.Tb Go.MapKept Go.ChangeMaps
set_option linter.unusedVariables false

def zeroE (D : DS) (pg : Int) (k : Nat) : Int := if D.check pg = 0 ∧ k ≠ 256 then 4 else D.check pg
def zeroD (D : DS) (pg : Int) (k : Nat) : DS := if D.check pg = 0 ∧ k = 256 then D.write pg zeros else D

/-- What stands in the midst of the region. -/
def DefJ (w0 : World) (b mp mc rb g j : Nat) (P : Nat → Prop) (D0 : DS) (E : RD) (k : Nat) (pg : Int) (D : Nat → Bool) (f : Nat → Value) (w : World) : Prop :=
  ∃ (P' : Nat → Prop) (D' : DS) (E' : RD) (J' : Nat → Prop), Run w0 P' w b mp mc rb D' E' J' ∧ (D 5 = false → D0 = D') ∧ (D 5 = true → zeroD D0 pg k = D') ∧ (D 11 = false → P = P' ∧ E = E') ∧ (D 11 = true → RelD D' E' (j + 1) ∧ D 5 = true) ∧ w.cell? ⟨g, 1, none⟩ = some (.int .i64 pg) ∧
    (D 0 = true → f 99 = .pointer (some ⟨b, 0, none⟩)) ∧ (D 1 = true → f 100 = .pointer (some ⟨g, 1, none⟩)) ∧ (D 2 = true → f 101 = .int .i64 pg) ∧ (D 3 = true → f 102 = .int .i64 k) ∧ (D 4 = true → D 5 = false → ∃ x, f 103 = .slice (some ⟨x, 0, none⟩) k k ∧ Bytes w (.slice (some ⟨x, 0, none⟩) k k) (List.replicate k 0)) ∧ (D 5 = true → f 104 = .int .i64 (zeroE D0 pg k)) ∧
    (D 6 = true → f 105 = .pointer (some ⟨rb, 0, none⟩)) ∧ (D 7 = true → f 106 = .pointer (some ⟨g, 1, none⟩)) ∧ (D 8 = true → f 107 = .int .i64 pg) ∧ (D 9 = true → f 108 = .int .i64 k) ∧ (D 10 = true → D 11 = false → ∃ x, f 109 = .slice (some ⟨x, 0, none⟩) k k ∧ Bytes w (.slice (some ⟨x, 0, none⟩) k k) (List.replicate k 0) ∧ x ≠ b ∧ x ≠ mp ∧ x ≠ mc) ∧ (D 11 = true → f 110 = .int .i64 (zeroE D0 pg k)) ∧ (D 12 = true → f 111 = .bool false)
def DefF (b rb g k : Nat) (a0 : Act) : Prop := a0.tmps.size = 250 ∧ a0.eval (.tmp 5) = .pointer (some ⟨b, 0, none⟩) ∧ a0.eval (.tmp 9) = .pointer (some ⟨rb, 0, none⟩) ∧ a0.eval (.tmp 11) = .pointer (some ⟨g, 0, none⟩) ∧ a0.eval (.tmp 19) = .int .i64 k

theorem fldA (g : Nat) (w : World) : (Instr.fieldAt 33 (.pointer (some ⟨g, 0, none⟩)) 1).run Try.prog w = .ok (.pointer (some ⟨g, 1, none⟩)) w := by kernel_rfl
theorem ldA (g : Nat) (x : Int) (w : World) (h : w.cell? ⟨g, 1, none⟩ = some (.int .i64 x)) : (Instr.loadAt 3 (.pointer (some ⟨g, 1, none⟩))).run Try.prog w = .ok (.int .i64 x) w := by
  have hu := Try.underlying3
  go_simp
theorem neE (e : Int) (w : World) : (do eqGuard .neq 27 (.tmp 104) (.tmp 110) (.int .i64 e) (.int .i64 e); binOp .neq 27 (.int .i64 e) (.int .i64 e) : Sem Value).run Try.prog w = .ok (.bool false) w := by
  have hu := Try.underlying27
  go_simp

set_option maxRecDepth 100000 in
set_option maxHeartbeats 4000000 in
theorem def_steps (ops : Array Oper) (hops : Try.f9.body.bind (regionOf 17) = some ops) (a0 : Act) (Q : Exit → Act → World → Prop) (w0 : World) (b mp mc rb g j : Nat) (P : Nat → Prop) (D0 : DS) (E : RD) (k : Nat) (pg : Int) (hF : DefF b rb g k a0) (hk : k < 1000) (hrel : RelD D0 E j) (hj : j ≤ 1000) (hgs : ¬ (g = b ∨ g = mp ∨ g = mc)) (hgP : ¬ P g) :
    InvSteps Try.prog ops Q a0 [99, 100, 101, 102, 103, 104, 105, 106, 107, 108, 109, 110, 111] (DefJ w0 b mp mc rb g j P D0 E k pg) 0 ops.toList := by
  obtain rfl := Option.some.inj (hops.symm.trans (show Try.f9.body.bind (regionOf 17) = some _ from rfl))
  obtain ⟨hsz, e5, e9, e11, e19⟩ := hF
  have hne := neE (zeroE D0 pg k)
  have nd : [99, 100, 101, 102, 103, 104, 105, 106, 107, 108, 109, 110, 111].Nodup := by decide
  simp only [InvSteps]
  refine ⟨?_, ?_, ?_, ?_, ?_, ?_, ?_, ?_, ?_, ?_, ?_, ?_, ?_, trivial⟩
  all_goals refine inv_of (by rfl) ?_
  all_goals rintro D f wr ⟨P', D', E', J', hr, c5f, c5t, c11f, c11t, e1, k0, k1, k2, k3, k4, k5, k6, k7, k8, k9, k10, k11, k12⟩ hD hdep K hK
  all_goals simp [Region.binds] at hdep
  · exact opwp_exec (d := 99) (by rfl) nd (by decide) (ex_move (x := .tmp 5) (by rfl) ((eval_out (by decide)).trans e5)) (hK _ _ ⟨P', D', E', J', hr, c5f, c5t, c11f, c11t, e1, fun _ => rfl, k1, k2, k3, k4, k5, k6, k7, k8, k9, k10, k11, k12⟩)
  · exact opwp_exec (d := 100) (by rfl) nd (by decide) (ex_field (x := .tmp 11) (by rfl) ((eval_out (by decide)).trans e11) (fldA g _)) (hK _ _ ⟨P', D', E', J', hr, c5f, c5t, c11f, c11t, e1, k0, fun _ => rfl, k2, k3, k4, k5, k6, k7, k8, k9, k10, k11, k12⟩)
  · have dd : D 1 = true := by simp_all
    exact opwp_exec (d := 101) (by rfl) nd (by decide) (ex_load (x := .tmp 100) (by rfl) ((eval_in nd (by decide) (by omega)).trans (k1 dd)) (ldA g pg _ e1)) (hK _ _ ⟨P', D', E', J', hr, c5f, c5t, c11f, c11t, e1, k0, k1, fun _ => rfl, k3, k4, k5, k6, k7, k8, k9, k10, k11, k12⟩)
  · exact opwp_exec (d := 102) (by rfl) nd (by decide) (ex_move (x := .tmp 19) (by rfl) ((eval_out (by decide)).trans e19)) (hK _ _ ⟨P', D', E', J', hr, c5f, c5t, c11f, c11t, e1, k0, k1, k2, fun _ => rfl, k4, k5, k6, k7, k8, k9, k10, k11, k12⟩)
  · have dd : D 3 = true := by simp_all
    have hua := upd_alloc (fun _ => False) wr (.cells (madeCells #[.int .u8 0] k) 5)
    exact opwp_exec (d := 103) (by rfl) nd (by decide) (ex_mkSlice (x := .tmp 102) (y := .tmp 102) (by rfl) ((eval_in nd (by decide) (by omega)).trans (k3 dd)) ((eval_in nd (by decide) (by omega)).trans (k3 dd)) (run_make_zeros wr k hk)) (hK _ _ ⟨P', D', E', J', hr.grow hua, c5f, c5t, c11f, c11t, hua.cell e1 (fun x => x), k0, k1, k2, k3, fun _ _ => ⟨_, rfl, bytes_zeros wr k hk⟩, k5, k6, k7, k8, k9, fun h1 h2 => (k10 h1 h2).imp fun x hx => ⟨hx.1, hx.2.1.upd hua (fun _ _ e => e), hx.2.2⟩, k11, k12⟩)
  · have d0 : D 0 = true := by simp_all
    have d2 : D 2 = true := by simp_all
    have d4 : D 4 = true := by simp_all
    have g11 : D 11 = false := off_of (fun h => (c11t h).2) hD
    obtain ⟨x, hx1, hx2⟩ := k4 d4 hD
    obtain rfl := c5f hD
    refine opwp_call (d := 104) (by rfl) nd (by decide) (by rfl) (enters_of Try.func12 (by kernel_rfl) rfl) (vs := #[.pointer (some ⟨b, 0, none⟩), .int .i64 pg, .slice (some ⟨x, 0, none⟩) k k]) ?_ ((write_any b mp mc D0 J' pg _ k k wr hr.m.dk hx2).mono fun e w' hs => ?_)
    · simp only [List.map_toArray, List.map_cons, List.map_nil]
      rw [eval_in nd (by decide) (by omega), eval_in nd (by decide) (by omega), eval_in nd (by decide) (by omega), k0 d0, k2 d2, hx1]
    · obtain ⟨rfl, hs⟩ := hs
      obtain ⟨J2, hr2, -⟩ := hr.dstep hs
      exact ⟨_, rfl, hK _ _ ⟨P', _, E', J2, hr2, fun h => absurd h (by simp), fun _ => rfl, c11f, fun h => absurd (show D 11 = true from h) (by rw [g11]; decide), hs.2.cell e1 hgs, k0, k1, k2, k3, fun _ h => absurd h (by simp), fun _ => rfl, k6, k7, k8, k9, fun h1 h2 => (k10 h1 h2).imp fun x hx => ⟨hx.1, hx.2.1.upd hs.2 (fun q hq e => (by cases hq; rcases e with e | e | e; exact hx.2.2.1 e; exact hx.2.2.2.1 e; exact hx.2.2.2.2 e)), hx.2.2⟩, k11, k12⟩⟩
  · exact opwp_exec (d := 105) (by rfl) nd (by decide) (ex_move (x := .tmp 9) (by rfl) ((eval_out (by decide)).trans e9)) (hK _ _ ⟨P', D', E', J', hr, c5f, c5t, c11f, c11t, e1, k0, k1, k2, k3, k4, k5, fun _ => rfl, k7, k8, k9, k10, k11, k12⟩)
  · exact opwp_exec (d := 106) (by rfl) nd (by decide) (ex_field (x := .tmp 11) (by rfl) ((eval_out (by decide)).trans e11) (fldA g _)) (hK _ _ ⟨P', D', E', J', hr, c5f, c5t, c11f, c11t, e1, k0, k1, k2, k3, k4, k5, k6, fun _ => rfl, k8, k9, k10, k11, k12⟩)
  · have dd : D 7 = true := by simp_all
    exact opwp_exec (d := 107) (by rfl) nd (by decide) (ex_load (x := .tmp 106) (by rfl) ((eval_in nd (by decide) (by omega)).trans (k7 dd)) (ldA g pg _ e1)) (hK _ _ ⟨P', D', E', J', hr, c5f, c5t, c11f, c11t, e1, k0, k1, k2, k3, k4, k5, k6, k7, fun _ => rfl, k9, k10, k11, k12⟩)
  · exact opwp_exec (d := 108) (by rfl) nd (by decide) (ex_move (x := .tmp 19) (by rfl) ((eval_out (by decide)).trans e19)) (hK _ _ ⟨P', D', E', J', hr, c5f, c5t, c11f, c11t, e1, k0, k1, k2, k3, k4, k5, k6, k7, k8, fun _ => rfl, k10, k11, k12⟩)
  · have dd : D 9 = true := by simp_all
    have hua := upd_alloc (fun _ => False) wr (.cells (madeCells #[.int .u8 0] k) 5)
    have hlt := hr.lt
    exact opwp_exec (d := 109) (by rfl) nd (by decide) (ex_mkSlice (x := .tmp 108) (y := .tmp 108) (by rfl) ((eval_in nd (by decide) (by omega)).trans (k9 dd)) ((eval_in nd (by decide) (by omega)).trans (k9 dd)) (run_make_zeros wr k hk)) (hK _ _ ⟨P', D', E', J', hr.grow hua, c5f, c5t, c11f, c11t, hua.cell e1 (fun x => x), k0, k1, k2, k3, fun h1 h2 => (k4 h1 h2).imp fun x hx => ⟨hx.1, hx.2.upd hua (fun _ _ e => e)⟩, k5, k6, k7, k8, k9, fun _ _ => ⟨_, rfl, bytes_zeros wr k hk, by omega, by omega, by omega⟩, k11, k12⟩)
  · have d5 : D 5 = true := by simp_all
    have d6 : D 6 = true := by simp_all
    have d8 : D 8 = true := by simp_all
    have d10 : D 10 = true := by simp_all
    obtain ⟨x, hx1, hx2, -⟩ := k10 d10 hD
    obtain rfl := c5t d5
    obtain ⟨rfl, rfl⟩ := c11f hD
    refine opwp_call (d := 110) (by rfl) nd (by decide) (by rfl) (enters_of Try.func26 (by kernel_rfl) rfl) (vs := #[.pointer (some ⟨rb, 0, none⟩), .int .i64 pg, .slice (some ⟨x, 0, none⟩) k k]) ?_ ((rwrite_any hr.m.rd hrel hj pg _ k k hx2).mono fun e w' hs => ?_)
    · simp only [List.map_toArray, List.map_cons, List.map_nil]
      rw [eval_in nd (by decide) (by omega), eval_in nd (by decide) (by omega), eval_in nd (by decide) (by omega), k6 d6, k8 d8, hx1]
    · obtain ⟨rfl, hs⟩ := hs
      obtain ⟨E2, hr2, hl2⟩ := hr.rstep hs
      exact ⟨_, rfl, hK _ _ ⟨_, _, E2, J', hr2, fun h => absurd (show D 5 = false from h) (by rw [d5]; decide), fun _ => rfl, fun h => absurd h (by simp), fun _ => ⟨hl2, d5⟩, hs.1.cell e1 hgP, k0, k1, k2, k3, fun _ h => absurd (show D 5 = false from h) (by rw [d5]; decide), k5, k6, k7, k8, k9, fun _ h => absurd h (by simp), fun _ => rfl, k12⟩⟩
  · have d5 : D 5 = true := by simp_all
    have d11 : D 11 = true := by simp_all
    exact opwp_exec (d := 111) (by rfl) nd (by decide) (ex_bin (x := .tmp 104) (y := .tmp 110) (by rfl) ((eval_in nd (by decide) (by omega)).trans (k5 d5)) ((eval_in nd (by decide) (by omega)).trans (k11 d11)) (hne _)) (hK _ _ ⟨P', D', E', J', hr, c5f, c5t, c11f, c11t, e1, k0, k1, k2, k3, k4, k5, k6, k7, k8, k9, k10, k11, fun _ => rfl⟩)

end Go.Proofs.Yteokbokgiejmpaa
