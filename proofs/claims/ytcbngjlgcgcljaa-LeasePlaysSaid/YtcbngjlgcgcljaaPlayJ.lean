/-
  LeasePlays: the region that appends to two lists, whatever its order.
-/
import Derived.Test.YtcbngjlgcgcljaaRegInv
import Derived.Test.YtcbngjlgcgcljaaLeaseF
import Derived.Test.YtcbngjlgcgcljaaLeaseD
import Derived.Test.YtcbngjlgcgcljaaBase
namespace Go.Proofs.Ytcbngjlgcgcljaa
open Go.RowKit Go.Tb Go.MapKept Go.ChangeMaps Go.Lib
set_option linter.unusedVariables false

/-- Two lists of numbers of the call's own, and blocks of one number. -/
structure PW (B g : Nat) (W0 : World) (x y : Int) (r1 r2 : Value) (m1 m2 : List Int) (ys : List (Nat × Int)) (w : World) : Prop where
  o1 : w.ownsRow B 2 1 r1 m1.length (m1.flatMap nenc)
  o2 : w.ownsRow B 2 1 r2 m2.length (m2.flatMap nenc)
  sep : ∀ b, sliceBlock r1 = some b → sliceBlock r2 ≠ some b
  g1 : sliceBlock r1 ≠ some g
  g2 : sliceBlock r2 ≠ some g
  cg : w.heap[g]? = some (.cells #[.int .i64 x, .int .i64 y] 28 (0, 0))
  ones : ∀ p ∈ ys, w.heap[p.1]? = some (.cells #[.int .i64 p.2] 2 (0, 0)) ∧ sliceBlock r1 ≠ some p.1 ∧ sliceBlock r2 ≠ some p.1
  hB : B ≤ W0.heap.size
  hu : Upd (fun k => B ≤ k) W0 w

theorem PW.swap {B g : Nat} {W0 : World} {x y : Int} {r1 r2 : Value} {m1 m2 : List Int} {ys : List (Nat × Int)} {w : World} (h : PW B g W0 x y r1 r2 m1 m2 ys w) : PW B g W0 x y r2 r1 m2 m1 ys w :=
  ⟨h.o2, h.o1, fun b h1 h2 => h.sep b h2 h1, h.g2, h.g1, h.cg, fun p hp => ⟨(h.ones p hp).1, (h.ones p hp).2.2, (h.ones p hp).2.1⟩, h.hB, h.hu⟩

theorem PW.make {B g : Nat} {W0 : World} {x y : Int} {r1 r2 : Value} {m1 m2 : List Int} {ys : List (Nat × Int)} {w : World} (h : PW B g W0 x y r1 r2 m1 m2 ys w) (z : Int) : PW B g W0 x y r1 r2 m1 m2 ((w.heap.size, z) :: ys) (w.alloc (.cells #[.int .i64 z] 2)) := by
  have hu := upd_alloc (fun _ => False) w (.cells #[.int .i64 z] 2)
  refine ⟨own_grow h.o1 hu, own_grow h.o2 hu, h.sep, h.g1, h.g2, hu.heap h.cg (fun x => x), fun p hp => ?_, h.hB, h.hu.trans (hu.weak _)⟩
  rcases List.mem_cons.1 hp with rfl | hp
  · exact ⟨(heap_alloc w _).1, fun e => absurd (own_ge h.o1 _ e).2 (Nat.lt_irrefl _), fun e => absurd (own_ge h.o2 _ e).2 (Nat.lt_irrefl _)⟩
  · exact ⟨hu.heap (h.ones p hp).1 (fun x => x), (h.ones p hp).2⟩

theorem PW.app {B g : Nat} {W0 : World} {x y : Int} {r1 r2 : Value} {m1 m2 : List Int} {ys : List (Nat × Int)} {w : World} (h : PW B g W0 x y r1 r2 m1 m2 ys w) {b : Nat} {z : Int} (hb : (b, z) ∈ ys) (hm : m1.length ≤ 1000) :
    ∃ r w', (∀ ty, (Builtin.append_ #[32, 32] ty #[r1, .slice (some ⟨b, 0, none⟩) 1 1]).run Try.prog w = .ok r w') ∧ PW B g W0 x y r r2 (m1 ++ [z]) m2 ys w' ∧ ∃ a c, r = .slice a (m1.length + 1) c := by
  obtain ⟨hh, hb1, hb2⟩ := h.ones _ hb
  obtain ⟨a, c, w', hap, hown, hu, hbl⟩ := run_append_one (P := Try.prog) (t := 32) Try.underlying32 info_i64 rfl (by decide) nenc_length nenc_one z h.o1 hh (Nat.le_trans h.hB h.hu.size) (by unfold maxLen; omega) (by omega)
  have hnew : ∀ k, k < w.heap.size → sliceBlock r1 ≠ some k → sliceBlock (.slice a (m1.length + 1) c) ≠ some k := fun k hk hn e => by
    rcases hbl with q | q
    · exact hn (q ▸ e)
    · rw [e] at q; injection q with q; omega
  refine ⟨_, w', hap, ⟨hown, own_upd' h.o2 hu (fun k hk e => h.sep k e hk), fun k hk e => ?_, hnew g (lt_of_heap h.cg) h.g1, h.g2, hu.heap h.cg h.g1, fun p hp => ?_, h.hB, h.hu.trans (hu.mono (fun k _ e => (own_ge h.o1 k e).1))⟩, a, c, rfl⟩
  · exact hnew k (own_ge h.o2 k e).2 (fun q => h.sep k q e) hk
  · obtain ⟨p1, p2, p3⟩ := h.ones p hp
    exact ⟨hu.heap p1 p2, hnew p.1 (lt_of_heap p1) p2, p3⟩

/-- What stands in the midst of the two appends. -/
def PairJ (B g : Nat) (W0 : World) (x y : Int) (V1 V2 : Value) (l1 l2 : List Int) (D : Nat → Bool) (f : Nat → Value) (w : World) : Prop :=
  ∃ r1 r2 m1 m2 ys, PW B g W0 x y r1 r2 m1 m2 ys w ∧ (D 0 = true → f 40 = V1) ∧ (D 1 = true → f 41 = .pointer (some ⟨g, 0, none⟩)) ∧ (D 2 = true → f 42 = .int .i64 x) ∧ (D 3 = true → ∃ b, f 43 = .slice (some ⟨b, 0, none⟩) 1 1 ∧ (b, x) ∈ ys) ∧ (D 4 = true → f 44 = r1) ∧
    (D 5 = true → f 45 = V2) ∧ (D 6 = true → f 46 = .pointer (some ⟨g, 1, none⟩)) ∧ (D 7 = true → f 47 = .int .i64 y) ∧ (D 8 = true → ∃ b, f 48 = .slice (some ⟨b, 0, none⟩) 1 1 ∧ (b, y) ∈ ys) ∧ (D 9 = true → f 49 = r2) ∧ (D 10 = true → f 7 = r1) ∧ (D 11 = true → f 8 = r2) ∧
    (D 4 = false → r1 = V1 ∧ m1 = l1) ∧ (D 9 = false → r2 = V2 ∧ m2 = l2) ∧ (D 4 = true → m1 = l1 ++ [x]) ∧ (D 9 = true → m2 = l2 ++ [y]) ∧ (D 10 = true → D 4 = true) ∧ (D 11 = true → D 9 = true) ∧ (D 10 = false → f 7 = V1) ∧ (D 11 = false → f 8 = V2) ∧ (D 4 = true → D 0 = true) ∧ (D 9 = true → D 5 = true)

def PairF (g : Nat) (V1 V2 : Value) (a0 : Act) : Prop := a0.tmps.size = 145 ∧ a0.eval (.tmp 10) = .pointer (some ⟨g, 0, none⟩)

theorem ex_assign {P : Program} {o : Oper} {ρ : Operand → Value} {x : Operand} {v : Value} {w : World} (ho : o.op = .assign x) (hx : ρ x = v) : (execOp ρ o).run P w = .ok (.value v) w := by
  subst hx; unfold execOp; rw [ho]; rfl
theorem ex_make1 {P : Program} {o : Oper} {ρ : Operand → Value} {x : Operand} {t : TypeId} {u v : Value} {w w' : World} (ho : o.op = .buildSlice t 1 #[(0, x)]) (hx : ρ x = u) (hr : (Instr.buildSlice t 1 #[(0, u)]).run P w = .ok v w') : (execOp ρ o).run P w = .ok (.value v) w' := by
  subst hx; unfold execOp; rw [ho]; simp [hr, Result.andThen]

theorem fld0 (g : Nat) (w : World) : (Instr.fieldAt 28 (.pointer (some ⟨g, 0, none⟩)) 0).run Try.prog w = .ok (.pointer (some ⟨g, 0, none⟩)) w := by kernel_rfl
theorem fld1 (g : Nat) (w : World) : (Instr.fieldAt 28 (.pointer (some ⟨g, 0, none⟩)) 1).run Try.prog w = .ok (.pointer (some ⟨g, 1, none⟩)) w := by kernel_rfl
theorem mk1 (z : Int) (w : World) : (Instr.buildSlice 32 1 #[(0, .int .i64 z)]).run Try.prog w = .ok (.slice (some ⟨w.heap.size, 0, none⟩) 1 1) (w.alloc (.cells #[.int .i64 z] 2)) := by kernel_rfl
theorem ldi (g o : Nat) (z : Int) (w : World) (h : w.cell? ⟨g, o, none⟩ = some (.int .i64 z)) : (Instr.loadAt 2 (.pointer (some ⟨g, o, none⟩))).run Try.prog w = .ok (.int .i64 z) w := by
  have hu := Try.underlying2
  go_simp

set_option maxRecDepth 100000 in
set_option maxHeartbeats 1000000 in
theorem pair_steps (ops : Array Oper) (hops : Try.f7.body.bind (regionOf 7) = some ops) (a0 : Act) (Q : Exit → Act → World → Prop) (B g : Nat) (W0 : World) (x y : Int) (V1 V2 : Value) (l1 l2 : List Int) (hF : PairF g V1 V2 a0) (hl1 : l1.length ≤ 1000) (hl2 : l2.length ≤ 1000) :
    InvSteps Try.prog ops Q a0 [40, 41, 42, 43, 44, 45, 46, 47, 48, 49, 7, 8] (PairJ B g W0 x y V1 V2 l1 l2) 0 ops.toList := by
  obtain rfl := Option.some.inj (hops.symm.trans (show Try.f7.body.bind (regionOf 7) = some _ from rfl))
  obtain ⟨hsz, e10⟩ := hF
  have nd : [40, 41, 42, 43, 44, 45, 46, 47, 48, 49, 7, 8].Nodup := by decide
  simp only [InvSteps]
  refine ⟨?_, ?_, ?_, ?_, ?_, ?_, ?_, ?_, ?_, ?_, ?_, ?_, trivial⟩
  all_goals refine inv_of (by rfl) ?_
  all_goals rintro D f wr ⟨r1, r2, m1, m2, ys, hpw, k0, k1, k2, k3, k4, k5, k6, k7, k8, k9, k10, k11, e4, e9, n4, n9, q10, q11, u10, u11, w4, w9⟩ hD hdep K hK
  all_goals simp [Region.binds] at hdep
  · have n10 : D 10 = false := by cases e : D 10 with | false => rfl | true => have := w4 (q10 e); rw [hD] at this; cases this
    exact opwp_exec (d := 40) (by rfl) nd (by decide) (ex_move (x := .tmp 7) (by rfl) ((eval_in nd (by decide) (by omega)).trans (u10 n10))) (hK _ _ ⟨r1, r2, m1, m2, ys, hpw, fun _ => rfl, k1, k2, k3, k4, k5, k6, k7, k8, k9, k10, k11, e4, e9, n4, n9, q10, q11, u10, u11, (fun _ => rfl), w9⟩)
  · exact opwp_exec (d := 41) (by rfl) nd (by decide) (ex_field (x := .tmp 10) (by rfl) ((eval_out (by decide)).trans e10) (fld0 g wr)) (hK _ _ ⟨r1, r2, m1, m2, ys, hpw, k0, fun _ => rfl, k2, k3, k4, k5, k6, k7, k8, k9, k10, k11, e4, e9, n4, n9, q10, q11, u10, u11, w4, w9⟩)
  · have d1 : D 1 = true := by simp_all
    exact opwp_exec (d := 42) (by rfl) nd (by decide) (ex_load (x := .tmp 41) (by rfl) ((eval_in nd (by decide) (by omega)).trans (k1 d1)) (ldi g 0 x wr (cell_of hpw.cg 0))) (hK _ _ ⟨r1, r2, m1, m2, ys, hpw, k0, k1, fun _ => rfl, k3, k4, k5, k6, k7, k8, k9, k10, k11, e4, e9, n4, n9, q10, q11, u10, u11, w4, w9⟩)
  · have d2 : D 2 = true := by simp_all
    exact opwp_exec (d := 43) (by rfl) nd (by decide) (ex_make1 (x := .tmp 42) (by rfl) ((eval_in nd (by decide) (by omega)).trans (k2 d2)) (mk1 x wr)) (hK _ _ ⟨r1, r2, m1, m2, _, hpw.make x, k0, k1, k2, fun _ => ⟨_, rfl, .head _⟩, k4, k5, k6, k7, fun h => (k8 h).imp fun _ q => ⟨q.1, .tail _ q.2⟩, k9, k10, k11, e4, e9, n4, n9, q10, q11, u10, u11, w4, w9⟩)
  · have d0 : D 0 = true := by simp_all
    have d3 : D 3 = true := by simp_all
    obtain ⟨b3, f3, y3⟩ := k3 d3
    obtain ⟨rfl, rfl⟩ := e4 hD
    have n10 : D 10 = false := by cases e : D 10 with | false => rfl | true => have := q10 e; rw [hD] at this; cases this
    obtain ⟨r, w', hap, hpw', -⟩ := hpw.app y3 hl1
    exact opwp_exec (d := 44) (by rfl) nd (by decide) (ex_append (x := .tmp 40) (y := .tmp 43) (by rfl) ((eval_in nd (by decide) (by omega)).trans (k0 d0)) ((eval_in nd (by decide) (by omega)).trans (f3)) hap) (hK _ _ ⟨r, r2, _, m2, ys, hpw', k0, k1, k2, k3, fun _ => rfl, k5, k6, k7, k8, k9, (fun h => by have h2 : D 10 = true := h; rw [n10] at h2; cases h2), k11, fun h => (by cases h), e9, fun _ => rfl, n9, fun _ => rfl, q11, u10, u11, (fun _ => d0), w9⟩)
  · have n11 : D 11 = false := by cases e : D 11 with | false => rfl | true => have := w9 (q11 e); rw [hD] at this; cases this
    exact opwp_exec (d := 45) (by rfl) nd (by decide) (ex_move (x := .tmp 8) (by rfl) ((eval_in nd (by decide) (by omega)).trans (u11 n11))) (hK _ _ ⟨r1, r2, m1, m2, ys, hpw, k0, k1, k2, k3, k4, fun _ => rfl, k6, k7, k8, k9, k10, k11, e4, e9, n4, n9, q10, q11, u10, u11, w4, (fun _ => rfl)⟩)
  · exact opwp_exec (d := 46) (by rfl) nd (by decide) (ex_field (x := .tmp 10) (by rfl) ((eval_out (by decide)).trans e10) (fld1 g wr)) (hK _ _ ⟨r1, r2, m1, m2, ys, hpw, k0, k1, k2, k3, k4, k5, fun _ => rfl, k7, k8, k9, k10, k11, e4, e9, n4, n9, q10, q11, u10, u11, w4, w9⟩)
  · have d6 : D 6 = true := by simp_all
    exact opwp_exec (d := 47) (by rfl) nd (by decide) (ex_load (x := .tmp 46) (by rfl) ((eval_in nd (by decide) (by omega)).trans (k6 d6)) (ldi g 1 y wr (cell_of hpw.cg 1))) (hK _ _ ⟨r1, r2, m1, m2, ys, hpw, k0, k1, k2, k3, k4, k5, k6, fun _ => rfl, k8, k9, k10, k11, e4, e9, n4, n9, q10, q11, u10, u11, w4, w9⟩)
  · have d7 : D 7 = true := by simp_all
    exact opwp_exec (d := 48) (by rfl) nd (by decide) (ex_make1 (x := .tmp 47) (by rfl) ((eval_in nd (by decide) (by omega)).trans (k7 d7)) (mk1 y wr)) (hK _ _ ⟨r1, r2, m1, m2, _, hpw.make y, k0, k1, k2, fun h => (k3 h).imp fun _ q => ⟨q.1, .tail _ q.2⟩, k4, k5, k6, k7, fun _ => ⟨_, rfl, .head _⟩, k9, k10, k11, e4, e9, n4, n9, q10, q11, u10, u11, w4, w9⟩)
  · have d5 : D 5 = true := by simp_all
    have d8 : D 8 = true := by simp_all
    obtain ⟨b3, f3, y3⟩ := k8 d8
    obtain ⟨rfl, rfl⟩ := e9 hD
    have n11 : D 11 = false := by cases e : D 11 with | false => rfl | true => have := q11 e; rw [hD] at this; cases this
    obtain ⟨r, w', hap, hpw', -⟩ := hpw.swap.app y3 hl2
    exact opwp_exec (d := 49) (by rfl) nd (by decide) (ex_append (x := .tmp 45) (y := .tmp 48) (by rfl) ((eval_in nd (by decide) (by omega)).trans (k5 d5)) ((eval_in nd (by decide) (by omega)).trans (f3)) hap) (hK _ _ ⟨r1, r, m1, _, ys, hpw'.swap, k0, k1, k2, k3, k4, k5, k6, k7, k8, fun _ => rfl, k10, (fun h => by have h2 : D 11 = true := h; rw [n11] at h2; cases h2), e4, fun h => (by cases h), n4, fun _ => rfl, q10, fun _ => rfl, u10, u11, w4, (fun _ => d5)⟩)
  · have d4 : D 4 = true := by simp_all
    exact opwp_exec (d := 7) (by rfl) nd (by decide) (ex_assign (x := .tmp 44) (by rfl) ((eval_in nd (by decide) (by omega)).trans (k4 d4))) (hK _ _ ⟨r1, r2, m1, m2, ys, hpw, k0, k1, k2, k3, k4, k5, k6, k7, k8, k9, fun _ => rfl, k11, e4, e9, n4, n9, fun _ => d4, q11, (fun h => by cases h), u11, w4, w9⟩)
  · have d9 : D 9 = true := by simp_all
    exact opwp_exec (d := 8) (by rfl) nd (by decide) (ex_assign (x := .tmp 49) (by rfl) ((eval_in nd (by decide) (by omega)).trans (k9 d9))) (hK _ _ ⟨r1, r2, m1, m2, ys, hpw, k0, k1, k2, k3, k4, k5, k6, k7, k8, k9, k10, fun _ => rfl, e4, e9, n4, n9, q10, fun _ => d9, u10, (fun h => by cases h), w4, w9⟩)

end Go.Proofs.Ytcbngjlgcgcljaa
