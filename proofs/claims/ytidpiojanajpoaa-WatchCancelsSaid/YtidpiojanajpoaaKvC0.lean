/-
  Records: Same.
-/
import Derived.Test.YtidpiojanajpoaaKvB
import Derived.Deep.QuietTactic
import Derived.BigQuiet
import Derived.Deep.RegionHeld3
import Derived.Deep.DrawnRows
namespace Go.Proofs.Ytidpiojanajpoaa
open Go.RowKit Go.Tb Go.MapKept Go.ChangeMaps Go.Lib
set_option linter.unusedVariables false

/-- The same records? -/
def sameKV (a b : KV) : Bool := a.key == b.key && a.val == b.val && a.create == b.create && a.mod == b.mod && a.version == b.version && a.lease == b.lease
theorem sameKV_iff (a b : KV) : sameKV a b = true ↔ a = b := by
  obtain ⟨a1, a2, a3, a4, a5, a6⟩ := a
  obtain ⟨b1, b2, b3, b4, b5, b6⟩ := b
  simp [sameKV, and_assoc]
instance : DecidableEq KV := fun a b => decidable_of_iff (sameKV a b = true) (sameKV_iff a b)
theorem sameKV_refl (a : KV) : sameKV a a = true := (sameKV_iff a a).2 rfl

set_option maxRecDepth 100000 in
set_option maxHeartbeats 2000000 in
theorem same13_calls (p q : KvP) (I J : Nat → Prop) (w : World) (hp : p.Ok w I) (hq : q.Ok w J) :
    Calls Try.prog 35 #[.agg (kvenc p).toArray, .agg (kvenc q).toArray] w fun e w' => e = .returned (.bool (sameKV p.x q.x)) ∧ Upd (fun _ => False) w w' := by
  obtain ⟨⟨k1, v1, r1, m1, n1, l1⟩, s1, s2⟩ := p
  obtain ⟨⟨k2, v2, r2, m2, n2, l2⟩, s3, s4⟩ := q
  show Calls Try.prog 35 #[.agg #[s1.v, s2.v, .int .i64 r1, .int .i64 m1, .int .i64 n1, .int .i64 l1], .agg #[s3.v, s4.v, .int .i64 r2, .int .i64 m2, .int .i64 n2, .int .i64 l2]] w fun e w' => e = .returned (.bool (k1 == k2 && v1 == v2 && r1 == r2 && m1 == m2 && n1 == n2 && l1 == l2)) ∧ Upd (fun _ => False) w w'
  have h1 := fun (W : World) (hu : Upd (fun _ => False) w W) => same01_calls s1.v s3.v k1 k2 W (hp.k.upd hu (fun _ _ x => x)) (hq.k.upd hu (fun _ _ x => x))
  have h2 := fun (W : World) (hu : Upd (fun _ => False) w W) => same01_calls s2.v s4.v v1 v2 W (hp.v.upd hu (fun _ _ x => x)) (hq.v.upd hu (fun _ _ x => x))
  clear hp hq
  generalize s1.v = a1 at *
  generalize s2.v = a2 at *
  generalize s3.v = a3 at *
  generalize s4.v = a4 at *
  have hu := (upd_alloc (fun _ => False) w (.cells #[a1, a2, .int .i64 r1, .int .i64 m1, .int .i64 n1, .int .i64 l1] 57)).alloc (.cells #[a3, a4, .int .i64 r2, .int .i64 m2, .int .i64 n2, .int .i64 l2] 57)
  have g1 := h1 _ hu
  have g2 := h2 _ hu
  have Hu := Lib.hid hu
  clear h1 h2 hu
  cases hk : (k1 == k2) with
  | false =>
    rw [hk] at g1
    clear hk
    go_enter Try.func35, Try.ntmps35
    go_wp2_with (first | (go_at_call 49; (with_reducible refine g1.mono ?_); rintro e w' ⟨rfl, rfl⟩))
    go_ret
    exact ⟨by simp, Hu.out⟩
  | true =>
    rw [hk] at g1
    clear hk
    cases hv : (v1 == v2) with
    | false =>
      rw [hv] at g2
      clear hv
      go_enter Try.func35, Try.ntmps35
      go_wp2_with (first | (go_at_call 49; (with_reducible refine g1.mono ?_); rintro e w' ⟨rfl, rfl⟩) | (go_at_call 49; (with_reducible refine g2.mono ?_); rintro e w' ⟨rfl, rfl⟩))
      go_ret
      exact ⟨by simp, Hu.out⟩
    | true =>
      rw [hv] at g2
      clear hv
      go_enter Try.func35, Try.ntmps35
      go_wp2_with (first | (go_at_call 49; (with_reducible refine g1.mono ?_); rintro e w' ⟨rfl, rfl⟩) | (go_at_call 49; (with_reducible refine g2.mono ?_); rintro e w' ⟨rfl, rfl⟩))
      all_goals go_ret
      all_goals exact ⟨by simp [*], (upd_alloc _ _ _).alloc _⟩

theorem info_KV : (Try.prog.info? 57).map (·.size) = some 6 := by kernel_rfl

/-- A slice of records. -/
def Kvs (w : World) (I : Nat → Prop) (v : Value) (ps : List KvP) : Prop := Sl kvenc w v ps ∧ ∀ p ∈ ps, p.Ok w I
theorem Kvs.upd {w w' : World} {I S : Nat → Prop} {v : Value} {ps : List KvP} (h : Kvs w I v ps) (hu : Upd S w w') (hn : ∀ b, sliceBlock v = some b → ¬ S b) (hi : ∀ b, I b → ¬ S b) : Kvs w' I v ps :=
  ⟨h.1.upd hu hn, fun p hp => (h.2 p hp).upd hu hi⟩
theorem Kvs.grow {w w' : World} {I : Nat → Prop} {v : Value} {ps : List KvP} (h : Kvs w I v ps) (hu : Upd (fun _ => False) w w') : Kvs w' I v ps := h.upd hu (fun _ _ x => x) (fun _ _ x => x)

/-- The cells of the i-th record. -/
theorem Kvs.range {w : World} {I : Nat → Prop} {a : Option Addr} {n c : Nat} {ps : List KvP} (h : Kvs w I (.slice a n c) ps) (i : Nat) (hi : i < ps.length) : ∃ b off, a = some ⟨b, off, none⟩ ∧ w.rangeAt b (off + i * 6) (kvenc ps[i]) := by
  obtain ⟨b, off, cap, hv, hc, hb, hl⟩ := h.1.block (by omega)
  cases hv
  refine ⟨b, off, rfl, fun j u hj => ?_⟩
  have hj6 : j < 6 := (List.getElem?_eq_some_iff.1 hj).1
  exact h.1.at kvenc_length i hi j hj6 u hj

theorem range6 {w : World} {b o : Nat} {c0 c1 c2 c3 c4 c5 : Value} (h : w.rangeAt b o [c0, c1, c2, c3, c4, c5]) : w.cell? ⟨b, o, none⟩ = some c0 ∧ w.cell? ⟨b, o + 1, none⟩ = some c1 ∧ w.cell? ⟨b, o + 2, none⟩ = some c2 ∧ w.cell? ⟨b, o + 3, none⟩ = some c3 ∧ w.cell? ⟨b, o + 4, none⟩ = some c4 ∧ w.cell? ⟨b, o + 5, none⟩ = some c5 :=
  ⟨h 0 _ rfl, h 1 _ rfl, h 2 _ rfl, h 3 _ rfl, h 4 _ rfl, h 5 _ rfl⟩

end Go.Proofs.Ytidpiojanajpoaa
