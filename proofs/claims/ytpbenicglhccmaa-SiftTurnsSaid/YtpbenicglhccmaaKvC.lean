/-
  Records: Same, SameAll.
-/
import Derived.Test.YtpbenicglhccmaaKvB
import Derived.Deep.QuietTactic
import Derived.BigQuiet
import Derived.Deep.RegionHeld3
import Derived.Deep.DrawnRows
namespace Go.Proofs.Ytpbenicglhccmaa
open Go.RowKit Go.Tb Go.MapKept Go.ChangeMaps Go.Lib
set_option linter.unusedVariables false

/-- The same records? -/
def sameKV (a b : KV) : Bool := a.key == b.key && a.val == b.val && a.create == b.create && a.mod == b.mod && a.version == b.version && a.lease == b.lease
theorem sameKV_iff (a b : KV) : sameKV a b = true ↔ a = b := by
  obtain ⟨a1, a2, a3, a4, a5, a6⟩ := a
  obtain ⟨b1, b2, b3, b4, b5, b6⟩ := b
  simp [sameKV, and_assoc]
instance : DecidableEq KV := fun a b => decidable_of_iff (sameKV a b = true) (sameKV_iff a b)
theorem sameKV_refl (a : KV) : sameKV a a = true := (sameKV_iff a a).2 rfl

set_option maxRecDepth 100000 in
set_option maxHeartbeats 2000000 in
theorem same13_calls (p q : KvP) (I J : Nat → Prop) (w : World) (hp : p.Ok w I) (hq : q.Ok w J) :
    Calls Try.prog 13 #[.agg (kvenc p).toArray, .agg (kvenc q).toArray] w fun e w' => e = .returned (.bool (sameKV p.x q.x)) ∧ Upd (fun _ => False) w w' := by
  obtain ⟨⟨k1, v1, r1, m1, n1, l1⟩, s1, s2⟩ := p
  obtain ⟨⟨k2, v2, r2, m2, n2, l2⟩, s3, s4⟩ := q
  show Calls Try.prog 13 #[.agg #[s1.v, s2.v, .int .i64 r1, .int .i64 m1, .int .i64 n1, .int .i64 l1], .agg #[s3.v, s4.v, .int .i64 r2, .int .i64 m2, .int .i64 n2, .int .i64 l2]] w fun e w' => e = .returned (.bool (k1 == k2 && v1 == v2 && r1 == r2 && m1 == m2 && n1 == n2 && l1 == l2)) ∧ Upd (fun _ => False) w w'
  have h1 := fun (W : World) (hu : Upd (fun _ => False) w W) => same01_calls s1.v s3.v k1 k2 W (hp.k.upd hu (fun _ _ x => x)) (hq.k.upd hu (fun _ _ x => x))
  have h2 := fun (W : World) (hu : Upd (fun _ => False) w W) => same01_calls s2.v s4.v v1 v2 W (hp.v.upd hu (fun _ _ x => x)) (hq.v.upd hu (fun _ _ x => x))
  clear hp hq
  generalize s1.v = a1 at *
  generalize s2.v = a2 at *
  generalize s3.v = a3 at *
  generalize s4.v = a4 at *
  have hu := (upd_alloc (fun _ => False) w (.cells #[a1, a2, .int .i64 r1, .int .i64 m1, .int .i64 n1, .int .i64 l1] 37)).alloc (.cells #[a3, a4, .int .i64 r2, .int .i64 m2, .int .i64 n2, .int .i64 l2] 37)
  have g1 := h1 _ hu
  have g2 := h2 _ hu
  have Hu := Lib.hid hu
  clear h1 h2 hu
  cases hk : (k1 == k2) with
  | false =>
    rw [hk] at g1
    clear hk
    go_enter Try.func13, Try.ntmps13
    go_wp2_with (first | (go_at_call 15; (with_reducible refine g1.mono ?_); rintro e w' ⟨rfl, rfl⟩))
    go_ret
    exact ⟨by simp, Hu.out⟩
  | true =>
    rw [hk] at g1
    clear hk
    cases hv : (v1 == v2) with
    | false =>
      rw [hv] at g2
      clear hv
      go_enter Try.func13, Try.ntmps13
      go_wp2_with (first | (go_at_call 15; (with_reducible refine g1.mono ?_); rintro e w' ⟨rfl, rfl⟩) | (go_at_call 15; (with_reducible refine g2.mono ?_); rintro e w' ⟨rfl, rfl⟩))
      go_ret
      exact ⟨by simp, Hu.out⟩
    | true =>
      rw [hv] at g2
      clear hv
      go_enter Try.func13, Try.ntmps13
      go_wp2_with (first | (go_at_call 15; (with_reducible refine g1.mono ?_); rintro e w' ⟨rfl, rfl⟩) | (go_at_call 15; (with_reducible refine g2.mono ?_); rintro e w' ⟨rfl, rfl⟩))
      all_goals go_ret
      all_goals exact ⟨by simp [*], (upd_alloc _ _ _).alloc _⟩

theorem info_KV : (Try.prog.info? 37).map (·.size) = some 6 := by kernel_rfl

/-- A slice of records. -/
def Kvs (w : World) (I : Nat → Prop) (v : Value) (ps : List KvP) : Prop := Sl kvenc w v ps ∧ ∀ p ∈ ps, p.Ok w I
theorem Kvs.upd {w w' : World} {I S : Nat → Prop} {v : Value} {ps : List KvP} (h : Kvs w I v ps) (hu : Upd S w w') (hn : ∀ b, sliceBlock v = some b → ¬ S b) (hi : ∀ b, I b → ¬ S b) : Kvs w' I v ps :=
  ⟨h.1.upd hu hn, fun p hp => (h.2 p hp).upd hu hi⟩
theorem Kvs.grow {w w' : World} {I : Nat → Prop} {v : Value} {ps : List KvP} (h : Kvs w I v ps) (hu : Upd (fun _ => False) w w') : Kvs w' I v ps := h.upd hu (fun _ _ x => x) (fun _ _ x => x)

/-- The cells of the i-th record. -/
theorem Kvs.range {w : World} {I : Nat → Prop} {a : Option Addr} {n c : Nat} {ps : List KvP} (h : Kvs w I (.slice a n c) ps) (i : Nat) (hi : i < ps.length) : ∃ b off, a = some ⟨b, off, none⟩ ∧ w.rangeAt b (off + i * 6) (kvenc ps[i]) := by
  obtain ⟨b, off, cap, hv, hc, hb, hl⟩ := h.1.block (by omega)
  cases hv
  refine ⟨b, off, rfl, fun j u hj => ?_⟩
  have hj6 : j < 6 := (List.getElem?_eq_some_iff.1 hj).1
  exact h.1.at kvenc_length i hi j hj6 u hj

theorem range6 {w : World} {b o : Nat} {c0 c1 c2 c3 c4 c5 : Value} (h : w.rangeAt b o [c0, c1, c2, c3, c4, c5]) : w.cell? ⟨b, o, none⟩ = some c0 ∧ w.cell? ⟨b, o + 1, none⟩ = some c1 ∧ w.cell? ⟨b, o + 2, none⟩ = some c2 ∧ w.cell? ⟨b, o + 3, none⟩ = some c3 ∧ w.cell? ⟨b, o + 4, none⟩ = some c4 ∧ w.cell? ⟨b, o + 5, none⟩ = some c5 :=
  ⟨h 0 _ rfl, h 1 _ rfl, h 2 _ rfl, h 3 _ rfl, h 4 _ rfl, h 5 _ rfl⟩

def sameAllKV (a b : List KvP) : Bool := decide (a.map KvP.x = b.map KvP.x)

set_option maxRecDepth 100000 in
set_option maxHeartbeats 2000000 in
theorem sameall_calls (va vb : Value) (ps qs : List KvP) (I J : Nat → Prop) (w : World) (hp : Kvs w I va ps) (hq : Kvs w J vb qs) (hlen : ps.length ≤ 1000000) :
    Calls Try.prog 11 #[va, vb] w fun e w' => e = .returned (.bool (sameAllKV ps qs)) ∧ Upd (fun _ => False) w w' := by
  obtain ⟨a1, c1, rfl, hc1⟩ := hp.1.shape
  obtain ⟨a2, c2, rfl, hc2⟩ := hq.1.shape
  by_cases hl : ps.length = qs.length
  · have H1 := Lib.hid hp
    have H2 := Lib.hid hq
    clear hp hq
    have Hl := Lib.hid hl
    rw [← hl] at hc2 ⊢
    clear hl
    go_enter Try.func11, Try.ntmps11
    go_wp2
    go_loopw [13] (fun i wr => ∃ k : Nat, k ≤ ps.length ∧ i = .int .i64 k ∧ (ps.take k).map KvP.x = (qs.take k).map KvP.x ∧ Upd (fun _ => False) w wr) (fun i _ => ps.length - (intOf i).toNat)
    case atStart => exact ⟨0, Nat.zero_le _, rfl, by simp, Upd.refl _ _⟩
    case round =>
      obtain ⟨k, hk, rfl, he, hu⟩ := hrel
      have He := Lib.hid he
      clear he
      by_cases hlt : k < ps.length
      · have hlt2 : k < qs.length := by rw [← Hl.out]; exact hlt
        obtain ⟨b1, o1, rfl, q1⟩ := H1.out.range k hlt
        obtain ⟨b2, o2, rfl, q2⟩ := H2.out.range k hlt2
        have r1 := rangeAt_upd q1 hu (fun x => x)
        have r2 := rangeAt_upd q2 hu (fun x => x)
        have hs := same13_calls ps[k] qs[k] I J wr.drew ((H1.out.2 _ (List.getElem_mem hlt)).grow hu.drew) ((H2.out.2 _ (List.getElem_mem hlt2)).grow hu.drew)
        have Hst := Lib.hid (show sameKV ps[k].x qs[k].x = true → (ps.take (k + 1)).map KvP.x = (qs.take (k + 1)).map KvP.x from fun h => by
          rw [List.take_succ_eq_append_getElem hlt, List.take_succ_eq_append_getElem hlt2, List.map_append, List.map_append, He.out]
          simp [(sameKV_iff _ _).1 h])
        have Hnt := Lib.hid (show sameKV ps[k].x qs[k].x = false → sameAllKV ps qs = false from fun h => by
          unfold sameAllKV
          refine decide_eq_false (fun e => ?_)
          have : (ps.map KvP.x)[k]? = (qs.map KvP.x)[k]? := by rw [e]
          simp only [List.getElem?_map, List.getElem?_eq_getElem hlt, List.getElem?_eq_getElem hlt2, Option.map_some, Option.some.injEq] at this
          rw [this, sameKV_refl] at h; cases h)
        have hle1 : (kvenc ps[k]).length = 6 := rfl
        have hle2 : (kvenc qs[k]).length = 6 := rfl
        have hone1 := kvenc_one ps[k]
        have hone2 := kvenc_one qs[k]
        generalize ps[k] = p at *
        generalize qs[k] = q at *
        have x0 : (0 : Int) ≤ (k : Int) := by omega
        have x1 : (k : Int) < (ps.length : Int) := by omega
        clear q1 q2
        obtain ⟨⟨k1, v1, t1, m1, n1, l1⟩, s1, s2⟩ := p
        obtain ⟨⟨k2, v2, t2, m2, n2, l2⟩, s3, s4⟩ := q
        simp only [kvenc] at r1 r2 hs
        generalize s1.v = y1 at *
        generalize s2.v = y2 at *
        generalize s3.v = y3 at *
        generalize s4.v = y4 at *
        obtain ⟨e0, e1, e2, e3, e4, e5⟩ := range6 r1
        obtain ⟨f0, f1, f2, f3, f4, f5⟩ := range6 r2
        simp only at Hst Hnt hs
        generalize hb : sameKV ⟨k1, v1, t1, m1, n1, l1⟩ ⟨k2, v2, t2, m2, n2, l2⟩ = bb at *
        clear hb r1 r2 hle1 hle2 hone1 hone2
        cases bb with
        | true =>
          have Hn := Lib.hid (Hst.out rfl)
          clear Hst Hnt
          go_wp2
          go_region_held3 (fun w' => (w'.cell? ⟨b1, o1 + k * 6, none⟩ = some y1 ∧ w'.cell? ⟨b1, o1 + k * 6 + 1, none⟩ = some y2 ∧ w'.cell? ⟨b1, o1 + k * 6 + 2, none⟩ = some (.int .i64 t1) ∧ w'.cell? ⟨b1, o1 + k * 6 + 3, none⟩ = some (.int .i64 m1) ∧ w'.cell? ⟨b1, o1 + k * 6 + 4, none⟩ = some (.int .i64 n1) ∧ w'.cell? ⟨b1, o1 + k * 6 + 5, none⟩ = some (.int .i64 l1)) ∧ (w'.cell? ⟨b2, o2 + k * 6, none⟩ = some y3 ∧ w'.cell? ⟨b2, o2 + k * 6 + 1, none⟩ = some y4 ∧ w'.cell? ⟨b2, o2 + k * 6 + 2, none⟩ = some (.int .i64 t2) ∧ w'.cell? ⟨b2, o2 + k * 6 + 3, none⟩ = some (.int .i64 m2) ∧ w'.cell? ⟨b2, o2 + k * 6 + 4, none⟩ = some (.int .i64 n2) ∧ w'.cell? ⟨b2, o2 + k * 6 + 5, none⟩ = some (.int .i64 l2)))
            (first | exact ⟨⟨e0, e1, e2, e3, e4, e5⟩, f0, f1, f2, f3, f4, f5⟩ | exact ⟨⟨hx.cell e0 (fun x => x), hx.cell e1 (fun x => x), hx.cell e2 (fun x => x), hx.cell e3 (fun x => x), hx.cell e4 (fun x => x), hx.cell e5 (fun x => x)⟩, hx.cell f0 (fun x => x), hx.cell f1 (fun x => x), hx.cell f2 (fun x => x), hx.cell f3 (fun x => x), hx.cell f4 (fun x => x), hx.cell f5 (fun x => x)⟩)
            (first | (go_at_call 13; refine hs.mono ?_; rintro e wx ⟨rfl, hxu⟩; have hx := hxu.undrew))
          go_wp2
          go_roundw
          case rel => exact ⟨k + 1, by omega, by go_num, Hn.out, hu.trans hx⟩
          case measure => simp [intOf]; omega
        | false =>
          have Hn := Lib.hid (Hnt.out rfl)
          clear Hst Hnt
          go_wp2
          go_region_held3 (fun w' => (w'.cell? ⟨b1, o1 + k * 6, none⟩ = some y1 ∧ w'.cell? ⟨b1, o1 + k * 6 + 1, none⟩ = some y2 ∧ w'.cell? ⟨b1, o1 + k * 6 + 2, none⟩ = some (.int .i64 t1) ∧ w'.cell? ⟨b1, o1 + k * 6 + 3, none⟩ = some (.int .i64 m1) ∧ w'.cell? ⟨b1, o1 + k * 6 + 4, none⟩ = some (.int .i64 n1) ∧ w'.cell? ⟨b1, o1 + k * 6 + 5, none⟩ = some (.int .i64 l1)) ∧ (w'.cell? ⟨b2, o2 + k * 6, none⟩ = some y3 ∧ w'.cell? ⟨b2, o2 + k * 6 + 1, none⟩ = some y4 ∧ w'.cell? ⟨b2, o2 + k * 6 + 2, none⟩ = some (.int .i64 t2) ∧ w'.cell? ⟨b2, o2 + k * 6 + 3, none⟩ = some (.int .i64 m2) ∧ w'.cell? ⟨b2, o2 + k * 6 + 4, none⟩ = some (.int .i64 n2) ∧ w'.cell? ⟨b2, o2 + k * 6 + 5, none⟩ = some (.int .i64 l2)))
            (first | exact ⟨⟨e0, e1, e2, e3, e4, e5⟩, f0, f1, f2, f3, f4, f5⟩ | exact ⟨⟨hx.cell e0 (fun x => x), hx.cell e1 (fun x => x), hx.cell e2 (fun x => x), hx.cell e3 (fun x => x), hx.cell e4 (fun x => x), hx.cell e5 (fun x => x)⟩, hx.cell f0 (fun x => x), hx.cell f1 (fun x => x), hx.cell f2 (fun x => x), hx.cell f3 (fun x => x), hx.cell f4 (fun x => x), hx.cell f5 (fun x => x)⟩)
            (first | (go_at_call 13; refine hs.mono ?_; rintro e wx ⟨rfl, hxu⟩; have hx := hxu.undrew))
          go_wp2
          go_ret
          rw [Hn.out]
          exact ⟨rfl, hu.trans hx⟩
      · have Hn := Lib.hid (show sameAllKV ps qs = true by
          have h1 : k = ps.length := by omega
          have h2 : k = qs.length := by rw [← Hl.out]; exact h1
          unfold sameAllKV
          refine decide_eq_true ?_
          have := He.out
          rw [List.take_of_length_le (by omega), List.take_of_length_le (by omega)] at this
          exact this)
        go_wp2
        go_ret
        rw [Hn.out]
        exact ⟨rfl, hu⟩
  · have hne : ((ps.length : Int) != (qs.length : Int)) = true := by simp; omega
    have hs : sameAllKV ps qs = false := by
      unfold sameAllKV
      refine decide_eq_false (fun e => hl ?_)
      have := congrArg List.length e
      simpa using this
    rw [hs]
    clear hp hq hs hl
    generalize ps.length = n1 at *
    generalize qs.length = n2 at *
    go_enter Try.func11, Try.ntmps11
    go_wp2
    go_ret
    exact ⟨rfl, Upd.refl _ _⟩

end Go.Proofs.Ytpbenicglhccmaa
