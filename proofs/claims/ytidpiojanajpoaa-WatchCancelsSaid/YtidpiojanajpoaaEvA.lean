/-
  Events: how they lie in memory; batch.twin.
-/
import Derived.Test.YtidpiojanajpoaaKvC0
namespace Go.Proofs.Ytidpiojanajpoaa
open Go.RowKit Go.Tb Go.MapKept Go.ChangeMaps Go.Lib
set_option linter.unusedVariables false

theorem _root_.Go.Tb.Upd.drewN {S : Nat → Prop} {a w : World} (h : Upd S a w) (n : Nat) : Upd S a (w.drewN n) := ⟨h.os, h.tape, h.output, h.size, h.block⟩

/-- An event. -/
structure Ev where
  kind : Int
  kv : KV
  had : Bool
  prev : KV
deriving DecidableEq
/-- An event, and where its bytes lie. -/
structure EvP where
  kind : Int
  kv : KvP
  had : Bool
  prev : KvP
def EvP.x (p : EvP) : Ev := ⟨p.kind, p.kv.x, p.had, p.prev.x⟩
def evenc (p : EvP) : List Value := [.int .i64 p.kind, p.kv.k.v, p.kv.v.v, .int .i64 p.kv.x.create, .int .i64 p.kv.x.mod, .int .i64 p.kv.x.version, .int .i64 p.kv.x.lease, .bool p.had, p.prev.k.v, p.prev.v.v, .int .i64 p.prev.x.create, .int .i64 p.prev.x.mod, .int .i64 p.prev.x.version, .int .i64 p.prev.x.lease]
theorem evenc_length (p : EvP) : (evenc p).length = 14 := rfl
theorem evenc_one (p : EvP) : ∀ u ∈ evenc p, u.oneCell' = true := by
  intro u hu
  simp only [evenc, List.mem_cons, List.not_mem_nil, or_false] at hu
  rcases hu with rfl | rfl | rfl | rfl | rfl | rfl | rfl | rfl | rfl | rfl | rfl | rfl | rfl | rfl <;> rfl
/-- .. in the blocks of I. -/
structure EvP.Ok (w : World) (I : Nat → Prop) (p : EvP) : Prop where
  kv : p.kv.Ok w I
  prev : p.prev.Ok w I
theorem EvP.Ok.upd {w w' : World} {I S : Nat → Prop} {p : EvP} (h : p.Ok w I) (hu : Upd S w w') (hi : ∀ b, I b → ¬ S b) : p.Ok w' I := ⟨h.kv.upd hu hi, h.prev.upd hu hi⟩
theorem EvP.Ok.grow {w w' : World} {I : Nat → Prop} {p : EvP} (h : p.Ok w I) (hu : Upd (fun _ => False) w w') : p.Ok w' I := h.upd hu (fun _ _ x => x)
theorem EvP.Ok.wider {w : World} {I J : Nat → Prop} {p : EvP} (h : p.Ok w I) (hi : ∀ b, I b → J b) : p.Ok w J := ⟨h.kv.wider hi, h.prev.wider hi⟩

/-- Its bytes are no more than a clone takes. -/
structure Ev.Small (x : Ev) : Prop where
  a : x.kv.key.length ≤ 140737488355328
  b : x.kv.val.length ≤ 140737488355328
  c : x.prev.key.length ≤ 140737488355328
  d : x.prev.val.length ≤ 140737488355328

theorem info_Ev : (Try.prog.info? 59).map (fun i => (i.zero, i.size, i.bytes)) = some (some (.agg #[.int .i64 0, .slice none 0 0, .slice none 0 0, .int .i64 0, .int .i64 0, .int .i64 0, .int .i64 0, .bool false, .slice none 0 0, .slice none 0 0, .int .i64 0, .int .i64 0, .int .i64 0, .int .i64 0]), 14, 176) := by kernel_rfl
theorem size_Ev : (Try.prog.info? 59).map (·.size) = some 14 := by kernel_rfl

/-- A slice of events. -/
def Evs (w : World) (I : Nat → Prop) (v : Value) (ps : List EvP) : Prop := Sl evenc w v ps ∧ ∀ p ∈ ps, p.Ok w I
theorem Evs.upd {w w' : World} {I S : Nat → Prop} {v : Value} {ps : List EvP} (h : Evs w I v ps) (hu : Upd S w w') (hn : ∀ b, sliceBlock v = some b → ¬ S b) (hi : ∀ b, I b → ¬ S b) : Evs w' I v ps :=
  ⟨h.1.upd hu hn, fun p hp => (h.2 p hp).upd hu hi⟩
theorem Evs.grow {w w' : World} {I : Nat → Prop} {v : Value} {ps : List EvP} (h : Evs w I v ps) (hu : Upd (fun _ => False) w w') : Evs w' I v ps := h.upd hu (fun _ _ x => x) (fun _ _ x => x)
/-- The cells of the i-th event. -/
theorem Evs.range {w : World} {I : Nat → Prop} {a : Option Addr} {n c : Nat} {ps : List EvP} (h : Evs w I (.slice a n c) ps) (i : Nat) (hi : i < ps.length) : ∃ b off, a = some ⟨b, off, none⟩ ∧ w.rangeAt b (off + i * 14) (evenc ps[i]) := by
  obtain ⟨b, off, cap, hv, hc, hb, hl⟩ := h.1.block (by omega)
  cases hv
  refine ⟨b, off, rfl, fun j u hj => ?_⟩
  have hj6 : j < 14 := (List.getElem?_eq_some_iff.1 hj).1
  exact h.1.at evenc_length i hi j hj6 u hj

/-- A slice of events; where it is empty its address says nothing. -/
structure EvsW (w : World) (I : Nat → Prop) (v : Value) (ps : List EvP) : Prop where
  shape : ∃ a c, v = .slice a ps.length c
  range : ∀ a n c, v = .slice a n c → ∀ i (hi : i < ps.length), ∃ b off, a = some ⟨b, off, none⟩ ∧ w.rangeAt b (off + i * 14) (evenc ps[i])
  ok : ∀ p ∈ ps, p.Ok w I
theorem EvsW.grow {w w' : World} {I : Nat → Prop} {v : Value} {ps : List EvP} (h : EvsW w I v ps) (hu : Upd (fun _ => False) w w') : EvsW w' I v ps :=
  { shape := h.shape, range := fun a n c e i hi => by
      obtain ⟨b, off, h1, h2⟩ := h.range a n c e i hi
      exact ⟨b, off, h1, rangeAt_upd h2 hu (fun x => x)⟩, ok := fun p hp => (h.ok p hp).grow hu }
theorem Evs.weak {w : World} {I : Nat → Prop} {v : Value} {ps : List EvP} (h : Evs w I v ps) : EvsW w I v ps :=
  { shape := by obtain ⟨a, c, e, _⟩ := h.1.shape; exact ⟨a, c, e⟩, range := fun a n c e i hi => by subst e; exact h.range i hi, ok := h.2 }

set_option maxRecDepth 100000 in
set_option maxHeartbeats 2000000 in
theorem btwin_calls (p : EvP) (I : Nat → Prop) (w : World) (h : p.Ok w I) (hs : p.x.Small) :
    Calls Try.prog 37 #[.agg (evenc p).toArray] w fun e w' => ∃ q : EvP, e = .returned (.agg (evenc q).toArray) ∧ q.x = p.x ∧ q.Ok w' (fun b => w.heap.size ≤ b ∧ b < w'.heap.size) ∧ Upd (fun _ => False) w w' := by
  have h1 := fun (W : World) (hu : Upd (fun _ => False) w W) => twin_calls p.kv I W (h.kv.grow hu) hs.a hs.b
  have h2 := fun (W : World) (hu : Upd (fun _ => False) w W) => twin_calls p.prev I W (h.prev.grow hu) hs.c hs.d
  clear h hs
  obtain ⟨kind, ⟨x, s1, s2⟩, had, ⟨y, s3, s4⟩⟩ := p
  show Calls Try.prog 37 #[.agg #[.int .i64 kind, s1.v, s2.v, .int .i64 x.create, .int .i64 x.mod, .int .i64 x.version, .int .i64 x.lease, .bool had, s3.v, s4.v, .int .i64 y.create, .int .i64 y.mod, .int .i64 y.version, .int .i64 y.lease]] w _
  simp only [kvenc] at h1 h2
  generalize s1.v = a1 at *
  generalize s2.v = a2 at *
  generalize s3.v = a3 at *
  generalize s4.v = a4 at *
  obtain ⟨key, val, create, mod, version, lease⟩ := x
  obtain ⟨key', val', create', mod', version', lease'⟩ := y
  simp only at h1 h2 ⊢
  have ha1 := heap_alloc w (.cells #[.int .i64 kind, a1, a2, .int .i64 create, .int .i64 mod, .int .i64 version, .int .i64 lease, .bool had, a3, a4, .int .i64 create', .int .i64 mod', .int .i64 version', .int .i64 lease'] 59)
  have hua := upd_alloc (fun _ => False) w (.cells #[.int .i64 kind, a1, a2, .int .i64 create, .int .i64 mod, .int .i64 version, .int .i64 lease, .bool had, a3, a4, .int .i64 create', .int .i64 mod', .int .i64 version', .int .i64 lease'] 59)
  have ha2 := heap_alloc (w.alloc (.cells #[.int .i64 kind, a1, a2, .int .i64 create, .int .i64 mod, .int .i64 version, .int .i64 lease, .bool had, a3, a4, .int .i64 create', .int .i64 mod', .int .i64 version', .int .i64 lease'] 59)) (.cells #[.int .i64 0, .slice none 0 0, .slice none 0 0, .int .i64 0, .int .i64 0, .int .i64 0, .int .i64 0, .bool false, .slice none 0 0, .slice none 0 0, .int .i64 0, .int .i64 0, .int .i64 0, .int .i64 0] 59)
  go_enter Try.func37, Try.ntmps37
  go_wp2
  generalize hW : (w.alloc (.cells #[.int .i64 kind, a1, a2, .int .i64 create, .int .i64 mod, .int .i64 version, .int .i64 lease, .bool had, a3, a4, .int .i64 create', .int .i64 mod', .int .i64 version', .int .i64 lease'] 59)).alloc (.cells #[.int .i64 0, .slice none 0 0, .slice none 0 0, .int .i64 0, .int .i64 0, .int .i64 0, .int .i64 0, .bool false, .slice none 0 0, .slice none 0 0, .int .i64 0, .int .i64 0, .int .i64 0, .int .i64 0] 59) = W
  have hu0 : Upd (fun _ => False) w W := by rw [← hW]; exact hua.alloc _
  have hb1 : W.heap[w.heap.size]? = some (.cells #[.int .i64 kind, a1, a2, .int .i64 create, .int .i64 mod, .int .i64 version, .int .i64 lease, .bool had, a3, a4, .int .i64 create', .int .i64 mod', .int .i64 version', .int .i64 lease'] 59 (0, 0)) := by rw [← hW, ha2.2 _ (lt_of_heap ha1.1)]; exact ha1.1
  have hb2 : W.heap[w.heap.size + 1]? = some (.cells #[.int .i64 0, .slice none 0 0, .slice none 0 0, .int .i64 0, .int .i64 0, .int .i64 0, .int .i64 0, .bool false, .slice none 0 0, .slice none 0 0, .int .i64 0, .int .i64 0, .int .i64 0, .int .i64 0] 59 (0, 0)) := by
    have := ha2.1
    rw [hW] at this
    simpa using this
  have hWs : w.heap.size + 1 < W.heap.size := lt_of_heap hb2
  clear ha1 ha2 hua hW
  have c1 : W.cell? ⟨w.heap.size, 1, none⟩ = some a1 := cell_of hb1 1
  have c2 : W.cell? ⟨w.heap.size, 2, none⟩ = some a2 := cell_of hb1 2
  have c3 : W.cell? ⟨w.heap.size, 3, none⟩ = some (.int .i64 create) := cell_of hb1 3
  have c4 : W.cell? ⟨w.heap.size, 4, none⟩ = some (.int .i64 mod) := cell_of hb1 4
  have c5 : W.cell? ⟨w.heap.size, 5, none⟩ = some (.int .i64 version) := cell_of hb1 5
  have c6 : W.cell? ⟨w.heap.size, 6, none⟩ = some (.int .i64 lease) := cell_of hb1 6
  have d1 : W.cell? ⟨w.heap.size, 8, none⟩ = some a3 := cell_of hb1 8
  have d2 : W.cell? ⟨w.heap.size, 9, none⟩ = some a4 := cell_of hb1 9
  have d3 : W.cell? ⟨w.heap.size, 10, none⟩ = some (.int .i64 create') := cell_of hb1 10
  have d4 : W.cell? ⟨w.heap.size, 11, none⟩ = some (.int .i64 mod') := cell_of hb1 11
  have d5 : W.cell? ⟨w.heap.size, 12, none⟩ = some (.int .i64 version') := cell_of hb1 12
  have d6 : W.cell? ⟨w.heap.size, 13, none⟩ = some (.int .i64 lease') := cell_of hb1 13
  have hcl := h1 W.drew (hu0.drew)
  have H2 := Lib.hid h2
  have Hb1 := Lib.hid hb1
  have Hb2 := Lib.hid hb2
  have Hu0 := Lib.hid hu0
  clear h1 h2 hb1 hb2 hu0
  go_region_law (first
    | (go_simp; go_at_call 52; with_reducible refine hcl.mono ?_; rintro e w1 ⟨q1, rfl, hx1, hok1, hu1⟩; have d1' := hu1.undrew.cell d1 (fun x => x); have d2' := hu1.undrew.cell d2 (fun x => x); have d3' := hu1.undrew.cell d3 (fun x => x); have d4' := hu1.undrew.cell d4 (fun x => x); have d5' := hu1.undrew.cell d5 (fun x => x); have d6' := hu1.undrew.cell d6 (fun x => x); have hcm := H2.out w1 (Hu0.out.trans hu1.undrew); obtain ⟨⟨k1, v1, r1, m1, n1, l1⟩, ⟨ta1, tn1, tc1⟩, ⟨ta2, tn2, tc2⟩⟩ := q1)
    | (go_simp; go_at_call 52; with_reducible refine hcm.mono ?_; rintro e w2 ⟨q2, rfl, hx2, hok2, hu2⟩; obtain ⟨⟨k2, v2, r2, m2, n2, l2⟩, ⟨ta3, tn3, tc3⟩, ⟨ta4, tn4, tc4⟩⟩ := q2; simp only [Sv.v]; have hq := hu2.heap (hu1.undrew.heap Hb1.out (fun x => x)) (fun x => x); have e1 := cell_of hq 1; have e2 := cell_of hq 2; have e3 := cell_of hq 3; have e4 := cell_of hq 4; have e5 := cell_of hq 5; have e6 := cell_of hq 6; have e8 := cell_of hq 8; have e9 := cell_of hq 9; have e10 := cell_of hq 10; have e11 := cell_of hq 11; have e12 := cell_of hq 12; have e13 := cell_of hq 13; have f1 := free_of hq 1; have f2 := free_of hq 2; have f3 := free_of hq 3; have f4 := free_of hq 4; have f5 := free_of hq 5; have f6 := free_of hq 6; have f8 := free_of hq 8; have f9 := free_of hq 9; have f10 := free_of hq 10; have f11 := free_of hq 11; have f12 := free_of hq 12; have f13 := free_of hq 13))
  all_goals
    have hq9 := hu2.heap (hu1.undrew.heap Hb2.out (fun x => x)) (fun x => x)
    have z1 := heap_setCell_at hq 1 (.slice ta1 tn1 tc1)
    have z2 := heap_setCell_at z1 2 (.slice ta2 tn2 tc2)
    have z3 := heap_setCell_at z2 3 (.int .i64 r1)
    have z4 := heap_setCell_at z3 4 (.int .i64 m1)
    have z5 := heap_setCell_at z4 5 (.int .i64 n1)
    have z6 := heap_setCell_at z5 6 (.int .i64 l1)
    have z7 := heap_setCell_at z6 8 (.slice ta3 tn3 tc3)
    have z8 := heap_setCell_at z7 9 (.slice ta4 tn4 tc4)
    have z9 := heap_setCell_at z8 10 (.int .i64 r2)
    have z10 := heap_setCell_at z9 11 (.int .i64 m2)
    have z11 := heap_setCell_at z10 12 (.int .i64 n2)
    have z12 := heap_setCell_at z11 13 (.int .i64 l2)
    simp only [List.setIfInBounds_toArray, List.set_cons_succ, List.set_cons_zero] at z12
    have hu3 := ((((((((((((Upd.refl (fun k => k = w.heap.size) w2).setCell (p := ⟨w.heap.size, 1, none⟩) (fun _ => rfl) (.slice ta1 tn1 tc1)).setCell (p := ⟨w.heap.size, 2, none⟩) (fun _ => rfl) (.slice ta2 tn2 tc2)).setCell (p := ⟨w.heap.size, 3, none⟩) (fun _ => rfl) (.int .i64 r1)).setCell (p := ⟨w.heap.size, 4, none⟩) (fun _ => rfl) (.int .i64 m1)).setCell (p := ⟨w.heap.size, 5, none⟩) (fun _ => rfl) (.int .i64 n1)).setCell (p := ⟨w.heap.size, 6, none⟩) (fun _ => rfl) (.int .i64 l1)).setCell (p := ⟨w.heap.size, 8, none⟩) (fun _ => rfl) (.slice ta3 tn3 tc3)).setCell (p := ⟨w.heap.size, 9, none⟩) (fun _ => rfl) (.slice ta4 tn4 tc4)).setCell (p := ⟨w.heap.size, 10, none⟩) (fun _ => rfl) (.int .i64 r2)).setCell (p := ⟨w.heap.size, 11, none⟩) (fun _ => rfl) (.int .i64 m2)).setCell (p := ⟨w.heap.size, 12, none⟩) (fun _ => rfl) (.int .i64 n2)).setCell (p := ⟨w.heap.size, 13, none⟩) (fun _ => rfl) (.int .i64 l2)
    have hq3 : ((((((((((((w2.setCell ⟨w.heap.size, 1, none⟩ (.slice ta1 tn1 tc1)).setCell ⟨w.heap.size, 2, none⟩ (.slice ta2 tn2 tc2)).setCell ⟨w.heap.size, 3, none⟩ (.int .i64 r1)).setCell ⟨w.heap.size, 4, none⟩ (.int .i64 m1)).setCell ⟨w.heap.size, 5, none⟩ (.int .i64 n1)).setCell ⟨w.heap.size, 6, none⟩ (.int .i64 l1)).setCell ⟨w.heap.size, 8, none⟩ (.slice ta3 tn3 tc3)).setCell ⟨w.heap.size, 9, none⟩ (.slice ta4 tn4 tc4)).setCell ⟨w.heap.size, 10, none⟩ (.int .i64 r2)).setCell ⟨w.heap.size, 11, none⟩ (.int .i64 m2)).setCell ⟨w.heap.size, 12, none⟩ (.int .i64 n2)).setCell ⟨w.heap.size, 13, none⟩ (.int .i64 l2)).heap[w.heap.size]? = some (.cells #[.int .i64 kind, .slice ta1 tn1 tc1, .slice ta2 tn2 tc2, .int .i64 r1, .int .i64 m1, .int .i64 n1, .int .i64 l1, .bool had, .slice ta3 tn3 tc3, .slice ta4 tn4 tc4, .int .i64 r2, .int .i64 m2, .int .i64 n2, .int .i64 l2] 59 (0, 0)) := z12
    have hq4 := hu3.heap hq9 (by omega)
    generalize ((((((((((((w2.setCell ⟨w.heap.size, 1, none⟩ (.slice ta1 tn1 tc1)).setCell ⟨w.heap.size, 2, none⟩ (.slice ta2 tn2 tc2)).setCell ⟨w.heap.size, 3, none⟩ (.int .i64 r1)).setCell ⟨w.heap.size, 4, none⟩ (.int .i64 m1)).setCell ⟨w.heap.size, 5, none⟩ (.int .i64 n1)).setCell ⟨w.heap.size, 6, none⟩ (.int .i64 l1)).setCell ⟨w.heap.size, 8, none⟩ (.slice ta3 tn3 tc3)).setCell ⟨w.heap.size, 9, none⟩ (.slice ta4 tn4 tc4)).setCell ⟨w.heap.size, 10, none⟩ (.int .i64 r2)).setCell ⟨w.heap.size, 11, none⟩ (.int .i64 m2)).setCell ⟨w.heap.size, 12, none⟩ (.int .i64 n2)).setCell ⟨w.heap.size, 13, none⟩ (.int .i64 l2)) = w3 at hq3 hq4 hu3 ⊢
    simp only at hx1 hx2
    have HY := Lib.hid (show ∃ q : EvP, (evenc q).toArray = #[.int .i64 kind, .slice ta1 tn1 tc1, .slice ta2 tn2 tc2, .int .i64 r1, .int .i64 m1, .int .i64 n1, .int .i64 l1, .bool had, .slice ta3 tn3 tc3, .slice ta4 tn4 tc4, .int .i64 r2, .int .i64 m2, .int .i64 n2, .int .i64 l2] ∧ q.x = ⟨kind, ⟨key, val, create, mod, version, lease⟩, had, ⟨key', val', create', mod', version', lease'⟩⟩ ∧ q.Ok w3 (fun b => w.heap.size + 1 < b ∧ b < w3.heap.size) ∧ Upd (fun _ => False) w w3 from by
      have e1 : W.drew.heap.size = W.heap.size := rfl
      have s1 := hu1.size
      have s2 := hu2.size
      have s3 := hu3.size
      refine ⟨⟨kind, ⟨⟨k1, v1, r1, m1, n1, l1⟩, ⟨ta1, tn1, tc1⟩, ⟨ta2, tn2, tc2⟩⟩, had, ⟨⟨k2, v2, r2, m2, n2, l2⟩, ⟨ta3, tn3, tc3⟩, ⟨ta4, tn4, tc4⟩⟩⟩, rfl, ?_, ⟨?_, ?_⟩, ((Hu0.out.trans hu1.undrew).trans hu2).trans' hu3 (fun x hx e => by omega)⟩
      · show Ev.mk kind ⟨k1, v1, r1, m1, n1, l1⟩ had ⟨k2, v2, r2, m2, n2, l2⟩ = _
        rw [hx1, hx2]
      · exact ((hok1.upd hu2 (fun _ _ x => x)).upd hu3 (fun b hb e => by omega)).wider (fun b hb => by omega)
      · exact (hok2.upd hu3 (fun b hb e => by omega)).wider (fun b hb => by omega))
    clear z1 z2 z3 z4 z5 z6 z7 z8 z9 z10 z11 z12 hu3 hq hq9 e1 e2 e3 e4 e5 e6 e8 e9 e10 e11 e12 e13 f1 f2 f3 f4 f5 f6 f8 f9 f10 f11 f12 f13 hok1 hok2 hx1 hx2 hu1 hu2 c1 c2 c3 c4 c5 c6 d1 d2 d3 d4 d5 d6 d1' d2' d3' d4' d5' d6' hcl hcm H2
    go_wp2_with (first
      | ((with_reducible refine wpl_load (ty := 59) hq3 Try.underlying59 ?_ ?_ ?_ ?_); rfl; rfl; kernel_rfl)
      | ((with_reducible refine wpl_store (ty := 59) (cs := #[.int .i64 kind, .slice ta1 tn1 tc1, .slice ta2 tn2 tc2, .int .i64 r1, .int .i64 m1, .int .i64 n1, .int .i64 l1, .bool had, .slice ta3 tn3 tc3, .slice ta4 tn4 tc4, .int .i64 r2, .int .i64 m2, .int .i64 n2, .int .i64 l2]) hq4 ?_ ?_ ?_ ?_ ?_ ?_); rfl; rfl; rfl; kernel_rfl; rfl; intro w4 hq5 hu5 hs5 hd5))
    refine bodyPost_ret (results_cell_row Try.results37 _ _ _ _ _ _ _ (by rfl) hq5 Try.underlying59 rfl (by kernel_rfl)) rfl ?_
    obtain ⟨q, hq6, hq7, hq8, hq9⟩ := HY.out
    refine ⟨q, by rw [hq6], hq7, (hq8.upd hu5 (fun b hb e => by omega)).wider (fun b hb => ⟨by omega, by have := hu5.size; omega⟩), hq9.trans' hu5 (fun x hx e => by omega)⟩

end Go.Proofs.Ytidpiojanajpoaa
