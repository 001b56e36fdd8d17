/-
  A region that draws its order, by an invariant: each operation once, whatever has been done ahead of it (no program in sight).
-/
import Derived.Test.YtidpiojanajpoaaBase
import Derived.Deep.RegionLaw
namespace Go.Tb
open Go
set_option linter.unusedVariables false

/-- A frame whose temporaries `ds` hold what `f` tells. -/
def fill (a : Act) : List Nat → (Nat → Value) → Act
  | [], _ => a
  | d :: ds, f => fill (a.put (some d) (f d)) ds f

/-- `f`, but `v` at `d`. -/
def upf (f : Nat → Value) (d : Nat) (v : Value) : Nat → Value := fun k => if k = d then v else f k

section
variable {P : Program} {ops : Array Oper} {Q : Exit → Act → World → Prop}

/-- One step of the invariant. -/
structure InvStep (P : Program) (ops : Array Oper) (Q : Exit → Act → World → Prop) (a0 : Act) (ds : List Nat) (J : (Nat → Bool) → (Nat → Value) → World → Prop) (i : Nat) (o : Oper) : Prop where
  run : ∀ (D : Nat → Bool) (f : Nat → Value) (w : World), J D f w → D i = false → (o.after.all fun e => !Region.binds .any e || D e.on) = true →
    if Region.wanted o (yielded ops (fill a0 ds f).tmps) = true then
      Oper.wp P o (fill a0 ds f) w (fun a' w' => ∃ f', a' = fill a0 ds f' ∧ J (fun j => Nat.beq j i || D j) f' w') Q
    else (∃ f', (fill a0 ds f).put o.dst undef = fill a0 ds f' ∧ J (fun j => Nat.beq j i || D j) f' w)

def InvSteps (P : Program) (ops : Array Oper) (Q : Exit → Act → World → Prop) (a0 : Act) (ds : List Nat) (J : (Nat → Bool) → (Nat → Value) → World → Prop) : Nat → List Oper → Prop
  | _, [] => True
  | i, o :: rest => InvStep P ops Q a0 ds J i o ∧ InvSteps P ops Q a0 ds J (i + 1) rest

theorem InvSteps.at {a0 : Act} {ds : List Nat} {J : (Nat → Bool) → (Nat → Value) → World → Prop} : ∀ {l : List Oper} {k : Nat}, InvSteps P ops Q a0 ds J k l → ∀ i o, l[i]? = some o → InvStep P ops Q a0 ds J (k + i) o
  | [], _, _, i, o, h => by simp at h
  | x :: r, k, H, 0, o, h => by simp at h; subst h; exact H.1
  | x :: r, k, H, i + 1, o, h => by
    simp at h
    have := InvSteps.at H.2 i o h
    rwa [Nat.add_right_comm] at this

theorem getD_set (L : Array Bool) (i : Nat) (hi : i < L.size) : (fun j => (L.setIfInBounds i true).getD j false) = fun j => Nat.beq j i || L.getD j false := by
  funext j
  by_cases h : j = i
  · subst h
    simp [Array.getD, hi]
  · have h1 : Nat.beq j i = false := by
      cases e : Nat.beq j i with
      | false => rfl
      | true => exact absurd (Nat.eq_of_beq_eq_true e) h
    simp only [h1, Bool.false_or]
    simp only [Array.getD_eq_getD_getElem?]
    rw [Array.getElem?_setIfInBounds_ne (Ne.symm h)]

theorem count_set (L : Array Bool) (i : Nat) (hi : i < L.size) (hf : L.getD i true = false) : (L.setIfInBounds i true).toList.count false + 1 = L.toList.count false := by
  have hx : L.toList[i]'(by simpa using hi) = false := by
    simpa [Array.getD, hi] using hf
  rw [Array.toList_setIfInBounds, List.count_set (by simpa using hi)]
  have hp : 0 < L.toList.count false := List.count_pos_iff.2 (by rw [← hx]; exact List.getElem_mem _)
  rw [hx]
  simp only [beq_self_eq_true, if_true, Bool.true_beq, Bool.false_eq_true, if_false]
  omega

theorem wpAny_inv (a0 : Act) (ds : List Nat) (J : (Nat → Bool) → (Nat → Value) → World → Prop) (hord : ∀ (i : Nat) (o : Oper), ops[i]? = some o → ∀ e ∈ o.after, e.on < i)
    (hs : InvSteps P ops Q a0 ds J 0 ops.toList) (hend : ∀ D f w, J D f w → (∀ i, i < ops.size → D i = true) → Q .normal (fill a0 ds f) w) :
    ∀ (fuel : Nat) (L : Array Bool) (f : Nat → Value) (w : World), L.size = ops.size → L.toList.count false ≤ fuel → J (fun j => L.getD j false) f w → wpAny P .any ops Q fuel L (fill a0 ds f) w := by
  have hall : ∀ (L : Array Bool), L.size = ops.size → Region.ready .any ops L = [] → ∀ i, i < ops.size → L.getD i false = true := by
    intro L hL hr i
    induction i using Nat.strongRecOn with
    | _ i ih =>
      intro hi
      cases hd : L.getD i false with
      | true => rfl
      | false =>
        have hmem : i ∈ Region.ready .any ops L := by
          unfold Region.ready
          rw [List.mem_filter]
          refine ⟨by simpa using hi, ?_⟩
          have h1 : L.getD i true = false := by simpa [Array.getD, hL, hi] using hd
          have h2 : ops[i]? = some ops[i] := Array.getElem?_eq_getElem hi
          simp only [h1, h2, Option.map_some, Option.getD_some, Bool.not_false, Bool.true_and, Array.all_eq_true_iff_forall_mem]
          intro e he
          have := ih e.on (hord i _ h2 e he) (Nat.lt_trans (hord i _ h2 e he) hi)
          rw [this]; simp
        rw [hr] at hmem; cases hmem
  intro fuel
  induction fuel with
  | zero =>
    intro L f w hL hc hJ
    have hno : ∀ i, i < ops.size → L.getD i false = true := by
      intro i hi
      cases hd : L.getD i false with
      | true => rfl
      | false =>
        have hx : L.toList[i]'(by simpa [hL] using hi) = false := by simpa [Array.getD, hL, hi] using hd
        have hp : 0 < L.toList.count false := List.count_pos_iff.2 (by rw [← hx]; exact List.getElem_mem _)
        omega
    refine ⟨?_, hend _ f w hJ hno⟩
    unfold Region.ready
    rw [List.filter_eq_nil_iff]
    intro i hi
    have hi' : i < ops.size := by simpa using hi
    have h1 := hno i hi'
    have h2 : L.getD i true = true := by simpa [Array.getD, hL, hi'] using h1
    simp [h2]
  | succ fuel ih =>
    intro L f w hL hc hJ
    refine ⟨fun hr => hend _ f w hJ (hall L hL hr), fun i hi => ?_⟩
    unfold Region.ready at hi
    rw [List.mem_filter] at hi
    obtain ⟨hi0, hi1⟩ := hi
    have hi' : i < ops.size := by simpa using hi0
    have h2 : ops[i]? = some ops[i] := Array.getElem?_eq_getElem hi'
    simp only [h2, Option.map_some, Option.getD_some, Bool.and_eq_true] at hi1
    obtain ⟨hi1, hi3⟩ := hi1
    have hun : L.getD i true = false := by simpa using hi1
    have hun' : L.getD i false = false := by simpa [Array.getD, hL, hi'] using hun
    have hst := (hs.at i ops[i] (by simp [hi'])).run (fun j => L.getD j false) f w hJ (by rw [Nat.zero_add]; exact hun') hi3
    rw [Nat.zero_add] at hst
    rw [← getD_set L i (by omega)] at hst
    have hnext : ∀ a' w', (∃ f', a' = fill a0 ds f' ∧ J (fun j => (L.setIfInBounds i true).getD j false) f' w') → wpAny P .any ops Q fuel (L.setIfInBounds i true) a' w' := by
      rintro a' w' ⟨f', rfl, hJ'⟩
      refine ih _ f' w' (by simpa using hL) ?_ hJ'
      have := count_set L i (by omega) hun
      omega
    unfold wpOp
    simp only [h2]
    split
    · rename_i hw
      rw [if_pos hw] at hst
      exact .inl (Oper.wp_mono hnext hst)
    · rename_i hw
      rw [if_neg hw] at hst
      exact hnext _ _ hst

/-- **A region that draws its order, by an invariant.** -/
theorem wp_region_inv {id : Nat} {a0 : Act} {w : World} (hm : P.follows .mixedOrders = true) (ds : List Nat) (J : (Nat → Bool) → (Nat → Value) → World → Prop) (f0 : Nat → Value) (h0 : fill a0 ds f0 = a0)
    (hord : (ops.toList.zipIdx.all fun x => x.1.after.all fun e => Nat.blt e.on x.2) = true)
    (hstart : J (fun _ => false) f0 w.drew) (hend : ∀ D f w, J D f w → (∀ i, i < ops.size → D i = true) → Q .normal (fill a0 ds f) w)
    (hs : InvSteps P ops Q a0 ds J 0 ops.toList) : (Code.region id ops true).wp P Q a0 w := by
  refine wp_region_any hm ?_
  have hord' : ∀ (i : Nat) (o : Oper), ops[i]? = some o → ∀ e ∈ o.after, e.on < i := by
    intro i o ho e he
    have h1 := List.all_eq_true.1 hord (o, i) (by
      rw [List.mem_zipIdx_iff_getElem?]; simpa using ho)
    have h2 := Array.all_eq_true_iff_forall_mem.1 h1 e he
    simpa [Nat.blt_eq] using h2
  have := wpAny_inv (P := P) (Q := Q) a0 ds J hord' hs hend ops.size (Array.replicate ops.size false) f0 w.drew (by simp) (by simp) (by
    have e : (fun j => (Array.replicate ops.size false).getD j false) = fun _ => false := by
      funext j
      simp only [Array.getD_eq_getD_getElem?, Array.getElem?_replicate]
      split <;> rfl
    rw [e]; exact hstart)
  rw [h0] at this
  exact this
end
end Go.Tb

/-
  The operations of a region's invariant: a load of a struct, a move, a call, an allocation, a store (no program in sight).
-/
namespace Go.Tb
open Go Go.RowKit Go.MapKept
set_option linter.unusedVariables false

theorem put_put (a : Act) (d : Nat) (v u : Value) : (a.put (some d) v).put (some d) u = a.put (some d) u := by
  simp [Act.put]

theorem fill_comm {d : Nat} {v : Value} {f : Nat → Value} : ∀ {ds : List Nat} {a : Act}, d ∉ ds → fill (a.put (some d) v) ds f = (fill a ds f).put (some d) v
  | [], _, _ => rfl
  | e :: ds, a, h => by
    have h1 : d ≠ e := fun q => h (q ▸ .head _)
    simp only [fill]
    rw [Act.put_comm a v (f e) (fun x hx => by cases hx; intro hy; cases hy; exact h1 rfl)]
    exact fill_comm (fun q => h (.tail _ q))

theorem fill_congr {f g : Nat → Value} : ∀ {ds : List Nat} {a : Act}, (∀ d ∈ ds, f d = g d) → fill a ds f = fill a ds g
  | [], _, _ => rfl
  | e :: ds, a, h => by
    simp only [fill]
    rw [h e (.head _)]
    exact fill_congr (fun d hd => h d (.tail _ hd))

theorem fill_put {d : Nat} {v : Value} {f : Nat → Value} : ∀ {ds : List Nat} {a : Act}, ds.Nodup → d ∈ ds → (fill a ds f).put (some d) v = fill a ds (upf f d v)
  | e :: ds, a, hn, h => by
    obtain ⟨h1, h2⟩ := List.nodup_cons.1 hn
    simp only [fill]
    by_cases q : d = e
    · subst q
      rw [← fill_comm h1, put_put]
      have : upf f d v d = v := by simp [upf]
      rw [this]
      exact fill_congr (fun x hx => by have : x ≠ d := fun q => h1 (q ▸ hx); simp [upf, this])
    · have hd : d ∈ ds := (List.mem_cons.1 h).resolve_left q
      have : upf f d v e = f e := by simp [upf, Ne.symm q]
      rw [this]
      exact fill_put h2 hd

theorem fill_size {f : Nat → Value} : ∀ {ds : List Nat} {a : Act}, (fill a ds f).tmps.size = a.tmps.size
  | [], _ => rfl
  | e :: ds, a => by simp only [fill]; rw [fill_size]; simp [Act.put]

theorem eval_put_ne (a : Act) {d x : Nat} (v : Value) (h : x ≠ d) : (a.put (some d) v).eval (.tmp x) = a.eval (.tmp x) :=
  Act.eval_put (fun e he hx => by cases he; cases hx; exact h rfl)
theorem eval_put_eq (a : Act) {d : Nat} (v : Value) (h : d < a.tmps.size) : (a.put (some d) v).eval (.tmp d) = v := by
  simp [Act.put, Act.eval, h]

theorem eval_out {x : Nat} {f : Nat → Value} : ∀ {ds : List Nat} {a : Act}, x ∉ ds → (fill a ds f).eval (.tmp x) = a.eval (.tmp x)
  | [], _, _ => rfl
  | e :: ds, a, h => by
    simp only [fill]
    have h1 : x ≠ e := fun q => by subst q; exact h (.head _)
    rw [eval_out (fun q => h (.tail _ q)), eval_put_ne _ _ h1]
theorem eval_in {x : Nat} {f : Nat → Value} : ∀ {ds : List Nat} {a : Act}, ds.Nodup → x ∈ ds → x < a.tmps.size → (fill a ds f).eval (.tmp x) = f x
  | e :: ds, a, hn, h, hs => by
    obtain ⟨h1, h2⟩ := List.nodup_cons.1 hn
    simp only [fill]
    by_cases q : x = e
    · subst q
      rw [eval_out h1, eval_put_eq _ _ hs]
    · exact eval_in h2 ((List.mem_cons.1 h).resolve_left q) (by simpa [Act.put] using hs)

/-- The operations of a region of a text. -/
def regionOf (id : Nat) : Code → Option (Array Oper)
  | .region i ops _ => if Nat.beq i id then some ops else none
  | .seq a b => match regionOf id a with
    | some x => some x
    | none => regionOf id b
  | .cond _ a b => match regionOf id a with
    | some x => some x
    | none => regionOf id b
  | .block _ c => regionOf id c
  | .loop c => regionOf id c
  | .scope c => regionOf id c
  | _ => none

/-- `Oper.wp`, closed: so no tactic lays it open. -/
structure OpWp (P : Program) (o : Oper) (a : Act) (w : World) (K : Act → World → Prop) (Q : Exit → Act → World → Prop) : Prop where
  run : Oper.wp P o a w K Q

section
variable {P : Program} {ops : Array Oper} {Q : Exit → Act → World → Prop} {a0 : Act} {ds : List Nat} {J : (Nat → Bool) → (Nat → Value) → World → Prop} {i : Nat} {o : Oper}

theorem inv_of (hgd : o.guard = none) (h : ∀ D f w, J D f w → D i = false → (o.after.all fun e => !Region.binds .any e || D e.on) = true → ∀ K : Act → World → Prop, (∀ f' w', J (fun j => Nat.beq j i || D j) f' w' → K (fill a0 ds f') w') → OpWp P o (fill a0 ds f) w K Q) :
    InvStep P ops Q a0 ds J i o := by
  refine ⟨fun D f w hJ hD hdep => ?_⟩
  rw [if_pos (by simp [Region.wanted, hgd])]
  exact (h D f w hJ hD hdep _ (fun f' w' hj => ⟨f', rfl, hj⟩)).run

/-- .. told of whatever frame of which the facts `F` hold. -/
theorem wp_region_inv2 {id : Nat} {w : World} (hm : P.follows .mixedOrders = true) (ds : List Nat) (J : (Nat → Bool) → (Nat → Value) → World → Prop) (f0 : Nat → Value) (F : Act → Prop) (h0 : fill a0 ds f0 = a0)
    (hord : (ops.toList.zipIdx.all fun x => x.1.after.all fun e => Nat.blt e.on x.2) = true) (hF : F a0)
    (hstart : J (fun _ => false) f0 w.drew) (hs : ∀ a Q, F a → InvSteps P ops Q a ds J 0 ops.toList) (hend : ∀ D f w, J D f w → (∀ i, i < ops.size → D i = true) → Q .normal (fill a0 ds f) w) :
    (Code.region id ops true).wp P Q a0 w :=
  wp_region_inv hm ds J f0 h0 hord hstart hend (hs a0 Q hF)

variable {K : Act → World → Prop} {f : Nat → Value} {w : World} {d : Nat}

theorem opwp_load (hd : o.dst = some d) (hnd : ds.Nodup) (hm : d ∈ ds) {ty : TypeId} {x : Operand} (ho : o.op = .load ty x) {g : Nat} {cs : Array Value} {t : TypeId} {fr : Nat × Nat} {de : TypeDesc} (hx : (fill a0 ds f).eval x = .pointer (some ⟨g, 0, none⟩)) (hg : w.heap[g]? = some (.cells cs t fr))
    (hu : P.underlying ty = some de) (hr : de.isRow = true) (hi : (P.info? ty).map (·.size) = some cs.size) (hK : K (fill a0 ds (upf f d (.agg cs))) w) : OpWp P o (fill a0 ds f) w K Q :=
  .mk <| wp_load_mid ty x ho g 0 hx cs.toList de (rangeAt_of_heap hg) hu hr (by rw [hi]; simp) (by rw [hd, fill_put hnd hm]; exact hK)

theorem opwp_move (hd : o.dst = some d) (hnd : ds.Nodup) (hm : d ∈ ds) {x : Operand} (ho : o.op = .move x) {v : Value} (hx : (fill a0 ds f).eval x = v) (hK : K (fill a0 ds (upf f d v)) w) : OpWp P o (fill a0 ds f) w K Q := by
  subst hx
  constructor
  unfold Oper.wp execOp
  simp only [ho, Sem.run_pure]
  show K ((fill a0 ds f).put o.dst _) w
  rw [hd, fill_put hnd hm]; exact hK

theorem opwp_call (hd : o.dst = some d) (hnd : ds.Nodup) (hm : d ∈ ds) {fn : Nat} {xs : Array Operand} {ts : Array TypeId} (ho : o.op = .call { callee := .value (.func fn), args := xs, argTypes := ts })
    (en : ∀ args w, (callFunc fn args).run P w = .ok (.enter fn args) w) {vs : Array Value} (hx : xs.map (fill a0 ds f).eval = vs) (hc : Calls P fn vs w fun e w' => ∃ v, e = .returned v ∧ K (fill a0 ds (upf f d v)) w') : OpWp P o (fill a0 ds f) w K Q := by
  constructor
  unfold Oper.wp execOp
  simp only [ho, resolve, hx]
  have he := en vs w
  simp [Act.eval, Deferred.ofValue, invoke, he]
  show Oper.upon P o (fill a0 ds f) K Q (.ok (.enter fn vs) w)
  rw [Oper.upon_enter]
  refine hc.mono ?_
  rintro e w' ⟨v, rfl, h⟩
  show K ((fill a0 ds f).put o.dst v) w'
  rw [hd, fill_put hnd hm]; exact h

theorem opwp_alloc (hd : o.dst = some d) (hnd : ds.Nodup) (hm : d ∈ ds) {ty : TypeId} (ho : o.op = .alloc ty) {cs : Array Value} (hrun : ∀ w, (Instr.alloc ty true (.tuple #[])).run P w = .ok (.pointer (some ⟨w.heap.size, 0, none⟩)) (w.alloc (.cells cs ty)))
    (hK : ∀ g w', g = w.heap.size → w'.heap[g]? = some (.cells cs ty (0, 0)) → Upd (fun _ => False) w w' → w'.heap.size = w.heap.size + 1 → K (fill a0 ds (upf f d (.pointer (some ⟨g, 0, none⟩)))) w') : OpWp P o (fill a0 ds f) w K Q := by
  constructor
  have h0 := hK w.heap.size (w.alloc (.cells cs ty)) rfl (heap_alloc _ _).1 (upd_alloc _ _ _) (by simp)
  unfold Oper.wp execOp
  simp only [ho, Sem.run_bind, hrun, Result.andThen_ok, Sem.run_pure]
  show K ((fill a0 ds f).put o.dst _) _
  rw [hd, fill_put hnd hm]; exact h0

theorem opwp_store (hd : o.dst = none) {ty : TypeId} {x y : Operand} (ho : o.op = .store ty x y) {g : Nat} {cs old : Array Value} {t : TypeId} (hg : w.heap[g]? = some (.cells old t (0, 0))) (hx : (fill a0 ds f).eval x = .pointer (some ⟨g, 0, none⟩)) (hy : (fill a0 ds f).eval y = .agg cs)
    (hs : cs.size = old.size) (hi : (P.info? ty).map (·.size) = some cs.size) (h1 : cs.all (·.oneCell') = true)
    (hK : ∀ w', w'.heap[g]? = some (.cells cs t (0, 0)) → Upd (fun k => k = g) w w' → w'.heap.size = w.heap.size → K (fill a0 ds f) w') : OpWp P o (fill a0 ds f) w K Q :=
  .mk <| wp_store_mid ty x y ho g 0 cs hx hy (by rw [hs]; exact there_of_heap hg) hi h1 (by
    rw [hd]; exact hK _ (heap_row hg hs) (upd_setCells' (fun k => k = g) g rfl _ _ _) (setCells_size g _ _ _))
end
end Go.Tb

/-
  More operations of a region's invariant: whatever runs to a value, or to none (no program in sight).
-/
namespace Go.Tb
open Go Go.RowKit Go.MapKept
set_option linter.unusedVariables false
section
variable {P : Program} {Q : Exit → Act → World → Prop} {a0 : Act} {ds : List Nat} {o : Oper} {K : Act → World → Prop} {f : Nat → Value} {w w' : World} {d : Nat} {v : Value}

theorem opwp_exec (hd : o.dst = some d) (hnd : ds.Nodup) (hm : d ∈ ds) (hrun : (execOp (fill a0 ds f).eval o).run P w = .ok (.value v) w') (hK : K (fill a0 ds (upf f d v)) w') : OpWp P o (fill a0 ds f) w K Q := by
  constructor
  unfold Oper.wp
  rw [hrun]
  show K ((fill a0 ds f).put o.dst v) w'
  rw [hd, fill_put hnd hm]; exact hK
theorem opwp_skip (hd : o.dst = none) (hrun : (execOp (fill a0 ds f).eval o).run P w = .ok .skip w') (hK : K (fill a0 ds f) w') : OpWp P o (fill a0 ds f) w K Q := by
  constructor
  unfold Oper.wp
  rw [hrun]
  show K ((fill a0 ds f).put o.dst undef) w'
  rw [hd]; exact hK

theorem put_self (a : Act) (d : Nat) (h : d < a.tmps.size) : a.put (some d) (a.eval (.tmp d)) = a := by
  cases a with
  | mk t ds =>
    simp only [Act.put, Act.eval] at *
    congr 1
    apply Array.ext
    · simp
    · intro i h1 h2
      rw [Array.getElem_setIfInBounds]
      split
      · rename_i e; subst e; simp
      · rfl
theorem fill_self : ∀ (ds : List Nat) (a : Act), (∀ d ∈ ds, d < a.tmps.size) → fill a ds (fun d => a.eval (.tmp d)) = a
  | [], _, _ => rfl
  | d :: ds, a, h => by
    simp only [fill]
    rw [put_self a d (h d (.head _))]
    exact fill_self ds a (fun x hx => h x (.tail _ hx))

/-- .. where the frame's temporaries hold whatever they do. -/
theorem wp_region_inv3 {ops : Array Oper} {id : Nat} {w : World} (hm : P.follows .mixedOrders = true) (ds : List Nat) (J : (Nat → Bool) → (Nat → Value) → World → Prop) (F : Act → Prop) (h0 : (ds.all fun d => Nat.blt d a0.tmps.size) = true)
    (hord : (ops.toList.zipIdx.all fun x => x.1.after.all fun e => Nat.blt e.on x.2) = true) (hF : F a0)
    (hstart : J (fun _ => false) (fun d => a0.eval (.tmp d)) w.drew) (hs : ∀ a Q, F a → InvSteps P ops Q a ds J 0 ops.toList) (hend : ∀ D f w, J D f w → (∀ i, i < ops.size → D i = true) → Q .normal (fill a0 ds f) w) :
    (Code.region id ops true).wp P Q a0 w :=
  wp_region_inv2 hm ds J _ F (fill_self ds a0 (fun d hd => by
    have := List.all_eq_true.1 h0 d hd
    exact Nat.le_of_ble_eq_true this)) hord hF hstart hs hend

variable {ρ : Operand → Value} {x y : Operand} {t : TypeId}
theorem ex_move (ho : o.op = .move x) (hx : ρ x = v) : (execOp ρ o).run P w = .ok (.value v) w := by
  subst hx; unfold execOp; rw [ho]; rfl
theorem ex_nil (ho : o.op = .nilCheck x) {a : Addr} (hx : ρ x = .pointer (some a)) : (execOp ρ o).run P w = .ok (.value (.pointer (some a))) w := by
  unfold execOp; rw [ho]; simp [hx]
theorem ex_field {i : Nat} {u : Value} (ho : o.op = .fieldAddr t x i) (hx : ρ x = u) (hr : (Instr.fieldAt t u i).run P w = .ok v w) : (execOp ρ o).run P w = .ok (.value v) w := by
  subst hx; unfold execOp; rw [ho]; simp [hr, Result.andThen]
theorem ex_load {u : Value} (ho : o.op = .load t x) (hx : ρ x = u) (hr : (Instr.loadAt t u).run P w = .ok v w) : (execOp ρ o).run P w = .ok (.value v) w := by
  subst hx; unfold execOp; rw [ho]; simp [hr, Result.andThen]
theorem ex_slice_hi {u z : Value} (ho : o.op = .slice t x none (some y) none) (hx : ρ x = u) (hy : ρ y = z) (hr : (Instr.sliceAt t u none (some z) none).run P w = .ok v w) : (execOp ρ o).run P w = .ok (.value v) w := by
  subst hx; subst hy; unfold execOp; rw [ho]; simp [hr, Result.andThen]
theorem ex_slice_lo {u z : Value} (ho : o.op = .slice t x (some y) none none) (hx : ρ x = u) (hy : ρ y = z) (hr : (Instr.sliceAt t u (some z) none none).run P w = .ok v w) : (execOp ρ o).run P w = .ok (.value v) w := by
  subst hx; subst hy; unfold execOp; rw [ho]; simp [hr, Result.andThen]
theorem ex_make0 (ho : o.op = .buildSlice t 0 #[]) (hr : (Instr.buildSlice t 0 #[]).run P w = .ok v w') : (execOp ρ o).run P w = .ok (.value v) w' := by
  unfold execOp; rw [ho]; simp [hr, Result.andThen]
theorem ex_append {t u : TypeId} {vs vx : Value} (ho : o.op = Op.call { callee := Callee.builtin Builtin.append, args := #[x, y], argTypes := #[t, u] }) (hx : ρ x = vs) (hy : ρ y = vx) (hr : ∀ ty, (Builtin.append_ #[t, u] ty #[vs, vx]).run P w = .ok v w') :
    (execOp ρ o).run P w = .ok (.value v) w' := by
  have h := hr o.type
  simp [execOp, ho, resolve, invoke, builtin, hx, hy, h, Result.andThen]
theorem ex_store {u z : Value} (ho : o.op = .store t x y) (hx : ρ x = u) (hy : ρ y = z) (hr : (Instr.storeAt t u z).run P w = .ok () w') : (execOp ρ o).run P w = .ok .skip w' := by
  subst hx; subst hy; unfold execOp; rw [ho]; simp [hr, Result.andThen]
theorem ex_bin {op : BinOp} {xt rt : TypeId} {u z : Value} (ho : o.op = .binOp op xt x y rt) (hx : ρ x = u) (hy : ρ y = z) (hr : (do eqGuard op xt x y u z; binOp op xt u z : Sem Value).run P w = .ok v w) : (execOp ρ o).run P w = .ok (.value v) w := by
  subst hx; subst hy; unfold execOp; rw [ho]
  simp only [Sem.run_bind, hr]
  simp [Result.andThen]
end
end Go.Tb
