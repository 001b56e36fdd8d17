/-
  The operations of a region's invariant: a load of a struct, a move, a call, an allocation, a store (no program in sight).
-/
import Derived.Test.YtpbenicglhccmaaRegInv
import Derived.Test.YtpbenicglhccmaaRows4
namespace Go.Tb
open Go Go.RowKit Go.MapKept
set_option linter.unusedVariables false

theorem put_put (a : Act) (d : Nat) (v u : Value) : (a.put (some d) v).put (some d) u = a.put (some d) u := by
  simp [Act.put]

theorem fill_comm {d : Nat} {v : Value} {f : Nat → Value} : ∀ {ds : List Nat} {a : Act}, d ∉ ds → fill (a.put (some d) v) ds f = (fill a ds f).put (some d) v
  | [], _, _ => rfl
  | e :: ds, a, h => by
    have h1 : d ≠ e := fun q => h (q ▸ .head _)
    simp only [fill]
    rw [Act.put_comm a v (f e) (fun x hx => by cases hx; intro hy; cases hy; exact h1 rfl)]
    exact fill_comm (fun q => h (.tail _ q))

theorem fill_congr {f g : Nat → Value} : ∀ {ds : List Nat} {a : Act}, (∀ d ∈ ds, f d = g d) → fill a ds f = fill a ds g
  | [], _, _ => rfl
  | e :: ds, a, h => by
    simp only [fill]
    rw [h e (.head _)]
    exact fill_congr (fun d hd => h d (.tail _ hd))

theorem fill_put {d : Nat} {v : Value} {f : Nat → Value} : ∀ {ds : List Nat} {a : Act}, ds.Nodup → d ∈ ds → (fill a ds f).put (some d) v = fill a ds (upf f d v)
  | e :: ds, a, hn, h => by
    obtain ⟨h1, h2⟩ := List.nodup_cons.1 hn
    simp only [fill]
    by_cases q : d = e
    · subst q
      rw [← fill_comm h1, put_put]
      have : upf f d v d = v := by simp [upf]
      rw [this]
      exact fill_congr (fun x hx => by have : x ≠ d := fun q => h1 (q ▸ hx); simp [upf, this])
    · have hd : d ∈ ds := (List.mem_cons.1 h).resolve_left q
      have : upf f d v e = f e := by simp [upf, Ne.symm q]
      rw [this]
      exact fill_put h2 hd

theorem fill_size {f : Nat → Value} : ∀ {ds : List Nat} {a : Act}, (fill a ds f).tmps.size = a.tmps.size
  | [], _ => rfl
  | e :: ds, a => by simp only [fill]; rw [fill_size]; simp [Act.put]

theorem eval_put_ne (a : Act) {d x : Nat} (v : Value) (h : x ≠ d) : (a.put (some d) v).eval (.tmp x) = a.eval (.tmp x) :=
  Act.eval_put (fun e he hx => by cases he; cases hx; exact h rfl)
theorem eval_put_eq (a : Act) {d : Nat} (v : Value) (h : d < a.tmps.size) : (a.put (some d) v).eval (.tmp d) = v := by
  simp [Act.put, Act.eval, h]

theorem eval_out {x : Nat} {f : Nat → Value} : ∀ {ds : List Nat} {a : Act}, x ∉ ds → (fill a ds f).eval (.tmp x) = a.eval (.tmp x)
  | [], _, _ => rfl
  | e :: ds, a, h => by
    simp only [fill]
    have h1 : x ≠ e := fun q => by subst q; exact h (.head _)
    rw [eval_out (fun q => h (.tail _ q)), eval_put_ne _ _ h1]
theorem eval_in {x : Nat} {f : Nat → Value} : ∀ {ds : List Nat} {a : Act}, ds.Nodup → x ∈ ds → x < a.tmps.size → (fill a ds f).eval (.tmp x) = f x
  | e :: ds, a, hn, h, hs => by
    obtain ⟨h1, h2⟩ := List.nodup_cons.1 hn
    simp only [fill]
    by_cases q : x = e
    · subst q
      rw [eval_out h1, eval_put_eq _ _ hs]
    · exact eval_in h2 ((List.mem_cons.1 h).resolve_left q) (by simpa [Act.put] using hs)

/-- The operations of a region of a text. -/
def regionOf (id : Nat) : Code → Option (Array Oper)
  | .region i ops _ => if Nat.beq i id then some ops else none
  | .seq a b => match regionOf id a with
    | some x => some x
    | none => regionOf id b
  | .cond _ a b => match regionOf id a with
    | some x => some x
    | none => regionOf id b
  | .block _ c => regionOf id c
  | .loop c => regionOf id c
  | .scope c => regionOf id c
  | _ => none

/-- `Oper.wp`, closed: so no tactic lays it open. -/
structure OpWp (P : Program) (o : Oper) (a : Act) (w : World) (K : Act → World → Prop) (Q : Exit → Act → World → Prop) : Prop where
  run : Oper.wp P o a w K Q

section
variable {P : Program} {ops : Array Oper} {Q : Exit → Act → World → Prop} {a0 : Act} {ds : List Nat} {J : (Nat → Bool) → (Nat → Value) → World → Prop} {i : Nat} {o : Oper}

theorem inv_of (hgd : o.guard = none) (h : ∀ D f w, J D f w → D i = false → (o.after.all fun e => !Region.binds .any e || D e.on) = true → ∀ K : Act → World → Prop, (∀ f' w', J (fun j => Nat.beq j i || D j) f' w' → K (fill a0 ds f') w') → OpWp P o (fill a0 ds f) w K Q) :
    InvStep P ops Q a0 ds J i o := by
  refine ⟨fun D f w hJ hD hdep => ?_⟩
  rw [if_pos (by simp [Region.wanted, hgd])]
  exact (h D f w hJ hD hdep _ (fun f' w' hj => ⟨f', rfl, hj⟩)).run

/-- .. told of whatever frame of which the facts `F` hold. -/
theorem wp_region_inv2 {id : Nat} {w : World} (hm : P.follows .mixedOrders = true) (ds : List Nat) (J : (Nat → Bool) → (Nat → Value) → World → Prop) (f0 : Nat → Value) (F : Act → Prop) (h0 : fill a0 ds f0 = a0)
    (hord : (ops.toList.zipIdx.all fun x => x.1.after.all fun e => Nat.blt e.on x.2) = true) (hF : F a0)
    (hstart : J (fun _ => false) f0 w.drew) (hs : ∀ a Q, F a → InvSteps P ops Q a ds J 0 ops.toList) (hend : ∀ D f w, J D f w → (∀ i, i < ops.size → D i = true) → Q .normal (fill a0 ds f) w) :
    (Code.region id ops true).wp P Q a0 w :=
  wp_region_inv hm ds J f0 h0 hord hstart hend (hs a0 Q hF)

variable {K : Act → World → Prop} {f : Nat → Value} {w : World} {d : Nat}

theorem opwp_load (hd : o.dst = some d) (hnd : ds.Nodup) (hm : d ∈ ds) {ty : TypeId} {x : Operand} (ho : o.op = .load ty x) {g : Nat} {cs : Array Value} {t : TypeId} {fr : Nat × Nat} {de : TypeDesc} (hx : (fill a0 ds f).eval x = .pointer (some ⟨g, 0, none⟩)) (hg : w.heap[g]? = some (.cells cs t fr))
    (hu : P.underlying ty = some de) (hr : de.isRow = true) (hi : (P.info? ty).map (·.size) = some cs.size) (hK : K (fill a0 ds (upf f d (.agg cs))) w) : OpWp P o (fill a0 ds f) w K Q :=
  .mk <| wp_load_mid ty x ho g 0 hx cs.toList de (rangeAt_of_heap hg) hu hr (by rw [hi]; simp) (by rw [hd, fill_put hnd hm]; exact hK)

theorem opwp_move (hd : o.dst = some d) (hnd : ds.Nodup) (hm : d ∈ ds) {x : Operand} (ho : o.op = .move x) {v : Value} (hx : (fill a0 ds f).eval x = v) (hK : K (fill a0 ds (upf f d v)) w) : OpWp P o (fill a0 ds f) w K Q := by
  subst hx
  constructor
  unfold Oper.wp execOp
  simp only [ho, Sem.run_pure]
  show K ((fill a0 ds f).put o.dst _) w
  rw [hd, fill_put hnd hm]; exact hK

theorem opwp_call (hd : o.dst = some d) (hnd : ds.Nodup) (hm : d ∈ ds) {fn : Nat} {xs : Array Operand} {ts : Array TypeId} (ho : o.op = .call { callee := .value (.func fn), args := xs, argTypes := ts })
    (en : ∀ args w, (callFunc fn args).run P w = .ok (.enter fn args) w) {vs : Array Value} (hx : xs.map (fill a0 ds f).eval = vs) (hc : Calls P fn vs w fun e w' => ∃ v, e = .returned v ∧ K (fill a0 ds (upf f d v)) w') : OpWp P o (fill a0 ds f) w K Q := by
  constructor
  unfold Oper.wp execOp
  simp only [ho, resolve, hx]
  have he := en vs w
  simp [Act.eval, Deferred.ofValue, invoke, Result.andThen, he]
  show Oper.upon P o (fill a0 ds f) K Q (.ok (.enter fn vs) w)
  rw [Oper.upon_enter]
  refine hc.mono ?_
  rintro e w' ⟨v, rfl, h⟩
  show K ((fill a0 ds f).put o.dst v) w'
  rw [hd, fill_put hnd hm]; exact h

theorem opwp_alloc (hd : o.dst = some d) (hnd : ds.Nodup) (hm : d ∈ ds) {ty : TypeId} (ho : o.op = .alloc ty) {cs : Array Value} (hrun : ∀ w, (Instr.alloc ty true (.tuple #[])).run P w = .ok (.pointer (some ⟨w.heap.size, 0, none⟩)) (w.alloc (.cells cs ty)))
    (hK : ∀ g w', g = w.heap.size → w'.heap[g]? = some (.cells cs ty (0, 0)) → Upd (fun _ => False) w w' → w'.heap.size = w.heap.size + 1 → K (fill a0 ds (upf f d (.pointer (some ⟨g, 0, none⟩)))) w') : OpWp P o (fill a0 ds f) w K Q := by
  constructor
  have h0 := hK w.heap.size (w.alloc (.cells cs ty)) rfl (heap_alloc _ _).1 (upd_alloc _ _ _) (by simp)
  unfold Oper.wp execOp
  simp only [ho, Sem.run_bind, hrun, Result.andThen_ok, Sem.run_pure]
  show K ((fill a0 ds f).put o.dst _) _
  rw [hd, fill_put hnd hm]; exact h0

theorem opwp_store (hd : o.dst = none) {ty : TypeId} {x y : Operand} (ho : o.op = .store ty x y) {g : Nat} {cs old : Array Value} {t : TypeId} (hg : w.heap[g]? = some (.cells old t (0, 0))) (hx : (fill a0 ds f).eval x = .pointer (some ⟨g, 0, none⟩)) (hy : (fill a0 ds f).eval y = .agg cs)
    (hs : cs.size = old.size) (hi : (P.info? ty).map (·.size) = some cs.size) (h1 : cs.all (·.oneCell') = true)
    (hK : ∀ w', w'.heap[g]? = some (.cells cs t (0, 0)) → Upd (fun k => k = g) w w' → w'.heap.size = w.heap.size → K (fill a0 ds f) w') : OpWp P o (fill a0 ds f) w K Q :=
  .mk <| wp_store_mid ty x y ho g 0 cs hx hy (by rw [hs]; exact there_of_heap hg) hi h1 (by
    rw [hd]; exact hK _ (heap_row hg hs) (upd_setCells' (fun k => k = g) g rfl _ _ _) (setCells_size g _ _ _))
end
end Go.Tb
