/-
  A region that draws its order, by an invariant: each operation once, whatever has been done ahead of it (no program in sight).
-/
import Derived.Test.YtpbenicglhccmaaBase
import Derived.Deep.RegionLaw
namespace Go.Tb
open Go
set_option linter.unusedVariables false

/-- A frame whose temporaries `ds` hold what `f` tells. -/
def fill (a : Act) : List Nat → (Nat → Value) → Act
  | [], _ => a
  | d :: ds, f => fill (a.put (some d) (f d)) ds f

/-- `f`, but `v` at `d`. -/
def upf (f : Nat → Value) (d : Nat) (v : Value) : Nat → Value := fun k => if k = d then v else f k

section
variable {P : Program} {ops : Array Oper} {Q : Exit → Act → World → Prop}

/-- One step of the invariant. -/
structure InvStep (P : Program) (ops : Array Oper) (Q : Exit → Act → World → Prop) (a0 : Act) (ds : List Nat) (J : (Nat → Bool) → (Nat → Value) → World → Prop) (i : Nat) (o : Oper) : Prop where
  run : ∀ (D : Nat → Bool) (f : Nat → Value) (w : World), J D f w → D i = false → (o.after.all fun e => !Region.binds .any e || D e.on) = true →
    if Region.wanted o (yielded ops (fill a0 ds f).tmps) = true then
      Oper.wp P o (fill a0 ds f) w (fun a' w' => ∃ f', a' = fill a0 ds f' ∧ J (fun j => Nat.beq j i || D j) f' w') Q
    else (∃ f', (fill a0 ds f).put o.dst undef = fill a0 ds f' ∧ J (fun j => Nat.beq j i || D j) f' w)

def InvSteps (P : Program) (ops : Array Oper) (Q : Exit → Act → World → Prop) (a0 : Act) (ds : List Nat) (J : (Nat → Bool) → (Nat → Value) → World → Prop) : Nat → List Oper → Prop
  | _, [] => True
  | i, o :: rest => InvStep P ops Q a0 ds J i o ∧ InvSteps P ops Q a0 ds J (i + 1) rest

theorem InvSteps.at {a0 : Act} {ds : List Nat} {J : (Nat → Bool) → (Nat → Value) → World → Prop} : ∀ {l : List Oper} {k : Nat}, InvSteps P ops Q a0 ds J k l → ∀ i o, l[i]? = some o → InvStep P ops Q a0 ds J (k + i) o
  | [], _, _, i, o, h => by simp at h
  | x :: r, k, H, 0, o, h => by simp at h; subst h; exact H.1
  | x :: r, k, H, i + 1, o, h => by
    simp at h
    have := InvSteps.at H.2 i o h
    rwa [Nat.add_right_comm] at this

theorem getD_set (L : Array Bool) (i : Nat) (hi : i < L.size) : (fun j => (L.setIfInBounds i true).getD j false) = fun j => Nat.beq j i || L.getD j false := by
  funext j
  by_cases h : j = i
  · subst h
    simp [Array.getD, hi]
  · have h1 : Nat.beq j i = false := by
      cases e : Nat.beq j i with
      | false => rfl
      | true => exact absurd (Nat.eq_of_beq_eq_true e) h
    simp only [h1, Bool.false_or]
    simp only [Array.getD_eq_getD_getElem?]
    rw [Array.getElem?_setIfInBounds_ne (Ne.symm h)]

theorem count_set (L : Array Bool) (i : Nat) (hi : i < L.size) (hf : L.getD i true = false) : (L.setIfInBounds i true).toList.count false + 1 = L.toList.count false := by
  have hx : L.toList[i]'(by simpa using hi) = false := by
    simpa [Array.getD, hi] using hf
  rw [Array.toList_setIfInBounds, List.count_set (by simpa using hi)]
  have hp : 0 < L.toList.count false := List.count_pos_iff.2 (by rw [← hx]; exact List.getElem_mem _)
  rw [hx]
  simp only [beq_self_eq_true, if_true, Bool.true_beq, Bool.false_eq_true, if_false, show ((true == false) = true) = False by simp]
  omega

theorem wpAny_inv (a0 : Act) (ds : List Nat) (J : (Nat → Bool) → (Nat → Value) → World → Prop) (hord : ∀ (i : Nat) (o : Oper), ops[i]? = some o → ∀ e ∈ o.after, e.on < i)
    (hs : InvSteps P ops Q a0 ds J 0 ops.toList) (hend : ∀ D f w, J D f w → (∀ i, i < ops.size → D i = true) → Q .normal (fill a0 ds f) w) :
    ∀ (fuel : Nat) (L : Array Bool) (f : Nat → Value) (w : World), L.size = ops.size → L.toList.count false ≤ fuel → J (fun j => L.getD j false) f w → wpAny P .any ops Q fuel L (fill a0 ds f) w := by
  have hall : ∀ (L : Array Bool), L.size = ops.size → Region.ready .any ops L = [] → ∀ i, i < ops.size → L.getD i false = true := by
    intro L hL hr i
    induction i using Nat.strongRecOn with
    | _ i ih =>
      intro hi
      cases hd : L.getD i false with
      | true => rfl
      | false =>
        have hmem : i ∈ Region.ready .any ops L := by
          unfold Region.ready
          rw [List.mem_filter]
          refine ⟨by simpa using hi, ?_⟩
          have h1 : L.getD i true = false := by simpa [Array.getD, hL, hi] using hd
          have h2 : ops[i]? = some ops[i] := Array.getElem?_eq_getElem hi
          simp only [h1, h2, Option.map_some, Option.getD_some, Bool.not_false, Bool.true_and, Array.all_eq_true_iff_forall_mem]
          intro e he
          have := ih e.on (hord i _ h2 e he) (Nat.lt_trans (hord i _ h2 e he) hi)
          rw [this]; simp
        rw [hr] at hmem; cases hmem
  intro fuel
  induction fuel with
  | zero =>
    intro L f w hL hc hJ
    have hno : ∀ i, i < ops.size → L.getD i false = true := by
      intro i hi
      cases hd : L.getD i false with
      | true => rfl
      | false =>
        have hx : L.toList[i]'(by simpa [hL] using hi) = false := by simpa [Array.getD, hL, hi] using hd
        have hp : 0 < L.toList.count false := List.count_pos_iff.2 (by rw [← hx]; exact List.getElem_mem _)
        omega
    refine ⟨?_, hend _ f w hJ hno⟩
    unfold Region.ready
    rw [List.filter_eq_nil_iff]
    intro i hi
    have hi' : i < ops.size := by simpa using hi
    have h1 := hno i hi'
    have h2 : L.getD i true = true := by simpa [Array.getD, hL, hi'] using h1
    simp [h2]
  | succ fuel ih =>
    intro L f w hL hc hJ
    refine ⟨fun hr => hend _ f w hJ (hall L hL hr), fun i hi => ?_⟩
    unfold Region.ready at hi
    rw [List.mem_filter] at hi
    obtain ⟨hi0, hi1⟩ := hi
    have hi' : i < ops.size := by simpa using hi0
    have h2 : ops[i]? = some ops[i] := Array.getElem?_eq_getElem hi'
    simp only [h2, Option.map_some, Option.getD_some, Bool.and_eq_true] at hi1
    obtain ⟨hi1, hi3⟩ := hi1
    have hun : L.getD i true = false := by simpa using hi1
    have hun' : L.getD i false = false := by simpa [Array.getD, hL, hi'] using hun
    have hst := (hs.at i ops[i] (by simp [hi'])).run (fun j => L.getD j false) f w hJ (by rw [Nat.zero_add]; exact hun') hi3
    rw [Nat.zero_add] at hst
    rw [← getD_set L i (by omega)] at hst
    have hnext : ∀ a' w', (∃ f', a' = fill a0 ds f' ∧ J (fun j => (L.setIfInBounds i true).getD j false) f' w') → wpAny P .any ops Q fuel (L.setIfInBounds i true) a' w' := by
      rintro a' w' ⟨f', rfl, hJ'⟩
      refine ih _ f' w' (by simpa using hL) ?_ hJ'
      have := count_set L i (by omega) hun
      omega
    unfold wpOp
    simp only [h2]
    split
    · rename_i hw
      rw [if_pos hw] at hst
      exact .inl (Oper.wp_mono hnext hst)
    · rename_i hw
      rw [if_neg hw] at hst
      exact hnext _ _ hst

/-- **A region that draws its order, by an invariant.** -/
theorem wp_region_inv {id : Nat} {a0 : Act} {w : World} (hm : P.follows .mixedOrders = true) (ds : List Nat) (J : (Nat → Bool) → (Nat → Value) → World → Prop) (f0 : Nat → Value) (h0 : fill a0 ds f0 = a0)
    (hord : (ops.toList.zipIdx.all fun x => x.1.after.all fun e => Nat.blt e.on x.2) = true)
    (hstart : J (fun _ => false) f0 w.drew) (hend : ∀ D f w, J D f w → (∀ i, i < ops.size → D i = true) → Q .normal (fill a0 ds f) w)
    (hs : InvSteps P ops Q a0 ds J 0 ops.toList) : (Code.region id ops true).wp P Q a0 w := by
  refine wp_region_any hm ?_
  have hord' : ∀ (i : Nat) (o : Oper), ops[i]? = some o → ∀ e ∈ o.after, e.on < i := by
    intro i o ho e he
    have h1 := List.all_eq_true.1 hord (o, i) (by
      rw [List.mem_zipIdx_iff_getElem?]; simpa using ho)
    have h2 := Array.all_eq_true_iff_forall_mem.1 h1 e he
    simpa [Nat.blt_eq] using h2
  have := wpAny_inv (P := P) (Q := Q) a0 ds J hord' hs hend ops.size (Array.replicate ops.size false) f0 w.drew (by simp) (by simp) (by
    have e : (fun j => (Array.replicate ops.size false).getD j false) = fun _ => false := by
      funext j
      simp only [Array.getD_eq_getD_getElem?, Array.getElem?_replicate]
      split <;> rfl
    rw [e]; exact hstart)
  rw [h0] at this
  exact this
end
end Go.Tb
