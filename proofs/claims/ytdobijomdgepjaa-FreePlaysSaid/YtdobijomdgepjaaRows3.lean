/-
  Copies and insertions within rows (no program in sight).
-/
import Derived.Test.YtdobijomdgepjaaRows2
import Derived.Laws.IdiomCopy
namespace Go.Tb
open Go.RowKit Go.MapKept Go.ChangeMaps
set_option linter.unusedVariables false

/-- A copy in a region that draws its order, by the equation of its run. -/
theorem step_copy {P : Program} {ops : Array Oper} {o : Oper} {a : Act} {w w' : World} {K : Act → World → Prop} {Q : Exit → Act → World → Prop} {E : Prop} {d s : Operand} {t u : TypeId} {vd vs v : Value}
    (hrun : ∀ ty, (Builtin.copy_ #[t, u] ty #[vd, vs]).run P w = .ok v w') (hg : o.guard = none) (hop : o.op = Op.call { callee := Callee.builtin Builtin.copy, args := #[d, s], argTypes := #[t, u] })
    (hd : a.eval d = vd) (hs : a.eval s = vs) (hK : K (a.put o.dst v) w') :
    if Region.wanted o (yielded ops a.tmps) = true then Oper.wp P o a w K Q else E := by
  have hw : Region.wanted o (yielded ops a.tmps) = true := by simp [Region.wanted, hg]
  rw [if_pos hw]
  have h := hrun o.type
  unfold Oper.wp
  simp [execOp, hop, resolve, invoke, builtin, hd, hs, h, Result.andThen]
  exact hK
/-- .. and where the order is the text's. -/
theorem wpList_copy {P : Program} {ops : Array Oper} {rest : List Oper} {o : Oper} {a : Act} {w w' : World} {Q : Exit → Act → World → Prop} {d s : Operand} {t u : TypeId} {vd vs v : Value}
    (hrun : ∀ ty, (Builtin.copy_ #[t, u] ty #[vd, vs]).run P w = .ok v w') (hg : o.guard = none) (hop : o.op = Op.call { callee := Callee.builtin Builtin.copy, args := #[d, s], argTypes := #[t, u] })
    (hd : a.eval d = vd) (hs : a.eval s = vs) (hK : wpList P ops Q rest (a.put o.dst v) w') : wpList P ops Q (o :: rest) a w :=
  wpList_plain hg fun K hK' => by
    have h := hrun o.type
    unfold Oper.wp
    simp [execOp, hop, resolve, invoke, builtin, hd, hs, h, Result.andThen]
    exact hK' _ _ hK
/-- An append of whatever types. -/
theorem wpList_append2 {P : Program} {ops : Array Oper} {rest : List Oper} {o : Oper} {a : Act} {w w' : World} {Q : Exit → Act → World → Prop} {s x : Operand} {t u : TypeId} {vs vx v : Value}
    (hrun : ∀ ty, (Builtin.append_ #[t, u] ty #[vs, vx]).run P w = .ok v w') (hg : o.guard = none) (hop : o.op = Op.call { callee := Callee.builtin Builtin.append, args := #[s, x], argTypes := #[t, u] })
    (hs : a.eval s = vs) (hx : a.eval x = vx) (hK : wpList P ops Q rest (a.put o.dst v) w') : wpList P ops Q (o :: rest) a w :=
  wpList_plain hg fun K hK' => by
    have h := hrun o.type
    unfold Oper.wp
    simp [execOp, hop, resolve, invoke, builtin, hs, hx, h, Result.andThen]
    exact hK' _ _ hK

theorem setCells_get (b : Nat) (vs : List Value) (o : Nat) (w : World) (h : ∀ j, j < vs.length → (w.cell? ⟨b, o + j, none⟩).isSome = true) (k : Nat) :
    (w.setCells b o vs).cell? ⟨b, k, none⟩ = if o ≤ k ∧ k < o + vs.length then vs[k - o]? else w.cell? ⟨b, k, none⟩ := by
  by_cases hin : o ≤ k ∧ k < o + vs.length
  · rw [if_pos hin]
    have := World.cell?_setCells_in b vs o w h (k - o) (by omega)
    rw [show o + (k - o) = k by omega] at this
    rw [this, List.getElem?_eq_getElem (by omega)]
  · rw [if_neg hin]
    exact World.cell?_setCells_out b vs o w ⟨b, k, none⟩ (fun _ _ => by show k < o ∨ o + vs.length ≤ k; omega)
theorem some_setCells (b : Nat) (vs : List Value) (o : Nat) (w : World) (h : ∀ j, j < vs.length → (w.cell? ⟨b, o + j, none⟩).isSome = true) (k : Nat) (hk : (w.cell? ⟨b, k, none⟩).isSome = true) : ((w.setCells b o vs).cell? ⟨b, k, none⟩).isSome = true := by
  rw [setCells_get b vs o w h]
  split
  · rw [List.getElem?_eq_getElem (by omega)]; rfl
  · exact hk
theorem upd_setCells (S : Nat → Prop) (b : Nat) (hb : S b) : ∀ (vs : List Value) (o : Nat) (w : World), Upd S w (w.setCells b o vs)
  | [], _, w => Upd.refl _ w
  | v :: r, o, w => (upd_setCell S w ⟨b, o, none⟩ v hb).trans (upd_setCells S b hb r (o + 1) _)

/-- What an insertion leaves. -/
theorem insert_cells {W W2 : World} {b i : Nat} {cs vs : List Value} (hi : i ≤ cs.length) (hold : ∀ j, j < i → W.cell? ⟨b, j, none⟩ = cs[j]?)
    (h : ∀ k, W2.cell? ⟨b, k, none⟩ = if i + vs.length ≤ k ∧ k < i + vs.length + (cs.drop i).length then (cs.drop i)[k - (i + vs.length)]? else if i ≤ k ∧ k < i + vs.length then vs[k - i]? else W.cell? ⟨b, k, none⟩) :
    CellsAt W2 b 0 (cs.take i ++ (vs ++ cs.drop i)) := by
  intro j v hj
  rw [Nat.zero_add, h j, ← hj]
  have hl : (cs.take i).length = i := by rw [List.length_take]; omega
  by_cases h1 : j < i
  · rw [List.getElem?_append_left (by omega), if_neg (by omega), if_neg (by omega), hold j h1, List.getElem?_take, if_pos h1]
  · rw [List.getElem?_append_right (by omega), hl]
    by_cases h2 : j < i + vs.length
    · rw [if_neg (by omega), if_pos (by omega), List.getElem?_append_left (by omega)]
    · rw [List.getElem?_append_right (by omega)]
      have hjl : j < (cs.take i ++ (vs ++ cs.drop i)).length := (List.getElem?_eq_some_iff.1 hj).1
      rw [List.length_append, List.length_append, hl] at hjl
      rw [if_pos (by omega), show j - (i + vs.length) = j - i - vs.length by omega]

end Go.Tb
