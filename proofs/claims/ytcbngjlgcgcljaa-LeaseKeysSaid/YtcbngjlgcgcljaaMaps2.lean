/-
  delete from a map; maps that are sets of numbers (no program in sight).
-/
import Derived.Test.YtcbngjlgcgcljaaBase
namespace Go.Tb
open Go.RowKit Go.MapKept Go.ChangeMaps
set_option linter.unusedVariables false
section
variable {α : Type} {d : TypeDesc} {mk : α → Value} {es : Array MapEntry} {clock n : Nat} {f : α → Option Value}
variable {P : Program} {w : World} {m : Nat} {t kt et : TypeId}

/-- `delete(m, k)`. -/
theorem IsMap.delete [DecidableEq α] (h : IsMap mk w m f n) (K : KeyT d mk) (hm : P.underlying t = some (.map kt et)) (hd : P.underlying kt = some d) (a : α) :
    ∃ o, (∀ ty, (Builtin.delete_ #[t, kt] ty #[.map (some m), mk a]).run P w = .ok (.tuple #[]) (setBlock w m o)) ∧ IsMap mk (setBlock w m o) m (fun b => if b = a then none else f b) (if (f a).isSome then n - 1 else n) := by
  obtain ⟨es, clock, hb, ok⟩ := h
  rcases ok.find K a with ⟨hf, h1, h2⟩ | ⟨j, e, hf, h1, hj, he⟩
  · refine ⟨.map es clock, fun ty => ?_, es, clock, heap_setBlock hb, ok.st, ok.keys, fun b v => ?_, ?_⟩
    · simp [Builtin.delete_, run_underlying hm, MapKept.run_getObj_map hb, run_checkKey hd (K.isKey a), run_findKey hd h1, MapKept.run_setObj_map _ hb, Result.andThen, setBlock]
    · by_cases hba : b = a
      · subst hba
        simp only [if_true]
        constructor
        · intro h; cases h
        · rintro ⟨x, hx, hk, _⟩; exact absurd hk (h2 x hx)
      · simp only [if_neg hba]; exact ok.tells b v
    · rw [hf]; exact ok.size
  · have hjl : es.toList[j]? = some e := by simpa using hj
    have hjs : j < es.size := by simpa using (List.getElem?_eq_some_iff.1 hjl).1
    have hsub : (es.eraseIdxIfInBounds j).toList = es.toList.eraseIdx j := by
      unfold Array.eraseIdxIfInBounds
      rw [dif_pos hjs]
      simp
    have hmem : ∀ x, x ∈ (es.eraseIdxIfInBounds j).toList ↔ x ∈ es.toList ∧ x.key ≠ mk a := by
      intro x
      rw [hsub, List.mem_eraseIdx_iff_getElem?]
      constructor
      · rintro ⟨i, hij, hi⟩
        refine ⟨List.mem_of_getElem? hi, fun hk => hij ?_⟩
        have hnd := ok.st.2.2
        have hi' : i < (es.toList.map (·.key)).length := by simpa using (List.getElem?_eq_some_iff.1 hi).1
        have hj' : j < (es.toList.map (·.key)).length := by simpa using hjs
        refine (List.getElem_inj (h₀ := hi') (h₁ := hj') hnd).1 ?_
        have h3 : (es.toList.map (·.key))[i]? = some (mk a) := by rw [List.getElem?_map, hi]; simp [hk]
        have h4 : (es.toList.map (·.key))[j]? = some (mk a) := by rw [List.getElem?_map, hjl]; simp [he]
        rw [List.getElem?_eq_getElem hi'] at h3
        rw [List.getElem?_eq_getElem hj'] at h4
        exact (Option.some.inj h3).trans (Option.some.inj h4).symm
      · rintro ⟨hx, hk⟩
        obtain ⟨i, hi⟩ := List.getElem?_of_mem hx
        exact ⟨i, fun q => hk (by subst q; rw [hjl] at hi; cases hi; exact he), hi⟩
    refine ⟨.map (es.eraseIdxIfInBounds j) clock, fun ty => ?_, es.eraseIdxIfInBounds j, clock, heap_setBlock hb, stamped_erase ok.st j, fun x hx => ok.keys x ((hmem x).1 hx).1, fun b v => ?_, ?_⟩
    · simp [Builtin.delete_, run_underlying hm, MapKept.run_getObj_map hb, run_checkKey hd (K.isKey a), run_findKey hd h1, MapKept.run_setObj_map _ hb, Result.andThen, setBlock]
    · simp only [hmem]
      by_cases hba : b = a
      · subst hba
        simp only [if_true]
        constructor
        · intro h; cases h
        · rintro ⟨x, ⟨_, hk'⟩, hk, _⟩; exact absurd hk hk'
      · simp only [if_neg hba, ok.tells]
        constructor
        · rintro ⟨x, hx, hk, hv⟩; exact ⟨x, ⟨hx, fun q => hba (K.inj _ _ (hk.symm.trans q))⟩, hk, hv⟩
        · rintro ⟨x, ⟨hx, _⟩, hk, hv⟩; exact ⟨x, hx, hk, hv⟩
    · have h5 : (es.eraseIdxIfInBounds j).size = es.size - 1 := by
        rw [← Array.length_toList, hsub, List.length_eraseIdx, if_pos (by simpa using hjs)]; simp
      rw [h5, hf, ok.size]; rfl
end

/-- A delete where the order is the text's. -/
theorem wpList_delete {P : Program} {ops : Array Oper} {rest : List Oper} {o : Oper} {a : Act} {w w' : World} {Q : Exit → Act → World → Prop} {s x : Operand} {t u : TypeId} {vs vx v : Value}
    (hrun : ∀ ty, (Builtin.delete_ #[t, u] ty #[vs, vx]).run P w = .ok v w') (hg : o.guard = none) (hop : o.op = Op.call { callee := Callee.builtin Builtin.delete, args := #[s, x], argTypes := #[t, u] })
    (hs : a.eval s = vs) (hx : a.eval x = vx) (hK : wpList P ops Q rest (a.put o.dst v) w') : wpList P ops Q (o :: rest) a w :=
  wpList_plain hg fun K hK' => by
    have h := hrun o.type
    unfold Oper.wp
    simp [execOp, hop, resolve, invoke, builtin, hs, hx, h, Result.andThen]
    exact hK' _ _ hK

/-- A map that tells of each number whether it is in a list: to true. -/
def SetMap (w : World) (m : Nat) (l : List Int) : Prop := IsMap (Value.int .i64) w m (fun x => if x ∈ l then some (.bool true) else none) l.length

theorem SetMap.upd {w w' : World} {m : Nat} {l : List Int} {S : Nat → Prop} (h : SetMap w m l) (hu : Upd S w w') (hn : ¬ S m) : SetMap w' m l := IsMap.upd h hu hn
theorem SetMap.perm {w : World} {m : Nat} {l l' : List Int} (h : SetMap w m l) (hp : l.Perm l') : SetMap w m l' := by
  have e : (fun x => if x ∈ l then some (Value.bool true) else none) = fun x => if x ∈ l' then some (Value.bool true) else none := by
    funext x
    by_cases hx : x ∈ l
    · rw [if_pos hx, if_pos (hp.mem_iff.1 hx)]
    · rw [if_neg hx, if_neg (fun h => hx (hp.mem_iff.2 h))]
  unfold SetMap at h ⊢
  rw [e, hp.length_eq] at h
  exact h
theorem setMap_made (w : World) : SetMap (w.alloc (.map #[] 0)) w.heap.size [] := by
  have := isMap_made (Value.int .i64) w
  unfold SetMap
  simpa using this
section
variable {P : Program} {w : World} {m : Nat} {t kt et : TypeId} {l : List Int}
/-- `m[x] = true`. -/
theorem SetMap.put (h : SetMap w m l) (hm : P.underlying t = some (.map kt et)) (hd : P.underlying kt = some (.int .i64)) (x : Int) :
    ∃ o, (Instr.mapUpdate t (.map (some m)) (.int .i64 x) (.bool true)).run P w = .ok () (setBlock w m o) ∧ SetMap (setBlock w m o) m (if x ∈ l then l else x :: l) := by
  obtain ⟨w', hr, h2, o, rfl⟩ := IsMap.update h (keyT_int .i64) hm hd x (.bool true)
  refine ⟨o, hr, ?_⟩
  by_cases hx : x ∈ l
  · rw [if_pos hx]
    unfold SetMap
    have e : (fun b => if b = x then some (Value.bool true) else if b ∈ l then some (Value.bool true) else none) = fun b => if b ∈ l then some (Value.bool true) else none := by
      funext b
      by_cases hb : b = x
      · subst hb; rw [if_pos rfl, if_pos hx]
      · rw [if_neg hb]
    rw [e] at h2
    simpa [hx] using h2
  · rw [if_neg hx]
    unfold SetMap
    have e : (fun b => if b = x then some (Value.bool true) else if b ∈ l then some (Value.bool true) else none) = fun b => if b ∈ x :: l then some (Value.bool true) else none := by
      funext b
      by_cases hb : b = x
      · subst hb; simp
      · simp [hb]
    rw [e] at h2
    simpa [hx] using h2
/-- `delete(m, x)`. -/
theorem SetMap.delete (h : SetMap w m l) (hm : P.underlying t = some (.map kt et)) (hd : P.underlying kt = some (.int .i64)) (x : Int) (hn : l.Nodup) :
    ∃ o, (∀ ty, (Builtin.delete_ #[t, kt] ty #[.map (some m), .int .i64 x]).run P w = .ok (.tuple #[]) (setBlock w m o)) ∧ SetMap (setBlock w m o) m (l.erase x) := by
  obtain ⟨o, hr, h2⟩ := IsMap.delete h (keyT_int .i64) hm hd x
  refine ⟨o, hr, ?_⟩
  unfold SetMap
  have e : (fun b => if b = x then none else if b ∈ l then some (Value.bool true) else none) = fun b => if b ∈ l.erase x then some (Value.bool true) else none := by
    funext b
    by_cases hb : b = x
    · subst hb
      rw [if_pos rfl, if_neg (fun h => (hn.mem_erase_iff.1 h).1 rfl)]
    · rw [if_neg hb]
      by_cases hl : b ∈ l
      · rw [if_pos hl, if_pos (hn.mem_erase_iff.2 ⟨hb, hl⟩)]
      · rw [if_neg hl, if_neg (fun h => hl (hn.mem_erase_iff.1 h).2)]
  rw [e] at h2
  have hl : (if (if x ∈ l then some (Value.bool true) else none).isSome = true then l.length - 1 else l.length) = (l.erase x).length := by
    by_cases hx : x ∈ l
    · rw [if_pos hx, List.length_erase_of_mem hx]; rfl
    · rw [if_neg hx, List.erase_of_not_mem hx]; rfl
  rw [hl] at h2
  exact h2
/-- `m[x]`. -/
theorem SetMap.has (h : SetMap w m l) (hm : P.underlying t = some (.map kt et)) (hd : P.underlying kt = some (.int .i64)) (hz : (zeroValue et).run P w = .ok (.bool false) w) (x : Int) :
    (Instr.lookup t (.map (some m)) (.int .i64 x) false).run P w = .ok (.bool (decide (x ∈ l))) w := by
  rw [IsMap.lookup h (keyT_int .i64) hm hd hz x false]
  by_cases hx : x ∈ l <;> simp [hx]
end
/-- A key of bytes, as a string. -/
def skey (l : List UInt8) : Value := .string (strB l)
theorem keyT_skey : KeyT .string skey := ⟨fun _ => trivial, fun a b h => by unfold skey at h; exact strB_inj (by injection h)⟩
end Go.Tb
