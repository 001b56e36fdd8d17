/-
  A range over a map that deletes what it has just told (no program in sight).
-/
import Derived.Test.YtcbngjlgcgcljaaMaps2
namespace Go.Tb
open Go.RowKit Go.MapKept Go.ChangeMaps
set_option linter.unusedVariables false
section
variable {α : Type} {d : TypeDesc} {mk : α → Value} {f : α → Option Value}
variable {P : Program} {w : World} {m : Nat} {t kt et : TypeId}

/-- `delete(m, k)` in a range over `m` that has told `k`. -/
theorem Iter.delete [DecidableEq α] {r : Nat} {todo : List α} (h : Iter mk w r m f todo) (K : KeyT d mk) (hm : P.underlying t = some (.map kt et)) (hd : P.underlying kt = some d) (a : α) (ha : a ∉ todo) (hf : (f a).isSome = true) :
    ∃ o, (∀ ty, (Builtin.delete_ #[t, kt] ty #[.map (some m), mk a]).run P w = .ok (.tuple #[]) (setBlock w m o)) ∧ Iter mk (setBlock w m o) r m (fun b => if b = a then none else f b) todo ∧
      (setBlock w m o).rangeLeft m r ≤ w.rangeLeft m r := by
  have hne := h.ne
  obtain ⟨es, clock, since, seen, c0, hb, ok, hr, hold, hsc, hsk, hnd, htodo⟩ := h
  rcases ok.find K a with ⟨hf', _, _⟩ | ⟨j, e, hf', h1, hj, he⟩
  · rw [hf'] at hf; cases hf
  have hjl : es.toList[j]? = some e := by simpa using hj
  have hjs : j < es.size := by simpa using (List.getElem?_eq_some_iff.1 hjl).1
  have hsub : (es.eraseIdxIfInBounds j).toList = es.toList.eraseIdx j := by
    unfold Array.eraseIdxIfInBounds
    rw [dif_pos hjs]
    simp
  have hmem : ∀ x, x ∈ (es.eraseIdxIfInBounds j).toList ↔ x ∈ es.toList ∧ x.key ≠ mk a := by
    intro x
    rw [hsub, List.mem_eraseIdx_iff_getElem?]
    constructor
    · rintro ⟨i, hij, hi⟩
      refine ⟨List.mem_of_getElem? hi, fun hk => hij ?_⟩
      have hnd := ok.st.2.2
      have hi' : i < (es.toList.map (·.key)).length := by simpa using (List.getElem?_eq_some_iff.1 hi).1
      have hj' : j < (es.toList.map (·.key)).length := by simpa using hjs
      refine (List.getElem_inj (h₀ := hi') (h₁ := hj') hnd).1 ?_
      have h3 : (es.toList.map (·.key))[i]? = some (mk a) := by rw [List.getElem?_map, hi]; simp [hk]
      have h4 : (es.toList.map (·.key))[j]? = some (mk a) := by rw [List.getElem?_map, hjl]; simp [he]
      rw [List.getElem?_eq_getElem hi'] at h3
      rw [List.getElem?_eq_getElem hj'] at h4
      exact (Option.some.inj h3).trans (Option.some.inj h4).symm
    · rintro ⟨hx, hk⟩
      obtain ⟨i, hi⟩ := List.getElem?_of_mem hx
      exact ⟨i, fun q => hk (by subst q; rw [hjl] at hi; cases hi; exact he), hi⟩
  have hbm : (setBlock w m (.map (es.eraseIdxIfInBounds j) clock)).heap[m]? = some (.map (es.eraseIdxIfInBounds j) clock) := heap_setBlock hb
  have hrm : (setBlock w m (.map (es.eraseIdxIfInBounds j) clock)).heap[r]? = some (.mapIter (some m) since seen c0) := by rw [heap_setBlock_ne _ hne]; exact hr
  refine ⟨.map (es.eraseIdxIfInBounds j) clock, fun ty => ?_, ⟨es.eraseIdxIfInBounds j, clock, since, seen, c0, hbm, ⟨stamped_erase ok.st j, fun x hx => ok.keys x ((hmem x).1 hx).1, fun b v => ?_, rfl⟩, hrm, fun x hx => hold x ((hmem x).1 hx).1, hsc, hsk, hnd, fun b => ?_⟩, ?_⟩
  · simp [Builtin.delete_, run_underlying hm, MapKept.run_getObj_map hb, run_checkKey hd (K.isKey a), run_findKey hd h1, MapKept.run_setObj_map _ hb, Result.andThen, setBlock]
  · simp only [hmem]
    by_cases hba : b = a
    · subst hba
      simp only [if_true]
      constructor
      · intro h; cases h
      · rintro ⟨x, ⟨_, hk'⟩, hk, _⟩; exact absurd hk hk'
    · simp only [if_neg hba, ok.tells]
      constructor
      · rintro ⟨x, hx, hk, hv⟩; exact ⟨x, ⟨hx, fun q => hba (K.inj _ _ (hk.symm.trans q))⟩, hk, hv⟩
      · rintro ⟨x, ⟨hx, _⟩, hk, hv⟩; exact ⟨x, hx, hk, hv⟩
  · rw [htodo b]
    constructor
    · rintro ⟨x, hx, hk, hs⟩
      refine ⟨x, (hmem x).2 ⟨hx, fun q => ?_⟩, hk, hs⟩
      have : b = a := K.inj _ _ (hk.symm.trans q)
      subst this
      exact ha ((htodo b).2 ⟨x, hx, hk, hs⟩)
    · rintro ⟨x, hx, hk, hs⟩
      exact ⟨x, ((hmem x).1 hx).1, hk, hs⟩
  · simp only [World.rangeLeft, hbm, hrm, hb, hr]
    unfold leftOf
    have fs : ∀ (p : MapEntry → Bool) (A : Array MapEntry), (A.filter p).size = (A.toList.filter p).length := fun p A => by rw [← Array.length_toList, Array.toList_filter]
    rw [fs, fs, hsub]
    exact ((List.eraseIdx_sublist _ _).filter _).length_le

/-- What a delete leaves, of the map that it was: one key less. -/
theorem IsMap.sizes {n n' : Nat} {mk' : α → Value} {f' : α → Option Value} (h : IsMap mk w m f n) (h' : IsMap mk' w m f' n') : n = n' := by
  obtain ⟨es, c, hb, ok⟩ := h
  obtain ⟨es', c', hb', ok'⟩ := h'
  rw [hb] at hb'
  injection hb' with hb'
  injection hb' with e1 e2
  rw [← ok.size, ← ok'.size, e1]
end
end Go.Tb
