/-
  The library's sort at structs: what it asks and leaves, in this text's words (no program in sight).
-/
import Derived.Test.YtpbenicglhccmaaRows4
import Derived.Shelf.SlSortCmp.WholeK
namespace Go.Tb
open Go.RowKit Go.MapKept Go.ChangeMaps Go.Sort Go.Proofs
set_option linter.unusedVariables false
section
variable {α : Type} [Inhabited α] {enc : α → List Value} {k : Nat}

theorem upd_mapBlock (S : Nat → Prop) (w : World) (b : Nat) (f : Array Value → Array Value) (h : S b) : Upd S w (mapBlock w b f) :=
  ⟨rfl, rfl, rfl, by simp [mapBlock], fun i _ hn => by
    simp only [mapBlock]
    rw [Array.getElem?_modify, if_neg (fun e => hn (by rw [← e]; exact h))]⟩
theorem upd_growS (S : Nat → Prop) (w : World) (os : Array Obj) : Upd S w (Sort.grow w os) :=
  ⟨rfl, rfl, rfl, by simp [Sort.grow], fun i hi _ => by simp only [Sort.grow]; rw [Array.getElem?_append_left hi]⟩
theorem upd_ahead (S : Nat → Prop) (w : World) (m : Nat) : Upd S w (Sort.ahead w m) := ⟨rfl, rfl, rfl, Nat.le_refl _, fun _ _ _ => rfl⟩
theorem upd_sortWorldK (w : World) (blk off m : Nat) (dk : Array α) (os : Array Obj) : Upd (fun b => b = blk) w (sortWorldK enc k w blk off m dk os) :=
  ((upd_ahead _ w m).trans (upd_mapBlock (fun b => b = blk) _ blk _ rfl)).trans (upd_growS _ _ os)
/-- What a sort's comparer leaves. -/
theorem grows_of {w w' : World} (hu : Upd (fun _ => False) w w') (hd : w'.drawn = w.drawn) : ∃ q os, w' = Sort.grow (w.drewN q) os := by
  refine ⟨0, w'.heap.extract w.heap.size w'.heap.size, ?_⟩
  obtain ⟨heap, tape, drawn, os, output⟩ := w
  obtain ⟨heap', tape', drawn', os', output'⟩ := w'
  have h1 := hu.os
  have h2 := hu.tape
  have h3 := hu.output
  have h4 := hu.size
  have h5 := hu.block
  simp only at h1 h2 h3 h4 h5 hd
  subst h1 h2 h3 hd
  simp only [Sort.grow, World.drewN]
  congr 1
  apply Array.ext'
  apply List.ext_getElem?
  intro i
  by_cases hi : i < heap.size
  · have := h5 i hi (fun x => x)
    simp only [Array.toList_append, Array.getElem?_toList, List.getElem?_append_left (show i < heap.toList.length by simpa using hi)]
    exact this
  · simp only [Array.toList_append, Array.toList_extract]
    rw [List.getElem?_append_right (by simp; omega)]
    simp only [List.extract_eq_take_drop, List.getElem?_take, List.getElem?_drop, Array.length_toList, Array.getElem?_toList]
    by_cases h : i < heap'.size
    · rw [if_pos (by omega), show heap.size + (i - heap.size) = i by omega]
    · rw [if_neg (by omega)]; simp; omega

theorem flatK_get (hk : ∀ x, (enc x).length = k) (d : Array α) (t : Nat) (h : t < d.size * k) : (d.toList.flatMap enc)[t]? = some ((flatK enc k d)[t]!) := by
  have hk0 : 0 < k := Nat.pos_of_ne_zero (fun e => by subst e; simp at h)
  have hq : t / k < d.size := Nat.div_lt_of_lt_mul (by rw [Nat.mul_comm]; exact h)
  have hr : t % k < k := Nat.mod_lt _ hk0
  have e : t = t / k * k + t % k := by rw [Nat.mul_comm]; exact (Nat.div_add_mod t k).symm
  rw [get_flatK enc k d t h]
  have := flat_get hk d.toList (t / k) (by simpa using hq) (t % k) hr
  rw [← e] at this
  rw [this]
  have h1 : d.toList[t / k] = d[t / k]! := by simp [hq]
  rw [h1, List.getElem?_eq_getElem (by rw [hk]; exact hr)]
  congr 1
  simp [hk, hr]

theorem holdsK_of {w : World} {blk off : Nat} {d : Array α} (hk : ∀ x, (enc x).length = k) (h : CellsAt w blk off (d.toList.flatMap enc)) (hf : ∀ j, j < d.size * k → w.frozen? ⟨blk, off + j, none⟩ = false) : HoldsK enc k w blk off d := by
  intro j hj
  rw [size_flatK] at hj
  exact ⟨h j _ (flatK_get hk d j hj), hf j hj⟩
theorem cells_of_holdsK {w : World} {blk off : Nat} {d : Array α} (hk : ∀ x, (enc x).length = k) (h : HoldsK enc k w blk off d) : CellsAt w blk off (d.toList.flatMap enc) := by
  intro j v hj
  have hlt : j < d.size * k := by
    have := (List.getElem?_eq_some_iff.1 hj).1
    rw [flat_length hk] at this
    simpa using this
  rw [flatK_get hk d j hlt] at hj
  cases hj
  exact (h j (by rw [size_flatK]; exact hlt)).1
theorem free_of_holdsK {w : World} {blk off : Nat} {d : Array α} (h : HoldsK enc k w blk off d) (j : Nat) (hj : j < d.size * k) : w.frozen? ⟨blk, off + j, none⟩ = false := (h j (by rw [size_flatK]; exact hj)).2
end

/-- A permutation within the whole. -/
theorem perm_of_permIn {α : Type} [Inhabited α] {d d' : Array α} (h : PermIn 0 d.size d d') : d'.toList.Perm d.toList ∧ d'.size = d.size := by
  obtain ⟨h1, _, h3⟩ := h
  refine ⟨?_, h1⟩
  have e1 : d.extract 0 d.size = d := by simp
  have e2 : d'.extract 0 d.size = d' := by rw [← h1]; simp
  rwa [e1, e2] at h3

end Go.Tb
