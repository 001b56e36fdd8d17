/-
  slices.SortFunc at numbers, in this text's words.
-/
import Derived.Test.YtcbngjlgcgcljaaGreatBase
import Derived.Test.YtcbngjlgcgcljaaGreatLibF
import Derived.Test.YtcbngjlgcgcljaaGreatProg
import Derived.Shelf.SlSortCmp.NoneTotal
namespace Go.Proofs.YtcbngjlgcgcljaaGreat
open Go.RowKit Go.Tb Go.MapKept Go.ChangeMaps Go.Lib Go.Sort Go.Shelf
set_option linter.unusedVariables false

def nenc (x : Int) : List Value := [.int .i64 x]
theorem nenc_length (x : Int) : (nenc x).length = 1 := rfl

theorem upd_sortWorld (w : World) (blk off m : Nat) (dk : Array Int) (os : Array Obj) : Upd (fun b => b = blk) w (sortWorld (Value.int .i64) w blk off m dk os) := by
  unfold sortWorld
  have h1 : Upd (fun b => b = blk) w (Sort.ahead w m) := ⟨rfl, rfl, rfl, Nat.le_refl _, fun _ _ _ => rfl⟩
  have h2 : Upd (fun b => b = blk) (Sort.ahead w m) (putRow (Value.int .i64) (Sort.ahead w m) blk off dk) := by
    unfold putRow
    exact ⟨rfl, rfl, rfl, by simp [mapBlock], fun i _ hn => by
      simp only [mapBlock]
      rw [Array.getElem?_modify, if_neg (fun e => hn e.symm)]⟩
  exact (h1.trans h2).trans ⟨rfl, rfl, rfl, by simp [Sort.grow], fun i hi _ => by simp only [Sort.grow]; rw [Array.getElem?_append_left hi]⟩

theorem grows_of' {w w' : World} {q : Nat} (hu : Upd (fun _ => False) w w') (hd : w'.drawn = w.drawn + q) : ∃ q os, w' = Sort.grow (w.drewN q) os := by
  refine ⟨q, w'.heap.extract w.heap.size w'.heap.size, ?_⟩
  obtain ⟨heap, tape, drawn, os, output⟩ := w
  obtain ⟨heap', tape', drawn', os', output'⟩ := w'
  have h1 := hu.os
  have h2 := hu.tape
  have h3 := hu.output
  have h4 := hu.size
  have h5 := hu.block
  simp only at h1 h2 h3 h4 h5 hd
  subst h1 h2 h3 hd
  simp only [Sort.grow, World.drewN]
  congr 1
  apply Array.ext'
  apply List.ext_getElem?
  intro i
  by_cases hi : i < heap.size
  · have := h5 i hi (fun x => x)
    simp only [Array.toList_append, Array.getElem?_toList, List.getElem?_append_left (show i < heap.toList.length by simpa using hi)]
    exact this
  · simp only [Array.toList_append, Array.toList_extract]
    rw [List.getElem?_append_right (by simp; omega)]
    simp only [List.extract_eq_take_drop, List.getElem?_take, List.getElem?_drop, Array.length_toList, Array.getElem?_toList]
    by_cases h : i < heap'.size
    · rw [if_pos (by omega), show heap.size + (i - heap.size) = i by omega]
    · rw [if_neg (by omega)]; simp; omega

/-- What a comparer of numbers does. -/
def CmpOk (clos : Nat) (cb : Array Value) (cf : Int → Int → Int) (S : Nat → Prop) (w : World) : Prop :=
  ∀ W, Upd S w W → ∀ x y : Int, Calls Tryz.prog clos (#[.int .i64 x, .int .i64 y] ++ cb) W fun e w' => e = .returned (.int .i64 (cf x y)) ∧ Upd (fun _ => False) W w' ∧ ∃ q, w'.drawn = W.drawn + q

theorem sortf_calls (base : Nat) (clos : Nat) (cb : Array Value) (en : ∀ args w, (callFunc clos args).run Tryz.prog w = .ok (.enter clos args) w) (cf : Int → Int → Int) (hO : SWO (ltOf cf)) (v : Value) (xs : List Int) (w : World)
    (hown : w.ownsRow base 2 1 v xs.length (xs.flatMap nenc)) (hcmp : CmpOk clos cb cf (fun b => sliceBlock v = some b) w) (hbig : xs.length ≤ 1000000) :
    Calls Tryz.prog 34 #[v, .func (.func clos) #[] cb] w fun e w' => e = .returned (.tuple #[]) ∧ ∃ qs : List Int, qs.Perm xs ∧ qs.Pairwise (fun a b => ¬ cf b a < 0) ∧
      w'.ownsRow base 2 1 v qs.length (qs.flatMap nenc) ∧ Upd (fun b => sliceBlock v = some b) w w' := by
  rcases hown.2 with ⟨rfl, h0⟩ | ⟨g, cap, cur, rfl, hg, hh, hnc, hm, hs, htake⟩
  · have hp0 : xs = [] := List.eq_nil_of_length_eq_zero h0
    subst hp0
    refine (AnyF.slices_SortFunc_none { Tryz.laysSortF with } none 0 _ w).mono ?_
    rintro e' w' ⟨rfl, rfl⟩
    exact ⟨rfl, [], List.Perm.refl _, List.Pairwise.nil, hown, Upd.refl _ _⟩
  · have hflat : xs.flatMap nenc = xs.map (Value.int .i64) := flat_one _
    have hH : Holds (Value.int .i64) w g 0 xs.toArray := by
      intro j hj
      have hj' : j < xs.length := by simpa using hj
      refine ⟨?_, free_of hh _⟩
      rw [cell_of hh, Nat.zero_add]
      have h1 : (cur.toList.take (xs.length * 1))[j]? = some (.int .i64 xs[j]) := by
        rw [htake, hflat]; simp [hj']
      rw [List.getElem?_take, if_pos (by omega)] at h1
      rw [getElem!_pos xs.toArray j hj]
      simpa using h1
    have hc := Any.slices_SortFunc Tryz.laysSortF (Value.int .i64) (fun _ => rfl) cf hO clos cb g 0 cap xs.toArray w en (fun m os dk hdk x y => by
      refine (hcmp _ ((upd_sortWorld w g 0 m dk os).mono (fun b _ e => by subst e; rfl)) x y).mono ?_
      rintro e' w' ⟨rfl, hu', q, hd'⟩
      exact ⟨rfl, grows_of' hu' hd'⟩) hH (lt_of_heap hh) (by simp; omega)
    change Calls Tryz.prog 34 _ _ _ at hc
    rw [show xs.toArray.size = xs.length by simp] at hc
    refine hc.mono ?_
    rintro e' w' ⟨rfl, d', n, os, hp, hsrt, rfl⟩
    obtain ⟨h1, _, h3⟩ := hp
    have hd' : d'.size = xs.length := by rw [h1]; simp
    have hperm : d'.toList.Perm xs := by
      have e1 : xs.toArray.extract 0 xs.length = xs.toArray := by simp
      have e2 : d'.extract 0 xs.length = d' := by rw [← hd']; simp
      rw [e1, e2] at h3
      simpa using h3
    have hu : Upd (fun b => b = g) w (sortWorld (Value.int .i64) w g 0 n d' os) := upd_sortWorld w g 0 n d' os
    have hlt := lt_of_heap hh
    have hblk : (sortWorld (Value.int .i64) w g 0 n d' os).heap[g]? = some (.cells (putCells (Value.int .i64) 0 d' cur) 2 (0, 0)) := by
      unfold sortWorld putRow
      simp only [Sort.grow]
      rw [Array.getElem?_append_left (by simp [mapBlock, Sort.ahead, hlt])]
      simp only [mapBlock, Sort.ahead, Array.getElem?_modify, if_pos, hh, Option.map_some, onCells]
    refine ⟨rfl, d'.toList, hperm, ?_, ?_, hu.mono (fun b _ e => by subst e; rfl)⟩
    · rw [List.pairwise_iff_getElem]
      intro i j hi hj hij
      have := hsrt i j (Nat.zero_le _) hij (by rw [← hd']; simpa using hj)
      simp only [ltOf, decide_eq_false_iff_not] at this
      rw [getElem!_pos d' i (by simpa using hi), getElem!_pos d' j (by simpa using hj)] at this
      simpa using this
    · have hl : d'.toList.length = xs.length := by simp [hd']
      refine ⟨by rw [flat_length nenc_length], .inr ⟨g, cap, _, by rw [hl], hg, hblk, by rw [hl]; exact hnc, hm, by simp [putCells, hs], ?_⟩⟩
      rw [show d'.toList.flatMap nenc = d'.toList.map (Value.int .i64) from flat_one _, hl]
      apply List.ext_getElem?
      intro i
      rw [List.getElem?_take]
      by_cases hi : i < xs.length * 1
      · rw [if_pos hi]
        have hi2 : i < cur.size := by rw [hs]; omega
        simp [putCells, hd', hi2]
        have h5 : i < xs.length := by omega
        rw [if_pos h5, getElem!_pos d' i (by omega), Array.getElem?_eq_getElem (by omega)]
        rfl
      · rw [if_neg hi, List.getElem?_eq_none (by simp; omega)]

end Go.Proofs.YtcbngjlgcgcljaaGreat
