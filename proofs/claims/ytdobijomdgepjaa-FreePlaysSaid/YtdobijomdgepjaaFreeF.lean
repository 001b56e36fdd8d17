/-
  The library's Sort; Settle, Copy.
-/
import Derived.Test.YtdobijomdgepjaaFreeE
import Derived.Test.YtdobijomdgepjaaSort
import Derived.Sort.OwnSortedInts
namespace Go.Proofs.Ytdobijomdgepjaa
open Go.RowKit Go.Tb Go.MapKept Go.ChangeMaps
set_option linter.unusedVariables false

def lei (x y : Int) : Bool := decide (x ≤ y)

theorem sort_calls (base : Nat) (v : Value) (l : List Int) (w : World) (hown : w.ownsRow base 3 1 v l.length (l.flatMap ienc)) (hbig : l.length ≤ 1000000) :
    Calls Try.prog 29 #[v] w fun e w' => e = .returned (.tuple #[]) ∧ Sl ienc w' v (l.mergeSort fun x y => decide (x ≤ y)) ∧ Upd (fun k => some k = v.ownBlock) w w' := by
  have hl : (l.mergeSort fun x y => decide (x ≤ y)).length = l.length := List.length_mergeSort _
  rcases hown.2 with ⟨rfl, h0⟩ | ⟨g, cap, cur, rfl, hg, hh, hnc, hm, hs, htake⟩
  · have hl0 : l = [] := List.eq_nil_of_length_eq_zero h0
    subst hl0
    refine (AnyM.slices_Sort_int_none Try.laysSort none 0 w).mono ?_
    rintro e w' ⟨rfl, rfl⟩
    exact ⟨rfl, .inl ⟨rfl, by simp⟩, Upd.refl _ _⟩
  · have hmap : l.flatMap ienc = l.map (Value.int .i64) := flat_one l
    rw [Nat.mul_one, hmap] at htake
    refine (AnyM.slices_Sort_int Try.laysSort g 0 cap l w (holds_of_blockI hh htake) (lt_of_heap hh) (by omega)).mono ?_
    rintro e w' ⟨rfl, n, os, rfl⟩
    have ho := ownsRow_sortedI (n := n) (os := os) (ss := l) (ts := l.mergeSort fun x y => decide (x ≤ y)) hl hg hh hnc hm hs
    refine ⟨rfl, ?_, (Upd.ofGrown (grownBy_sortedI _)).mono (fun k hk e => by simpa [Value.ownBlock] using e)⟩
    have ho' : (Sort.grow (Sort.putRow (Value.int .i64) (Sort.ahead w n) g 0 (l.mergeSort fun x y => decide (x ≤ y)).toArray) os).ownsRow base 3 1 (.slice (some ⟨g, 0, none⟩) l.length cap) (l.mergeSort fun x y => decide (x ≤ y)).length ((l.mergeSort fun x y => decide (x ≤ y)).flatMap ienc) := by
      rw [hl]
      have e : (l.mergeSort fun x y => decide (x ≤ y)).flatMap ienc = (l.mergeSort fun x y => decide (x ≤ y)).map (Value.int .i64) := flat_one _
      rw [e]; exact ho
    exact (sl_of_own ienc_length ho').1

/-- Spare and held are apart. -/
def Dj (L : LS) : Prop := ∀ x ∈ L.spare, x ∉ L.held
def LS.settle (L : LS) : LS := { L with spare := (L.spare ++ L.held).mergeSort fun x y => decide (x ≤ y), held := [] }

theorem mergeSort_strict {l : List Int} (hn : l.Nodup) : (l.mergeSort fun x y => decide (x ≤ y)).Pairwise (· < ·) := by
  have h1 := List.pairwise_mergeSort (le := fun (x y : Int) => decide (x ≤ y)) (fun a b c h1 h2 => by simp at h1 h2 ⊢; omega) (fun a b => by simp; omega) l
  have h2 : (l.mergeSort fun x y => decide (x ≤ y)).Nodup := (List.mergeSort_perm l _).nodup_iff.2 hn
  exact (h1.and h2).imp (fun h => by have a := h.1; have b := h.2; simp at a; omega)
theorem sorted_nodup {l : List Int} (h : l.Pairwise (· < ·)) : l.Nodup := h.imp (fun h => by omega)
theorem mem_settle {L : LS} {x : Int} : x ∈ L.settle.spare ↔ x ∈ L.spare ∨ x ∈ L.held := by
  show x ∈ (L.spare ++ L.held).mergeSort _ ↔ _
  rw [(List.mergeSort_perm _ _).mem_iff, List.mem_append]
theorem LS.Ok.settle {L : LS} (h : L.Ok) (hd : Dj L) : L.settle.Ok :=
  ⟨h.s1, h.s2, mergeSort_strict (List.nodup_append.2 ⟨sorted_nodup h.ss, sorted_nodup h.sh, fun a ha b hb e => hd a ha (e ▸ hb)⟩), List.Pairwise.nil,
    fun x hx => (mem_settle.1 hx).elim (h.rs x) (h.rh x), fun x hx => (by cases hx)⟩
theorem Dj.give {L : LS} (h : Dj L) (id : Int) : Dj (L.give id) := by
  unfold LS.give
  split
  · rename_i hc
    intro x hx
    rcases mem_insl.1 hx with rfl | hx
    · exact (check_zero hc).2.2
    · exact h x hx
  · exact h
theorem Dj.hold {L : LS} (h : Dj L) (id : Int) : Dj (L.hold id) := by
  unfold LS.hold
  split
  · rename_i hc
    intro x hx hh
    rcases mem_insl.1 hh with rfl | hh
    · exact (check_zero hc).2.1 hx
    · exact h x hx hh
  · exact h
theorem Dj.take {L : LS} (h : Dj L) : Dj L.take := fun x hx => h x (List.mem_of_mem_drop hx)
theorem Dj.settle (L : LS) : Dj L.settle := fun x _ hx => by cases hx

/-- `append(x, y...)` onto a row of the call's own, whatever the second. -/
theorem append_any {w : World} {base : Nat} {v v2 : Value} {l l2 : List Int} (hown : w.ownsRow base 3 1 v l.length (l.flatMap ienc)) (h2 : Sl ienc w v2 l2) (hbase : base ≤ w.heap.size) (hb : l.length + l2.length ≤ 1000000) :
    ∃ v' w', (∀ ty, (Builtin.append_ #[51, 51] ty #[v, v2]).run Try.prog w = .ok v' w') ∧ w'.ownsRow base 3 1 v' (l ++ l2).length ((l ++ l2).flatMap ienc) ∧ Upd (fun k => some k = v.ownBlock) w w' := by
  rcases h2 with ⟨rfl, rfl⟩ | ⟨b, off, cap, rfl, hc, hlt, hcs⟩
  · have hv : ∃ a n c, v = .slice a n c ∧ n ≤ c := by
      rcases hown.2 with ⟨rfl, _⟩ | ⟨g, cap, cur, rfl, _, _, hn, _⟩
      · exact ⟨_, _, _, rfl, Nat.le_refl _⟩
      · exact ⟨_, _, _, rfl, hn⟩
    obtain ⟨a, n, c, rfl, hnc⟩ := hv
    refine ⟨_, _, run_append_nil' (P := Try.prog) under_rising info_int a n c hnc, by simpa using hown, Upd.refl _ _⟩
  · obtain ⟨v', w', h1, h2, h3, -⟩ := run_append_sl (P := Try.prog) (t := 51) (z := .int .i64 0) under_rising info_int rfl (by decide) ienc_length ienc_one hown (.inr ⟨b, off, cap, rfl, hc, hlt, hcs⟩) hbase (by simp [maxLen]; omega) (by omega)
    exact ⟨v', w', h1, h2, Upd.ofGrown h3⟩

end Go.Proofs.Ytdobijomdgepjaa
