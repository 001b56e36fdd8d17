/-
  Filled, Same.
-/
import Derived.Test.YteokbokgiejmpaaDiskE
namespace Go.Proofs.Yteokbokgiejmpaa
open Go.RowKit Go.Tb Go.MapKept Go.ChangeMaps
set_option linter.unusedVariables false

/-- A page of one byte. -/
def fill (x : UInt8) : List UInt8 := List.replicate 256 x
theorem fill_length (x : UInt8) : (fill x).length = 256 := List.length_replicate
theorem fill_get (x : UInt8) (i : Nat) (h : i < (fill x).length) : (fill x)[i] = x := List.getElem_replicate _

def FillRel (x : UInt8) (w : World) (k : Nat) (wr : World) : Prop :=
  ∃ cs : Array Value, wr.heap[w.heap.size]? = some (.cells cs 5 (0, 0)) ∧ cs.size = 256 ∧ (∀ i, i < k → cs[i]? = some (u8v x)) ∧ Upd (fun _ => False) w wr
theorem size_made (z : Value) (n : Nat) : (madeCells #[z] n).size = n := by simp [madeCells]

set_option maxRecDepth 100000 in
theorem filled_calls (x : UInt8) (w : World) :
    Calls Try.prog 13 #[.int .u8 (x.toNat : Int)] w fun e w' => ∃ v, e = .returned v ∧ w'.ownsRow w.heap.size 5 1 v 256 ((fill x).map u8v) ∧ Upd (fun _ => False) w w' := by
  have hmk := run_make_page
  go_enter Try.func13, Try.ntmps13
  go_wp2
  go_loopw [8] (fun i wr => ∃ k : Nat, k ≤ 256 ∧ i = .int .i64 k ∧ FillRel x w k wr) (fun i _ => 256 - (intOf i).toNat)
  case atStart => exact ⟨0, Nat.zero_le _, rfl, ⟨_, (MapKept.heap_alloc w _).1, by rw [size_made], fun i hi => absurd hi (Nat.not_lt_zero _), (Upd.refl _ _).alloc _⟩⟩
  case round =>
    obtain ⟨k, hk, rfl, cs, hh, hcs, hl, hu⟩ := hrel
    by_cases hlt : k < 256
    · have hcell : wr.cell? ⟨w.heap.size, k, none⟩ = some cs[k] := by rw [cell_of hh]; exact Array.getElem?_eq_getElem (by omega)
      have hfr := free_of hh k
      have hk1 : (k : Int) < (256 : Int) := by omega
      have hrel : FillRel x w (k + 1) (wr.setCell ⟨w.heap.size, k, none⟩ (.int .u8 (x.toNat : Int))) := by
        refine ⟨_, heap_setCell_at hh _ _, by simpa using hcs, fun i hi => ?_, hu.setCell (fun h => absurd h (Nat.lt_irrefl _)) _⟩
        by_cases e : k = i
        · subst e; simp [hcs, hlt]; rfl
        · rw [Array.getElem?_setIfInBounds_ne e]; exact hl i (by omega)
      clear hl
      generalize cs[k] = old at *
      go_wp2
      go_roundw
      case rel => exact ⟨k + 1, by omega, by go_num, hrel⟩
      case measure => simp [intOf]; omega
    · obtain rfl : k = 256 := by omega
      go_wp2
      go_ret
      refine ⟨_, rfl, ⟨by rw [List.length_map, fill_length], .inr ⟨w.heap.size, 256, cs, rfl, Nat.le_refl _, hh, Nat.le_refl _, by unfold maxLen; omega, by rw [hcs], ?_⟩⟩, hu⟩
      refine List.ext_getElem (by rw [List.length_map, fill_length, List.length_take, Array.length_toList, hcs]; rfl) fun i h1 h2 => ?_
      rw [List.length_map, fill_length] at h2
      rw [List.getElem_take, List.getElem_map, fill_get]
      have := hl i h2
      rw [Array.getElem?_eq_getElem (by omega)] at this
      simpa using this

theorem same_calls (va vb : Value) (a b : List UInt8) (w : World) (ha : Bytes w va a) (hb : Bytes w vb b) :
    Calls Try.prog 18 #[va, vb] w fun e w' => e = .returned (.bool (a == b)) ∧ w = w' := by
  have h1 := run_to_string (P := Try.prog) (src := 29) (dst := 9) Try.underlying29 Try.underlying5 Try.underlying9 ha
  have h2 := run_to_string (P := Try.prog) (src := 29) (dst := 9) Try.underlying29 Try.underlying5 Try.underlying9 hb
  go_enter Try.func18, Try.ntmps18
  go_wp2
  go_ret
  have e : ∀ l, (strB l).toList = l := fun l => by rw [ByteArray.toList_eq]; simp [strB]
  exact ⟨by show Ending.returned (.bool ((strB a).toList == (strB b).toList)) = _; rw [e, e], rfl⟩

end Go.Proofs.Yteokbokgiejmpaa
