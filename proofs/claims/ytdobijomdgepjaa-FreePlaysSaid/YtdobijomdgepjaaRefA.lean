/-
  The document's list: of each page a sign.
-/
import Derived.Test.YtdobijomdgepjaaSignP
import Derived.Test.YtdobijomdgepjaaRows3
namespace Go.Proofs.Ytdobijomdgepjaa
open Go.RowKit Go.Tb Go.MapKept Go.ChangeMaps
set_option linter.unusedVariables false

/-- Block b is the document's list whose signs are sg, in block g. -/
structure IsRef (w : World) (b g : Nat) (sg : List Int) : Prop where
  blk : w.heap[b]? = some (.cells #[.slice (some ⟨g, 0, none⟩) sg.length sg.length] 59 (0, 0))
  row : w.heap[g]? = some (.cells (sg.map (Value.int .i64)).toArray 3 (0, 0))
  ne : g ≠ b

theorem IsRef.upd {w w' : World} {b g : Nat} {sg : List Int} {S : Nat → Prop} (h : IsRef w b g sg) (hu : Upd S w w') (hb : ¬ S b) (hg : ¬ S g) : IsRef w' b g sg :=
  ⟨hu.heap h.blk hb, hu.heap h.row hg, h.ne⟩

theorem IsRef.set {w : World} {b g : Nat} {sg : List Int} (h : IsRef w b g sg) (i : Nat) (x : Int) : IsRef (w.setCell ⟨g, i, none⟩ (.int .i64 x)) b g (sg.set i x) := by
  refine ⟨?_, ?_, h.ne⟩
  · rw [heap_setCell_ne _ h.ne.symm, List.length_set]; exact h.blk
  · rw [heap_setCell_at h.row]
    congr 2
    apply Array.ext'
    simp [List.map_set]

theorem IsRef.at {w : World} {b g : Nat} {sg : List Int} (h : IsRef w b g sg) (i : Nat) (hi : i < sg.length) : w.cell? ⟨g, i, none⟩ = some (.int .i64 sg[i]) := by
  rw [cell_of h.row]; simp [hi]

set_option maxHeartbeats 400000 in
/-- Set where the page is none. -/
theorem set_out (b g : Nat) (sg : List Int) (id s : Int) (w : World) (h : IsRef w b g sg) (hr : ¬ (2 ≤ id ∧ id < sg.length)) :
    Calls Try.prog 21 #[.pointer (some ⟨b, 0, none⟩), .int .i64 id, .int .i64 s] w fun e w' => e = .returned (.int .i64 2) ∧ w' = w := by
  have c0 : w.cell? ⟨b, 0, none⟩ = some (.slice (some ⟨g, 0, none⟩) sg.length sg.length) := cell_of h.blk 0
  clear h
  by_cases h2 : id < 2
  · go_enter Try.func21, Try.ntmps21
    go_wp2
    go_ret
    exact ⟨rfl, rfl⟩
  · have h3 : (sg.length : Int) ≤ id := by omega
    clear hr
    generalize sg.length = n at *
    go_enter Try.func21, Try.ntmps21
    go_wp2
    go_ret
    exact ⟨rfl, rfl⟩

set_option maxHeartbeats 400000 in
/-- .. and where it is one. -/
theorem set_in (b g i : Nat) (sg : List Int) (s : Int) (w : World) (h : IsRef w b g sg) (h2 : 2 ≤ i) (hi : i < sg.length) :
    Calls Try.prog 21 #[.pointer (some ⟨b, 0, none⟩), .int .i64 (i : Int), .int .i64 s] w fun e w' => e = .returned (.int .i64 (if sg[i] = 0 then 0 else 8)) ∧ IsRef w' b g (if sg[i] = 0 then sg.set i s else sg) ∧ Upd (fun k => k = g) w w' := by
  have c0 : w.cell? ⟨b, 0, none⟩ = some (.slice (some ⟨g, 0, none⟩) sg.length sg.length) := cell_of h.blk 0
  have c1 := h.at i hi
  have f1 := free_of h.row i
  have H := Lib.hid h
  have h2' : (2 : Int) ≤ (i : Int) := by omega
  have hi' : (i : Int) < (sg.length : Int) := by omega
  have Hset := Lib.hid (h.set i s)
  generalize hz : sg[i] = z at *
  clear h hz
  by_cases hz : z = 0
  · subst hz
    generalize sg.length = n at *
    go_enter Try.func21, Try.ntmps21
    go_wp2
    go_ret
    exact ⟨rfl, Hset.out, upd_setCell _ _ _ _ rfl⟩
  · rw [if_neg hz, if_neg hz]
    generalize sg.length = n at *
    go_enter Try.func21, Try.ntmps21
    go_wp2
    go_ret
    exact ⟨rfl, H.out, Upd.refl _ _⟩

end Go.Proofs.Ytdobijomdgepjaa
