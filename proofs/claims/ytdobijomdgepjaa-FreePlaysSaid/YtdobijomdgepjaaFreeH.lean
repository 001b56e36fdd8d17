/-
  An act upon a list.
-/
import Derived.Test.YtdobijomdgepjaaFreeG
namespace Go.Proofs.Ytdobijomdgepjaa
open Go.RowKit Go.Tb Go.MapKept Go.ChangeMaps
set_option linter.unusedVariables false

def LS.act (L : LS) (kind id : Int) : LS := if kind = 0 then L.take else if kind = 1 then L.give id else if kind = 2 then L.hold id else L.settle
theorem Dj.act {L : LS} (h : Dj L) (kind id : Int) : Dj (L.act kind id) := by
  unfold LS.act
  split
  · exact h.take
  · split
    · exact h.give id
    · split
      · exact h.hold id
      · exact Dj.settle L

/-- An act that a law is handed. -/
structure FAct where
  kind : Int
  id : Int
def FActsOf (w : World) (a : Option Addr) (l : List FAct) : Prop :=
  ∀ i (h : i < l.length), ∃ b off, a = some ⟨b, off, none⟩ ∧ w.cell? ⟨b, off + i * 2, none⟩ = some (.int .i64 l[i].kind) ∧ w.cell? ⟨b, off + i * 2 + 1, none⟩ = some (.int .i64 l[i].id)

set_option maxRecDepth 100000 in
set_option maxHeartbeats 400000 in
theorem do_calls (b : Nat) (vs vh : Value) (L : LS) (I : Nat → Prop) (kind id : Int) (w : World) (h : IsList w b vs vh L I) (hdj : Dj L) :
    Calls Try.prog 24 #[.pointer (some ⟨b, 0, none⟩), .agg #[.int .i64 kind, .int .i64 id]] w fun e w' => e = .returned (.tuple #[]) ∧ ListStep w w' b (L.act kind id) I := by
  have hd1 : IsList (w.alloc (.cells #[.int .i64 kind, .int .i64 id] 40)) b vs vh L I := h.grow (upd_alloc (fun _ => False) _ _)
  have hbw : b < w.heap.size := lt_of_heap h.blk
  clear h
  generalize hw1 : w.alloc (.cells #[.int .i64 kind, .int .i64 id] 40) = wa at *
  have hbox : wa.heap[w.heap.size]? = some (.cells #[.int .i64 kind, .int .i64 id] 40 (0, 0)) := by rw [← hw1]; exact (MapKept.heap_alloc w _).1
  have hua : Upd (fun _ => False) w wa := by rw [← hw1]; exact upd_alloc _ _ _
  have c0 : wa.cell? ⟨w.heap.size, 0, none⟩ = some (.int .i64 kind) := cell_of hbox 0
  have c1 : wa.cell? ⟨w.heap.size, 1, none⟩ = some (.int .i64 id) := cell_of hbox 1
  have fin : ∀ w', (∃ L', L' = L.act kind id ∧ ListStep wa w' b L' I) → ListStep w w' b (L.act kind id) I := by
    rintro w' ⟨L', rfl, ⟨vs, vh, J, hd, hJ⟩, hu⟩
    exact ⟨⟨vs, vh, J, hd, fun x hx => (hJ x hx).imp (fun h => h) (Nat.le_trans hua.size)⟩, hua.seq hu _ (fun _ _ h => h.elim) (fun _ _ h => h)⟩
  have Hbox := Lib.hid hbox; clear hbox
  have Fin := Lib.hid fin; clear fin
  by_cases k0 : kind = 0
  · subst k0
    have hc := take_calls b vs vh L I wa hd1
    clear hd1
    go_enter Try.func24, Try.ntmps24
    go_wp2_with (go_at_call 10; refine hc.mono ?_; rintro e w2 ⟨rfl, hs⟩)
    go_end0
    exact ⟨rfl, Fin.out _ ⟨_, by simp [LS.act], hs⟩⟩
  · by_cases k1 : kind = 1
    · subst k1
      have hc := give_calls b vs vh L I id wa hd1
      clear hd1
      go_enter Try.func24, Try.ntmps24
      go_wp2_with (go_at_call 12; refine hc.mono ?_; rintro e w2 ⟨rfl, hs⟩)
      go_end0
      exact ⟨rfl, Fin.out _ ⟨_, by simp [LS.act], hs⟩⟩
    · by_cases k2 : kind = 2
      · subst k2
        have hc := hold_calls b vs vh L I id wa hd1
        clear hd1
        go_enter Try.func24, Try.ntmps24
        go_wp2_with (go_at_call 15; refine hc.mono ?_; rintro e w2 ⟨rfl, hs⟩)
        go_end0
        exact ⟨rfl, Fin.out _ ⟨_, by simp [LS.act], hs⟩⟩
      · have hc := settle_calls b vs vh L I wa hd1 hdj
        clear hd1
        have e0 : (kind == 0) = false := by simpa using k0
        have e1 : (kind == 1) = false := by simpa using k1
        have e2 : (kind == 2) = false := by simpa using k2
        go_enter Try.func24, Try.ntmps24
        go_wp2_with (go_at_call 16; refine hc.mono ?_; rintro e w2 ⟨rfl, hs⟩)
        go_end0
        exact ⟨rfl, Fin.out _ ⟨_, by simp [LS.act, k0, k1, k2], hs⟩⟩

end Go.Proofs.Ytdobijomdgepjaa
