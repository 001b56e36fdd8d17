/-
  What Read and Filled hand out is the caller's own.
-/
import Derived.Test.YteokbokgiejmpaaPDiskL
namespace Go.Proofs.Yteokbokgiejmpaa
open Go.RowKit Go.Tb Go.MapKept Go.ChangeMaps
set_option linter.unusedVariables false

/-- A page of the caller's own. -/
def OwnPage (l : List UInt8) (w : World) (v : Value) (w' : World) : Prop :=
  ∃ g c cs, v = .slice (some ⟨g, 0, none⟩) 256 c ∧ w.heap.size ≤ g ∧ g < w'.heap.size ∧ w'.heap[g]? = some (.cells cs 5 (0, 0)) ∧ Bytes w' (.slice (some ⟨g, 0, none⟩) 256 c) l ∧ ∃ y : Int, w'.cell? ⟨g, 0, none⟩ = some (.int .u8 y)

theorem own_open {w w' : World} {base : Nat} {v : Value} {l : List UInt8} (h : w'.ownsRow base 5 1 v l.length (l.map u8v)) (hl : l.length = 256) (hb : w.heap.size ≤ base) : OwnPage l w v w' := by
  have hby := (bytes_of_own h).1
  rcases h.2 with ⟨-, h0⟩ | ⟨g, c, cs, rfl, hg, hh, -⟩
  · omega
  · rw [hl] at hby ⊢
    refine ⟨g, c, cs, rfl, by omega, lt_of_heap hh, hh, hby, ?_⟩
    rcases hby with ⟨e, -⟩ | ⟨b, off, cap, e, -, -, hc⟩
    · cases e
    · injection e with e1 e2 e3
      injection e1 with e1
      cases e1
      exact ⟨_, hc 0 (by omega)⟩

theorem read_own (b mp mc : Nat) (D : DS) (I : Nat → Prop) (page : Int) (w : World) (h : IsDisk w b mp mc D I) (hc : D.check page = 0) :
    Calls Try.prog 17 #[.pointer (some ⟨b, 0, none⟩), .int .i64 page] w fun e w' => ∃ v, e = .returned (.tuple #[v, .int .i64 0]) ∧ OwnPage (D.read page) w v w' ∧ Upd (fun _ => False) w w' := by
  have hl256 := h.read_length page
  have hcheck := check_calls b _ _ _ _ page _ _ w h.blk
  rw [show (if D.dead = true then (10 : Int) else if page < 0 ∨ D.size ≤ page then 2 else 0) = 0 from hc] at hcheck
  have h2 : w.cell? ⟨b, 2, none⟩ = some (.map (some mc)) := cell_of h.blk 2
  rcases h.ch.look page with ⟨hg, hrun⟩ | ⟨l, v, hg, hl, hv, hI, hrun⟩
  · have hr : D.read page = (D.pages page).getD zeros := by simp [DS.read, hg]
    rw [hr] at hl256 ⊢
    clear hr hg
    have hst := stored_calls b mp mc D I page w h
    generalize (D.pages page).getD zeros = l at *
    go_enter Try.func17, Try.ntmps17
    go_wp2_with (first
      | (go_at_call 32; refine hcheck.mono ?_; rintro e w' ⟨rfl, rfl⟩)
      | (go_at_call 36; refine hst.mono ?_; rintro e w1 ⟨v1, rfl, hv1, hI1, hu1⟩)
      | (go_at_call 33; refine (clone_calls v1 l w1 hv1 (by omega)).mono ?_; rintro e w2 ⟨v2, rfl, -, -, hu2, -, ho2⟩))
    go_ret2
    exact ⟨_, rfl, own_open ho2 hl256 hu1.size, hu1.trans hu2⟩
  · have hr : D.read page = l := by simp [DS.read, hg]
    rw [hr] at hl256 ⊢
    clear hr hg
    go_enter Try.func17, Try.ntmps17
    go_wp2_with (first
      | (go_at_call 32; refine hcheck.mono ?_; rintro e w' ⟨rfl, rfl⟩)
      | (go_at_call 33; refine (clone_calls v l w hv (by omega)).mono ?_; rintro e w2 ⟨v2, rfl, -, -, hu2, -, ho2⟩))
    go_ret2
    exact ⟨_, rfl, own_open ho2 hl256 (Nat.le_refl _), hu2⟩

theorem filled_own (x : UInt8) (w : World) :
    Calls Try.prog 13 #[.int .u8 (x.toNat : Int)] w fun e w' => ∃ v, e = .returned v ∧ OwnPage (fill x) w v w' ∧ Upd (fun _ => False) w w' :=
  (filled_calls x w).mono fun e w' ⟨v, he, ho, hu⟩ => ⟨v, he, own_open (by rw [fill_length]; exact ho) (fill_length x) (Nat.le_refl _), hu⟩

end Go.Proofs.Yteokbokgiejmpaa
