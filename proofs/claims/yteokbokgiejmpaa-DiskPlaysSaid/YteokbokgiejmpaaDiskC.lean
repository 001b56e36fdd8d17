/-
  stored, Read, Fuse, Done, New.
-/
import Derived.Test.YteokbokgiejmpaaDiskB
namespace Go.Proofs.Yteokbokgiejmpaa
open Go.RowKit Go.Tb Go.MapKept Go.ChangeMaps
set_option linter.unusedVariables false

theorem info_u8 : (Try.prog.info? 5).map (fun i => (i.zero, i.size, i.bytes)) = some (some (.int .u8 0), 1, 1) := by kernel_rfl

def zeros : List UInt8 := List.replicate 256 0
theorem zeros_length : zeros.length = 256 := List.length_replicate
theorem zeros_get (i : Nat) (h : i < zeros.length) : zeros[i] = 0 := List.getElem_replicate _

theorem run_make_page (w : World) : (Instr.makeSlice 29 (.int .i64 256) (.int .i64 256)).run Try.prog w = .ok (.slice (some ⟨w.heap.size, 0, none⟩) 256 256) (w.alloc (.cells (madeCells #[.int .u8 0] 256) 5)) := by
  obtain ⟨i0, hi, hz0, hz1, hz2⟩ := info_parts info_u8
  have h := run_make (P := Try.prog) w 29 5 i0 (.int .u8 0) Try.underlying29 hi hz0 .i64 .i64 256 256 (by omega) (Int.le_refl _) (by rw [hz2]; decide) (by decide)
  rw [hz1] at h
  exact h


theorem cell_made (z : Value) (n i : Nat) (h : i < n) : (madeCells #[z] n)[i]? = some z := by
  simp [madeCells, h, Nat.mod_one]

theorem bytes_made (w : World) : Bytes (w.alloc (.cells (madeCells #[.int .u8 0] 256) 5)) (.slice (some ⟨w.heap.size, 0, none⟩) 256 256) zeros := by
  refine .inr ⟨w.heap.size, 0, 256, by rw [zeros_length], by rw [zeros_length]; decide, by simp, fun i hi => ?_⟩
  have hi' := hi
  rw [zeros_length] at hi'
  rw [cell_of (MapKept.heap_alloc w _).1, cell_made _ _ _ (by omega), zeros_get]
  rfl

/-- stored: what is on the disk. -/
theorem stored_calls (b mp mc : Nat) (D : DS) (I : Nat → Prop) (page : Int) (w : World) (h : IsDisk w b mp mc D I) :
    Calls Try.prog 36 #[.pointer (some ⟨b, 0, none⟩), .int .i64 page] w fun e w' => ∃ v, e = .returned v ∧ Bytes w' v ((D.pages page).getD zeros) ∧ (∀ x, sliceBlock v = some x → I x ∨ w.heap.size ≤ x) ∧ Upd (fun _ => False) w w' := by
  have h1 : w.cell? ⟨b, 1, none⟩ = some (.map (some mp)) := cell_of h.blk 1
  have hmk := run_make_page
  rcases h.pg.look page with ⟨hg, hrun⟩ | ⟨l, v, hg, hl, hv, hI, hrun⟩
  · have hg' := Lib.hid hg; clear hg
    go_enter Try.func36, Try.ntmps36
    go_wp2
    go_ret
    refine ⟨_, rfl, ?_, ?_, (Upd.refl _ _).alloc _⟩
    · rw [hg'.out]; exact bytes_made w
    · intro x hx; cases hx; exact .inr (Nat.le_refl _)
  · have hg' := Lib.hid hg; clear hg
    go_enter Try.func36, Try.ntmps36
    go_wp2
    go_ret
    refine ⟨_, rfl, ?_, fun x hx => .inl (hI x hx), Upd.refl _ _⟩
    rw [hg'.out]; exact hv

def DS.read (D : DS) (page : Int) : List UInt8 := (D.cache page).getD ((D.pages page).getD zeros)
theorem PagesAt.len {w : World} {m : Nat} {g : Int → Option (List UInt8)} {I : Nat → Prop} (h : PagesAt w m g I) (page : Int) : ((g page).getD zeros).length = 256 := by
  obtain ⟨f, n, h1, h0, h2, h3⟩ := h
  cases hg : g page with
  | none => exact zeros_length
  | some l => exact (h3 page l hg).1
theorem IsDisk.read_length {w : World} {b mp mc : Nat} {D : DS} {I : Nat → Prop} (h : IsDisk w b mp mc D I) (page : Int) : (D.read page).length = 256 := by
  unfold DS.read
  cases hc : D.cache page with
  | none => exact h.pg.len page
  | some l => have := h.ch.len page; rw [hc] at this; exact this

theorem read_ok (b mp mc : Nat) (D : DS) (I : Nat → Prop) (page : Int) (w : World) (h : IsDisk w b mp mc D I) (hc : D.check page = 0) :
    Calls Try.prog 17 #[.pointer (some ⟨b, 0, none⟩), .int .i64 page] w fun e w' => ∃ v, e = .returned (.tuple #[v, .int .i64 0]) ∧ Bytes w' v (D.read page) ∧ (∀ x, sliceBlock v = some x → w.heap.size ≤ x) ∧ Upd (fun _ => False) w w' := by
  have hcheck := check_calls b _ _ _ _ page _ _ w h.blk
  rw [show (if D.dead = true then (10 : Int) else if page < 0 ∨ D.size ≤ page then 2 else 0) = 0 from hc] at hcheck
  have h2 : w.cell? ⟨b, 2, none⟩ = some (.map (some mc)) := cell_of h.blk 2
  rcases h.ch.look page with ⟨hg, hrun⟩ | ⟨l, v, hg, hl, hv, hI, hrun⟩
  · have hr : D.read page = (D.pages page).getD zeros := by simp [DS.read, hg]
    have hlen := h.pg.len page
    rw [hr]
    clear hr hg
    have hst := stored_calls b mp mc D I page w h
    generalize (D.pages page).getD zeros = l at *
    go_enter Try.func17, Try.ntmps17
    go_wp2_with (first
      | (go_at_call 32; refine hcheck.mono ?_; rintro e w' ⟨rfl, rfl⟩)
      | (go_at_call 36; refine hst.mono ?_; rintro e w1 ⟨v1, rfl, hv1, hI1, hu1⟩)
      | (go_at_call 33; refine (clone_calls v1 l w1 hv1 (by omega)).mono ?_; rintro e w2 ⟨v2, rfl, hv2, hf2, hu2, -⟩))
    go_ret2
    exact ⟨_, rfl, hv2, fun x hx => Nat.le_trans hu1.size (hf2 x hx), hu1.trans hu2⟩
  · have hr : D.read page = l := by simp [DS.read, hg]
    rw [hr]
    clear hr hg
    go_enter Try.func17, Try.ntmps17
    go_wp2_with (first
      | (go_at_call 32; refine hcheck.mono ?_; rintro e w' ⟨rfl, rfl⟩)
      | (go_at_call 33; refine (clone_calls v l w hv (by omega)).mono ?_; rintro e w2 ⟨v2, rfl, hv2, hf2, hu2, -⟩))
    go_ret2
    exact ⟨_, rfl, hv2, hf2, hu2⟩

theorem read_no (b mp mc : Nat) (D : DS) (I : Nat → Prop) (page : Int) (w : World) (h : IsDisk w b mp mc D I) (hc : D.check page ≠ 0) :
    Calls Try.prog 17 #[.pointer (some ⟨b, 0, none⟩), .int .i64 page] w fun e w' => e = .returned (.tuple #[.slice none 0 0, .int .i64 (D.check page)]) ∧ w = w' := by
  have hcheck := check_calls b _ _ _ _ page _ _ w h.blk
  rw [show (if D.dead = true then (10 : Int) else if page < 0 ∨ D.size ≤ page then 2 else 0) = D.check page from rfl] at hcheck
  generalize D.check page = e at *
  have he : (e != 0) = true := by simpa using hc
  go_enter Try.func17, Try.ntmps17
  go_wp2_with (go_at_call 32; refine hcheck.mono ?_; rintro e w' ⟨rfl, rfl⟩)
  go_ret2
  exact ⟨rfl, rfl⟩

def DS.setFuse (D : DS) (n : Int) : DS := { D with fuse := max n (-1), dead := D.dead || n == 0 }

theorem fuse_calls (b mp mc : Nat) (D : DS) (I : Nat → Prop) (n : Int) (w : World) (h : IsDisk w b mp mc D I) (hn : n ≤ 9223372036854775807) :
    Calls Try.prog 19 #[.pointer (some ⟨b, 0, none⟩), .int .i64 n] w fun e w' => e = .returned (.tuple #[]) ∧ IsDisk w' b mp mc (D.setFuse n) I ∧ Upd (fun k => k = b) w w' := by
  have h3 : w.cell? ⟨b, 3, none⟩ = some (.int .i64 D.fuse) := cell_of h.blk 3
  have h4 : w.cell? ⟨b, 4, none⟩ = some (.bool D.dead) := cell_of h.blk 4
  have f3 := free_of h.blk 3
  have f4 := free_of h.blk 4
  obtain ⟨b0, b1, b2, n1, n2, n3, a1, a2, a3, s1, s2, g1, g2⟩ := h
  cases hd : D.dead
  all_goals
    rw [hd] at h4
    go_enter Try.func19, Try.ntmps19
    go_wp2
    go_end0
    have hu : Upd (fun k => k = b) w ((w.setCell ⟨b, 3, none⟩ (.int .i64 (max n (-1)))).setCell ⟨b, 4, none⟩ (.bool (D.dead || n == 0))) := ((Upd.refl (fun k => k = b) w).setCell (fun _ => rfl) _).setCell (fun _ => rfl) _
    have hb2 : ((w.setCell ⟨b, 3, none⟩ (.int .i64 (max n (-1)))).setCell ⟨b, 4, none⟩ (.bool (D.dead || n == 0))).heap[b]? = _ := heap_setCell_at (heap_setCell_at b0 _ _) _ _
    simp only [hd, Bool.false_or, Bool.true_or] at hu hb2
    refine ⟨rfl, ⟨?_, b1.upd hu n1 (fun x hx e => a1 (e ▸ hx)), b2.upd hu n2 (fun x hx e => a1 (e ▸ hx)), n1, n2, n3, a1, a2, a3, s1, s2, ?_, ?_⟩, hu⟩
    · rw [hb2]; simp [DS.setFuse, hd]
    · simp only [DS.setFuse]; omega
    · simp only [DS.setFuse]; omega

theorem done_calls (b mp mc : Nat) (D : DS) (I : Nat → Prop) (w : World) (h : IsDisk w b mp mc D I) :
    Calls Try.prog 20 #[.pointer (some ⟨b, 0, none⟩)] w fun e w' => e = .returned (.int .i64 D.done) ∧ w = w' := by
  have h5 : w.cell? ⟨b, 5, none⟩ = some (.int .i64 D.done) := cell_of h.blk 5
  have hl := run_call_load (P := Try.prog) Try.func47 (by kernel_rfl) (by kernel_rfl) (by kernel_rfl) .i64 (by kernel_rfl) h5
  go_enter Try.func20, Try.ntmps20
  go_wp2_with go_in
  go_ret
  exact ⟨rfl, rfl⟩

/-- A disk of so many pages. -/
def DS.start (n : Int) : DS := { size := n, pages := fun _ => none, cache := fun _ => none, fuse := -1, dead := false, done := 0 }

theorem new_bad (n : Int) (w : World) (h : n < 8 ∨ 1024 < n) : Calls Try.prog 10 #[.int .i64 n] w fun e w' => e = .returned (.pointer none) ∧ w = w' := by
  by_cases h1 : n < 8
  · go_enter Try.func10, Try.ntmps10
    go_wp2
    go_ret
    exact ⟨rfl, rfl⟩
  · have h2 : 1024 < n := by omega
    clear h
    go_enter Try.func10, Try.ntmps10
    go_wp2
    go_ret
    exact ⟨rfl, rfl⟩

theorem new_ok (n : Int) (w : World) (h1 : 8 ≤ n) (h2 : n ≤ 1024) : Calls Try.prog 10 #[.int .i64 n] w fun e w' => ∃ b mp mc, e = .returned (.pointer (some ⟨b, 0, none⟩)) ∧ IsDisk w' b mp mc (DS.start n) (fun _ => False) ∧ w.heap.size ≤ b ∧ w.heap.size ≤ mp ∧ w.heap.size ≤ mc ∧ Upd (fun _ => False) w w' := by
  have hmm := @run_makeMap Try.prog
  go_enter Try.func10, Try.ntmps10
  go_wp2
  go_ret
  refine ⟨w.heap.size + 2, w.heap.size, w.heap.size + 1, rfl, ?_, by omega, by omega, by omega, ((((Upd.refl _ _).alloc _).alloc _).alloc _)⟩
  have m1 := isMap_made (Value.int .i64) w
  have m2 := isMap_made (Value.int .i64) (w.alloc (.map #[] 0))
  simp only [World.size_alloc] at m2
  have hu2 : ∀ (w : World) o, Upd (fun _ => False) w (w.alloc o) := fun w o => (Upd.refl _ _).alloc _
  refine ⟨?_, .empty _ _ _ _ ((m1.upd (hu2 _ _) (fun x => x)).upd (hu2 _ _) (fun x => x)) (fun _ x => x.elim), .empty _ _ _ _ (m2.upd (hu2 _ _) (fun x => x)) (fun _ x => x.elim), by omega, by omega, by omega, fun x => x, fun x => x, fun x => x, h1, h2, by simp [DS.start], by simp [DS.start]⟩
  have := (MapKept.heap_alloc ((w.alloc (.map #[] 0)).alloc (.map #[] 0)) (.cells #[.int .i64 n, .map (some w.heap.size), .map (some (w.heap.size + 1)), .int .i64 (-1), .bool false, .int .i64 0] 71)).1
  simp only [World.size_alloc] at this
  exact this

end Go.Proofs.Yteokbokgiejmpaa
