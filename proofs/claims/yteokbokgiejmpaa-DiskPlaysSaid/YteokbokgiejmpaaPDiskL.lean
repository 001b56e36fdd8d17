/-
  Both disks within a law's run.
-/
import Derived.Test.YteokbokgiejmpaaPDiskK
namespace Go.Proofs.Yteokbokgiejmpaa
open Go.RowKit Go.Tb Go.MapKept Go.ChangeMaps
set_option linter.unusedVariables false

/-- Both disks, and that of what was there at the law's beginning nothing is written. -/
structure Run (w0 : World) (P : Nat → Prop) (w : World) (b mp mc rb : Nat) (D : DS) (E : RD) (J : Nat → Prop) : Prop where
  m : Mid P w b mp mc rb D E J
  ub : w0.heap.size ≤ b
  um : w0.heap.size ≤ mp
  uc : w0.heap.size ≤ mc
  uP : ∀ k, P k → w0.heap.size ≤ k
  uJ : ∀ k, J k → w0.heap.size ≤ k
  up : Upd (fun k => w0.heap.size ≤ k) w0 w

theorem Run.grow {w0 w w' : World} {P J : Nat → Prop} {b mp mc rb : Nat} {D : DS} {E : RD} (h : Run w0 P w b mp mc rb D E J) (hu : Upd (fun _ => False) w w') : Run w0 P w' b mp mc rb D E J :=
  { h with m := h.m.grow hu, up := h.up.trans (hu.weak _) }
theorem Run.lt {w0 w : World} {P J : Nat → Prop} {b mp mc rb : Nat} {D : DS} {E : RD} (h : Run w0 P w b mp mc rb D E J) : b < w.heap.size ∧ mp < w.heap.size ∧ mc < w.heap.size ∧ (∀ k, P k → k < w.heap.size) ∧ ∀ k, J k → k < w.heap.size :=
  ⟨lt_of_heap h.m.dk.blk, h.m.dk.pg.lt, h.m.dk.ch.lt, h.m.rd.lt, h.m.dk.pg.bound⟩
/-- A block of its own is written. -/
theorem Run.own {w0 w w' : World} {P J : Nat → Prop} {b mp mc rb : Nat} {D : DS} {E : RD} (h : Run w0 P w b mp mc rb D E J) {g : Nat} (hu : Upd (fun k => k = g) w w') (hg : w0.heap.size ≤ g) (h1 : b ≠ g) (h2 : mp ≠ g) (h3 : mc ≠ g) (h4 : ¬ J g) (h5 : ¬ P g) : Run w0 P w' b mp mc rb D E J :=
  { h with m := h.m.own hu h1 h2 h3 (fun k hk e => h4 (e ▸ hk)) (fun k hk e => h5 (e ▸ hk)), up := h.up.trans (hu.mono (fun k _ e => by rw [e]; exact hg)) }
theorem Run.dstep {w0 w w' : World} {P J : Nat → Prop} {b mp mc rb : Nat} {D D' : DS} {E : RD} (h : Run w0 P w b mp mc rb D E J) (hs : DiskStep w w' b mp mc D' J) : ∃ J', Run w0 P w' b mp mc rb D' E J' ∧ ∀ x, J' x → J x ∨ w.heap.size ≤ x := by
  obtain ⟨J', hm, hJ, hu⟩ := h.m.dstep hs
  refine ⟨J', { h with m := hm, uJ := fun k hk => ?_, up := h.up.trans (hu.mono (fun k _ e => ?_)) }, hJ⟩
  · rcases hJ k hk with q | q
    · exact h.uJ k q
    · have := h.up.size; omega
  · rcases e with rfl | rfl | rfl
    · exact h.ub
    · exact h.um
    · exact h.uc
theorem Run.rstep {w0 w w' : World} {P J : Nat → Prop} {b mp mc rb : Nat} {D D' : DS} {E : RD} {j : Nat} (h : Run w0 P w b mp mc rb D E J) (hs : RDid P rb D' j w w') : ∃ E', Run w0 (PN P w w') w' b mp mc rb D E' J ∧ RelD D' E' j := by
  obtain ⟨hu, E', hr, hrel⟩ := hs
  refine ⟨E', { h with m := h.m.rstep hu hr, uP := fun k hk => ?_, up := h.up.trans (hu.mono (fun k _ hk => h.uP k hk)) }, hrel⟩
  rcases hk with q | q
  · exact h.uP k q
  · have := h.up.size; omega

/-- What stands at a round's head. -/
def PSt (w0 : World) (pages : Int) (b mp mc rb : Nat) (j : Nat) (w : World) : Prop :=
  ∃ P D E J, Run w0 P w b mp mc rb D E J ∧ RelD D E j ∧ D.In ∧ D.size = pages
theorem PSt.grow {w0 : World} {pages : Int} {b mp mc rb j : Nat} {w w' : World} (h : PSt w0 pages b mp mc rb j w) (hu : Upd (fun _ => False) w w') : PSt w0 pages b mp mc rb j w' := by
  obtain ⟨P, D, E, J, h1, h2⟩ := h
  exact ⟨P, D, E, J, h1.grow hu, h2⟩
theorem Run.two {w0 w : World} {P J : Nat → Prop} {b mp mc rb : Nat} {D : DS} {E : RD} {j : Nat} (h : Run w0 P w b mp mc rb D E J) (hr : RelD D E j) (hi : D.In) : Two P w b mp mc rb D E J j := h.m.two hr hi

structure ActV where
  kind : Int
  page : Int
  n : Int
  x : UInt8
instance : Inhabited ActV := ⟨⟨0, 0, 0, 0⟩⟩

/-- The cells of a slice of acts that begins at `a`. -/
def ActsOf (w : World) (a : Option Addr) (l : List ActV) : Prop :=
  ∀ i (h : i < l.length), ∃ b off, a = some ⟨b, off, none⟩ ∧ l[i].n ≤ 9223372036854775807 ∧
    w.cell? ⟨b, off + i * 4, none⟩ = some (.int .i64 l[i].kind) ∧ w.cell? ⟨b, off + i * 4 + 1, none⟩ = some (.int .i64 l[i].page) ∧ w.cell? ⟨b, off + i * 4 + 2, none⟩ = some (.int .i64 l[i].n) ∧ w.cell? ⟨b, off + i * 4 + 3, none⟩ = some (.int .u8 (l[i].x.toNat : Int))

theorem umod_range (page m : Int) (hm : 0 < m ∧ m < 9223372036854775807) : 0 ≤ wrap64 ((IntKind.u64.wrap page).tmod m) ∧ wrap64 ((IntKind.u64.wrap page).tmod m) < m := by
  have h1 : 0 ≤ IntKind.u64.wrap page := by rw [IntKind.wrap_u64]; omega
  rw [Int.tmod_eq_emod_of_nonneg h1]
  have h2 := Int.emod_nonneg (IntKind.u64.wrap page) (show m ≠ 0 by omega)
  have h3 := Int.emod_lt_of_pos (IntKind.u64.wrap page) hm.1
  rw [IntWalk.wrap64_in _ (by omega)]
  exact ⟨h2, h3⟩

end Go.Proofs.Yteokbokgiejmpaa
