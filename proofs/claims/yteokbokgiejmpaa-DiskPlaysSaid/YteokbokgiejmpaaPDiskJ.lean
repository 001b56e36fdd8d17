/-
  An act on a disk, and on the document's.
-/
import Derived.Test.YteokbokgiejmpaaPDiskI
namespace Go.Proofs.Yteokbokgiejmpaa
open Go.RowKit Go.Tb Go.MapKept Go.ChangeMaps
set_option linter.unusedVariables false

/-- In the midst of an act. -/
structure Mid (P : Nat → Prop) (w : World) (b mp mc rb : Nat) (D : DS) (E : RD) (J : Nat → Prop) : Prop where
  dk : IsDisk w b mp mc D J
  rd : IsRD P w rb E
  pb : ¬ P b
  pm : ¬ P mp
  pc : ¬ P mc
  pi : ∀ k, J k → ¬ P k
theorem Two.mid {P : Nat → Prop} {w : World} {b mp mc rb : Nat} {D : DS} {E : RD} {I : Nat → Prop} {j : Nat} (h : Two P w b mp mc rb D E I j) : Mid P w b mp mc rb D E I := ⟨h.dk, h.rd, h.pb, h.pm, h.pc, h.pi⟩
theorem Mid.two {P : Nat → Prop} {w : World} {b mp mc rb : Nat} {D : DS} {E : RD} {I : Nat → Prop} {j : Nat} (h : Mid P w b mp mc rb D E I) (hr : RelD D E j) (hi : D.In) : Two P w b mp mc rb D E I j := ⟨h.dk, h.rd, hr, hi, h.pb, h.pm, h.pc, h.pi⟩
theorem Mid.grow {P : Nat → Prop} {w w' : World} {b mp mc rb : Nat} {D : DS} {E : RD} {J : Nat → Prop} (h : Mid P w b mp mc rb D E J) (hu : Upd (fun _ => False) w w') : Mid P w' b mp mc rb D E J :=
  { h with dk := h.dk.grow hu, rd := h.rd.grow hu }
theorem IsRD.lt {P : Nat → Prop} {w : World} {b : Nat} {E : RD} (h : IsRD P w b E) : ∀ k, P k → k < w.heap.size := by
  obtain ⟨_, _, _, _, h⟩ := h; exact h.lt
theorem Mid.own {P S : Nat → Prop} {w w' : World} {b mp mc rb : Nat} {D : DS} {E : RD} {J : Nat → Prop} (h : Mid P w b mp mc rb D E J) (hu : Upd S w w') (h1 : ¬ S b) (h2 : ¬ S mp) (h3 : ¬ S mc) (h4 : ∀ k, J k → ¬ S k) (h5 : ∀ k, P k → ¬ S k) : Mid P w' b mp mc rb D E J :=
  { h with dk := h.dk.upd hu h1 h2 h3 h4, rd := h.rd.upd hu h5 }
theorem Mid.dstep {P : Nat → Prop} {w w' : World} {b mp mc rb : Nat} {D D' : DS} {E : RD} {I : Nat → Prop} (h : Mid P w b mp mc rb D E I) (hs : DiskStep w w' b mp mc D' I) : ∃ J, Mid P w' b mp mc rb D' E J ∧ (∀ x, J x → I x ∨ w.heap.size ≤ x) ∧ Upd (fun k => k = b ∨ k = mp ∨ k = mc) w w' := by
  obtain ⟨⟨J, hd, hJ⟩, hu⟩ := hs
  refine ⟨J, ⟨hd, h.rd.upd hu (fun k hk e => ?_), h.pb, h.pm, h.pc, fun k hk hp => ?_⟩, hJ, hu⟩
  · rcases e with rfl | rfl | rfl
    · exact h.pb hk
    · exact h.pm hk
    · exact h.pc hk
  · rcases hJ k hk with q | q
    · exact h.pi k q hp
    · have := h.rd.lt k hp; omega
theorem Mid.rstep {P : Nat → Prop} {w w' : World} {b mp mc rb : Nat} {D : DS} {E E' : RD} {J : Nat → Prop} (h : Mid P w b mp mc rb D E J) (hu : Upd P w w') (hr : IsRD (PN P w w') w' rb E') : Mid (PN P w w') w' b mp mc rb D E' J :=
  { dk := h.dk.upd hu h.pb h.pm h.pc h.pi, rd := hr, pb := fun e => e.elim h.pb (fun e => by have := lt_of_heap h.dk.blk; omega), pm := fun e => e.elim h.pm (fun e => by have := h.dk.pg.lt; omega), pc := fun e => e.elim h.pc (fun e => by have := h.dk.ch.lt; omega), pi := fun k hk e => e.elim (h.pi k hk) (fun e => by have := h.dk.pg.bound k hk; omega) }

/-- What an act on the document's disk leaves. -/
def RDid (P : Nat → Prop) (rb : Nat) (D' : DS) (j : Nat) (w w' : World) : Prop := Upd P w w' ∧ ∃ E', IsRD (PN P w w') w' rb E' ∧ RelD D' E' j
theorem RDid.same {P : Nat → Prop} {rb : Nat} {D : DS} {E : RD} {j : Nat} {w : World} (h : IsRD P w rb E) (hr : RelD D E j) : RDid P rb D j w w := by
  obtain ⟨pv, cv, rows, cs, h⟩ := h
  exact ⟨Upd.refl _ _, E, ⟨pv, cv, rows, cs, h.wider (fun k hk => .inl hk) (fun k hk => by rcases hk with hk | hk; exact h.lt k hk; exact hk.2)⟩, hr⟩

theorem rwrite_pair {P : Nat → Prop} {rb : Nat} {D : DS} {E : RD} {j : Nat} {w : World} (h : IsRD P w rb E) (hr : RelD D E j) (hj : j ≤ 1000) (page : Int) (a : Option Addr) (c : Nat) (l : List UInt8) (hv : Bytes w (.slice a 256 c) l) (hl : l.length = 256) :
    Calls Try.prog 26 #[.pointer (some ⟨rb, 0, none⟩), .int .i64 page, .slice a 256 c] w fun e w' => e = .returned (.int .i64 (D.check page)) ∧ RDid P rb (if D.check page = 0 then D.write page l else D) (j + 1) w w' := by
  have hcl := hr.cl
  have hd1 := hr.d1
  by_cases hc : D.check page = 0
  · rw [if_pos hc, hc]
    refine (rwrite_ok P rb E page a c l w h ((hr.check page).trans hc) (by omega) hr.nd hv hl (by rw [hr.done]; exact hr.d0) (by rw [hr.done]; omega) (by rw [hr.fuse]; exact hr.f2)).mono fun e w' ⟨he, hu, c', hp, hrd⟩ => ⟨he, hu, _, hrd, hr.write (by omega) hc hp⟩
  · rw [if_neg hc]
    refine (rwrite_no P rb E page _ w h (by rw [hr.check page]; exact hc)).mono fun e w' ⟨he, hw⟩ => ?_
    subst hw
    rw [hr.check page] at he
    exact ⟨he, RDid.same h (hr.more (Nat.le_succ _))⟩

theorem rsync_pair {P : Nat → Prop} {rb : Nat} {D : DS} {E : RD} {j : Nat} {w : World} (h : IsRD P w rb E) (hr : RelD D E j) (hj : j ≤ 1000) :
    Calls Try.prog 28 #[.pointer (some ⟨rb, 0, none⟩)] w fun e w' => e = .returned (.int .i64 D.syncE) ∧ RDid P rb D.synced (j + 1) w w' := by
  have hcl := hr.cl
  have hd1 := hr.d1
  unfold DS.syncE DS.synced
  by_cases hd : D.dead = true
  · rw [if_pos hd, if_pos hd]
    refine (rsync_dead P rb E w h (by rw [hr.dead]; exact hd)).mono fun e w' ⟨he, hw⟩ => ?_
    subst hw
    exact ⟨he, RDid.same h (hr.more (Nat.le_succ _))⟩
  · have hd' : D.dead = false := by simpa using hd
    rw [if_neg hd, if_neg hd]
    refine (rsync_ok P rb E w h (by rw [hr.dead]; exact hd') (by omega) hr.nd hr.inn (by rw [hr.done]; exact hr.d0) (by rw [hr.done]; omega) (by rw [hr.fuse]; exact hr.f2)).mono fun e w' ⟨he, hu, pg, hp, hrd⟩ => ⟨he, hu, _, hrd, hr.sync (by omega) hd' hp⟩

theorem rset_pair {P : Nat → Prop} {rb : Nat} {D : DS} {E : RD} {j : Nat} {w : World} (h : IsRD P w rb E) (hr : RelD D E j) (n : Int) (hn : n ≤ 9223372036854775807) :
    Calls Try.prog 29 #[.pointer (some ⟨rb, 0, none⟩), .int .i64 n] w fun e w' => e = .returned (.tuple #[]) ∧ RDid P rb (D.setFuse n) (j + 1) w w' := by
  obtain ⟨pv, cv, rows, cs, h⟩ := h
  refine (rset_calls P rb E n w pv cv rows cs h).mono fun e w' ⟨he, hrd, hu⟩ => ⟨he, hu.mono (fun k _ e => by rw [e]; exact h.pb), _, ⟨pv, cv, rows, cs, hrd.wider (fun k hk => .inl hk) (fun k hk => by rcases hk with hk | hk; exact hrd.lt k hk; exact hk.2)⟩, (hr.set n hn).more (Nat.le_succ _)⟩

theorem rcrash_pair {P : Nat → Prop} {rb : Nat} {D : DS} {E : RD} {j : Nat} {w : World} (h : IsRD P w rb E) (hr : RelD D E j) (hj : j ≤ 1000) (ks : List (Int × Int)) (a1 a2 : Option Addr) (c1 c2 : Nat) (hk1 : Sl ienc w (.slice a1 ks.length c1) (ks.map Prod.fst)) (hk2 : Sl ienc w (.slice a2 ks.length c2) (ks.map Prod.snd)) (hkP1 : ∀ k, sliceBlock (.slice a1 ks.length c1) = some k → ¬ P k) (hkP2 : ∀ k, sliceBlock (.slice a2 ks.length c2) = some k → ¬ P k) (hkl : ks.length ≤ 1000)
    (hz : ∀ k : Nat, k < E.pages.length → ((D.pages k).getD zeros).length = 256) (hl : ∀ k l, D.cache k = some l → l.length = 256) :
    Calls Try.prog 30 #[.pointer (some ⟨rb, 0, none⟩), .slice a1 ks.length c1, .slice a2 ks.length c2] w fun e w' => e = .returned (.tuple #[]) ∧ RDid P rb (D.crash ks) (j + 1) w w' := by
  have hcl := hr.cl
  refine (rcrash_calls P rb E ks a1 a2 c1 c2 w h hk1 hk2 hkP1 hkP2 hkl (by omega) hr.nd hr.inn).mono fun e w' ⟨he, hu, pg, hp, hrd⟩ => ⟨he, hu, _, hrd, (hr.crash ks hp hz hl).more (Nat.le_succ _)⟩

end Go.Proofs.Yteokbokgiejmpaa
