/-
  Two hubs beside each other.
-/
import Derived.Test.YtidpiojanajpoaaHubI
namespace Go.Proofs.Ytidpiojanajpoaa
open Go.RowKit Go.Tb Go.MapKept Go.ChangeMaps
set_option linter.unusedVariables false

/-- Two hubs, none of whose blocks was there in `w`, nor is in F. -/
def Two (w wr : World) (ba ma bb mb : Nat) (Ha Hb : Hub) (F : Nat → Prop) : Prop :=
  ∃ oa Pa ob Pb, IsHub wr ba ma oa Pa Ha ∧ IsHub wr bb mb ob Pb Hb ∧ Apart oa ob ∧ (∀ q, oa q ≠ .no → w.heap.size ≤ q) ∧ (∀ q, ob q ≠ .no → w.heap.size ≤ q) ∧ (∀ q, F q → oa q = .no ∧ ob q = .no ∧ q < wr.heap.size) ∧ Upd (fun _ => False) w wr
theorem Two.swap {w wr : World} {ba ma bb mb : Nat} {Ha Hb : Hub} {F : Nat → Prop} (h : Two w wr ba ma bb mb Ha Hb F) : Two w wr bb mb ba ma Hb Ha F := by
  obtain ⟨oa, Pa, ob, Pb, h1, h2, h3, h4, h5, h6, h7⟩ := h
  exact ⟨ob, Pb, oa, Pa, h2, h1, h3.symm, h5, h4, fun q hq => ⟨(h6 q hq).2.1, (h6 q hq).1, (h6 q hq).2.2⟩, h7⟩
theorem Two.grow {w wr w' : World} {ba ma bb mb : Nat} {Ha Hb : Hub} {F : Nat → Prop} (h : Two w wr ba ma bb mb Ha Hb F) (hu : Upd (fun _ => False) wr w') : Two w w' ba ma bb mb Ha Hb F := by
  obtain ⟨oa, Pa, ob, Pb, h1, h2, h3, h4, h5, h6, h7⟩ := h
  exact ⟨oa, Pa, ob, Pb, h1.grow hu, h2.grow hu, h3, h4, h5, fun q hq => ⟨(h6 q hq).1, (h6 q hq).2.1, Nat.lt_of_lt_of_le (h6 q hq).2.2 hu.size⟩, h7.trans hu⟩
theorem Two.upd {w wr : World} {ba ma bb mb : Nat} {Ha Hb : Hub} {F : Nat → Prop} (h : Two w wr ba ma bb mb Ha Hb F) : Upd (fun _ => False) w wr := by
  obtain ⟨oa, Pa, ob, Pb, h1, h2, h3, h4, h5, h6, h7⟩ := h
  exact h7
theorem Two.free {w wr : World} {ba ma bb mb : Nat} {Ha Hb : Hub} {F G : Nat → Prop} (h : Two w wr ba ma bb mb Ha Hb F) (hg : ∀ q, G q → F q) : Two w wr ba ma bb mb Ha Hb G := by
  obtain ⟨oa, Pa, ob, Pb, h1, h2, h3, h4, h5, h6, h7⟩ := h
  exact ⟨oa, Pa, ob, Pb, h1, h2, h3, h4, h5, fun q hq => h6 q (hg q hq), h7⟩

/-- What is new is free. -/
theorem Two.fresh {w wr w' : World} {ba ma bb mb : Nat} {Ha Hb : Hub} {F : Nat → Prop} (h : Two w wr ba ma bb mb Ha Hb F) (hu : Upd (fun _ => False) wr w') : Two w w' ba ma bb mb Ha Hb (fun k => F k ∨ (wr.heap.size ≤ k ∧ k < w'.heap.size)) := by
  obtain ⟨oa, Pa, ob, Pb, h1, h2, h3, h4, h5, h6, h7⟩ := h
  have hno : ∀ {b m : Nat} {o : Nat → Tg} {P : Int → Option WrP} {H : Hub}, IsHub wr b m o P H → ∀ q, wr.heap.size ≤ q → o q = .no := fun h q hq => by
    rename_i o _ _
    cases e : o q with
    | no => rfl
    | _ => exact absurd (h.lt q (by rw [e]; simp)) (by omega)
  refine ⟨oa, Pa, ob, Pb, h1.grow hu, h2.grow hu, h3, h4, h5, fun q hq => ?_, h7.trans hu⟩
  rcases hq with hq | hq
  · exact ⟨(h6 q hq).1, (h6 q hq).2.1, Nat.lt_of_lt_of_le (h6 q hq).2.2 hu.size⟩
  · exact ⟨hno h1 q hq.1, hno h2 q hq.1, hq.2⟩
/-- What is free is written. -/
theorem Two.touch {w wr w' : World} {ba ma bb mb : Nat} {Ha Hb : Hub} {F S : Nat → Prop} (h : Two w wr ba ma bb mb Ha Hb F) (hu : Upd S wr w') (hS : ∀ k, S k → F k ∧ w.heap.size ≤ k) : Two w w' ba ma bb mb Ha Hb F := by
  obtain ⟨oa, Pa, ob, Pb, h1, h2, h3, h4, h5, h6, h7⟩ := h
  exact ⟨oa, Pa, ob, Pb, h1.upd hu (fun k hk s => hk (h6 k (hS k s).1).1), h2.upd hu (fun k hk s => hk (h6 k (hS k s).1).2.1), h3, h4, h5, fun q hq => ⟨(h6 q hq).1, (h6 q hq).2.1, Nat.lt_of_lt_of_le (h6 q hq).2.2 hu.size⟩, h7.trans' hu (fun q hq e => by have := (hS q e).2; omega)⟩

/-- A step of the first. -/
theorem Two.step {w wr w' : World} {ba ma bb mb : Nat} {Ha Hb Ha' : Hub} {F : Nat → Prop} {oa oa' ob : Nat → Tg} {Pa Pa' Pb : Int → Option WrP} (h1 : IsHub wr ba ma oa Pa Ha) (h2 : IsHub wr bb mb ob Pb Hb) (h3 : Apart oa ob) (h4 : ∀ q, oa q ≠ .no → w.heap.size ≤ q) (h5 : ∀ q, ob q ≠ .no → w.heap.size ≤ q)
    (h6 : ∀ q, F q → oa q = .no ∧ ob q = .no ∧ q < wr.heap.size) (h7 : Upd (fun _ => False) w wr) (g1 : IsHub w' ba ma oa' Pa' Ha') (g2 : ∀ k, k < wr.heap.size → oa' k = oa k) (g3 : Upd (fun k => oa k ≠ .no) wr w') : Two w w' ba ma bb mb Ha' Hb F ∧ Upd (fun k => ¬ F k) wr w' := by
  refine ⟨⟨oa', Pa', ob, Pb, g1, h2.other h3 g3, h3.step h2 g2, fun q hq => ?_, h5, fun q hq => ⟨by rw [g2 q (h6 q hq).2.2]; exact (h6 q hq).1, (h6 q hq).2.1, Nat.lt_of_lt_of_le (h6 q hq).2.2 g3.size⟩, h7.trans' g3 (fun q hq e => by have := h4 q e; omega)⟩, g3.mono (fun q _ e hf => e (h6 q hf).1)⟩
  by_cases hlt : q < wr.heap.size
  · exact h4 q (by rw [← g2 q hlt]; exact hq)
  · have := h7.size; omega

def okW (x : Wt) : Bool := decide (0 ≤ x.start) && decide (x.start ≤ 4611686018427387904)
def createH (H : Hub) (x : Wt) : Hub := if okW x then H.more x else H
def createZ (H : Hub) (x : Wt) : Int := if okW x then H.last + 1 else 0
def createG (x : Wt) : Int := if okW x then 0 else 1

theorem two_create (w wr : World) (ba ma bb mb : Nat) (Ha Hb : Hub) (F : Nat → Prop) (h : Two w wr ba ma bb mb Ha Hb F) (kv ev : Value) (x : Wt) (hk : Bytes w kv x.key) (he : Bytes w ev x.end_) (l1 : x.key.length ≤ 140737488355328) (l2 : x.end_.length ≤ 140737488355328)
    (r0 : 0 ≤ Ha.rev) (r1 : Ha.rev ≤ 4611686018427387904) (t0 : 0 ≤ Ha.last) (t1 : Ha.last ≤ 4611686018427387904) (hn : Ha.n < 16) (hf : Ha.f (Ha.last + 1) = none) :
    Calls Try.prog 9 #[.pointer (some ⟨ba, 0, none⟩), .agg (wcells kv ev x), .int .i64 0] wr fun e w' => e = .returned (.tuple #[.int .i64 (createZ Ha x), .int .i64 (createG x)]) ∧ Two w w' ba ma bb mb (createH Ha x) Hb F := by
  obtain ⟨oa, Pa, ob, Pb, h1, h2, h3, h4, h5, h6, h7⟩ := h
  by_cases hok : okW x = true
  · simp only [okW, Bool.and_eq_true, decide_eq_true_eq] at hok
    have hok' : okW x = true := by simp only [okW, Bool.and_eq_true, decide_eq_true_eq]; exact hok
    refine (create_ok ba ma oa Pa Ha kv ev x 0 wr h1 r0 r1 t0 t1 hok.1 hok.2 hn (by unfold nextOf; split <;> omega) hf (hk.upd h7 (fun _ _ x => x)) (he.upd h7 (fun _ _ x => x)) l1 l2).mono fun e w' ⟨h, ⟨oa', Pa', g1, g2⟩, g3⟩ => ?_
    refine ⟨by rw [h]; unfold createZ createG; rw [if_pos hok', if_pos hok'], ?_⟩
    unfold createH
    rw [if_pos hok']
    exact (Two.step h1 h2 h3 h4 h5 h6 h7 g1 g2 g3).1
  · have hx : x.start < 0 ∨ 4611686018427387904 < x.start := by
      simp only [okW, Bool.and_eq_true, decide_eq_true_eq] at hok; omega
    refine (create_bad ba ma oa Pa Ha kv ev x 0 wr h1 hx).mono fun e w' ⟨h, hu⟩ => ?_
    refine ⟨by rw [h]; unfold createZ createG; rw [if_neg hok, if_neg hok], ?_⟩
    unfold createH
    rw [if_neg hok]
    exact Two.grow ⟨oa, Pa, ob, Pb, h1, h2, h3, h4, h5, h6, h7⟩ hu

theorem two_notify (w w0 w1 : World) (ba ma bb mb : Nat) (Ha Hb : Hub) (F : Nat → Prop) (h : Two w w0 ba ma bb mb Ha Hb F) (hu : Upd (fun _ => False) w0 w1) (rev : Int) (a : Option Addr) (c : Nat) (ps : List EvP) (J : Nat → Prop) (hr : EvRow w1 w0.heap.size J (.slice a ps.length c) ps) (hs : ∀ p ∈ ps, p.x.Small) (hok : HOk Ha) (hn : ps.length ≤ 100000) (h9 : rev = Ha.rev + 1) (h10 : rev ≤ 4611686018427387904) (hall : allMod rev (ps.map EvP.x) = true) (N : Nat) (hi : HInv N Ha) (hN : N ≤ 100000) :
    Calls Try.prog 11 #[.pointer (some ⟨ba, 0, none⟩), .int .i64 rev, .slice a ps.length c] w1 fun e w' => e = .returned (.int .i64 0) ∧ Two w w' ba ma bb mb (Ha.notified rev (ps.map EvP.x)) Hb F := by
  obtain ⟨oa, Pa, ob, Pb, h1, h2, h3, h4, h5, h6, h7⟩ := h
  have hno : ∀ q, w0.heap.size ≤ q → oa q = .no := fun q hq => by
    cases e : oa q with
    | no => rfl
    | _ => exact absurd (h1.lt q (by rw [e]; simp)) (by omega)
  refine (notify_ok ba ma oa Pa Ha rev a c ps J w1 (h1.grow hu) hok hr.evs (fun q hq => ⟨hno q (hr.ge q hq).1, (hr.ge q hq).2⟩) (fun q hq => hno q (hr.blk q hq).1) hs (by omega) h9 h10 hall (fun i x hx => by have := (hi i x hx).2; omega)).mono fun e w' ⟨he, oa', Pa', g1, g2, g3⟩ => ?_
  exact ⟨he, (Two.step (h1.grow hu) (h2.grow hu) h3 h4 h5 (fun q hq => ⟨(h6 q hq).1, (h6 q hq).2.1, Nat.lt_of_lt_of_le (h6 q hq).2.2 hu.size⟩) (h7.trans hu) g1 g2 g3).1⟩

theorem two_drain (w wr : World) (ba ma bb mb : Nat) (Ha Hb : Hub) (F : Nat → Prop) (h : Two w wr ba ma bb mb Ha Hb F) (i : Int) (N : Nat) (hi : HInv N Ha) (hN : N ≤ 100000) :
    Calls Try.prog 13 #[.pointer (some ⟨ba, 0, none⟩), .int .i64 i] wr fun e w' => ∃ a c rs J, e = .returned (.tuple #[.agg #[.int .i64 (if drainOk Ha i then i else 0), .slice a rs.length c, .bool false, .int .i64 0, .bool false, .int .i64 0], .bool (drainOk Ha i)]) ∧ rs.map EvP.x = drainE Ha i ∧
      Two w w' ba ma bb mb (drainH Ha i) Hb (fun k => F k ∨ J k ∨ sliceBlock (.slice a rs.length c) = some k) ∧ Evs w' J (.slice a rs.length c) rs ∧ (∀ k, J k ∨ sliceBlock (.slice a rs.length c) = some k → wr.heap.size ≤ k ∧ k < w'.heap.size) ∧ Upd (fun k => ¬ F k) wr w' := by
  obtain ⟨oa, Pa, ob, Pb, h1, h2, h3, h4, h5, h6, h7⟩ := h
  refine (drain_any ba ma oa Pa Ha i N wr h1 hi (by omega)).mono fun e w' hd => ?_
  obtain ⟨a, c, rs, J, oa', Pa', he, hx, g1, g2, g4, g5, g3⟩ := hd
  obtain ⟨⟨oa2, Pa2, ob2, Pb2, k1, k2, k3, k4, k5, k6, k7⟩, k8⟩ := Two.step h1 h2 h3 h4 h5 h6 h7 g1 g2 g3
  refine ⟨a, c, rs, J, he, hx, ?_, g4.evs, fun q hq => hq.elim (fun hq => g4.ge q hq) (fun hq => g4.blk q hq), k8⟩
  refine ⟨oa', Pa', ob, Pb, g1, h2.other h3 g3, h3.step h2 g2, fun q hq => ?_, h5, fun q hq => ?_, k7⟩
  · by_cases hlt : q < wr.heap.size
    · exact h4 q (by rw [← g2 q hlt]; exact hq)
    · have := h7.size; omega
  · rcases hq with hq | hq
    · exact ⟨by rw [g2 q (h6 q hq).2.2]; exact (h6 q hq).1, (h6 q hq).2.1, Nat.lt_of_lt_of_le (h6 q hq).2.2 g3.size⟩
    · have hb : wr.heap.size ≤ q ∧ q < w'.heap.size := hq.elim (fun hq => g4.ge q hq) (fun hq => g4.blk q hq)
      refine ⟨g5 q hq, ?_, hb.2⟩
      cases e : ob q with
      | no => rfl
      | _ => exact absurd (h2.lt q (by rw [e]; simp)) (by omega)

theorem two_synced (w wr : World) (ba ma bb mb : Nat) (Ha Hb : Hub) (F : Nat → Prop) (h : Two w wr ba ma bb mb Ha Hb F) (i : Int) :
    Calls Try.prog 15 #[.pointer (some ⟨ba, 0, none⟩), .int .i64 i] wr fun e w' => e = .returned (.bool (syncedB Ha i)) ∧ Two w w' ba ma bb mb Ha Hb F := by
  have h' := h
  obtain ⟨oa, Pa, ob, Pb, h1, h2, h3, h4, h5, h6, h7⟩ := h
  exact (synced_calls ba ma oa Pa Ha i wr h1).mono fun e w' ⟨he, hu⟩ => ⟨he, h'.grow hu⟩
theorem two_pending (w wr : World) (ba ma bb mb : Nat) (Ha Hb : Hub) (F : Nat → Prop) (h : Two w wr ba ma bb mb Ha Hb F) (i : Int) :
    Calls Try.prog 16 #[.pointer (some ⟨ba, 0, none⟩), .int .i64 i] wr fun e w' => e = .returned (.int .i64 (pendN Ha i : Nat)) ∧ wr = w' := by
  obtain ⟨oa, Pa, ob, Pb, h1, h2, h3, h4, h5, h6, h7⟩ := h
  exact pending_calls ba ma oa Pa Ha i wr h1

end Go.Proofs.Ytidpiojanajpoaa
