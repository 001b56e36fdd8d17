/-
  The list beside the document's: what both show.
-/
import Derived.Test.YtdobijomdgepjaaRefG
namespace Go.Proofs.Ytdobijomdgepjaa
open Go.RowKit Go.Tb Go.MapKept Go.ChangeMaps
set_option linter.unusedVariables false

/-- What the law knows of both lists. -/
structure PlaysAt (w : World) (b br g : Nat) (L : LS) (wr : World) : Prop where
  x : ∃ vs vh J, IsList wr b vs vh L J ∧ ¬ J br ∧ ¬ J g
  r : IsRef wr br g (signs L)
  d : Dj L
  n1 : b ≠ br
  n2 : b ≠ g
  g1 : w.heap.size ≤ b
  g2 : w.heap.size ≤ br
  g3 : w.heap.size ≤ g
  u : Upd (fun _ => False) w wr

theorem PlaysAt.upd {w wr w' : World} {b br g : Nat} {L : LS} {S : Nat → Prop} (q : PlaysAt w b br g L wr) (hu : Upd S wr w') (hb : ¬ S b) (hr : ¬ S br) (hg : ¬ S g) (hJ : ∀ vs vh J, IsList wr b vs vh L J → ∀ x, J x → ¬ S x) (hw : ∀ x, x < w.heap.size → ¬ S x) : PlaysAt w b br g L w' := by
  obtain ⟨vs, vh, J, h1, h2, h3⟩ := q.x
  exact { q with x := ⟨vs, vh, J, h1.upd hu hb (hJ _ _ _ h1), h2, h3⟩, r := q.r.upd hu hr hg, u := q.u.trans' hu (fun x hx e => hw x hx e) }
theorem PlaysAt.grow {w wr w' : World} {b br g : Nat} {L : LS} (q : PlaysAt w b br g L wr) (hu : Upd (fun _ => False) wr w') : PlaysAt w b br g L w' :=
  q.upd hu (fun x => x) (fun x => x) (fun x => x) (fun _ _ _ _ _ _ x => x) (fun _ _ x => x)

/-- The list was called. -/
theorem PlaysAt.stepL {w wr w6 : World} {b br g : Nat} {L L' : LS} {J : Nat → Prop} (q : PlaysAt w b br g L wr) (h2 : ¬ J br) (h3 : ¬ J g) (hs : ListStep wr w6 b L' J) :
    (∃ vs vh J, IsList w6 b vs vh L' J ∧ ¬ J br ∧ ¬ J g) ∧ IsRef w6 br g (signs L) ∧ Upd (fun _ => False) w w6 := by
  obtain ⟨⟨vs2, vh2, J2, hd, hJ⟩, hu⟩ := hs
  have l1 := lt_of_heap q.r.blk
  have l2 := lt_of_heap q.r.row
  exact ⟨⟨vs2, vh2, J2, hd, fun h => (hJ _ h).elim h2 (fun h => by omega), fun h => (hJ _ h).elim h3 (fun h => by omega)⟩, q.r.upd hu (fun e => q.n1 e.symm) (fun e => q.n2 e.symm), q.u.trans' hu (fun x hx e => by have := q.g1; omega)⟩
/-- .. and then the document's. -/
theorem PlaysAt.stepR {w wr w6 w7 : World} {b br g : Nat} {L L' : LS} (q : PlaysAt w b br g L wr) (hx : ∃ vs vh J, IsList w6 b vs vh L' J ∧ ¬ J br ∧ ¬ J g) (hu6 : Upd (fun _ => False) w w6) (hd : Dj L') (hr : IsRef w7 br g (signs L')) (hu7 : Upd (fun k => k = g) w6 w7) : PlaysAt w b br g L' w7 := by
  obtain ⟨vs, vh, J, h1, h2, h3⟩ := hx
  exact { q with x := ⟨vs, vh, J, h1.upd hu7 q.n2 (fun k hk e => h3 (e ▸ hk)), h2, h3⟩, r := hr, d := hd, u := hu6.trans' hu7 (fun x hx e => by have := q.g3; omega) }

theorem PlaysAt.room {w wr w' : World} {b br g : Nat} {L : LS} (q : PlaysAt w b br g L wr) (hu : Upd (fun _ => False) wr w') : Calls Try.prog 11 #[.pointer (some ⟨b, 0, none⟩)] w' fun e w2 => e = .returned (.int .i64 (L.spare.length : Nat)) ∧ w' = w2 := by
  obtain ⟨vs, vh, J, h1, h2, h3⟩ := q.x
  exact (room_calls b vs vh L J w' (h1.grow hu)).mono fun _ _ h => ⟨h.1, h.2.symm⟩
theorem PlaysAt.spare {w wr w' : World} {b br g : Nat} {L : LS} (q : PlaysAt w b br g L wr) (hu : Upd (fun _ => False) wr w') : Calls Try.prog 14 #[.pointer (some ⟨b, 0, none⟩)] w' fun e w2 => ∃ a c, e = .returned (.slice a L.spare.length c) ∧ Sl ienc w2 (.slice a L.spare.length c) L.spare ∧ Upd (fun _ => False) w' w2 := by
  obtain ⟨vs, vh, J, h1, h2, h3⟩ := q.x
  refine (spare_calls b vs vh L J w' (h1.grow hu)).mono ?_
  rintro e w2 ⟨v, rfl, hv, _, hu⟩
  obtain ⟨a, c, rfl, _⟩ := hv.shape
  exact ⟨a, c, rfl, hv, hu⟩
theorem PlaysAt.heldc {w wr w' : World} {b br g : Nat} {L : LS} (q : PlaysAt w b br g L wr) (hu : Upd (fun _ => False) wr w') : Calls Try.prog 17 #[.pointer (some ⟨b, 0, none⟩)] w' fun e w2 => ∃ a c, e = .returned (.slice a L.held.length c) ∧ Sl ienc w2 (.slice a L.held.length c) L.held ∧ Upd (fun _ => False) w' w2 := by
  obtain ⟨vs, vh, J, h1, h2, h3⟩ := q.x
  refine (held_calls b vs vh L J w' (h1.grow hu)).mono ?_
  rintro e w2 ⟨v, rfl, hv, _, hu⟩
  obtain ⟨a, c, rfl, _⟩ := hv.shape
  exact ⟨a, c, rfl, hv, hu⟩
theorem PlaysAt.ok {w wr : World} {b br g : Nat} {L : LS} (q : PlaysAt w b br g L wr) : L.Ok := by
  obtain ⟨vs, vh, J, h1, h2, h3⟩ := q.x
  exact h1.ok
theorem PlaysAt.len {w wr : World} {b br g : Nat} {L : LS} (q : PlaysAt w b br g L wr) : (signs L).length ≤ 1024 := by
  have := q.ok
  rw [signs_length]; have := this.s2; omega
theorem PlaysAt.all1 {w wr w' : World} {b br g : Nat} {L : LS} (q : PlaysAt w b br g L wr) (hu : Upd (fun _ => False) wr w') : Calls Try.prog 23 #[.pointer (some ⟨br, 0, none⟩), .int .i64 1] w' fun e w2 => ∃ a c, e = .returned (.slice a L.spare.length c) ∧ Sl ienc w2 (.slice a L.spare.length c) L.spare ∧ Upd (fun _ => False) w' w2 := by
  refine (rall_calls br g L 1 _ w' rfl (q.r.upd hu (fun x => x) (fun x => x)) q.len).mono ?_
  rintro e w2 ⟨v, rfl, hv, _, hu⟩
  rw [signs_length, all_spare q.ok] at hv
  obtain ⟨a, c, rfl, _⟩ := hv.shape
  exact ⟨a, c, rfl, hv, hu⟩
theorem PlaysAt.all2 {w wr w' : World} {b br g : Nat} {L : LS} (q : PlaysAt w b br g L wr) (hu : Upd (fun _ => False) wr w') : Calls Try.prog 23 #[.pointer (some ⟨br, 0, none⟩), .int .i64 2] w' fun e w2 => ∃ a c, e = .returned (.slice a L.held.length c) ∧ Sl ienc w2 (.slice a L.held.length c) L.held ∧ Upd (fun _ => False) w' w2 := by
  refine (rall_calls br g L 2 _ w' rfl (q.r.upd hu (fun x => x) (fun x => x)) q.len).mono ?_
  rintro e w2 ⟨v, rfl, hv, _, hu⟩
  rw [signs_length, all_held q.ok q.d] at hv
  obtain ⟨a, c, rfl, _⟩ := hv.shape
  exact ⟨a, c, rfl, hv, hu⟩

/-- The document's Take. -/
theorem rtake_like {L : LS} {b g : Nat} {e : Ending} {w' : World} (hok : L.Ok) (hd : Dj L) (h : RTakes (signs L) b g e w') : e = .returned L.takes ∧ IsRef w' b g (signs L.take) := by
  have hmem : ∀ (i : Nat) (hi : i < (signs L).length), (signs L)[i] = 1 ↔ (i : Int) ∈ L.spare := fun i hi => by
    rw [signs_get]
    constructor
    · intro h1
      by_cases q : (i : Int) ∈ L.spare
      · exact q
      · by_cases q2 : (i : Int) ∈ L.held
        · rw [signOf_held q q2] at h1; cases h1
        · rw [signOf_zero q q2] at h1; cases h1
    · exact signOf_spare
  have hin : ∀ x ∈ L.spare, ∃ i : Nat, x = (i : Int) ∧ i < (signs L).length := fun x hx => by
    have := hok.rs x hx
    refine ⟨x.toNat, by omega, ?_⟩
    rw [signs_length]; omega
  rcases h with ⟨i, hi, h1, hno, rfl, hr⟩ | ⟨hno, rfl, hr⟩
  · have hx := (hmem i hi).1 h1
    have hss := hok.ss
    cases hs : L.spare with
    | nil => rw [hs] at hx; cases hx
    | cons x r =>
      rw [hs] at hx hss
      obtain ⟨p1, p2⟩ := List.pairwise_cons.1 hss
      have hxi : x = (i : Int) := by
        rcases List.mem_cons.1 hx with e | e
        · exact e.symm
        · have hlt := p1 _ e
          obtain ⟨j, hj, hjl⟩ := hin x (by rw [hs]; exact .head _)
          have := hno j hjl (by omega)
          exact absurd ((hmem j hjl).2 (by rw [← hj, hs]; exact .head _)) this
      subst hxi
      refine ⟨by unfold LS.takes; rw [hs]; rfl, ?_⟩
      have e : (signs L).set i 0 = signs L.take := by
        apply signs_ext
        · rw [List.length_set, signs_length]; rfl
        · intro j hj
          have hsp : L.take.spare = r := by unfold LS.take; rw [hs]; rfl
          have hh : L.take.held = L.held := rfl
          by_cases e : j = i
          · subst e
            rw [List.getElem_set_self, signOf_zero]
            · rw [hsp]; intro q; have := p1 _ q; omega
            · rw [hh]; exact hd _ (by rw [hs]; exact .head _)
          · rw [List.getElem_set_ne (fun q => e q.symm), signs_get]
            unfold signOf
            rw [hsp, hh, hs]
            have : (j : Int) ≠ (i : Int) := by omega
            simp [this]
      rw [← e]; exact hr
  · have hs : L.spare = [] := by
      cases hs : L.spare with
      | nil => rfl
      | cons x r =>
        obtain ⟨j, hj, hjl⟩ := hin x (by rw [hs]; exact .head _)
        exact absurd ((hmem j hjl).2 (by rw [← hj, hs]; exact .head _)) (hno j hjl)
    refine ⟨by unfold LS.takes; rw [hs]; rfl, ?_⟩
    have e : L.take = L := by unfold LS.take; rw [hs, List.drop_nil, ← hs]
    rw [e]; exact hr

end Go.Proofs.Ytdobijomdgepjaa
