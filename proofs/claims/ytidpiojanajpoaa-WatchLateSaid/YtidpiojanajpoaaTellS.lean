/-
  One hub, and what a law keeps beside it.
-/
import Derived.Test.YtidpiojanajpoaaFeedD
import Derived.Test.YtidpiojanajpoaaHubG
import Derived.Test.YtidpiojanajpoaaHubH
import Derived.Test.YtidpiojanajpoaaTellP
namespace Go.Proofs.Ytidpiojanajpoaa
open Go.RowKit Go.Tb Go.MapKept Go.ChangeMaps
set_option linter.unusedVariables false

/-- Whose a block of the law's own is. -/
inductive LTg where
  | no | wb | by_ | al | to (i : Nat) | tb (i : Nat) | lb (i : Nat)
deriving DecidableEq
/-- A list of what was told, and where it lies. -/
structure TP where
  tb : Nat
  lb : Nat
  v : Value
  ts : List EvP
  last : Int
structure TOk (wr : World) (base : Nat) (lo : Nat → LTg) (i : Nat) (t : TP) : Prop where
  row : EvSh wr base (fun k => lo k = .by_) t.v t.ts
  rb : ∀ k, sliceBlock t.v = some k → lo k = .to i
  tbox : wr.heap[t.tb]? = some (.cells #[t.v] 32 (0, 0))
  lbox : wr.heap[t.lb]? = some (.cells #[.int .i64 t.last] 2 (0, 0))
  ot : lo t.tb = .tb i
  ol : lo t.lb = .lb i
structure Law (w wr : World) (b m : Nat) (H : Hub) (lo : Nat → LTg) (va : Value) (as_ : List EvP) (wk : Nat) (wv : Array Value) (T : Nat → TP) (N : Nat) : Prop where
  hub : ∃ o P, IsHub wr b m o P H ∧ (∀ q, o q ≠ .no → w.heap.size ≤ q) ∧ ∀ q, lo q ≠ .no → o q = .no
  lt : ∀ q, lo q ≠ .no → w.heap.size ≤ q ∧ q < wr.heap.size
  all : EvSh wr w.heap.size (fun k => lo k = .by_) va as_
  ab : ∀ k, sliceBlock va = some k → lo k = .al
  wbox : wr.heap[wk]? = some (.cells wv 24 (0, 0))
  ow : lo wk = .wb
  tt : ∀ i, i < N → TOk wr w.heap.size lo i (T i)
  u : Upd (fun _ => False) w wr

theorem TOk.upd {wr w' : World} {base : Nat} {lo : Nat → LTg} {i : Nat} {t : TP} {S : Nat → Prop} (h : TOk wr base lo i t) (hu : Upd S wr w') (hS : ∀ k, S k → lo k ≠ .by_ ∧ lo k ≠ .to i ∧ lo k ≠ .tb i ∧ lo k ≠ .lb i) : TOk w' base lo i t where
  row := h.row.upd hu (fun k hk s => (hS k s).2.1 (h.rb k hk)) (fun k hk s => (hS k s).1 hk)
  rb := h.rb
  tbox := hu.heap h.tbox (fun s => (hS _ s).2.2.1 h.ot)
  lbox := hu.heap h.lbox (fun s => (hS _ s).2.2.2 h.ol)
  ot := h.ot
  ol := h.ol
/-- New blocks may get tags. -/
theorem EvSh.tag {wr : World} {base : Nat} {lo lo' : Nat → LTg} {v : Value} {rs : List EvP} (h : EvSh wr base (fun k => lo k = .by_) v rs) {g : LTg} (hg : g ≠ .by_) (hv : ∀ k, sliceBlock v = some k → lo k = g) {n : Nat} (hn : wr.heap.size = n) (ho : ∀ k, k < n → lo' k = lo k) (hlt : ∀ k, lo k ≠ .no → k < n) : EvSh wr base (fun k => lo' k = .by_) v rs := by
  refine h.wider (fun k hk => ?_) (fun k hk => ?_)
  · rw [ho k (hlt k (by rw [hk]; simp))]; exact hk
  · rw [ho k (by rw [← hn]; exact (h.blk k hk).2), hv k hk]; exact hg
theorem TOk.tag {wr : World} {base : Nat} {lo lo' : Nat → LTg} {i : Nat} {t : TP} (h : TOk wr base lo i t) {n : Nat} (hn : wr.heap.size = n) (ho : ∀ k, k < n → lo' k = lo k) (hlt : ∀ k, lo k ≠ .no → k < n) : TOk wr base lo' i t where
  row := h.row.tag (by simp) h.rb hn ho hlt
  rb := fun k hk => by rw [ho k (by rw [← hn]; exact (h.row.blk k hk).2)]; exact h.rb k hk
  tbox := h.tbox
  lbox := h.lbox
  ot := by rw [ho _ (by rw [← hn]; exact lt_of_heap h.tbox)]; exact h.ot
  ol := by rw [ho _ (by rw [← hn]; exact lt_of_heap h.lbox)]; exact h.ol

section
variable {w wr w' : World} {b m : Nat} {H H' : Hub} {lo : Nat → LTg} {va : Value} {as_ : List EvP} {wk : Nat} {wv : Array Value} {T : Nat → TP} {N : Nat}

theorem Law.grow (h : Law w wr b m H lo va as_ wk wv T N) (hu : Upd (fun _ => False) wr w') : Law w w' b m H lo va as_ wk wv T N := by
  obtain ⟨o, P, h1, h2, h3⟩ := h.hub
  exact { hub := ⟨o, P, h1.grow hu, h2, h3⟩, lt := fun q hq => ⟨(h.lt q hq).1, Nat.lt_of_lt_of_le (h.lt q hq).2 hu.size⟩, all := h.all.grow hu, ab := h.ab, wbox := hu.heap h.wbox (fun s => s), ow := h.ow, tt := fun i hi => (h.tt i hi).upd hu (fun k s => s.elim), u := h.u.trans hu }
/-- A step of the hub. -/
theorem Law.step (h : Law w wr b m H lo va as_ wk wv T N) {o o' : Nat → Tg} {P' : Int → Option WrP} (h2 : ∀ q, o q ≠ .no → w.heap.size ≤ q) (h3 : ∀ q, lo q ≠ .no → o q = .no) (g1 : IsHub w' b m o' P' H') (g2 : ∀ k, k < wr.heap.size → o' k = o k) (g3 : Upd (fun k => o k ≠ .no) wr w') : Law w w' b m H' lo va as_ wk wv T N where
  hub := ⟨o', P', g1, fun q hq => by
    by_cases hlt : q < wr.heap.size
    · exact h2 q (by rw [← g2 q hlt]; exact hq)
    · have := h.u.size; omega, fun q hq => by rw [g2 q (h.lt q hq).2]; exact h3 q hq⟩
  lt := fun q hq => ⟨(h.lt q hq).1, Nat.lt_of_lt_of_le (h.lt q hq).2 g3.size⟩
  all := h.all.upd g3 (fun k hk s => s (h3 k (by rw [h.ab k hk]; simp))) (fun k hk s => s (h3 k (by rw [hk]; simp)))
  ab := h.ab
  wbox := g3.heap h.wbox (fun s => s (h3 wk (by rw [h.ow]; simp)))
  ow := h.ow
  tt := fun i hi => (h.tt i hi).upd g3 (fun k s => ⟨fun e => s (h3 k (by rw [e]; simp)), fun e => s (h3 k (by rw [e]; simp)), fun e => s (h3 k (by rw [e]; simp)), fun e => s (h3 k (by rw [e]; simp))⟩)
  u := h.u.trans' g3 (fun q hq e => by have := h2 q e; omega)
theorem Law.keeps {o : Nat → Tg} (h3 : ∀ q, lo q ≠ .no → o q = .no) (g3 : Upd (fun k => o k ≠ .no) wr w') : Upd (fun k => lo k ≠ .by_) wr w' := g3.mono fun k _ hk e => hk (h3 k (by rw [e]; simp))
/-- New blocks are read alone. -/
theorem Law.mark (h : Law w wr b m H lo va as_ wk wv T N) (hu : Upd (fun _ => False) wr w') {J : Nat → Prop} (hJ : ∀ k, J k → wr.heap.size ≤ k ∧ k < w'.heap.size) : ∃ lo', Law w w' b m H lo' va as_ wk wv T N ∧ (∀ k, lo k = .by_ → lo' k = .by_) ∧ ∀ k, J k → lo' k = .by_ := by
  classical
  have su := h.u.size
  obtain ⟨o, P, h1, h2, h3⟩ := h.hub
  obtain ⟨lo', hlo⟩ : ∃ lo' : Nat → LTg, lo' = fun k => if J k then .by_ else lo k := ⟨_, rfl⟩
  have hj : ∀ k, J k → lo' k = .by_ := fun k hk => by rw [hlo]; exact if_pos hk
  have ho : ∀ k, k < wr.heap.size → lo' k = lo k := fun k hk => by
    rw [hlo]; exact if_neg (fun q => by have := (hJ k q).1; omega)
  have hby : ∀ k, lo k = .by_ → lo' k = .by_ := fun k hk => by rw [ho k (h.lt k (by rw [hk]; simp)).2]; exact hk
  have hno : ∀ q, wr.heap.size ≤ q → o q = .no := fun q hq => by
    cases e : o q with
    | no => rfl
    | _ => exact absurd (h1.lt q (by rw [e]; simp)) (by omega)
  have hold : ∀ k, lo' k ≠ .no → (lo k ≠ .no ∧ k < wr.heap.size) ∨ J k := fun k hk => by
    by_cases q : J k
    · exact .inr q
    · rw [hlo] at hk
      simp only [if_neg q] at hk
      exact .inl ⟨hk, (h.lt k hk).2⟩
  have hlt' : ∀ k, lo k ≠ .no → k < wr.heap.size := fun k hk => (h.lt k hk).2
  refine ⟨lo', { hub := ⟨o, P, h1.grow hu, h2, fun q hq => (hold q hq).elim (fun r => h3 q r.1) (fun r => hno q (hJ q r).1)⟩, lt := fun q hq => (hold q hq).elim (fun r => ⟨(h.lt q r.1).1, Nat.lt_of_lt_of_le r.2 hu.size⟩) (fun r => ⟨by have := (hJ q r).1; omega, (hJ q r).2⟩), all := ?_, ab := fun k hk => by rw [ho k (h.all.blk k hk).2]; exact h.ab k hk, wbox := hu.heap h.wbox (fun s => s), ow := by rw [ho _ (lt_of_heap h.wbox)]; exact h.ow, tt := fun i hi => ?_, u := h.u.trans hu }, hby, hj⟩
  · exact (h.all.tag (g := .al) (by simp) h.ab rfl ho hlt').grow hu
  · exact ((h.tt i hi).tag rfl ho hlt').upd hu (fun k s => s.elim)
/-- A watcher is told. -/
theorem Law.tell (h : Law w wr b m H lo va as_ wk wv T N) {o o' : Nat → Tg} {P' : Int → Option WrP} (h2 : ∀ q, o q ≠ .no → w.heap.size ≤ q) (h3 : ∀ q, lo q ≠ .no → o q = .no) {i : Nat} (hi : i < N) (g1 : IsHub w' b m o' P' H') (g2 : ∀ k, k < wr.heap.size → o' k = o k)
    (g3 : Upd (fun k => o k ≠ .no ∨ k = (T i).tb ∨ k = (T i).lb ∨ sliceBlock (T i).v = some k) wr w') {J : Nat → Prop} {v' : Value} {ts' : List EvP} {last' : Int} (g4 : EvSh w' w.heap.size (fun k => lo k = .by_ ∨ J k) v' ts') (g5 : ∀ k, J k → wr.heap.size ≤ k ∧ k < w'.heap.size ∧ o' k = .no)
    (g6 : ∀ k, sliceBlock v' = some k → sliceBlock (T i).v = some k ∨ (wr.heap.size ≤ k ∧ k < w'.heap.size ∧ o' k = .no)) (g7 : w'.heap[(T i).tb]? = some (.cells #[v'] 32 (0, 0))) (g8 : w'.heap[(T i).lb]? = some (.cells #[.int .i64 last'] 2 (0, 0))) :
    ∃ lo', Law w w' b m H' lo' va as_ wk wv (fun j => if j = i then ⟨(T i).tb, (T i).lb, v', ts', last'⟩ else T j) N ∧ (∀ k, lo k = .by_ → lo' k = .by_) ∧ Upd (fun k => lo k ≠ .by_) wr w' := by
  classical
  have ht := h.tt i hi
  have su := h.u.size
  obtain ⟨lo', hlo⟩ : ∃ lo' : Nat → LTg, lo' = fun k => if k < wr.heap.size then lo k else if J k then .by_ else if sliceBlock v' = some k then .to i else .no := ⟨_, rfl⟩
  have ho : ∀ k, k < wr.heap.size → lo' k = lo k := fun k hk => by rw [hlo]; exact if_pos hk
  have hnew : ∀ k, ¬ k < wr.heap.size → lo' k = if J k then .by_ else if sliceBlock v' = some k then .to i else .no := fun k hk => by rw [hlo]; exact if_neg hk
  have hbt := lt_of_heap ht.tbox
  have hbl := lt_of_heap ht.lbox
  -- what is written has these tags
  have g3' : Upd (fun k => k < wr.heap.size ∧ (lo k = .no ∨ lo k = .tb i ∨ lo k = .lb i ∨ lo k = .to i)) wr w' := g3.mono fun k hlt hk => ⟨hlt, by
    rcases hk with e | e | e | e
    · left
      cases q : lo k with
      | no => rfl
      | _ => exact absurd (h3 k (by rw [q]; simp)) e
    · right; left; rw [e]; exact ht.ot
    · right; right; left; rw [e]; exact ht.ol
    · right; right; right; exact ht.rb k e⟩
  have hlt' : ∀ k, lo k ≠ .no → k < wr.heap.size := fun k hk => (h.lt k hk).2
  have keep : ∀ {v : Value} {rs : List EvP} {g : LTg}, EvSh wr w.heap.size (fun k => lo k = .by_) v rs → (∀ k, sliceBlock v = some k → lo k = g) → g ≠ .no → g ≠ .by_ → g ≠ .tb i → g ≠ .lb i → g ≠ .to i → EvSh w' w.heap.size (fun k => lo' k = .by_) v rs := fun hr hv q0 q1 q2 q3 q4 => by
    refine (hr.tag q1 hv rfl ho hlt').upd g3' (fun k hk s => ?_) (fun k hk s => ?_)
    · have := s.2
      rw [hv k hk] at this
      rcases this with e | e | e | e
      · exact q0 e
      · exact q2 e
      · exact q3 e
      · exact q4 e
    · rw [ho k s.1] at hk
      have := s.2
      rw [hk] at this
      rcases this with e | e | e | e <;> cases e
  have htag : ∀ k, lo' k = .by_ ↔ lo k = .by_ ∨ J k := fun k => by
    by_cases hlt : k < wr.heap.size
    · rw [ho k hlt]
      refine ⟨.inl, fun e => e.elim id (fun e => ?_)⟩
      have := (g5 k e).1; omega
    · rw [hnew k hlt]
      by_cases hj : J k
      · rw [if_pos hj]; simp [hj]
      · rw [if_neg hj]
        refine ⟨fun e => ?_, fun e => e.elim (fun e => absurd (hlt' k (by rw [e]; simp)) hlt) (fun e => absurd e hj)⟩
        split at e <;> cases e
  have hfun : (fun k => lo k = .by_ ∨ J k) = fun k => lo' k = .by_ := by
    funext k; exact propext (htag k).symm
  rw [hfun] at g4
  refine ⟨lo', { hub := ⟨o', P', g1, fun q hq => ?_, fun q hq => ?_⟩, lt := fun q hq => ?_, all := keep h.all h.ab (by simp) (by simp) (by simp) (by simp) (by simp), ab := fun k hk => by rw [ho k (h.all.blk k hk).2]; exact h.ab k hk, wbox := g3'.heap h.wbox (fun s => by have := s.2; rw [h.ow] at this; rcases this with e | e | e | e <;> cases e), ow := by rw [ho _ (lt_of_heap h.wbox)]; exact h.ow, tt := fun j hj => ?_, u := ?_ }, fun k hk => (htag k).2 (.inl hk), g3'.mono fun k _ s e => by
    have := s.2
    rw [e] at this
    rcases this with q | q | q | q <;> cases q⟩
  · by_cases hlt : q < wr.heap.size
    · exact h2 q (by rw [← g2 q hlt]; exact hq)
    · omega
  · by_cases hlt : q < wr.heap.size
    · rw [g2 q hlt]; exact h3 q (by rw [← ho q hlt]; exact hq)
    · rw [hnew q hlt] at hq
      by_cases hj : J q
      · exact (g5 q hj).2.2
      · rw [if_neg hj] at hq
        split at hq
        · rename_i e
          rcases g6 q e with e | e
          · exact absurd (ht.row.blk q e).2 hlt
          · exact e.2.2
        · exact absurd rfl hq
  · by_cases hlt : q < wr.heap.size
    · exact ⟨(h.lt q (by rw [← ho q hlt]; exact hq)).1, Nat.lt_of_lt_of_le hlt g3.size⟩
    · refine ⟨by omega, ?_⟩
      rw [hnew q hlt] at hq
      by_cases hj : J q
      · exact (g5 q hj).2.1
      · rw [if_neg hj] at hq
        split at hq
        · rename_i e
          rcases g6 q e with e | e
          · exact absurd (ht.row.blk q e).2 hlt
          · exact e.2.1
        · exact absurd rfl hq
  · by_cases e : j = i
    · subst e
      simp only [if_true]
      refine { row := g4, rb := fun k hk => ?_, tbox := g7, lbox := g8, ot := by rw [ho _ hbt]; exact ht.ot, ol := by rw [ho _ hbl]; exact ht.ol }
      rcases g6 k hk with e | e
      · rw [ho k (ht.row.blk k e).2]; exact ht.rb k e
      · have hj : ¬ J k := fun hj => g4.dj k hk ((htag k).2 (.inr hj))
        rw [hnew k (by omega), if_neg hj, if_pos hk]
    · simp only [if_neg e]
      have hj' := h.tt j hj
      exact { row := keep hj'.row hj'.rb (by simp) (by simp) (by simp) (by simp) (by simp [e]), rb := fun k hk => by rw [ho k (hj'.row.blk k hk).2]; exact hj'.rb k hk, tbox := g3'.heap hj'.tbox (fun s => by have := s.2; rw [hj'.ot] at this; simp [e] at this), lbox := g3'.heap hj'.lbox (fun s => by have := s.2; rw [hj'.ol] at this; simp [e] at this), ot := by rw [ho _ (lt_of_heap hj'.tbox)]; exact hj'.ot, ol := by rw [ho _ (lt_of_heap hj'.lbox)]; exact hj'.ol }
  · refine h.u.trans' g3 (fun q hq s => ?_)
    rcases s with e | e | e | e
    · exact absurd (h2 q e) (by omega)
    · exact absurd (h.lt q (by rw [e, ht.ot]; simp)).1 (by omega)
    · exact absurd (h.lt q (by rw [e, ht.ol]; simp)).1 (by omega)
    · exact absurd (h.lt q (by rw [ht.rb q e]; simp)).1 (by omega)

/-- All events are more. -/
theorem Law.more (h : Law w wr b m H lo va as_ wk wv T N) (g3 : Upd (fun k => sliceBlock va = some k) wr w') {J : Nat → Prop} {va' : Value} {as' : List EvP} (g4 : EvSh w' w.heap.size (fun k => lo k = .by_ ∨ J k) va' as') (g5 : ∀ k, J k → wr.heap.size ≤ k ∧ k < w'.heap.size)
    (g6 : ∀ k, sliceBlock va' = some k → sliceBlock va = some k ∨ (wr.heap.size ≤ k ∧ k < w'.heap.size)) :
    ∃ lo', Law w w' b m H lo' va' as' wk wv T N ∧ (∀ k, k < wr.heap.size → lo' k = lo k) ∧ ∃ o P, IsHub w' b m o P H ∧ (∀ q, o q ≠ .no → w.heap.size ≤ q) ∧ (∀ q, lo' q ≠ .no → o q = .no) ∧ ∀ q, wr.heap.size ≤ q → o q = .no := by
  classical
  have su := h.u.size
  obtain ⟨o, P, h1, h2, h3⟩ := h.hub
  obtain ⟨lo', hlo⟩ : ∃ lo' : Nat → LTg, lo' = fun k => if k < wr.heap.size then lo k else if J k then .by_ else if sliceBlock va' = some k then .al else .no := ⟨_, rfl⟩
  have ho : ∀ k, k < wr.heap.size → lo' k = lo k := fun k hk => by rw [hlo]; exact if_pos hk
  have hnew : ∀ k, ¬ k < wr.heap.size → lo' k = if J k then .by_ else if sliceBlock va' = some k then .al else .no := fun k hk => by rw [hlo]; exact if_neg hk
  have hlt' : ∀ k, lo k ≠ .no → k < wr.heap.size := fun k hk => (h.lt k hk).2
  have g3' : Upd (fun k => k < wr.heap.size ∧ lo k = .al) wr w' := g3.mono fun k hlt hk => ⟨hlt, h.ab k hk⟩
  have htag : ∀ k, lo' k = .by_ ↔ lo k = .by_ ∨ J k := fun k => by
    by_cases hlt : k < wr.heap.size
    · rw [ho k hlt]
      refine ⟨.inl, fun e => e.elim id (fun e => ?_)⟩
      have := (g5 k e).1; omega
    · rw [hnew k hlt]
      by_cases hj : J k
      · rw [if_pos hj]; simp [hj]
      · rw [if_neg hj]
        refine ⟨fun e => ?_, fun e => e.elim (fun e => absurd (hlt' k (by rw [e]; simp)) hlt) (fun e => absurd e hj)⟩
        split at e <;> cases e
  have hfun : (fun k => lo k = .by_ ∨ J k) = fun k => lo' k = .by_ := by
    funext k; exact propext (htag k).symm
  rw [hfun] at g4
  have hno : ∀ q, wr.heap.size ≤ q → o q = .no := fun q hq => by
    cases e : o q with
    | no => rfl
    | _ => exact absurd (h1.lt q (by rw [e]; simp)) (by omega)
  have hb : ∀ q, ¬ q < wr.heap.size → lo' q ≠ .no → q < w'.heap.size := fun q hlt hq => by
    rw [hnew q hlt] at hq
    by_cases hj : J q
    · exact (g5 q hj).2
    · rw [if_neg hj] at hq
      split at hq
      · rename_i e
        rcases g6 q e with e | e
        · exact absurd (h.all.blk q e).2 hlt
        · exact e.2
      · exact absurd rfl hq
  have hh : IsHub w' b m o P H := h1.upd g3' (fun k hk s => by have := h3 k (by rw [s.2]; simp); exact hk this)
  have ht : ∀ q, lo' q ≠ .no → o q = .no := fun q hq => by
    by_cases hlt : q < wr.heap.size
    · exact h3 q (by rw [← ho q hlt]; exact hq)
    · exact hno q (by omega)
  refine ⟨lo', { hub := ⟨o, P, hh, h2, ht⟩, lt := fun q hq => ?_, all := g4, ab := fun k hk => ?_, wbox := g3'.heap h.wbox (fun s => by have := s.2; rw [h.ow] at this; cases this), ow := by rw [ho _ (lt_of_heap h.wbox)]; exact h.ow, tt := fun j hj => ?_, u := ?_ }, ho, o, P, hh, h2, ht, hno⟩
  · by_cases hlt : q < wr.heap.size
    · exact ⟨(h.lt q (by rw [← ho q hlt]; exact hq)).1, Nat.lt_of_lt_of_le hlt g3.size⟩
    · exact ⟨by omega, hb q hlt hq⟩
  · rcases g6 k hk with e | e
    · rw [ho k (h.all.blk k e).2]; exact h.ab k e
    · have hj : ¬ J k := fun hj => g4.dj k hk ((htag k).2 (.inr hj))
      rw [hnew k (by omega), if_neg hj, if_pos hk]
  · have h9 := (h.tt j hj).upd g3' (fun k s => ⟨by rw [s.2]; simp, by rw [s.2]; simp, by rw [s.2]; simp, by rw [s.2]; simp⟩)
    refine { row := ?_, rb := fun k hk => by rw [ho k ((h.tt j hj).row.blk k hk).2]; exact h9.rb k hk, tbox := h9.tbox, lbox := h9.lbox, ot := by rw [ho _ (lt_of_heap (h.tt j hj).tbox)]; exact h9.ot, ol := by rw [ho _ (lt_of_heap (h.tt j hj).lbox)]; exact h9.ol }
    exact h9.row.wider (fun k hk => (htag k).2 (.inl hk)) (fun k hk e => by
      rw [ho k ((h.tt j hj).row.blk k hk).2, h9.rb k hk] at e; cases e)
  · exact h.u.trans' g3' (fun q hq s => by have := (h.lt q (by rw [s.2]; simp)).1; omega)
end

end Go.Proofs.Ytidpiojanajpoaa
