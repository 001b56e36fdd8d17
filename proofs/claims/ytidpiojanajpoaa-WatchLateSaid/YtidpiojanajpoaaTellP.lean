/-
  What a watcher is told, as a law in plain words (no program).
-/
import Derived.Test.YtidpiojanajpoaaFeedC
import Derived.Test.YtidpiojanajpoaaHubI
namespace Go.Proofs.Ytidpiojanajpoaa
open Go.RowKit Go.Tb Go.MapKept Go.ChangeMaps
set_option linter.unusedVariables false

/-- The Mods never fall. -/
def Up (l : List Ev) : Prop := l.Pairwise fun a b => a.kv.mod ≤ b.kv.mod
theorem Up.rising {l : List Ev} (h : Up l) : Rising l := fun i hi => List.pairwise_iff_getElem.1 h i (i + 1) (by omega) hi (by omega)
theorem told_mod (x : Wt) (e : Ev) : (told x e).kv = e.kv := by unfold told; split <;> rfl
theorem sieveE_mem {x : Wt} {l : List Ev} {y : Ev} (h : y ∈ sieveE x l) : ∃ z ∈ l, y.kv = z.kv := by
  obtain ⟨z, hz, rfl⟩ := List.mem_map.1 h
  exact ⟨z, (List.mem_filter.1 hz).1, told_mod _ _⟩
theorem Up.sieve {l : List Ev} (h : Up l) (x : Wt) : Up (sieveE x l) := by
  unfold Up sieveE
  rw [List.pairwise_map]
  refine (List.Pairwise.sublist List.filter_sublist h).imp fun {a b} hab => ?_
  rw [told_mod, told_mod]; exact hab
theorem Up.since {l : List Ev} (h : Up l) (n : Int) : Up (sinceE n l) := List.Pairwise.sublist List.filter_sublist h
theorem since_mem {l : List Ev} {n : Int} {y : Ev} : y ∈ sinceE n l ↔ y ∈ l ∧ n ≤ y.kv.mod := by
  unfold sinceE; rw [List.mem_filter, decide_eq_true_eq]
theorem since_append (n : Int) (l m : List Ev) : sinceE n (l ++ m) = sinceE n l ++ sinceE n m := by unfold sinceE; rw [List.filter_append]
theorem since_none {n : Int} {l : List Ev} (h : ∀ y ∈ l, y.kv.mod < n) : sinceE n l = [] := by
  unfold sinceE
  rw [List.filter_eq_nil_iff]
  intro y hy
  have := h y hy
  simp; omega
theorem since_all {n : Int} {l : List Ev} (h : ∀ y ∈ l, n ≤ y.kv.mod) : sinceE n l = l := by
  unfold sinceE
  rw [List.filter_eq_self]
  intro y hy
  simp; exact h y hy
theorem since_since {n m : Int} (h : n ≤ m) (l : List Ev) : sinceE m l = sinceE m (sinceE n l) := by
  unfold sinceE
  rw [List.filter_filter]
  congr 1
  funext y
  by_cases q : m ≤ y.kv.mod
  · simp [q, show n ≤ y.kv.mod by omega]
  · simp [q]
theorem since_sieve (n : Int) (x : Wt) (l : List Ev) : sinceE n (sieveE x l) = sieveE x (sinceE n l) := by
  unfold sinceE sieveE
  rw [List.filter_map, List.filter_filter, List.filter_filter]
  congr 1
  congr 1
  funext y
  simp only [Function.comp, told_mod]
  exact Bool.and_comm _ _

theorem run_bound {x : Ev} : ∀ {l : List Ev}, Up (x :: l) → ∀ b ∈ l.drop (runLen x.kv.mod l), x.kv.mod < b.kv.mod
  | [], _, b, hb => by cases hb
  | y :: r, h, b, hb => by
    obtain ⟨h1, h2⟩ := List.pairwise_cons.1 h
    obtain ⟨h3, h4⟩ := List.pairwise_cons.1 h2
    unfold runLen at hb
    by_cases e : y.kv.mod = x.kv.mod
    · rw [if_pos e, List.drop_succ_cons] at hb
      exact run_bound (List.pairwise_cons.2 ⟨fun a ha => h1 a (List.mem_cons_of_mem _ ha), h4⟩) b hb
    · rw [if_neg e, List.drop_zero] at hb
      have h5 := h1 y List.mem_cons_self
      rcases List.mem_cons.1 hb with rfl | hb
      · omega
      · have := h3 b hb; omega
theorem run_same (m : Int) : ∀ (l : List Ev), ∀ a ∈ l.take (runLen m l), a.kv.mod = m
  | [], a, ha => by simp [runLen] at ha
  | y :: r, a, ha => by
    unfold runLen at ha
    by_cases e : y.kv.mod = m
    · rw [if_pos e, List.take_succ_cons] at ha
      rcases List.mem_cons.1 ha with rfl | ha
      · exact e
      · exact run_same m r a ha
    · rw [if_neg e] at ha; cases ha

/-- The step of a cut. -/
theorem cut_next {l : List Ev} {n : Nat} {x : Ev} (hx : l[n]? = some x) : l.take (n + 1 + runLen x.kv.mod (l.drop (n + 1))) = l.take n ++ x :: (l.drop (n + 1)).take (runLen x.kv.mod (l.drop (n + 1))) ∧ l.drop (n + 1 + runLen x.kv.mod (l.drop (n + 1))) = (l.drop (n + 1)).drop (runLen x.kv.mod (l.drop (n + 1))) ∧ l.drop n = x :: l.drop (n + 1) := by
  obtain ⟨hlt, rfl⟩ := List.getElem?_eq_some_iff.1 hx
  refine ⟨?_, by rw [List.drop_drop], List.drop_eq_getElem_cons hlt⟩
  rw [List.take_add, List.take_succ_eq_append_getElem hlt, List.append_assoc]
  rfl
theorem cutAt_bound {l : List Ev} (hl : Up l) (most : Int) : ∀ f n, (∀ a ∈ l.take n, ∀ b ∈ l.drop n, a.kv.mod < b.kv.mod) → ∀ a ∈ l.take (cutAt l most f n), ∀ b ∈ l.drop (cutAt l most f n), a.kv.mod < b.kv.mod
  | 0, n, h => h
  | f + 1, n, h => by
    cases hx : l[n]? with
    | none => unfold cutAt; rw [hx]; exact h
    | some x =>
      rw [cutAt_succ l most f n x hx]
      split
      · exact h
      · refine cutAt_bound hl most f _ fun a ha b hb => ?_
        obtain ⟨e1, e2, e3⟩ := cut_next hx
        rw [e1] at ha
        rw [e2] at hb
        have hxb := run_bound (x := x) (l := l.drop (n + 1)) (by rw [← e3]; exact List.Pairwise.sublist (List.drop_sublist _ _) hl) b hb
        rcases List.mem_append.1 ha with ha | ha
        · refine h a ha b ?_
          rw [e3]
          exact List.mem_cons_of_mem _ (List.mem_of_mem_drop hb)
        · rcases List.mem_cons.1 ha with rfl | ha
          · exact hxb
          · rw [run_same _ _ a ha]; exact hxb
theorem cutN_bound {l : List Ev} (hl : Up l) (most : Int) : ∀ a ∈ l.take (cutN l most), ∀ b ∈ l.drop (cutN l most), a.kv.mod < b.kv.mod :=
  cutAt_bound hl most _ 0 (fun a ha => by rw [List.take_zero] at ha; cases ha)
theorem cutAt_most {l : List Ev} (most : Int) : ∀ (f n : Nat), ((n : Int) ≤ most ∨ ∀ a ∈ l.take n, ∀ b ∈ l.take n, a.kv.mod = b.kv.mod) → ((cutAt l most f n : Nat) : Int) ≤ most ∨ ∀ a ∈ l.take (cutAt l most f n), ∀ b ∈ l.take (cutAt l most f n), a.kv.mod = b.kv.mod
  | 0, n, h => h
  | f + 1, n, h => by
    cases hx : l[n]? with
    | none => unfold cutAt; rw [hx]; exact h
    | some x =>
      rw [cutAt_succ l most f n x hx]
      split
      · exact h
      · rename_i hne
        refine cutAt_most most f _ ?_
        by_cases h0 : n = 0
        · subst h0
          refine .inr fun a ha b hb => ?_
          obtain ⟨e1, -, -⟩ := cut_next hx
          rw [e1, List.take_zero, List.nil_append] at ha hb
          have e : ∀ a ∈ x :: (l.drop (0 + 1)).take (runLen x.kv.mod (l.drop (0 + 1))), a.kv.mod = x.kv.mod := fun a ha => by
            rcases List.mem_cons.1 ha with rfl | ha
            · rfl
            · exact run_same _ _ a ha
          rw [e a ha, e b hb]
        · exact .inl (by omega)
theorem cutN_most (l : List Ev) (most : Int) : ((cutN l most : Nat) : Int) ≤ most ∨ ∀ a ∈ l.take (cutN l most), ∀ b ∈ l.take (cutN l most), a.kv.mod = b.kv.mod :=
  cutAt_most most _ 0 (.inr fun a ha => by rw [List.take_zero] at ha; cases ha)

/-- What a feed puts into a buffer. -/
theorem feedGo_spec (room : Int) : ∀ (f : Nat) (buf rest : List Ev), rest.length ≤ f → Up rest → ∃ pre suf, rest = pre ++ suf ∧ (feedGo room f buf rest).1 = buf ++ pre ∧
    (((feedGo room f buf rest).2 = none ∧ suf = []) ∨ ∃ z r, (feedGo room f buf rest).2 = some z.kv.mod ∧ suf = z :: r ∧ buf ++ pre ≠ [] ∧ ∀ a ∈ pre, a.kv.mod < z.kv.mod)
  | 0, buf, rest, hf, _ => by
    obtain rfl : rest = [] := List.eq_nil_of_length_eq_zero (by omega)
    exact ⟨[], [], rfl, by rw [feedGo_nil]; simp, .inl ⟨by rw [feedGo_nil], rfl⟩⟩
  | f + 1, buf, [], _, _ => ⟨[], [], rfl, by rw [feedGo_nil]; simp, .inl ⟨by rw [feedGo_nil], rfl⟩⟩
  | f + 1, buf, z :: r, hf, hu => by
    by_cases h : 0 < buf.length ∧ room - (buf.length : Int) < (cutN (z :: r) 1 : Nat)
    · rw [feedGo_stop (r := z) rfl h]
      refine ⟨[], z :: r, rfl, by simp, .inr ⟨z, r, rfl, rfl, ?_, fun a ha => by cases ha⟩⟩
      intro e
      rw [List.append_nil] at e
      rw [e] at h; simp at h
    · rw [feedGo_on (by simp) h]
      have hc := cutN_pos (l := z :: r) (by simp) 1
      obtain ⟨pre, suf, h1, h2, h3⟩ := feedGo_spec room f (buf ++ (z :: r).take (cutN (z :: r) 1)) ((z :: r).drop (cutN (z :: r) 1)) (by rw [List.length_drop]; simp at hf ⊢; omega) (List.Pairwise.sublist (List.drop_sublist _ _) hu)
      refine ⟨(z :: r).take (cutN (z :: r) 1) ++ pre, suf, ?_, by rw [h2, List.append_assoc], ?_⟩
      · rw [List.append_assoc, ← h1, List.take_append_drop]
      · rcases h3 with h3 | ⟨y, q, g1, g2, g3, g4⟩
        · exact .inl h3
        · refine .inr ⟨y, q, g1, g2, by rw [← List.append_assoc]; exact g3, fun a ha => ?_⟩
          rcases List.mem_append.1 ha with ha | ha
          · exact cutN_bound hu 1 a ha y (by rw [h1, g2]; exact List.mem_append.2 (.inr List.mem_cons_self))
          · exact g4 a ha

/-- What holds of a watcher between two acts. -/
structure WI (rev : Int) (x : Wr) (all told : List Ev) (last : Int) : Prop where
  ended : x.ended = false
  eq : told ++ x.buf ++ sieveE x.w (sinceE x.next all) = sieveE x.w (sinceE x.w.start all)
  nx : x.next ≤ rev + 1 ∨ x.next = x.w.start
  st : x.w.start ≤ x.next
  lo : ∀ y ∈ x.buf, last < y.kv.mod ∧ y.kv.mod < x.next
  l0 : last < x.next
structure AllOk (rev : Int) (all : List Ev) : Prop where
  up : Up all
  le : ∀ y ∈ all, y.kv.mod ≤ rev
theorem AllOk.more {rev : Int} {all l : List Ev} (h : AllOk rev all) (hl : ∀ y ∈ l, y.kv.mod = rev + 1) : AllOk (rev + 1) (all ++ l) where
  up := List.pairwise_append.2 ⟨h.up, List.pairwise_iff_getElem.2 fun i j hi hj _ => by rw [hl _ (List.getElem_mem hi), hl _ (List.getElem_mem hj)]; exact Int.le_refl _, fun a ha b hb => by have := h.le a ha; have := hl b hb; omega⟩
  le := fun y hy => (List.mem_append.1 hy).elim (fun hy => by have := h.le y hy; omega) (fun hy => by have := hl y hy; omega)

theorem WI.notified {rev : Int} {x : Wr} {all told : List Ev} {last : Int} (h : WI rev x all told last) (ha : AllOk rev all) {l : List Ev} (hl : ∀ y ∈ l, y.kv.mod = rev + 1) (room : Int) : WI (rev + 1) (stepW room (rev + 1) l x) (all ++ l) told last ∧ (stepW room (rev + 1) l x).w = x.w := by
  have h1 : ∀ n, n ≤ rev + 1 → sinceE n l = l := fun n hn => since_all fun y hy => by rw [hl y hy]; exact hn
  have h2 : ∀ n, rev + 1 < n → sinceE n l = [] := fun n hn => since_none fun y hy => by rw [hl y hy]; exact hn
  have same : sinceE x.next l = sinceE x.w.start l := by
    by_cases q : x.next ≤ rev + 1
    · rw [h1 _ q, h1 _ (Int.le_trans h.st q)]
    · rw [h2 _ (by omega)]
      rcases h.nx with e | e
      · omega
      · rw [← e, h2 _ (by omega)]
  have keep : WI (rev + 1) x (all ++ l) told last := { ended := h.ended, eq := by rw [since_append, since_append, sieveE_append, sieveE_append, ← List.append_assoc, h.eq, same], nx := h.nx.imp (fun q => by omega) id, st := h.st, lo := h.lo, l0 := h.l0 }
  unfold stepW
  split
  · exact ⟨keep, rfl⟩
  · rename_i hne
    have hnx : x.next = rev + 1 := by
      simp only [h.ended, Bool.false_or, decide_eq_true_eq, Decidable.not_not] at hne
      exact hne
    split
    · refine ⟨{ ended := h.ended, eq := ?_, nx := .inl (Int.le_refl _), st := by show x.w.start ≤ rev + 1 + 1; have := h.st; omega, lo := fun y hy => ?_, l0 := by show last < rev + 1 + 1; have := h.l0; omega }, rfl⟩
      · show told ++ (x.buf ++ sieveE x.w l) ++ sieveE x.w (sinceE (rev + 1 + 1) (all ++ l)) = sieveE x.w (sinceE x.w.start (all ++ l))
        have e0 : sinceE x.next all = [] := since_none fun y hy => by have := ha.le y hy; omega
        have e1 : sinceE (rev + 1 + 1) (all ++ l) = [] := since_none fun y hy => by
          rcases List.mem_append.1 hy with q | q
          · have := ha.le y q; omega
          · rw [hl y q]; omega
        have e2 := h.eq
        rw [e0] at e2
        rw [e1, since_append, sieveE_append, ← e2, ← same, hnx, h1 _ (Int.le_refl _)]
        simp [sieveE]
      · rcases List.mem_append.1 hy with q | q
        · obtain ⟨g1, g2⟩ := h.lo y q
          exact ⟨g1, by show _ < rev + 1 + 1; omega⟩
        · obtain ⟨z, hz, e⟩ := sieveE_mem q
          have e3 := hl z hz
          have e4 := h.l0
          rw [e]
          exact ⟨by omega, by show _ < rev + 1 + 1; omega⟩
    · exact ⟨keep, rfl⟩

/-- A watcher is fed, if it needs it. -/
def fedW (H : Hub) (all : List Ev) (x : Wr) : Wr := if behindB H x then feedW H x (sinceE x.next all) else x
theorem WI.fed {H : Hub} {x : Wr} {all told : List Ev} {last : Int} (h : WI H.rev x all told last) (ha : AllOk H.rev all) :
    WI H.rev (fedW H all x) all told last ∧ (fedW H all x).w = x.w ∧ (H.rev < (fedW H all x).next ∨ (fedW H all x).buf ≠ []) ∧ (told.length = (sieveE x.w (sinceE x.w.start all)).length → H.rev < (fedW H all x).next) := by
  unfold fedW
  by_cases hb : behindB H x = true
  · rw [if_pos hb]
    have hnx : x.next ≤ H.rev := by simp only [behindB, Bool.and_eq_true, decide_eq_true_eq] at hb; exact hb.2
    obtain ⟨pre, suf, h1, h2, h3⟩ := feedGo_spec H.room (sieveE x.w (sinceE x.next all)).length x.buf (sieveE x.w (sinceE x.next all)) (Nat.le_refl _) ((ha.up.since _).sieve _)
    have hin : ∀ y ∈ pre ++ suf, x.next ≤ y.kv.mod ∧ y.kv.mod ≤ H.rev := fun y hy => by
      rw [← h1] at hy
      obtain ⟨z, hz, e⟩ := sieveE_mem hy
      obtain ⟨g1, g2⟩ := since_mem.1 hz
      rw [e]; exact ⟨g2, ha.le z g1⟩
    have hw : (feedW H x (sinceE x.next all)).w = x.w := rfl
    have hbuf : (feedW H x (sinceE x.next all)).buf = x.buf ++ pre := h2
    have hend : (feedW H x (sinceE x.next all)).ended = x.ended := rfl
    have hnext : (feedW H x (sinceE x.next all)).next = (feedGo H.room (sieveE x.w (sinceE x.next all)).length x.buf (sieveE x.w (sinceE x.next all))).2.getD (H.rev + 1) := rfl
    have key : ∀ n, x.next ≤ n → n ≤ H.rev + 1 → (∀ y ∈ pre, y.kv.mod < n) → (∀ y ∈ suf, n ≤ y.kv.mod) → (feedW H x (sinceE x.next all)).next = n → WI H.rev (feedW H x (sinceE x.next all)) all told last := fun n q1 q2 q3 q4 q5 => by
      refine { ended := h.ended, eq := ?_, nx := .inl (by rw [q5]; exact q2), st := by rw [q5, hw]; have := h.st; omega, lo := fun y hy => ?_, l0 := by rw [q5]; have := h.l0; omega }
      · rw [hbuf, hw, q5, since_since q1, ← since_sieve, h1, since_append, since_none q3, since_all q4, ← h.eq, h1]
        simp
      · rw [hbuf] at hy
        rw [q5]
        rcases List.mem_append.1 hy with q | q
        · obtain ⟨g1, g2⟩ := h.lo y q; exact ⟨g1, by omega⟩
        · have g1 := (hin y (List.mem_append.2 (.inl q))).1
          have := h.l0
          exact ⟨by omega, q3 y q⟩
    rcases h3 with ⟨h3, h4⟩ | ⟨z, r, g1, g2, g3, g4⟩
    · have q5 : (feedW H x (sinceE x.next all)).next = H.rev + 1 := by rw [hnext, h3]; rfl
      refine ⟨key (H.rev + 1) (by omega) (Int.le_refl _) (fun y hy => by have := (hin y (List.mem_append.2 (.inl hy))).2; omega) (fun y hy => by rw [h4] at hy; cases hy) q5, hw, .inl (by omega), fun _ => by omega⟩
    · have q5 : (feedW H x (sinceE x.next all)).next = z.kv.mod := by rw [hnext, g1]; rfl
      have hz := hin z (by rw [g2]; exact List.mem_append.2 (.inr List.mem_cons_self))
      refine ⟨key z.kv.mod hz.1 (by omega) g4 (fun y hy => ?_) q5, hw, .inr (by rw [hbuf]; exact g3), fun hl => ?_⟩
      · have hu := (ha.up.since x.next).sieve x.w
        rw [h1, g2] at hu
        have hu2 := (List.pairwise_append.1 hu).2.1
        rw [g2] at hy
        rcases List.mem_cons.1 hy with rfl | hy
        · exact Int.le_refl _
        · exact (List.pairwise_cons.1 hu2).1 y hy
      · exfalso
        have e := congrArg List.length h.eq
        rw [h1, g2] at e
        simp at e; omega
  · rw [if_neg hb]
    have hnx : H.rev < x.next := by
      simp only [behindB, h.ended, Bool.not_false, Bool.true_and, decide_eq_true_eq, Int.not_le] at hb; exact hb
    exact ⟨h, rfl, .inl hnx, fun _ => hnx⟩

/-- What a drain takes. -/
def lastOf (last : Int) (d : List Ev) : Int := match d.getLast? with
  | some y => y.kv.mod
  | none => last
theorem WI.up {rev : Int} {x : Wr} {all told : List Ev} {last : Int} (h : WI rev x all told last) (ha : AllOk rev all) : Up x.buf := by
  have hu := (ha.up.since x.w.start).sieve x.w
  rw [← h.eq] at hu
  exact (List.pairwise_append.1 (List.pairwise_append.1 hu).1).2.1
theorem WI.drained {rev : Int} {x : Wr} {all told : List Ev} {last : Int} (h : WI rev x all told last) (ha : AllOk rev all) (most : Int) :
    WI rev { x with buf := x.buf.drop (cutN x.buf most) } all (told ++ x.buf.take (cutN x.buf most)) (lastOf last (x.buf.take (cutN x.buf most))) ∧
      (x.buf ≠ [] → told.length + 1 ≤ (told ++ x.buf.take (cutN x.buf most)).length) := by
  have hu := h.up ha
  have hbd := cutN_bound hu most
  have hl : lastOf last (x.buf.take (cutN x.buf most)) < x.next ∧ ∀ y ∈ x.buf.drop (cutN x.buf most), lastOf last (x.buf.take (cutN x.buf most)) < y.kv.mod := by
    unfold lastOf
    cases hg : (x.buf.take (cutN x.buf most)).getLast? with
    | none => exact ⟨h.l0, fun y hy => (h.lo y (List.mem_of_mem_drop hy)).1⟩
    | some z =>
      have hz := List.mem_of_getLast? hg
      exact ⟨(h.lo z (List.mem_of_mem_take hz)).2, fun y hy => hbd z hz y hy⟩
  refine ⟨{ ended := h.ended, eq := ?_, nx := h.nx, st := h.st, lo := fun y hy => ⟨hl.2 y hy, (h.lo y (List.mem_of_mem_drop hy)).2⟩, l0 := hl.1 }, fun hne => ?_⟩
  · show told ++ x.buf.take _ ++ x.buf.drop _ ++ _ = _
    rw [List.append_assoc told, List.take_append_drop]
    exact h.eq
  · have h1 := cutN_pos hne most
    have h2 := cutN_le x.buf most
    rw [List.length_append, List.length_take]; omega

/-- Whether a watcher is through, behind so many rounds. -/
def Through (rev : Int) (x : Wr) (all told : List Ev) (k : Nat) : Prop := k ≤ told.length ∨ (told.length = (sieveE x.w (sinceE x.w.start all)).length ∧ rev < x.next)
theorem WI.len {rev : Int} {x : Wr} {all told : List Ev} {last : Int} (h : WI rev x all told last) : told.length + x.buf.length ≤ (sieveE x.w (sinceE x.w.start all)).length := by
  have := congrArg List.length h.eq
  simp at this; omega
theorem wanted_len (w : Wt) (n : Int) (all : List Ev) : (sieveE w (sinceE n all)).length ≤ all.length := Nat.le_trans (sieveE_length _ _) (List.length_filter_le _ _)
/-- A round: it is fed, and told. -/
theorem WI.round {H : Hub} {x : Wr} {all told : List Ev} {last : Int} (h : WI H.rev x all told last) (ha : AllOk H.rev all) (most : Int) {k : Nat} (hk : Through H.rev x all told k) :
    Through H.rev { fedW H all x with buf := (fedW H all x).buf.drop (cutN (fedW H all x).buf most) } all (told ++ (fedW H all x).buf.take (cutN (fedW H all x).buf most)) (k + 1) := by
  obtain ⟨h1, h2, h3, h4⟩ := h.fed ha
  obtain ⟨g1, g2⟩ := h1.drained ha most
  have e1 := h1.len
  have e2 := g1.len
  rw [h2] at e1
  have ew : ({ fedW H all x with buf := (fedW H all x).buf.drop (cutN (fedW H all x).buf most) } : Wr).w = x.w := h2
  rw [ew] at e2
  unfold Through
  rw [ew]
  by_cases hd : told.length = (sieveE x.w (sinceE x.w.start all)).length
  · have hb : (fedW H all x).buf = [] := List.eq_nil_of_length_eq_zero (by omega)
    refine .inr ⟨?_, h4 hd⟩
    rw [hb]; simp; exact hd
  · have hk' : k ≤ told.length := hk.elim id (fun q => absurd q.1 hd)
    refine .inl ?_
    by_cases hb : (fedW H all x).buf = []
    · exfalso
      have hs := h3.resolve_right (fun q => q hb)
      have e3 := h1.eq
      rw [hb, h2, since_none (n := (fedW H all x).next) (fun y hy => by have := ha.le y hy; omega)] at e3
      have e4 := congrArg List.length e3
      simp [sieveE] at e4
      rw [e4] at hd
      simp [sieveE] at hd
    · have := g2 hb; omega
/-- .. at the end. -/
theorem WI.done {rev : Int} {x : Wr} {all told : List Ev} {last : Int} (h : WI rev x all told last) {k : Nat} (hk : Through rev x all told k) (hl : all.length < k) : told = sieveE x.w (sinceE x.w.start all) ∧ x.buf = [] ∧ rev < x.next := by
  have h1 := h.len
  have h2 := wanted_len x.w x.w.start all
  rcases hk with q | ⟨q1, q2⟩
  · omega
  · have hb : x.buf = [] := List.eq_nil_of_length_eq_zero (by omega)
    have e := h.eq
    have e2 := congrArg List.length e
    rw [hb] at e e2
    have e3 : sieveE x.w (sinceE x.next all) = [] := List.eq_nil_of_length_eq_zero (by simp at e2; omega)
    rw [e3] at e
    simp at e
    exact ⟨e, hb, q2⟩

end Go.Proofs.Ytidpiojanajpoaa
