/-
  A lessor and the document's: what makes them go together (no program in sight).
-/
import Derived.Test.YtcbngjlgcgcljaaGreatRefG
import Derived.Test.YtcbngjlgcgcljaaGreatLeaseN
import Derived.Test.YtcbngjlgcgcljaaGreatLeaseK
namespace Go.Proofs.YtcbngjlgcgcljaaGreat
open Go.RowKit Go.Tb Go.MapKept Go.ChangeMaps Go.Lib
set_option linter.unusedVariables false

structure Rel (L : LS) (R : RS) : Prop where
  now : R.now = L.now
  last : R.last = L.last
  pw : (R.l.map (·.id)).Pairwise (· < ·)
  len : R.l.length = L.n
  mem : ∀ i x, L.l i = some x ↔ ∃ r ∈ R.l, r.id = i ∧ (r.ttl, r.due) = x
  kpw : ∀ r ∈ R.l, r.keys.Pairwise (· < ·)
  kmem : ∀ r ∈ R.l, ∀ s, s ∈ r.keys ↔ L.keys s = some r.id

theorem Rel.isNot {L : LS} {R : RS} (h : Rel L R) {id : Int} (hn : L.l id = Option.none) : ∀ r ∈ R.l, r.id ≠ id := fun r hr e => by
  have := (h.mem id (r.ttl, r.due)).2 ⟨r, hr, e, rfl⟩
  rw [hn] at this; cases this
theorem Rel.isThere {L : LS} {R : RS} (h : Rel L R) {id : Int} {x : Int × Int} (hn : L.l id = Option.some x) : ∃ j, ∃ hj : j < R.l.length, R.l[j].id = id ∧ (R.l[j].ttl, R.l[j].due) = x := by
  obtain ⟨r, hr, e1, e2⟩ := (h.mem id x).1 hn
  obtain ⟨j, hj, rfl⟩ := List.getElem_of_mem hr
  exact ⟨j, hj, e1, e2⟩

theorem Rel.ticked {L : LS} {R : RS} (h : Rel L R) (n : Int) : Rel (L.ticked n) { R with now := laterI R.now n } :=
  { now := by show laterI R.now n = laterI L.now n; rw [h.now], last := h.last, pw := h.pw, len := h.len, mem := h.mem, kpw := h.kpw, kmem := h.kmem }

theorem Rel.kept {L : LS} {R : RS} (h : Rel L R) {id : Int} {x : Int × Int} (hn : L.l id = Option.some x) (j : Nat) (hj : j < R.l.length) (hid : R.l[j].id = id) (hx : (R.l[j].ttl, R.l[j].due) = x) : Rel (L.kept id x.1) (R.kept j R.l[j]) := by
  have hpw := h.pw
  have hids : (R.kept j R.l[j]).l.map (·.id) = R.l.map (·.id) := by
    show (R.l.set j _).map _ = _
    rw [List.map_set]
    refine List.ext_getElem (by simp) (fun i h1 h2 => ?_)
    rw [List.getElem_set]
    split
    · subst_vars; simp [RL.kept]
    · rfl
  have hmem : ∀ r, r ∈ (R.kept j R.l[j]).l ↔ (r = R.l[j].kept R.now ∨ (r ∈ R.l ∧ r.id ≠ id)) := fun r => by
    show r ∈ R.l.set j _ ↔ _
    constructor
    · intro hr
      obtain ⟨i, hi, rfl⟩ := List.getElem_of_mem hr
      rw [List.length_set] at hi
      rw [List.getElem_set]
      by_cases e : j = i
      · rw [if_pos e]; exact .inl rfl
      · rw [if_neg e]
        exact .inr ⟨List.getElem_mem hi, fun q => e (ids_inj hpw hj hi (hid.trans q.symm))⟩
    · rintro (rfl | ⟨hr, hne⟩)
      · exact List.mem_set hj _
      · obtain ⟨i, hi, rfl⟩ := List.getElem_of_mem hr
        have e : j ≠ i := fun q => by subst q; exact hne hid
        exact List.mem_iff_getElem.2 ⟨i, by simpa using hi, by rw [List.getElem_set, if_neg e]⟩
  refine { now := h.now, last := h.last, pw := by rw [hids]; exact hpw, len := by show (R.l.set j _).length = _; rw [List.length_set]; exact h.len, mem := fun i y => ?_, kpw := fun r hr => ?_, kmem := fun r hr => ?_ }
  · show (if i = id then Option.some (x.1, laterI L.now x.1) else L.l i) = Option.some y ↔ _
    by_cases e : i = id
    · rw [if_pos e]
      have ex : R.l[j].ttl = x.1 := by rw [← hx]
      constructor
      · intro q
        cases q
        exact ⟨_, (hmem _).2 (.inl rfl), hid.trans e.symm, by show (R.l[j].ttl, laterI R.now R.l[j].ttl) = _; rw [ex, h.now]⟩
      · rintro ⟨r, hr, e1, e2⟩
        rcases (hmem r).1 hr with rfl | ⟨_, hne⟩
        · rw [← e2]; show Option.some (x.1, laterI L.now x.1) = Option.some (R.l[j].ttl, laterI R.now R.l[j].ttl); rw [ex, h.now]
        · exact absurd (e1.trans e) hne
    · rw [if_neg e, h.mem i y]
      constructor
      · rintro ⟨r, hr, e1, e2⟩
        exact ⟨r, (hmem r).2 (.inr ⟨hr, fun q => e (e1.symm.trans q)⟩), e1, e2⟩
      · rintro ⟨r, hr, e1, e2⟩
        rcases (hmem r).1 hr with rfl | ⟨hr, _⟩
        · exact absurd (e1.symm.trans hid) e
        · exact ⟨r, hr, e1, e2⟩
  · rcases (hmem r).1 hr with rfl | ⟨hr, _⟩
    · have q := h.kpw _ (List.getElem_mem hj); exact q
    · exact h.kpw r hr
  · rcases (hmem r).1 hr with rfl | ⟨hr, _⟩
    · have q := h.kmem _ (List.getElem_mem hj); exact q
    · exact h.kmem r hr

theorem Rel.gone {L : LS} {R : RS} (h : Rel L R) {id : Int} {x : Int × Int} (hn : L.l id = Option.some x) (j : Nat) (hj : j < R.l.length) (hid : R.l[j].id = id) (m : Nat) : Rel (L.gone id m) { R with l := R.l.take j ++ R.l.drop (j + 1) } := by
  have hpw := h.pw
  have herase : R.l.take j ++ R.l.drop (j + 1) = R.l.eraseIdx j := (List.eraseIdx_eq_take_drop_succ ..).symm
  have hmem : ∀ r, r ∈ R.l.take j ++ R.l.drop (j + 1) ↔ (r ∈ R.l ∧ r.id ≠ id) := fun r => by
    rw [herase, List.mem_eraseIdx_iff_getElem]
    constructor
    · rintro ⟨i, hi, hne, rfl⟩
      exact ⟨List.getElem_mem hi, fun q => hne (ids_inj hpw hi hj (q.trans hid.symm))⟩
    · rintro ⟨hr, hne⟩
      obtain ⟨i, hi, rfl⟩ := List.getElem_of_mem hr
      exact ⟨i, hi, fun q => by subst q; exact hne hid, rfl⟩
  refine { now := h.now, last := h.last, pw := ?_, len := ?_, mem := fun i y => ?_, kpw := fun r hr => h.kpw r ((hmem r).1 hr).1, kmem := fun r hr s => ?_ }
  · show ((R.l.take j ++ R.l.drop (j + 1)).map (·.id)).Pairwise (· < ·)
    rw [herase]
    exact hpw.sublist ((List.eraseIdx_sublist _ _).map _)
  · show (R.l.take j ++ R.l.drop (j + 1)).length = L.n - 1
    rw [herase, List.length_eraseIdx, if_pos hj, h.len]
  · show (if i = id then Option.none else L.l i) = Option.some y ↔ _
    by_cases e : i = id
    · rw [if_pos e]
      constructor
      · intro q; cases q
      · rintro ⟨r, hr, e1, _⟩; exact absurd (e1.trans e) ((hmem r).1 hr).2
    · rw [if_neg e, h.mem i y]
      constructor
      · rintro ⟨r, hr, e1, e2⟩; exact ⟨r, (hmem r).2 ⟨hr, fun q => e (e1.symm.trans q)⟩, e1, e2⟩
      · rintro ⟨r, hr, e1, e2⟩; exact ⟨r, ((hmem r).1 hr).1, e1, e2⟩
  · obtain ⟨hr1, hr2⟩ := (hmem r).1 hr
    rw [h.kmem r hr1 s]
    show _ ↔ (if L.keys s = Option.some id then Option.none else L.keys s) = Option.some r.id
    by_cases e : L.keys s = Option.some id
    · rw [if_pos e, e]
      constructor
      · intro q; injection q with q; exact absurd q.symm hr2
      · intro q; cases q
    · rw [if_neg e]

theorem Rel.granted {L : LS} {R : RS} (h : Rel L R) (hk : KOk L) {id gi ttl : Int} (hg : L.gid id = gi) (hn : L.l gi = Option.none) (m : Nat) (hm : m ≤ R.l.length) (hlo : ∀ k (hk : k < R.l.length), k < m → R.l[k].id < gi) (hhi : ∀ hk : m < R.l.length, gi ≤ R.l[m].id) : Rel (L.granted id ttl) (R.granted m gi ttl) := by
  have hno := h.isNot hn
  have hpw := List.pairwise_iff_getElem.1 h.pw
  have hmem : ∀ r, r ∈ (R.granted m gi ttl).l ↔ (r ∈ R.l ∨ r = RL.fresh gi ttl (laterI R.now ttl)) := fun r => by
    show r ∈ R.l.take m ++ [RL.fresh gi ttl (laterI R.now ttl)] ++ R.l.drop m ↔ _
    have e : r ∈ R.l ↔ r ∈ R.l.take m ∨ r ∈ R.l.drop m := by
      rw [← List.mem_append, List.take_append_drop]
    rw [List.mem_append, List.mem_append, List.mem_singleton, e]
    constructor
    · rintro ((q | q) | q)
      · exact .inl (.inl q)
      · exact .inr q
      · exact .inl (.inr q)
    · rintro ((q | q) | q)
      · exact .inl (.inl q)
      · exact .inr q
      · exact .inl (.inr q)
  have hge : ∀ r ∈ R.l.drop m, gi < r.id := fun r hr => by
    obtain ⟨i, hi, rfl⟩ := List.getElem_of_mem hr
    rw [List.length_drop] at hi
    rw [List.getElem_drop]
    have h1 := hhi (by omega)
    have h2 := hno _ (List.getElem_mem (show m + i < R.l.length by omega))
    by_cases e : i = 0
    · subst e
      simp only [Nat.add_zero] at h2 ⊢
      omega
    · have := hpw m (m + i) (by simp; omega) (by simp; omega) (by omega)
      simp at this
      omega
  have hle : ∀ r ∈ R.l.take m, r.id < gi := fun r hr => by
    obtain ⟨i, hi, rfl⟩ := List.getElem_of_mem hr
    rw [List.length_take] at hi
    rw [List.getElem_take]
    exact hlo i (by omega) (by omega)
  have hsplit : ((R.l.take m).map (·.id)).Pairwise (· < ·) ∧ ((R.l.drop m).map (·.id)).Pairwise (· < ·) ∧ ∀ a ∈ R.l.take m, ∀ b ∈ R.l.drop m, a.id < b.id := by
    refine ⟨h.pw.sublist ((List.take_sublist _ _).map _), h.pw.sublist ((List.drop_sublist _ _).map _), fun a ha b hb => ?_⟩
    have := hle a ha
    have := hge b hb
    omega
  refine { now := h.now, last := ?_, pw := ?_, len := ?_, mem := fun i y => ?_, kpw := fun r hr => ?_, kmem := fun r hr s => ?_ }
  · show max R.last gi = max L.last (L.gid id)
    rw [h.last, hg]
  · show ((R.l.take m ++ [RL.fresh gi ttl (laterI R.now ttl)] ++ R.l.drop m).map (·.id)).Pairwise (· < ·)
    rw [List.map_append, List.map_append, List.pairwise_append, List.pairwise_append]
    refine ⟨⟨hsplit.1, by simp, fun a ha b hb => ?_⟩, hsplit.2.1, fun a ha b hb => ?_⟩
    · obtain ⟨r, hr, rfl⟩ := List.mem_map.1 ha
      simp [RL.fresh] at hb
      rw [hb]
      exact hle r hr
    · obtain ⟨q, hq, rfl⟩ := List.mem_map.1 hb
      rcases List.mem_append.1 ha with ha | ha
      · obtain ⟨r, hr, rfl⟩ := List.mem_map.1 ha
        exact hsplit.2.2 r hr q hq
      · simp [RL.fresh] at ha
        rw [ha]
        exact hge q hq
  · show (R.l.take m ++ [RL.fresh gi ttl (laterI R.now ttl)] ++ R.l.drop m).length = L.n + 1
    rw [← h.len]
    simp
    omega
  · show (if i = L.gid id then Option.some (ttl, laterI L.now ttl) else L.l i) = Option.some y ↔ _
    rw [hg]
    by_cases e : i = gi
    · rw [if_pos e]
      constructor
      · intro q
        cases q
        exact ⟨_, (hmem _).2 (.inr rfl), e.symm, by show (ttl, laterI R.now ttl) = _; rw [h.now]⟩
      · rintro ⟨r, hr, e1, e2⟩
        rcases (hmem r).1 hr with q | rfl
        · exact absurd (e1.trans e) (hno r q)
        · rw [← e2]; show Option.some (ttl, laterI L.now ttl) = Option.some (ttl, laterI R.now ttl); rw [h.now]
    · rw [if_neg e, h.mem i y]
      constructor
      · rintro ⟨r, hr, e1, e2⟩; exact ⟨r, (hmem r).2 (.inl hr), e1, e2⟩
      · rintro ⟨r, hr, e1, e2⟩
        rcases (hmem r).1 hr with q | rfl
        · exact ⟨r, q, e1, e2⟩
        · exact absurd e1.symm e
  · rcases (hmem r).1 hr with q | rfl
    · exact h.kpw r q
    · exact List.Pairwise.nil
  · rcases (hmem r).1 hr with q | rfl
    · exact h.kmem r q s
    · constructor
      · intro q; exact (List.not_mem_nil q).elim
      · intro q
        have := (hk.there s gi q).2
        rw [hn] at this; cases this

end Go.Proofs.YtcbngjlgcgcljaaGreat

/-
  A key among keys that rise: what the document's Attach does (no program in sight).
-/
namespace Go.Proofs.YtcbngjlgcgcljaaGreat
set_option linter.unusedVariables false

/-- The document's loop over a lease's keys. -/
def insRun (key : List UInt8) : List (List UInt8) → Bool → List (List UInt8)
  | [], done => if done then [] else [key]
  | k :: r, done => if k = key then insRun key r done else if done = false ∧ key < k then key :: k :: insRun key r true else k :: insRun key r done

theorem insRun_true_mem (key s : List UInt8) : ∀ ks, s ∈ insRun key ks true ↔ (s ∈ ks ∧ s ≠ key)
  | [] => by simp [insRun]
  | k :: r => by
    unfold insRun
    by_cases e : k = key
    · rw [if_pos e, insRun_true_mem key s r]
      constructor
      · rintro ⟨a, b⟩; exact ⟨.tail _ a, b⟩
      · rintro ⟨a, b⟩
        rcases List.mem_cons.1 a with rfl | a
        · exact absurd e b
        · exact ⟨a, b⟩
    · rw [if_neg e, if_neg (fun q => absurd q.1 (by decide)), List.mem_cons, insRun_true_mem key s r, List.mem_cons]
      constructor
      · rintro (rfl | ⟨a, b⟩)
        · exact ⟨.inl rfl, e⟩
        · exact ⟨.inr a, b⟩
      · rintro ⟨rfl | a, b⟩
        · exact .inl rfl
        · exact .inr ⟨a, b⟩

theorem insRun_false_mem (key s : List UInt8) : ∀ ks, s ∈ insRun key ks false ↔ (s ∈ ks ∨ s = key)
  | [] => by simp [insRun]
  | k :: r => by
    unfold insRun
    by_cases e : k = key
    · rw [if_pos e, insRun_false_mem key s r, List.mem_cons, e]
      constructor
      · rintro (a | a)
        · exact .inl (.inr a)
        · exact .inr a
      · rintro ((a | a) | a)
        · exact .inr a
        · exact .inl a
        · exact .inr a
    · rw [if_neg e]
      by_cases q : key < k
      · rw [if_pos ⟨rfl, q⟩, List.mem_cons, List.mem_cons, insRun_true_mem key s r, List.mem_cons]
        constructor
        · rintro (a | a | ⟨a, _⟩)
          · exact .inr a
          · exact .inl (.inl a)
          · exact .inl (.inr a)
        · rintro ((a | a) | a)
          · exact .inr (.inl a)
          · by_cases z : s = key
            · exact .inl z
            · exact .inr (.inr ⟨a, z⟩)
          · exact .inl a
      · rw [if_neg (fun z => q z.2), List.mem_cons, insRun_false_mem key s r, List.mem_cons]
        constructor
        · rintro (a | a | a)
          · exact .inl (.inl a)
          · exact .inl (.inr a)
          · exact .inr a
        · rintro ((a | a) | a)
          · exact .inl a
          · exact .inr (.inl a)
          · exact .inr (.inr a)

theorem insRun_pw (key : List UInt8) : ∀ (ks : List (List UInt8)) (done : Bool), ks.Pairwise (· < ·) → (insRun key ks done).Pairwise (· < ·)
  | [], done, _ => by unfold insRun; split <;> simp
  | k :: r, done, h => by
    obtain ⟨h1, h2⟩ := List.pairwise_cons.1 h
    unfold insRun
    by_cases e : k = key
    · rw [if_pos e]; exact insRun_pw key r done h2
    · rw [if_neg e]
      by_cases q : done = false ∧ key < k
      · rw [if_pos q]
        refine List.pairwise_cons.2 ⟨fun s hs => ?_, List.pairwise_cons.2 ⟨fun s hs => ?_, insRun_pw key r true h2⟩⟩
        · rcases List.mem_cons.1 hs with rfl | hs
          · exact q.2
          · exact List.lt_trans q.2 (h1 s ((insRun_true_mem key s r).1 hs).1)
        · exact h1 s ((insRun_true_mem key s r).1 hs).1
      · rw [if_neg q]
        refine List.pairwise_cons.2 ⟨fun s hs => ?_, insRun_pw key r done h2⟩
        cases done with
        | true => exact h1 s ((insRun_true_mem key s r).1 hs).1
        | false =>
          rcases (insRun_false_mem key s r).1 hs with a | rfl
          · exact h1 s a
          · have hn : ¬ s < k := fun z => q ⟨rfl, z⟩
            exact Std.lt_of_le_of_ne (List.not_lt.1 hn) e

end Go.Proofs.YtcbngjlgcgcljaaGreat

/-
  Attach: a lessor and the document's still go together (no program in sight).
-/
namespace Go.Proofs.YtcbngjlgcgcljaaGreat
set_option linter.unusedVariables false

/-- What the document's Attach makes of its leases. -/
structure Hung (key : List UInt8) (id : Int) (l l' : List RL) : Prop where
  len : l'.length = l.length
  each : ∀ j (h1 : j < l.length) (h2 : j < l'.length), l'[j].id = l[j].id ∧ l'[j].ttl = l[j].ttl ∧ l'[j].due = l[j].due ∧ l'[j].keys = insRun key l[j].keys (decide (l[j].id ≠ id))

theorem Rel.attach {L L' : LS} {R : RS} (h : Rel L R) (key : List UInt8) (id : Int) (l' : List RL) (hh : Hung key id R.l l') (h1 : L'.now = L.now) (h2 : L'.last = L.last) (h3 : L'.l = L.l) (h4 : L'.n = L.n)
    (hk : ∀ s, ∀ r ∈ R.l, (L'.keys s = some r.id ↔ if r.id = id then (L.keys s = some r.id ∨ s = key) else (L.keys s = some r.id ∧ s ≠ key))) : Rel L' { R with l := l' } := by
  have hto : ∀ r' ∈ l', ∃ r ∈ R.l, r'.id = r.id ∧ r'.ttl = r.ttl ∧ r'.due = r.due ∧ r'.keys = insRun key r.keys (decide (r.id ≠ id)) := fun r' hr => by
    obtain ⟨j, hj, rfl⟩ := List.getElem_of_mem hr
    exact ⟨R.l[j]'(by rw [← hh.len]; exact hj), List.getElem_mem _, hh.each j (by rw [← hh.len]; exact hj) hj⟩
  have hfr : ∀ r ∈ R.l, ∃ r' ∈ l', r'.id = r.id ∧ r'.ttl = r.ttl ∧ r'.due = r.due := fun r hr => by
    obtain ⟨j, hj, rfl⟩ := List.getElem_of_mem hr
    have hj' : j < l'.length := by rw [hh.len]; exact hj
    have := hh.each j hj hj'
    exact ⟨l'[j], List.getElem_mem _, this.1, this.2.1, this.2.2.1⟩
  have hids : l'.map (·.id) = R.l.map (·.id) := List.ext_getElem (by simp [hh.len]) (fun i a b => by
    rw [List.getElem_map, List.getElem_map]
    exact (hh.each i (by simpa using b) (by simpa using a)).1)
  refine { now := by rw [h1]; exact h.now, last := by rw [h2]; exact h.last, pw := by show (l'.map _).Pairwise _; rw [hids]; exact h.pw, len := by show l'.length = _; rw [hh.len, h4, h.len], mem := fun i x => ?_, kpw := fun r' hr => ?_, kmem := fun r' hr s => ?_ }
  · rw [h3, h.mem i x]
    constructor
    · rintro ⟨r, hr, e1, e2⟩
      obtain ⟨r', hr', q1, q2, q3⟩ := hfr r hr
      exact ⟨r', hr', q1.trans e1, by rw [q2, q3]; exact e2⟩
    · rintro ⟨r', hr', e1, e2⟩
      obtain ⟨r, hr, q1, q2, q3, _⟩ := hto r' hr'
      exact ⟨r, hr, q1.symm.trans e1, by rw [← q2, ← q3]; exact e2⟩
  · obtain ⟨r, hr, _, _, _, q⟩ := hto r' hr
    rw [q]
    exact insRun_pw key _ _ (h.kpw r hr)
  · obtain ⟨r, hr, q1, _, _, q⟩ := hto r' hr
    rw [q, q1, hk s r hr]
    by_cases e : r.id = id
    · rw [if_pos e, decide_eq_false (fun z => z e), insRun_false_mem, h.kmem r hr s]
    · rw [if_neg e, decide_eq_true e, insRun_true_mem, h.kmem r hr s]

theorem Rel.free {L : LS} {R : RS} (h : Rel L R) (hok : LOk L) (key : List UInt8) (l' : List RL) (hh : Hung key 0 R.l l') : Rel (L.free key) { R with l := l' } :=
  h.attach key 0 l' hh rfl rfl rfl rfl (fun s r hr => by
    have h1 : 1 ≤ r.id := (hok.ids r.id (r.ttl, r.due) ((h.mem _ _).2 ⟨r, hr, rfl, rfl⟩)).1
    rw [if_neg (show ¬ r.id = 0 by omega)]
    show (if s = key then none else L.keys s) = some r.id ↔ _
    by_cases e : s = key
    · rw [if_pos e]
      constructor
      · intro q; cases q
      · intro q; exact absurd e q.2
    · rw [if_neg e]
      exact ⟨fun q => ⟨q, e⟩, fun q => q.1⟩)
theorem Rel.hung {L : LS} {R : RS} (h : Rel L R) (key : List UInt8) (id : Int) (l' : List RL) (hh : Hung key id R.l l') : Rel (L.hung key id) { R with l := l' } :=
  h.attach key id l' hh rfl rfl rfl rfl (fun s r hr => by
    show (if s = key then some id else L.keys s) = some r.id ↔ _
    by_cases e : s = key
    · rw [if_pos e]
      by_cases q : r.id = id
      · rw [if_pos q, q]; exact ⟨fun _ => .inr e, fun _ => rfl⟩
      · rw [if_neg q]
        exact ⟨fun z => by injection z with z; exact absurd z.symm q, fun z => absurd e z.2⟩
    · rw [if_neg e]
      by_cases q : r.id = id
      · rw [if_pos q]; exact ⟨.inl, fun z => z.resolve_right e⟩
      · rw [if_neg q]; exact ⟨fun z => ⟨z, e⟩, fun z => z.1⟩)

end Go.Proofs.YtcbngjlgcgcljaaGreat
