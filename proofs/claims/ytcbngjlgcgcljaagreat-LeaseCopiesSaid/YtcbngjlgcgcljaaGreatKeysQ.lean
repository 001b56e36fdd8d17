/-
  LeaseKeys: the law's map, and what its ranges do (a range that deletes, a range that counts).
-/
import Derived.Test.YtcbngjlgcgcljaaGreatLeaseN
import Derived.Test.YtcbngjlgcgcljaaGreatBase
import Derived.Test.YtcbngjlgcgcljaaGreatActL
namespace Go.Proofs.YtcbngjlgcgcljaaGreat
open Go.RowKit Go.Tb Go.MapKept Go.ChangeMaps Go.Lib
set_option linter.unusedVariables false

/-- The law's map. -/
def OnMap (w : World) (mo : Nat) (O : List UInt8 → Option Int) (N : Nat) : Prop := IsMap skey w mo (fun s => (O s).map (Value.int .i64)) N

/-- What stands at the head of a round. -/
def KW (w0 : World) (b ml mk mo : Nat) (j : Nat) (wr : World) : Prop :=
  ∃ O N, St wr b ml mk O j ∧ OnMap wr mo O N ∧ N ≤ j ∧ Upd (fun k => k = b ∨ k = ml ∨ k = mk ∨ k = mo) w0 wr

def cntO (O : List UInt8 → Option Int) (id er : Int) (l : List (List UInt8)) : Nat := (l.filter (fun s => decide (O s = some id ∧ er = 0))).length

/-- A range that deletes, under way. -/
def DelRel (O : List UInt8 → Option Int) (id er : Int) (T mo r N : Nat) (w1 : World) (nn : Nat) (wr : World) : Prop :=
  ∃ todo O', Iter skey wr r mo (fun s => (O' s).map (Value.int .i64)) todo ∧ (∃ N', OnMap wr mo O' N' ∧ N' ≤ N) ∧ (∀ s, O' s = if s ∈ todo then O s else dropO O id er s) ∧ nn + cntO O id er todo = T ∧ Upd (fun k => k = mo ∨ k = r) w1 wr

theorem DelRel.next {O : List UInt8 → Option Int} {id er : Int} {T mo r N nn : Nat} {w1 wr : World} (h : DelRel O id er T mo r N w1 nn wr) :
    ((∀ ty, (Instr.next (.pointer (some ⟨r, 0, none⟩)) false ty).run Tryz.prog wr = .ok (.tuple #[.bool false]) wr) ∧ nn = T ∧ ∃ N', OnMap wr mo (dropO O id er) N' ∧ N' ≤ N) ∨
    ∃ key v w', (∀ ty, (Instr.next (.pointer (some ⟨r, 0, none⟩)) false ty).run Tryz.prog wr = .ok (.tuple #[.bool true, .string (strB key), .int .i64 v]) w') ∧ (Instr.entry (.pointer (some ⟨r, 0, none⟩))).run Tryz.prog w' = .ok (.tuple #[.string (strB key), .int .i64 v]) w' ∧ Upd (fun k => k = r) wr w' ∧
      (v = id ∧ er = 0 → nn < T ∧ ∃ o, (∀ ty, (Builtin.delete_ #[49, 9] ty #[.map (some mo), .string (strB key)]).run Tryz.prog w' = .ok (.tuple #[]) (setBlock w' mo o)) ∧ DelRel O id er T mo r N w1 (nn + 1) (setBlock w' mo o) ∧ (setBlock w' mo o).rangeLeft mo r < wr.rangeLeft mo r) ∧
      (¬ (v = id ∧ er = 0) → DelRel O id er T mo r N w1 nn w' ∧ w'.rangeLeft mo r < wr.rangeLeft mo r) := by
  obtain ⟨todo, O', hit, ⟨N', hon, hN⟩, hO, hT, hu⟩ := h
  have hnd := hit.nodup
  have hne := hit.ne
  rcases hit.next (P := Tryz.prog) keyT_skey with ⟨rfl, hrun⟩ | ⟨key, v0, todo', w', hperm, hf, hrun, hit', hu', hsz, hleft, hent⟩
  · refine .inl ⟨hrun, by simpa [cntO] using hT, N', ?_, hN⟩
    have e : O' = dropO O id er := by funext s; rw [hO s]; simp
    rw [← e]; exact hon
  · refine .inr ?_
    obtain ⟨v, hv, rfl⟩ := Option.map_eq_some_iff.1 hf
    have hin : key ∈ todo := hperm.mem_iff.2 (.head _)
    have hOk : O key = some v := by rw [← hv, hO key, if_pos hin]
    have hnd' := List.nodup_cons.1 (hperm.nodup_iff.1 hnd)
    have hmem : ∀ s, s ≠ key → (s ∈ todo ↔ s ∈ todo') := fun s hs => by
      rw [hperm.mem_iff, List.mem_cons]
      exact ⟨fun h => h.elim (fun e => absurd e hs) (fun h => h), .inr⟩
    have hcnt : cntO O id er todo = cntO O id er (key :: todo') := (hperm.filter _).length_eq
    refine ⟨key, v, w', hrun, hent, hu', fun hd => ?_, fun hd => ?_⟩
    · have hp : decide (O key = some id ∧ er = 0) = true := by rw [decide_eq_true_eq, hOk, hd.1]; exact ⟨rfl, hd.2⟩
      have hc2 : cntO O id er (key :: todo') = cntO O id er todo' + 1 := by unfold cntO; rw [List.filter_cons, if_pos hp]; rfl
      refine ⟨by omega, ?_⟩
      obtain ⟨o, hdel, hit2, hle⟩ := hit'.delete (P := Tryz.prog) keyT_skey Tryz.underlying49 Tryz.underlying9 key hnd'.1 (by rw [hv]; rfl)
      obtain ⟨o2, hdel2, hon2⟩ := IsMap.delete (P := Tryz.prog) (IsMap.upd hon hu' (Ne.symm hne)) keyT_skey Tryz.underlying49 Tryz.underlying9 key
      have hoo : setBlock w' mo o2 = setBlock w' mo o := by
        have h1 := hdel 0
        rw [hdel2 0] at h1
        injection h1
      rw [hoo] at hon2
      have e1 : (fun s => if s = key then none else (O' s).map (Value.int .i64)) = fun s => (if s = key then none else O' s).map (Value.int .i64) := by
        funext s; split <;> rfl
      rw [e1] at hit2 hon2
      refine ⟨o, hdel, ⟨todo', fun s => if s = key then none else O' s, hit2, ⟨_, hon2, ?_⟩, fun s => ?_, by omega, ?_⟩, by omega⟩
      · have hc : ∀ c : Bool, (if c = true then N' - 1 else N') ≤ N := fun c => by cases c <;> simp <;> omega
        exact hc _
      · show (if s = key then none else O' s) = _
        by_cases e : s = key
        · subst e
          rw [if_pos rfl, if_neg hnd'.1]
          unfold dropO
          rw [if_pos (by rw [hOk, hd.1]; exact ⟨rfl, hd.2⟩)]
        · rw [if_neg e, hO s]
          by_cases q : s ∈ todo
          · rw [if_pos q, if_pos ((hmem s e).1 q)]
          · rw [if_neg q, if_neg (fun h => q ((hmem s e).2 h))]
      · exact ((hu.trans (hu'.mono (fun _ _ e => .inr e))).trans (upd_setBlock _ _ _ _ (.inl rfl)))
    · have hp : ¬ decide (O key = some id ∧ er = 0) = true := by
        rw [decide_eq_true_eq, hOk]
        exact fun q => hd ⟨by have := q.1; injection this, q.2⟩
      have hc2 : cntO O id er (key :: todo') = cntO O id er todo' := by unfold cntO; rw [List.filter_cons, if_neg hp]
      refine ⟨⟨todo', O', hit', ⟨N', IsMap.upd hon hu' (Ne.symm hne), hN⟩, fun s => ?_, by omega, hu.trans (hu'.mono (fun _ _ e => .inr e))⟩, hleft⟩
      by_cases e : s = key
      · subst e
        rw [if_neg hnd'.1, hO s, if_pos hin]
        unfold dropO
        rw [if_neg (fun q => hp (by rw [decide_eq_true_eq]; exact q))]
      · rw [hO s]
        by_cases q : s ∈ todo
        · rw [if_pos q, if_pos ((hmem s e).1 q)]
        · rw [if_neg q, if_neg (fun h => q ((hmem s e).2 h))]

/-- A range that counts down, under way. -/
def CntRel (O : List UInt8 → Option Int) (mo r : Nat) (w1 : World) (nn : Nat) (wr : World) : Prop :=
  ∃ todo, Iter skey wr r mo (fun s => (O s).map (Value.int .i64)) todo ∧ nn = (todo.filter (fun s => decide (O s ≠ some 0))).length ∧ Upd (fun k => k = r) w1 wr

theorem CntRel.next {O : List UInt8 → Option Int} {mo r nn : Nat} {w1 wr : World} (h : CntRel O mo r w1 nn wr) :
    ((∀ ty, (Instr.next (.pointer (some ⟨r, 0, none⟩)) false ty).run Tryz.prog wr = .ok (.tuple #[.bool false]) wr) ∧ nn = 0) ∨
    ∃ key v w', (∀ ty, (Instr.next (.pointer (some ⟨r, 0, none⟩)) false ty).run Tryz.prog wr = .ok (.tuple #[.bool true, .string (strB key), .int .i64 v]) w') ∧ (Instr.entry (.pointer (some ⟨r, 0, none⟩))).run Tryz.prog w' = .ok (.tuple #[.string (strB key), .int .i64 v]) w' ∧
      w'.rangeLeft mo r < wr.rangeLeft mo r ∧ (v ≠ 0 → 0 < nn ∧ CntRel O mo r w1 (nn - 1) w') ∧ (v = 0 → CntRel O mo r w1 nn w') := by
  obtain ⟨todo, hit, rfl, hu⟩ := h
  rcases hit.next (P := Tryz.prog) keyT_skey with ⟨rfl, hrun⟩ | ⟨key, v0, todo', w', hperm, hf, hrun, hit', hu', hsz, hleft, hent⟩
  · exact .inl ⟨hrun, rfl⟩
  · refine .inr ?_
    obtain ⟨v, hv, rfl⟩ := Option.map_eq_some_iff.1 hf
    have hcnt : (todo.filter (fun s => decide (O s ≠ some 0))).length = ((key :: todo').filter (fun s => decide (O s ≠ some 0))).length := (hperm.filter _).length_eq
    refine ⟨key, v, w', hrun, hent, hleft, fun hd => ?_, fun hd => ?_⟩
    · have hp : decide (O key ≠ some 0) = true := by rw [decide_eq_true_eq, hv]; exact fun q => hd (by injection q)
      rw [List.filter_cons, if_pos hp, List.length_cons] at hcnt
      exact ⟨by omega, todo', hit', by omega, hu.trans hu'⟩
    · have hp : ¬ decide (O key ≠ some 0) = true := by rw [decide_eq_true_eq, hv, hd]; exact fun q => q rfl
      rw [List.filter_cons, if_neg hp] at hcnt
      exact ⟨todo', hit', hcnt, hu.trans hu'⟩

/-- No more keys than a map has. -/
theorem keys_few {w : World} {m n : Nat} {f : List UInt8 → Option Value} (h : IsMap skey w m f n) {l : List (List UInt8)} (hn : l.Nodup) (hl : ∀ s ∈ l, (f s).isSome = true) : l.length ≤ n := by
  obtain ⟨o, todo, _, _, hlen, hmem⟩ := h.range (P := Tryz.prog) keyT_skey Tryz.underlying49
  rw [← hlen]
  exact nodup_len l todo hn (fun s hs => (hmem s).2 (hl s hs))

/-- The keys that the first leases told. -/
structure AccOk (L : LS) (ids : List Int) (j : Nat) (acc : List (List UInt8)) : Prop where
  nd : acc.Nodup
  mem : ∀ s, s ∈ acc ↔ ∃ i ∈ ids.take j, L.keys s = some i
theorem AccOk.start (L : LS) (ids : List Int) : AccOk L ids 0 [] := ⟨List.nodup_nil, fun s => by simp⟩
theorem AccOk.step {L : LS} {ids : List Int} {j : Nat} {acc ks : List (List UInt8)} (h : AccOk L ids j acc) (hj : j < ids.length) (hp : ids.Pairwise (· < ·)) (hn : ks.Nodup) (hk : ∀ s, s ∈ ks ↔ L.keys s = some ids[j]) : AccOk L ids (j + 1) (acc ++ ks) := by
  have hni : ids[j] ∉ ids.take j := fun hm => by
    obtain ⟨i, hi, he⟩ := List.getElem_of_mem hm
    rw [List.getElem_take] at he
    simp at hi
    have := List.pairwise_iff_getElem.1 hp i j (by omega) hj (by omega)
    omega
  refine ⟨List.nodup_append.2 ⟨h.nd, hn, fun a ha b hb e => ?_⟩, fun s => ?_⟩
  · subst e
    obtain ⟨i, hi, e1⟩ := (h.mem a).1 ha
    have e2 := (hk a).1 hb
    rw [e1] at e2
    injection e2 with e2
    exact hni (e2 ▸ hi)
  · rw [List.mem_append, h.mem s, hk s, List.take_succ_eq_append_getElem hj]
    constructor
    · rintro (⟨i, hi, e⟩ | e)
      · exact ⟨i, List.mem_append_left _ hi, e⟩
      · exact ⟨_, List.mem_append_right _ (.head _), e⟩
    · rintro ⟨i, hi, e⟩
      rcases List.mem_append.1 hi with hi | hi
      · exact .inl ⟨i, hi, e⟩
      · rw [List.mem_singleton.1 hi] at e
        exact .inr e
theorem AccOk.all {L : LS} {O : List UInt8 → Option Int} {ids : List Int} {j : Nat} {acc todo : List (List UInt8)} (h : AccOk L ids j acc) (hj : ids.length ≤ j) (hK : KInv L O) (hids : ∀ i, i ∈ ids ↔ (L.l i).isSome = true) (hn : todo.Nodup) (ht : ∀ s, s ∈ todo ↔ (O s).isSome = true) :
    acc.length = (todo.filter (fun s => decide (O s ≠ some 0))).length := by
  refine nodup_same h.nd (hn.filter _) (fun s => ?_)
  rw [h.mem s, List.mem_filter, decide_eq_true_eq, ht s, List.take_of_length_le hj]
  constructor
  · rintro ⟨i, hi, e⟩
    have h0 := (hK.k.there s i e).1
    have e2 := (hK.iff s i h0).1 e
    exact ⟨by rw [e2]; rfl, by rw [e2]; intro q; injection q with q; exact h0 q⟩
  · rintro ⟨e, hne⟩
    obtain ⟨i, hi⟩ := Option.isSome_iff_exists.1 e
    have h0 : i ≠ 0 := fun q => hne (by rw [hi, q])
    have e2 := (hK.iff s i h0).2 hi
    exact ⟨i, (hids i).2 (hK.k.there s i e2).2, e2⟩

end Go.Proofs.YtcbngjlgcgcljaaGreat
