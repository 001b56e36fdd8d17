/-
  A lessor beside a map of its keys: Grant, Revoke and Attach, whatever they are told.
-/
import Derived.Test.YtcbngjlgcgcljaaGreatLeaseM
namespace Go.Proofs.YtcbngjlgcgcljaaGreat
open Go.RowKit Go.Tb Go.MapKept Go.ChangeMaps Go.Lib
set_option linter.unusedVariables false

/-- What hangs where, as the law's own map tells: 0 is nowhere. -/
structure KInv (L : LS) (O : List UInt8 → Option Int) : Prop where
  ok : LOk L
  k : KOk L
  same : ∀ s, L.keys s = if O s = some 0 then none else O s

/-- A lessor that goes with `O`, of `j` keys at most. -/
def St (w : World) (b ml mk : Nat) (O : List UInt8 → Option Int) (j : Nat) : Prop := ∃ L, IsLs w b ml mk L ∧ KInv L O ∧ L.nk ≤ j
theorem St.upd {S : Nat → Prop} {w w' : World} {b ml mk : Nat} {O : List UInt8 → Option Int} {j : Nat} (h : St w b ml mk O j) (hu : Upd S w w') (h1 : ¬ S b) (h2 : ¬ S ml) (h3 : ¬ S mk) : St w' b ml mk O j := by
  obtain ⟨L, a, c⟩ := h; exact ⟨L, a.upd hu h1 h2 h3, c⟩
theorem St.grow {w w' : World} {b ml mk : Nat} {O : List UInt8 → Option Int} {j : Nat} (h : St w b ml mk O j) (hu : Upd (fun _ => False) w w') : St w' b ml mk O j := h.upd hu (fun x => x) (fun x => x) (fun x => x)
theorem St.more {w : World} {b ml mk : Nat} {O : List UInt8 → Option Int} {j i : Nat} (h : St w b ml mk O j) (hi : j ≤ i) : St w b ml mk O i := by
  obtain ⟨L, a, c, d⟩ := h; exact ⟨L, a, c, Nat.le_trans d hi⟩

theorem KInv.zero {L : LS} {O : List UInt8 → Option Int} (h : KInv L O) (s : List UInt8) : L.keys s ≠ some 0 := fun e => (h.k.there s 0 e).1 rfl
theorem KInv.iff {L : LS} {O : List UInt8 → Option Int} (h : KInv L O) (s : List UInt8) (i : Int) (hi : i ≠ 0) : L.keys s = some i ↔ O s = some i := by
  rw [h.same s]
  by_cases e : O s = some 0
  · rw [if_pos e, e]
    constructor
    · intro q; cases q
    · intro q; injection q with q; exact absurd q.symm hi
  · rw [if_neg e]

theorem KInv.granted {L : LS} {O : List UInt8 → Option Int} (h : KInv L O) (id ttl : Int) (hok : LOk (L.granted id ttl)) : KInv (L.granted id ttl) O :=
  { ok := hok, same := h.same, k := ⟨h.k.len, fun s i hi => ⟨(h.k.there s i hi).1, by
      show (if i = L.gid id then some (ttl, laterI L.now ttl) else L.l i).isSome = true
      by_cases e : i = L.gid id
      · rw [if_pos e]; rfl
      · rw [if_neg e]; exact (h.k.there s i hi).2⟩⟩ }

theorem grant_any (b ml mk : Nat) (O : List UInt8 → Option Int) (j : Nat) (id ttl : Int) (w : World) (h : St w b ml mk O j) :
    Calls Tryz.prog 12 #[.pointer (some ⟨b, 0, none⟩), .int .i64 id, .int .i64 ttl] w fun e w' => (∃ v, e = .returned v) ∧ St w' b ml mk O j ∧ Upd (fun k => k = b ∨ k = ml) w w' := by
  obtain ⟨L, hL, hK, hn⟩ := h
  refine (grant_calls b ml mk L id ttl w hL hK.ok).mono fun e w' hs => ?_
  unfold GrantSays at hs
  split at hs
  · obtain ⟨rfl, h1, h2, h3⟩ := hs
    exact ⟨⟨_, rfl⟩, ⟨_, h1, hK.granted id ttl h2, hn⟩, h3⟩
  · obtain ⟨rfl, h1⟩ := hs
    exact ⟨⟨_, rfl⟩, ⟨L, hL.grow h1, hK, hn⟩, h1.weak _⟩

/-- What Revoke leaves of the law's map. -/
def dropO (O : List UInt8 → Option Int) (id er : Int) (s : List UInt8) : Option Int := if O s = some id ∧ er = 0 then none else O s

set_option maxRecDepth 100000 in
theorem revoke_no (b ml mk : Nat) (L : LS) (id : Int) (w : World) (h : IsLs w b ml mk L) (hn : L.l id = none) :
    Calls Tryz.prog 17 #[.pointer (some ⟨b, 0, none⟩), .int .i64 id] w fun e w' => e = .returned (.tuple #[.slice none 0 0, .int .i64 17]) ∧ Upd (fun _ => False) w w' := by
  have hf := find_no b ml mk L id w h hn
  clear h hn
  go_enter Tryz.func17, Tryz.ntmps17
  go_wp2_with (go_at_call 39; (with_reducible refine hf.mono ?_); rintro e1 w1 ⟨rfl, hu1⟩)
  go_ret2
  exact ⟨rfl, hu1.alloc _⟩

theorem KInv.gone {L : LS} {O : List UInt8 → Option Int} (h : KInv L O) (id : Int) (m : Nat) (hid : (L.l id).isSome = true) : KInv (L.gone id m) (dropO O id 0) := by
  have h1 : 1 ≤ id := by
    obtain ⟨x, hx⟩ := Option.isSome_iff_exists.1 hid
    exact (h.ok.ids id x hx).1
  refine { ok := { h.ok with ids := fun i x hx => ?_, few := ?_ }, k := ⟨fun s i hi => ?_, fun s i hi => ?_⟩, same := fun s => ?_ }
  · have hx' : (if i = id then none else L.l i) = some x := hx
    by_cases e : i = id
    · rw [if_pos e] at hx'; cases hx'
    · rw [if_neg e] at hx'; exact h.ok.ids i x hx'
  · have := h.ok.few; show L.n - 1 ≤ 64; omega
  · have hi' : (if L.keys s = some id then none else L.keys s) = some i := hi
    by_cases e : L.keys s = some id
    · rw [if_pos e] at hi'; cases hi'
    · rw [if_neg e] at hi'; exact h.k.len s i hi'
  · have hi' : (if L.keys s = some id then none else L.keys s) = some i := hi
    by_cases e : L.keys s = some id
    · rw [if_pos e] at hi'; cases hi'
    · rw [if_neg e] at hi'
      refine ⟨(h.k.there s i hi').1, ?_⟩
      show (if i = id then none else L.l i).isSome = true
      rw [if_neg (fun q => e (by rw [hi', q]))]
      exact (h.k.there s i hi').2
  · show (if L.keys s = some id then none else L.keys s) = if dropO O id 0 s = some 0 then none else dropO O id 0 s
    have h3 : dropO O id 0 s = if O s = some id then none else O s := by unfold dropO; simp
    rw [h3]
    by_cases e : L.keys s = some id
    · have e2 := (h.iff s id (by omega)).1 e
      simp only [if_pos e, if_pos e2]; rfl
    · have e2 : ¬ O s = some id := fun q => e ((h.iff s id (by omega)).2 q)
      simp only [if_neg e, if_neg e2]
      exact h.same s

theorem nodup_len {α : Type} [DecidableEq α] : ∀ (l m : List α), l.Nodup → (∀ x ∈ l, x ∈ m) → l.length ≤ m.length
  | [], _, _, _ => Nat.zero_le _
  | a :: r, m, hn, hs => by
    obtain ⟨h1, h2⟩ := List.nodup_cons.1 hn
    have ha := hs a (.head _)
    have := nodup_len r (m.erase a) h2 (fun x hx => (List.mem_erase_of_ne (fun e => by subst e; exact h1 hx)).2 (hs x (.tail _ hx)))
    rw [List.length_erase_of_mem ha] at this
    have := List.length_pos_of_mem ha
    rw [List.length_cons]; omega
theorem nodup_same {α : Type} [DecidableEq α] {l m : List α} (h1 : l.Nodup) (h2 : m.Nodup) (h : ∀ x, x ∈ l ↔ x ∈ m) : l.length = m.length :=
  Nat.le_antisymm (nodup_len l m h1 (fun x hx => (h x).1 hx)) (nodup_len m l h2 (fun x hx => (h x).2 hx))
theorem rises_nodup {l : List (List UInt8)} (h : l.Pairwise (· < ·)) : l.Nodup := h.imp (fun {a b} hab e => by subst e; exact absurd hab (Std.lt_irrefl))

/-- Revoke, whatever it is told. -/
def RevAny (b ml mk : Nat) (O : List UInt8 → Option Int) (j : Nat) (id : Int) (w : World) (e : Ending) (w' : World) : Prop :=
  ∃ a n c er, e = .returned (.tuple #[.slice a n c, .int .i64 er]) ∧ St w' b ml mk (dropO O id er) j ∧ n ≤ j ∧
    (∀ l : List (List UInt8), l.Nodup → (∀ s, s ∈ l ↔ (O s).isSome = true) → (l.filter (fun s => decide (O s = some id ∧ er = 0))).length = n) ∧ Upd (fun k => k = ml ∨ k = mk) w w'

theorem rev_any (b ml mk : Nat) (O : List UInt8 → Option Int) (j : Nat) (id : Int) (w : World) (h : St w b ml mk O j) (hj : j ≤ 1000) :
    Calls Tryz.prog 17 #[.pointer (some ⟨b, 0, none⟩), .int .i64 id] w (RevAny b ml mk O j id w) := by
  obtain ⟨L, hL, hK, hn⟩ := h
  cases hx : L.l id with
  | none =>
    refine (revoke_no b ml mk L id w hL hx).mono fun e w' ⟨he, hu⟩ => ?_
    have e0 : dropO O id 17 = O := by
      funext s
      unfold dropO
      rw [if_neg (fun q => absurd q.2 (by decide))]
    refine ⟨none, 0, 0, 17, he, ⟨L, hL.grow hu, by rw [e0]; exact hK, hn⟩, Nat.zero_le _, fun l _ _ => ?_, hu.weak _⟩
    have : l.filter (fun s => decide (O s = some id ∧ (17 : Int) = 0)) = [] := List.filter_eq_nil_iff.2 (fun s _ => by simp)
    rw [this]; rfl
  | some x =>
    refine (revoke_calls b ml mk L id x w hL hK.k (by omega) hx).mono fun e w' hs => ?_
    obtain ⟨a, c, m, rows, he, hr, hm, hls, hu⟩ := hs
    have h1 : 1 ≤ id := (hK.ok.ids id x hx).1
    refine ⟨a, rows.length, c, 0, he, ⟨_, hls, hK.gone id m (by rw [hx]; rfl), Nat.le_trans hm hn⟩, Nat.le_trans hr.len hn, fun l hnd hl => ?_, hu⟩
    have hlm : (rows.map (·.2)).length = rows.length := List.length_map _
    rw [← hlm]
    refine nodup_same (hnd.filter _) (rises_nodup hr.pw) (fun s => ?_)
    rw [List.mem_filter, decide_eq_true_eq, hr.mem s, hK.iff s id (by omega), hl s]
    constructor
    · exact fun q => q.2.1
    · exact fun q => ⟨by rw [q]; rfl, q, rfl⟩

/-- What Attach leaves of the law's map. -/
def putO (O : List UInt8 → Option Int) (key : List UInt8) (id : Int) (s : List UInt8) : Option Int := if s = key then some id else O s

theorem KInv.free {L : LS} {O : List UInt8 → Option Int} (h : KInv L O) (key : List UInt8) : KInv (L.free key) (putO O key 0) := by
  refine { ok := { h.ok with }, k := ⟨fun s i hi => ?_, fun s i hi => ?_⟩, same := fun s => ?_ }
  · have hi' : (if s = key then none else L.keys s) = some i := hi
    by_cases e : s = key
    · rw [if_pos e] at hi'; cases hi'
    · rw [if_neg e] at hi'; exact h.k.len s i hi'
  · have hi' : (if s = key then none else L.keys s) = some i := hi
    by_cases e : s = key
    · rw [if_pos e] at hi'; cases hi'
    · rw [if_neg e] at hi'; exact h.k.there s i hi'
  · show (if s = key then none else L.keys s) = if putO O key 0 s = some 0 then none else putO O key 0 s
    unfold putO
    by_cases e : s = key
    · rw [if_pos e, if_pos e, if_pos rfl]
    · rw [if_neg e, if_neg e]; exact h.same s

theorem KInv.hung {L : LS} {O : List UInt8 → Option Int} (h : KInv L O) (key : List UInt8) (id : Int) (hid : id ≠ 0) (hl : (L.l id).isSome = true) (hk : key.length ≤ 1000) : KInv (L.hung key id) (putO O key id) := by
  refine { ok := { h.ok with }, k := ⟨fun s i hi => ?_, fun s i hi => ?_⟩, same := fun s => ?_ }
  · have hi' : (if s = key then some id else L.keys s) = some i := hi
    by_cases e : s = key
    · rw [e]; exact hk
    · rw [if_neg e] at hi'; exact h.k.len s i hi'
  · have hi' : (if s = key then some id else L.keys s) = some i := hi
    by_cases e : s = key
    · rw [if_pos e] at hi'; cases hi'; exact ⟨hid, hl⟩
    · rw [if_neg e] at hi'; exact h.k.there s i hi'
  · show (if s = key then some id else L.keys s) = if putO O key id s = some 0 then none else putO O key id s
    unfold putO
    by_cases e : s = key
    · rw [if_pos e, if_pos e, if_neg (fun q => by injection q with q; exact hid q)]
    · rw [if_neg e, if_neg e]; exact h.same s

/-- Attach, whatever it is told. -/
def AttAny (b ml mk : Nat) (O : List UInt8 → Option Int) (j : Nat) (key : List UInt8) (id : Int) (w : World) (e : Ending) (w' : World) : Prop :=
  Upd (fun k => k = mk) w w' ∧ ((e = .returned (.int .i64 0) ∧ St w' b ml mk (putO O key id) (j + 1)) ∨ (e = .returned (.int .i64 17) ∧ St w' b ml mk O (j + 1)))

theorem att_any (b ml mk : Nat) (O : List UInt8 → Option Int) (j : Nat) (v : Value) (key : List UInt8) (id : Int) (w : World) (h : St w b ml mk O j) (hv : Bytes w v key) (hk : key.length ≤ 1000) :
    Calls Tryz.prog 23 #[.pointer (some ⟨b, 0, none⟩), v, .int .i64 id] w (AttAny b ml mk O j key id w) := by
  obtain ⟨L, hL, hK, hn⟩ := h
  by_cases h0 : id = 0
  · subst h0
    refine (attach_zero b ml mk L v key w hL hv).mono fun e w' ⟨he, hls, hu⟩ => ⟨hu, .inl ⟨he, _, hls, hK.free key, ?_⟩⟩
    have hc : ∀ c : Bool, (if c = true then L.nk - 1 else L.nk) ≤ j + 1 := fun c => by cases c <;> simp <;> omega
    exact hc _
  · cases hx : L.l id with
    | none =>
      refine (attach_no b ml mk L v id w hL h0 hx).mono fun e w' ⟨he, hu⟩ => ⟨hu.weak _, .inr ⟨he, L, hL.grow hu, hK, by omega⟩⟩
    | some x =>
      refine (attach_yes b ml mk L v key id x w hL hv h0 hx).mono fun e w' ⟨he, hls, hu⟩ => ⟨hu, .inl ⟨he, _, hls, hK.hung key id h0 (by rw [hx]; rfl) hk, ?_⟩⟩
      have hc : ∀ c : Bool, (if c = true then L.nk else L.nk + 1) ≤ j + 1 := fun c => by cases c <;> simp <;> omega
      exact hc _

theorem St.start {w : World} {b ml mk : Nat} (h : IsLs w b ml mk (LS.start 0)) : St w b ml mk (fun _ => none) 0 :=
  ⟨_, h, { ok := LOk.start (by decide) (by unfold topT; decide), k := ⟨fun s i hi => (by cases hi), fun s i hi => (by cases hi)⟩, same := fun s => rfl }, Nat.zero_le _⟩

end Go.Proofs.YtcbngjlgcgcljaaGreat
