/-
  A lessor and the document's, side by side.
-/
import Derived.Test.YtcbngjlgcgcljaaGreatRefT
import Derived.Test.YtcbngjlgcgcljaaGreatRefI
import Derived.Test.YtcbngjlgcgcljaaGreatRefG
import Derived.Test.YtcbngjlgcgcljaaGreatRefM
import Derived.Test.YtcbngjlgcgcljaaGreatRefN
import Derived.Test.YtcbngjlgcgcljaaGreatRefU
import Derived.Test.YtcbngjlgcgcljaaGreatKeysQ
namespace Go.Proofs.YtcbngjlgcgcljaaGreat
open Go.RowKit Go.Tb Go.MapKept Go.ChangeMaps Go.Lib
set_option linter.unusedVariables false

theorem KInv.of {L : LS} (hok : LOk L) (hk : KOk L) : KInv L L.keys :=
  { ok := hok, k := hk, same := fun s => by
      by_cases e : L.keys s = some 0
      · exact absurd rfl (hk.there s 0 e).1
      · rw [if_neg e] }

structure Both (F : Nat → Prop) (w : World) (b ml mk rb : Nat) (L : LS) (R : RS) (j : Nat) : Prop where
  ls : IsLs w b ml mk L
  ref : IsRef F w rb R
  ok : LOk L
  kok : KOk L
  nk : L.nk ≤ j
  rel : Rel L R
  fb : F b
  fl : F ml
  fk : F mk
  nb : rb ≠ b
  nl : rb ≠ ml
  nm : rb ≠ mk
  hF : ∀ k, F k → k < w.heap.size

theorem Both.grow {F : Nat → Prop} {w w' : World} {b ml mk rb : Nat} {L : LS} {R : RS} {j : Nat} (h : Both F w b ml mk rb L R j) (hu : Upd (fun _ => False) w w') : Both F w' b ml mk rb L R j :=
  { h with ls := h.ls.grow hu, ref := h.ref.grow hu, hF := fun k hk => Nat.lt_of_lt_of_le (h.hF k hk) hu.size }
theorem Both.more {F : Nat → Prop} {w : World} {b ml mk rb : Nat} {L : LS} {R : RS} {j i : Nat} (h : Both F w b ml mk rb L R j) (hi : j ≤ i) : Both F w b ml mk rb L R i := { h with nk := Nat.le_trans h.nk hi }

/-- The lessor has gone ahead. -/
theorem Both.step {F : Nat → Prop} {w w1 : World} {b ml mk rb : Nat} {L : LS} {R : RS} {j : Nat} (h : Both F w b ml mk rb L R j) (hu : Upd (fun k => k = b ∨ k = ml ∨ k = mk) w w1) : IsRef F w1 rb R ∧ ∀ k, F k → k < w1.heap.size :=
  ⟨h.ref.upd hu (fun k _ e => by rcases e with rfl | rfl | rfl; exact h.fb; exact h.fl; exact h.fk) (fun e => by rcases e with e | e | e; exact h.nb e; exact h.nl e; exact h.nm e), fun k hk => Nat.lt_of_lt_of_le (h.hF k hk) hu.size⟩
theorem Both.fin {F : Nat → Prop} {w w1 w2 : World} {b ml mk rb : Nat} {L L' : LS} {R R' : RS} {j i : Nat} (h : Both F w b ml mk rb L R j) (hls : IsLs w1 b ml mk L') (hu1 : Upd (fun k => k = b ∨ k = ml ∨ k = mk) w w1) (hu2 : Upd (fun k => k = rb) w1 w2)
    (href : IsRef F w2 rb R') (hok : LOk L') (hkok : KOk L') (hnk : L'.nk ≤ i) (hrel : Rel L' R') : Both F w2 b ml mk rb L' R' i :=
  { h with ls := hls.upd hu2 (fun e => h.nb e.symm) (fun e => h.nl e.symm) (fun e => h.nm e.symm), ref := href, ok := hok, kok := hkok, nk := hnk, rel := hrel, hF := fun k hk => Nat.lt_of_lt_of_le (h.hF k hk) (Nat.le_trans hu1.size hu2.size) }

/-- How many rows a lease has, and how long they are. -/
theorem Both.rows {F : Nat → Prop} {w : World} {b ml mk rb : Nat} {L : LS} {R : RS} {j : Nat} (h : Both F w b ml mk rb L R j) : ∀ r ∈ R.l, r.rows.length ≤ j ∧ ∀ k ∈ r.rows, k.2.length ≤ 1000 := fun r hr => by
  refine ⟨?_, fun k hk => ?_⟩
  · have h1 := keys_few h.ls.km (rises_nodup (h.rel.kpw r hr)) (fun s hs => by rw [some_map, (h.rel.kmem r hr s).1 hs]; rfl)
    have h2 := h.nk
    unfold RL.keys at h1
    rw [List.length_map] at h1
    omega
  · exact h.kok.len k.2 r.id ((h.rel.kmem r hr k.2).1 (List.mem_map.2 ⟨k, hk, rfl⟩))
theorem Both.len {F : Nat → Prop} {w : World} {b ml mk rb : Nat} {L : LS} {R : RS} {j : Nat} (h : Both F w b ml mk rb L R j) : R.l.length ≤ 64 := by
  have := h.rel.len; have := h.ok.few; omega

/-! ### Grant -/
theorem grantE_zero {L : LS} {id ttl : Int} (h : L.grantE id ttl = 0) : (0 ≤ id ∧ id ≤ topT ∧ 1 ≤ ttl ∧ ttl ≤ topT) ∧ L.l id = none ∧ L.n < 64 ∧ (id = 0 → L.last ≠ topT) := by
  unfold LS.grantE at h
  split at h
  · cases h
  · split at h
    · cases h
    · split at h
      · cases h
      · rename_i h1 h2 h3
        refine ⟨by omega, by cases e : L.l id with | none => rfl | some x => rw [e] at h2; exact absurd rfl h2, by omega, fun e q => h3 (.inr ⟨e, q⟩)⟩

theorem gid_none {L : LS} (hok : LOk L) {id ttl : Int} (h : L.grantE id ttl = 0) : L.l (L.gid id) = none := by
  obtain ⟨h1, h2, h3, h4⟩ := grantE_zero h
  unfold LS.gid
  by_cases e : id = 0
  · rw [if_pos e]
    cases q : L.l (L.last + 1) with
    | none => rfl
    | some x => have := (hok.ids _ x q).2.1; omega
  · rw [if_neg e]; exact h2

theorem rgrant_yes {F : Nat → Prop} {rb : Nat} {L : LS} {R : RS} {id ttl : Int} {w : World} (href : IsRef F w rb R) (hF : ∀ k, F k → k < w.heap.size) (hrel : Rel L R) (hok : LOk L) (hk : KOk L) (hE : L.grantE id ttl = 0) :
    Calls Tryz.prog 15 #[.pointer (some ⟨rb, 0, none⟩), .int .i64 id, .int .i64 ttl] w fun e w' => e = .returned (.tuple #[.int .i64 (L.gid id), .int .i64 0]) ∧ (∃ R', IsRef F w' rb R' ∧ Rel (L.granted id ttl) R') ∧ Upd (fun k => k = rb) w w' := by
  obtain ⟨⟨h0, h1, h2, h3⟩, hn, hm, hl⟩ := grantE_zero hE
  have hlen := hrel.len
  have hnow := hrel.now
  have hlast := hrel.last
  have hl0 := hok.last0
  have hl1 := hok.last1
  refine (rgrant_ok F rb R id (L.gid id) ttl w href hF (by omega) (hrel.isNot hn) ?_ h2 h3 (by rw [hnow]; exact hok.now0) (by rw [hnow]; exact hok.now1)).mono fun e w' ⟨he, ⟨m, hm1, hlo, hhi, hr⟩, hu⟩ => ⟨he, ⟨_, hr, hrel.granted hk rfl (gid_none hok hE) m hm1 hlo hhi⟩, hu⟩
  unfold LS.gid
  by_cases e : id = 0
  · rw [if_pos e]; exact .inl ⟨e, by rw [hlast], by omega, by have := hl e; omega⟩
  · rw [if_neg e]
    by_cases q : R.last < id
    · exact .inr (.inl ⟨rfl, by omega, h1, q⟩)
    · exact .inr (.inr ⟨rfl, by omega, h1, by omega⟩)

theorem rgrant_no {F : Nat → Prop} {rb : Nat} {L : LS} {R : RS} {id ttl : Int} {w : World} (href : IsRef F w rb R) (hrel : Rel L R) (hok : LOk L) (hE : L.grantE id ttl ≠ 0) :
    Calls Tryz.prog 15 #[.pointer (some ⟨rb, 0, none⟩), .int .i64 id, .int .i64 ttl] w fun e w' => e = .returned (.tuple #[.int .i64 0, .int .i64 (L.grantE id ttl)]) ∧ w = w' := by
  have hlen := hrel.len
  have hlast := hrel.last
  have hfew := hok.few
  by_cases h1 : id < 0 ∨ topT < id ∨ ttl < 1 ∨ topT < ttl
  · have e : L.grantE id ttl = 1 := by unfold LS.grantE; rw [if_pos h1]
    rw [e]; exact rgrant_arg rb id ttl w h1
  · cases h2 : L.l id with
    | some x =>
      have e : L.grantE id ttl = 8 := by unfold LS.grantE; rw [if_neg h1, if_pos (by rw [h2]; rfl)]
      obtain ⟨j, hj, hid, _⟩ := hrel.isThere h2
      rw [e]; exact rgrant_exist F rb R id ttl w href (by omega) hrel.pw j hj hid (by omega) (by omega) (by omega) (by omega)
    | none =>
      have e1 : L.grantE id ttl = if 64 ≤ L.n ∨ (id = 0 ∧ L.last = topT) then 15 else 0 := by unfold LS.grantE; rw [if_neg h1, if_neg (by rw [h2]; decide)]
      by_cases h3 : 64 ≤ L.n ∨ (id = 0 ∧ L.last = topT)
      · rw [if_pos h3] at e1
        rw [e1]; exact rgrant_many F rb R id ttl w href (by omega) (hrel.isNot h2) (by omega) (by omega) (by omega) (by omega) (by rw [hlast, hlen]; exact h3)
      · rw [if_neg h3] at e1; exact absurd e1 hE

theorem tick_neg (b : Nat) (n : Int) (w : World) (hn : n < 0) : Calls Tryz.prog 13 #[.pointer (some ⟨b, 0, none⟩), .int .i64 n] w fun e w' => e = .returned (.int .i64 1) ∧ w = w' := by
  go_enter Tryz.func13, Tryz.ntmps13
  go_wp2
  go_ret
  exact ⟨rfl, rfl⟩

end Go.Proofs.YtcbngjlgcgcljaaGreat
