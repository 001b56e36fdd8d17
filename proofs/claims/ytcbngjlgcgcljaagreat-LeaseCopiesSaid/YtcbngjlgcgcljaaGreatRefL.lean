/-
  The document's lessor: what it is; Later, At.
-/
import Derived.Test.YtcbngjlgcgcljaaGreatLeaseM
import Derived.Test.YtcbngjlgcgcljaaGreatBase
namespace Go.Proofs.YtcbngjlgcgcljaaGreat
open Go.RowKit Go.Tb Go.MapKept Go.ChangeMaps Go.Lib
set_option linter.unusedVariables false

/-- A lease of the document's lessor, and where its keys lie. -/
structure RL where
  id : Int
  ttl : Int
  due : Int
  ka : Option Addr
  kc : Nat
  rows : List KRow
def RL.kv (r : RL) : Value := .slice r.ka r.rows.length r.kc
def RL.keys (r : RL) : List (List UInt8) := r.rows.map (·.2)
def rlenc (r : RL) : List Value := [.int .i64 r.id, .int .i64 r.ttl, .int .i64 r.due, .slice r.ka r.rows.length r.kc]
theorem rlenc_length (r : RL) : (rlenc r).length = 4 := rfl
theorem rlenc_one (r : RL) : ∀ u ∈ rlenc r, u.oneCell' = true := fun u hu => by
  simp only [rlenc, List.mem_cons, List.not_mem_nil, or_false] at hu
  rcases hu with rfl | rfl | rfl | rfl <;> rfl
theorem info_RLease : (Tryz.prog.info? 73).map (fun i => (i.zero, i.size, i.bytes)) = some (some (.agg #[.int .i64 0, .int .i64 0, .int .i64 0, .slice none 0 0]), 4, 48) := by kernel_rfl
theorem size_RLease : (Tryz.prog.info? 73).map (·.size) = some 4 := by kernel_rfl

structure RS where
  now : Int
  last : Int
  l : List RL

/-- A lease's keys read as they say, and lie outside of `F`. -/
structure RL.Ok (F : Nat → Prop) (w : World) (r : RL) : Prop where
  sl : Sl renc w r.kv r.rows
  slF : ∀ b, sliceBlock r.kv = some b → ¬ F b
  by_ : ∀ k ∈ r.rows, Go.Tb.Bytes w k.val k.2
  byF : ∀ k ∈ r.rows, ∀ b, sliceBlock k.val = some b → ¬ F b
theorem RL.Ok.upd {F S : Nat → Prop} {w w' : World} {r : RL} (h : r.Ok F w) (hu : Upd S w w') (hS : ∀ k, k < w.heap.size → S k → F k) : r.Ok F w' :=
  { h with sl := h.sl.upd hu (fun b hb e => h.slF b hb (hS b (h.sl.lt hb) e)), by_ := fun k hk => Go.Tb.Bytes.upd (h.by_ k hk) hu (fun b hb e => h.byF k hk b hb (hS b (Go.Tb.Bytes.lt (h.by_ k hk) hb) e)) }

/-- The document's lessor; of `F` alone is anything written. -/
structure IsRef (F : Nat → Prop) (w : World) (b : Nat) (R : RS) : Prop where
  blk : ∃ v, w.heap[b]? = some (.cells #[.int .i64 R.now, .int .i64 R.last, v] 54 (0, 0)) ∧ Sl rlenc w v R.l ∧ ∀ g, sliceBlock v = some g → ¬ F g
  ok : ∀ r ∈ R.l, r.Ok F w
  self : F b
theorem IsRef.upd {F S : Nat → Prop} {w w' : World} {b : Nat} {R : RS} (h : IsRef F w b R) (hu : Upd S w w') (hS : ∀ k, k < w.heap.size → S k → F k) (hb : ¬ S b) : IsRef F w' b R := by
  obtain ⟨v, h1, h2, h3⟩ := h.blk
  exact { blk := ⟨v, hu.heap h1 hb, h2.upd hu (fun g hg e => h3 g hg (hS g (h2.lt hg) e)), h3⟩, ok := fun r hr => (h.ok r hr).upd hu hS, self := h.self }
theorem IsRef.grow {F : Nat → Prop} {w w' : World} {b : Nat} {R : RS} (h : IsRef F w b R) (hu : Upd (fun _ => False) w w') : IsRef F w' b R := h.upd hu (fun _ _ e => e.elim) (fun e => e)

theorem rlater_calls (now n : Int) (w : World) (h0 : 0 ≤ now) (h1 : now ≤ topT) (h2 : 0 ≤ n) (h3 : n ≤ 9223372036854775807) : Calls Tryz.prog 16 #[.int .i64 now, .int .i64 n] w fun e w' => e = .returned (.int .i64 (laterI now n)) ∧ w = w' := by
  unfold topT at h1
  by_cases a1 : (4611686018427387904 : Int) ≤ now
  · have e : laterI now n = 4611686018427387904 := by unfold laterI topT; split <;> omega
    rw [e]; clear e
    have a1' : now = 4611686018427387904 := by omega
    subst a1'
    go_enter Tryz.func16, Tryz.ntmps16
    go_wp2
    go_ret
    exact ⟨rfl, rfl⟩
  · by_cases a2 : (4611686018427387904 : Int) ≤ n
    · have e : laterI now n = 4611686018427387904 := by unfold laterI topT; split <;> omega
      rw [e]; clear e
      go_enter Tryz.func16, Tryz.ntmps16
      go_wp2
      go_ret
      exact ⟨rfl, rfl⟩
    · by_cases a3 : (4611686018427387904 : Int) < now + n
      · have e : laterI now n = 4611686018427387904 := by unfold laterI topT; split <;> omega
        rw [e]; clear e
        go_enter Tryz.func16, Tryz.ntmps16
        go_wp2
        go_ret
        exact ⟨rfl, rfl⟩
      · have e : laterI now n = now + n := by unfold laterI topT; split <;> omega
        rw [e]; clear e
        have a4 : ¬ now + n < 0 := by omega
        go_enter Tryz.func16, Tryz.ntmps16
        go_wp2
        go_ret
        exact ⟨rfl, rfl⟩

/-- What At says. -/
def AtSays (l : List RL) (id : Int) (w : World) (e : Ending) (w' : World) : Prop :=
  w = w' ∧ ((∃ j, ∃ h : j < l.length, l[j].id = id ∧ e = .returned (.int .i64 (j : Nat))) ∨ ((∀ r ∈ l, r.id ≠ id) ∧ e = .returned (.int .i64 (-1))))

set_option maxRecDepth 100000 in
set_option maxHeartbeats 1000000 in
theorem rat_calls (F : Nat → Prop) (b : Nat) (R : RS) (id : Int) (w : World) (h : IsRef F w b R) (hlen : R.l.length ≤ 1000) :
    Calls Tryz.prog 38 #[.pointer (some ⟨b, 0, none⟩), .int .i64 id] w (AtSays R.l id w) := by
  obtain ⟨v, hblk, hsl, -⟩ := h.blk
  obtain ⟨a, c, rfl, -⟩ := hsl.shape
  have c2 : w.cell? ⟨b, 2, none⟩ = some (.slice a R.l.length c) := cell_of hblk 2
  have HSL := Lib.hid hsl
  clear h hblk hsl
  generalize R.l = l at *
  generalize hn : l.length = n at *
  have HN := Lib.hid hn
  clear hn
  go_enter Tryz.func38, Tryz.ntmps38
  go_wp2
  go_loopw [11] (fun i wr => ∃ j : Nat, j ≤ n ∧ i = .int .i64 j ∧ (∀ k (hk : k < l.length), k < j → l[k].id ≠ id) ∧ w = wr) (fun i _ => n - (intOf i).toNat)
  case atStart => exact ⟨0, Nat.zero_le _, rfl, fun k _ h => absurd h (Nat.not_lt_zero _), rfl⟩
  case round =>
    obtain ⟨j, hj, rfl, hk, rfl⟩ := hrel
    have HK := Lib.hid hk
    clear hk
    by_cases hlt : j < n
    · have hlt' : j < l.length := by rw [HN.out]; exact hlt
      obtain ⟨bk, off, cap, hee, hcap, hbk, -⟩ := (show Sl rlenc w (.slice a l.length c) l by rw [HN.out]; exact HSL.out).block (by omega)
      cases hee
      have q0 := (show Sl rlenc w (.slice (some ⟨bk, off, none⟩) n c) l from HSL.out).at rlenc_length j hlt' 0 (by decide) _ rfl
      rw [Nat.add_zero] at q0
      by_cases hid : l[j].id = id
      · have HJ := Lib.hid (show AtSays l id w (.returned (.int .i64 (j : Nat))) w from ⟨rfl, .inl ⟨j, hlt', hid, rfl⟩⟩)
        rw [hid] at q0
        clear hid hlt'
        go_wp2
        go_ret
        exact HJ.out
      · have HJ := Lib.hid (show ∀ k (hk : k < l.length), k < j + 1 → l[k].id ≠ id from fun k hk hk2 => by
          by_cases e : k = j
          · subst e; exact hid
          · exact HK.out k hk (by omega))
        generalize l[j].id = id2 at *
        clear hlt'
        go_wp2
        go_roundw
        case rel => exact ⟨j + 1, by omega, by go_num, HJ.out, trivial⟩
        case measure => simp [intOf]; omega
    · obtain rfl : j = n := by omega
      go_wp2
      go_ret
      exact ⟨rfl, .inr ⟨fun r hr => by
        obtain ⟨k, hk, rfl⟩ := List.getElem_of_mem hr
        exact HK.out k hk (by rw [← HN.out]; exact hk), rfl⟩⟩

theorem ids_inj {l : List RL} (hp : (l.map (·.id)).Pairwise (· < ·)) {i j : Nat} (hi : i < l.length) (hj : j < l.length) (e : l[i].id = l[j].id) : i = j := by
  have hp' := List.pairwise_iff_getElem.1 hp
  by_cases h1 : i < j
  · have := hp' i j (by simpa using hi) (by simpa using hj) h1
    simp at this; omega
  · by_cases h2 : j < i
    · have := hp' j i (by simpa using hj) (by simpa using hi) h2
      simp at this; omega
    · omega
theorem rat_yes (F : Nat → Prop) (b : Nat) (R : RS) (id : Int) (w : World) (h : IsRef F w b R) (hlen : R.l.length ≤ 1000) (hp : (R.l.map (·.id)).Pairwise (· < ·)) (j : Nat) (hj : j < R.l.length) (hid : R.l[j].id = id) :
    Calls Tryz.prog 38 #[.pointer (some ⟨b, 0, none⟩), .int .i64 id] w fun e w' => e = .returned (.int .i64 (j : Nat)) ∧ w = w' :=
  (rat_calls F b R id w h hlen).mono fun e w' ⟨hw, hs⟩ => by
    rcases hs with ⟨i, hi, e1, e2⟩ | ⟨hno, e2⟩
    · obtain rfl := ids_inj hp hi hj (e1.trans hid.symm)
      exact ⟨e2, hw⟩
    · exact absurd hid (hno _ (List.getElem_mem hj))
theorem rat_no (F : Nat → Prop) (b : Nat) (R : RS) (id : Int) (w : World) (h : IsRef F w b R) (hlen : R.l.length ≤ 1000) (hno : ∀ r ∈ R.l, r.id ≠ id) :
    Calls Tryz.prog 38 #[.pointer (some ⟨b, 0, none⟩), .int .i64 id] w fun e w' => e = .returned (.int .i64 (-1)) ∧ w = w' :=
  (rat_calls F b R id w h hlen).mono fun e w' ⟨hw, hs⟩ => by
    rcases hs with ⟨i, hi, e1, e2⟩ | ⟨_, e2⟩
    · exact absurd e1 (hno _ (List.getElem_mem hi))
    · exact ⟨e2, hw⟩

end Go.Proofs.YtcbngjlgcgcljaaGreat
