/-
  The acts that a law of leases is handed; few.
-/
import Derived.Test.YtcbngjlgcgcljaaGreatBytesK
import Derived.Test.YtcbngjlgcgcljaaGreatLsOpen
namespace Go.Proofs.YtcbngjlgcgcljaaGreat
open Go.ChangeShapes Go.WideShapes Go.ChangeAt Go.RowKit Go.Tb Go.Deep Go.MapKept Go.ChangeMaps
set_option linter.unusedVariables false

/-- An act, and where its key lies. -/
structure AP where
  kind : Int
  id : Int
  n : Int
  ka : Option Addr
  kc : Nat
  key : List UInt8
instance : Inhabited AP := ⟨⟨0, 0, 0, none, 0, []⟩⟩
def AP.kv (p : AP) : Value := .slice p.ka p.key.length p.kc
def aenc (p : AP) : List Value := [.int .i64 p.kind, .int .i64 p.id, .int .i64 p.n, .slice p.ka p.key.length p.kc]
theorem aenc_length (p : AP) : (aenc p).length = 4 := rfl

structure Acts (w : World) (v : Value) (l : List AP) : Prop where
  sl : Sl aenc w v l
  by_ : ∀ p ∈ l, Bytes w p.kv p.key

/-- Bytes stay as long as no block that was there is written. -/
theorem Bytes.low {S : Nat → Prop} {w w' : World} {v : Value} {l : List UInt8} (h : Bytes w v l) (hu : Upd S w w') (hS : ∀ k, k < w.heap.size → ¬ S k) : Bytes w' v l := by
  rcases h with h | h
  · exact .inl (Go.Tb.Bytes.upd h hu (fun b hb => hS b (Go.Tb.Bytes.lt h hb)))
  · exact .inr h
theorem Acts.low {S : Nat → Prop} {w w' : World} {v : Value} {l : List AP} (h : Acts w v l) (hu : Upd S w w') (hS : ∀ k, k < w.heap.size → ¬ S k) : Acts w' v l :=
  ⟨h.sl.upd hu (fun b hb => hS b (h.sl.lt hb)), fun p hp => (h.by_ p hp).low hu hS⟩
theorem Acts.grow {w w' : World} {v : Value} {l : List AP} (h : Acts w v l) (hu : Upd (fun _ => False) w w') : Acts w' v l := h.low hu (fun _ _ x => x)

theorem Acts.at {w : World} {a : Option Addr} {c : Nat} {l : List AP} (h : Acts w (.slice a l.length c) l) {k : Nat} (hk : k < l.length) :
    ∃ b off, a = some ⟨b, off, none⟩ ∧ w.cell? ⟨b, off + k * 4, none⟩ = some (.int .i64 l[k].kind) ∧ w.cell? ⟨b, off + k * 4 + 1, none⟩ = some (.int .i64 l[k].id) ∧ w.cell? ⟨b, off + k * 4 + 2, none⟩ = some (.int .i64 l[k].n) ∧ w.cell? ⟨b, off + k * 4 + 3, none⟩ = some (.slice l[k].ka l[k].key.length l[k].kc) := by
  obtain ⟨b, off, cap, e, _, _, _⟩ := h.sl.block (by omega)
  cases e
  exact ⟨b, off, rfl, h.sl.at aenc_length k hk 0 (by decide) _ rfl, h.sl.at aenc_length k hk 1 (by decide) _ rfl, h.sl.at aenc_length k hk 2 (by decide) _ rfl, h.sl.at aenc_length k hk 3 (by decide) _ rfl⟩

def FewOk (l : List AP) : Prop := l.length ≤ 80 ∧ ∀ p ∈ l, p.key.length ≤ 200
instance (l : List AP) : Decidable (FewOk l) := by unfold FewOk; infer_instance

set_option maxRecDepth 100000 in
set_option maxHeartbeats 1000000 in
theorem few_calls (a : Option Addr) (c : Nat) (l : List AP) (w : World) (h : Acts w (.slice a l.length c) l) (hb : l.length ≤ 9223372036854775807) :
    Calls Tryz.prog 5 #[.slice a l.length c] w fun e w' => e = .returned (.bool (decide (FewOk l))) ∧ Upd (fun _ => False) w w' := by
  by_cases h80 : l.length ≤ 80
  · have h80' : ¬ ((80 : Int) < (l.length : Int)) := by omega
    have H := Lib.hid h
    clear h
    generalize hn : l.length = n at *
    have HN := Lib.hid hn
    clear hn
    go_enter Tryz.func5, Tryz.ntmps5
    go_wp2
    go_loopw [10] (fun i wr => ∃ j : Nat, j ≤ n ∧ i = .int .i64 j ∧ (∀ k (hk : k < l.length), k < j → l[k].key.length ≤ 200) ∧ Upd (fun _ => False) w wr) (fun i _ => n - (intOf i).toNat)
    case atStart => exact ⟨0, Nat.zero_le _, rfl, fun k _ h => absurd h (Nat.not_lt_zero _), Upd.refl _ _⟩
    case round =>
      obtain ⟨j, hj, rfl, hk, hu⟩ := hrel
      have HK := Lib.hid hk
      have HU := Lib.hid hu
      clear hk hu
      by_cases hlt : j < n
      · have hlt' : j < l.length := by rw [HN.out]; exact hlt
        obtain ⟨b, off, rfl, q0, q1, q2, q3⟩ := (show Acts wr (.slice a l.length c) l by rw [HN.out]; exact H.out.grow HU.out).at hlt'
        have HT := Lib.hid (show l[j].key.length ≤ 200 → ∀ k (hk : k < l.length), k < j + 1 → l[k].key.length ≤ 200 from fun h k hk hk2 => by
          by_cases e : k = j
          · subst e; exact h
          · exact HK.out k hk (by omega))
        have HF := Lib.hid (show ¬ l[j].key.length ≤ 200 → ¬ FewOk l from fun h hf => h (hf.2 _ (List.getElem_mem _)))
        generalize l[j].kind = x0 at *
        generalize l[j].id = x1 at *
        generalize l[j].n = x2 at *
        generalize l[j].ka = x3 at *
        generalize l[j].kc = x4 at *
        generalize l[j].key.length = x5 at *
        clear hlt'
        by_cases h200 : x5 ≤ 200
        · have h200' : ¬ ((200 : Int) < (x5 : Int)) := by omega
          have HT2 := Lib.hid (HT.out h200)
          clear h200 HT HF
          go_wp2
          go_roundw
          case rel => exact ⟨j + 1, by omega, by go_num, HT2.out, HU.out.alloc _⟩
          case measure => simp [intOf]; omega
        · have h200' : ((200 : Int) < (x5 : Int)) := by omega
          have HF2 := Lib.hid (HF.out h200)
          clear h200 HT HF
          go_wp2
          go_ret
          exact ⟨by rw [decide_eq_false HF2.out]; rfl, HU.out.alloc _⟩
      · obtain rfl : j = n := by omega
        go_wp2
        go_ret
        have hf : FewOk l := ⟨by rw [HN.out]; exact h80, fun p hp => by
          obtain ⟨k, hk, rfl⟩ := List.getElem_of_mem hp
          exact HK.out k hk (by rw [← HN.out]; exact hk)⟩
        exact ⟨by rw [decide_eq_true hf]; rfl, HU.out⟩
  · have h80' : ((80 : Int) < (l.length : Int)) := by omega
    have hf : ¬ FewOk l := fun h => h80 h.1
    rw [decide_eq_false hf]
    clear h hf
    generalize l.length = n at *
    go_enter Tryz.func5, Tryz.ntmps5
    go_wp2
    go_ret
    exact ⟨rfl, Upd.refl _ _⟩

/-! ### the acts that a law is handed -/
theorem cellsAct : Tryz.prog.cellsOf 34 = 4 := by kernel_rfl
theorem cellsInt : Tryz.prog.cellsOf 3 = 1 := by kernel_rfl
theorem cellsU8 : Tryz.prog.cellsOf 5 = 1 := by kernel_rfl
theorem cellsBytes : Tryz.prog.cellsOf 32 = 1 := by kernel_rfl
section
variable {H : Type} {enc : TypeId × Value → H} {w : World} {base : Nat} {held : Bool}

/-- Bytes inside of a struct. -/
theorem open_inner {fuel : Nat} {u : Value} {x : DataW H × List MemPlace} (h : DataW.trod enc Tryz.prog w base (fun _ => true) held fuel 32 [u] = some x) : ∃ (a : Option Addr) (c : Nat) (l : List UInt8), u = .slice a l.length c ∧ Bytes w u l := by
  rcases open_slice Tryz.underlying32 h with ⟨hcs, _⟩ | ⟨a', len', cap', m, n, D, Pl, hcs, _, hl, hm, hmm, _, hx⟩
  · simp only [List.cons.injEq, and_true] at hcs
    subst hcs
    exact ⟨none, 0, [], rfl, .inl (.inl ⟨rfl, rfl⟩)⟩
  · simp only [List.cons.injEq, and_true] at hcs
    subst hcs
    simp only [if_true] at hmm
    subst hmm
    rw [cellsU8] at hx
    by_cases h0 : m = 0
    · subst h0
      obtain rfl : len' = 0 := by omega
      exact ⟨some a', 0, [], rfl, .inr ⟨rfl, a', rfl⟩⟩
    · obtain ⟨cs0, h10, _⟩ := hx 0 (by omega)
      have hs : a'.spot = none := cells_spot h10 (by decide) (by omega)
      have each : ∀ i, i < m → ∃ y : UInt8, w.cell? ⟨a'.block, a'.off + i, none⟩ = some (.int .u8 (y.toNat : Int)) := by
        intro i hi
        obtain ⟨cs', h1, h2⟩ := hx i hi
        obtain ⟨k, e0, _, w0⟩ := DataW.trod_int Tryz.underlying5 h2
        subst e0
        obtain ⟨y, rfl⟩ := u8_of w0
        have hc := cells_at h1 (by decide) hs
        exact ⟨y, by simpa using hc 0 (by simp)⟩
      obtain ⟨f, hf'⟩ := choose_lt (α := UInt8) (n := m) each
      obtain ⟨b, o, s⟩ := a'
      cases hs
      refine ⟨some ⟨b, o, none⟩, m, (List.range len').map f, by simp, .inl (.inr ⟨b, o, m, by simp, by simpa using hl, ?_, fun i hi => ?_⟩)⟩
      · exact (Go.Lib.lt_of_cell (hf' 0 (by omega)))
      · simp at hi
        simpa using hf' i (by omega)

theorem field_of {fs : Array Field} {cs : List Value} {xs : List (DataW H × List MemPlace)} {n : Nat} {spare : Nat → Bool} (hlen : xs.length = fs.size)
    (hf : ∀ (i : Nat) (f : Field), fs[i]? = some f → DataW.trod enc Tryz.prog w base spare held n f.type ((cs.drop f.offset).take (Tryz.prog.cellsOf f.type)) = xs[i]?) (i : Nat) (ty : TypeId) (off : Nat) (u : Value) (h : (fs[i]?).map (fun f => (f.type, f.offset)) = some (ty, off)) (hc : Tryz.prog.cellsOf ty = 1) (hu : cs[off]? = some u) :
    ∃ y, DataW.trod enc Tryz.prog w base spare held n ty [u] = some y := by
  obtain ⟨f, h1, h2⟩ := Option.map_eq_some_iff.1 h
  cases h2
  have hi : i < xs.length := by rw [hlen]; exact (Array.getElem?_eq_some_iff.1 h1).1
  have := (hf i f h1).trans (List.getElem?_eq_getElem hi)
  obtain ⟨ho, he⟩ := List.getElem?_eq_some_iff.1 hu
  rw [hc, List.drop_eq_getElem_cons ho, he] at this
  exact ⟨xs[i], by simpa using this⟩

theorem list4 {α : Type} {l : List α} (h : l.length = 4) : ∃ a b c d, l = [a, b, c, d] := match l, h with | [a, b, c, d], _ => ⟨a, b, c, d, rfl⟩

set_option maxRecDepth 100000 in
/-- One act. -/
theorem open_act {fuel : Nat} {cs : List Value} {x : DataW H × List MemPlace} (h : DataW.trod enc Tryz.prog w base (fun _ => true) held fuel 34 cs = some x) : ∃ p : AP, cs = aenc p ∧ Bytes w p.kv p.key := by
  obtain ⟨xs, n, _, _, hl, hlen, hf⟩ := DataW.trod_struct Tryz.underlying34 h
  rw [cellsAct] at hl
  obtain ⟨c0, c1, c2, c3, rfl⟩ := list4 hl
  obtain ⟨y0, t0⟩ := field_of hlen hf 0 3 0 c0 rfl cellsInt rfl
  obtain ⟨y1, t1⟩ := field_of hlen hf 1 2 1 c1 rfl cellsI64 rfl
  obtain ⟨y2, t2⟩ := field_of hlen hf 2 2 2 c2 rfl cellsI64 rfl
  obtain ⟨y3, t3⟩ := field_of hlen hf 3 32 3 c3 rfl cellsBytes rfl
  obtain ⟨ka, kc, key, rfl, b3⟩ := open_inner t3
  obtain ⟨n0, e0, _, _⟩ := DataW.trod_int Tryz.underlying3 t0
  obtain ⟨n1, e1, _, _⟩ := DataW.trod_int Tryz.underlying2 t1
  obtain ⟨n2, e2, _, _⟩ := DataW.trod_int Tryz.underlying2 t2
  simp only [List.cons.injEq, and_true] at e0 e1 e2
  subst e0 e1 e2
  exact ⟨⟨n0, n1, n2, ka, kc, key⟩, rfl, b3⟩

set_option maxRecDepth 100000 in
theorem open_acts {r : Reach} {b0 : Nat} {v : Value} {d : DataW H} {ps : List MemPlace} (hval : Value.okWide Tryz.prog w r b0 22 v)
    (h : DataW.Trod enc Tryz.prog w base (fun _ => true) held 22 v d ps) : ∃ (a : Option Addr) (c : Nat) (l : List AP), v = .slice a l.length c ∧ Acts w v l ∧ l.length ≤ 9223372036854775807 := by
  obtain ⟨a, len, cap, rfl⟩ := okWide_slice Tryz.underlying22 hval
  obtain ⟨fuel, hf⟩ := h
  rcases open_slice Tryz.underlying22 hf with ⟨hcs, _⟩ | ⟨a', len', cap', m, n, D, Pl, hcs, _, hl, hm, hmm, _, hx⟩
  · simp [Value.cells] at hcs
    obtain ⟨rfl, rfl, rfl⟩ := hcs
    exact ⟨none, 0, [], rfl, ⟨.inl ⟨rfl, rfl⟩, fun p hp => by cases hp⟩, by simp⟩
  · simp [Value.cells] at hcs
    obtain ⟨rfl, rfl, rfl⟩ := hcs
    have hle : len ≤ m := by rw [hmm]; split <;> omega
    obtain ⟨hs, hb, _⟩ := ok_slice Tryz.underlying22 hval
    rw [cellsAct] at hx
    have each : ∀ i, i < len → ∃ p : AP, Bytes w p.kv p.key ∧ ∀ j u, (aenc p)[j]? = some u → w.cell? ⟨a'.block, a'.off + i * 4 + j, none⟩ = some u := by
      intro i hi
      obtain ⟨cs', h1, h2⟩ := hx i (by omega)
      obtain ⟨p, rfl, hp⟩ := open_act h2
      have hc := cells_at h1 (by decide) hs
      refine ⟨p, hp, fun j u hj => ?_⟩
      obtain ⟨hj1, hj2⟩ := List.getElem?_eq_some_iff.1 hj
      rw [hc j hj1, hj2]
    obtain ⟨f, hf'⟩ := choose_lt (α := AP) (n := len) each
    obtain ⟨b, o, s⟩ := a'
    cases hs
    have hlen : ((List.range len).map f).length = len := by simp
    refine ⟨some ⟨b, o, none⟩, cap, (List.range len).map f, by rw [hlen], ⟨.inr ⟨b, o, cap, by rw [hlen], by rw [hlen]; exact hl, hb, fun j u hj => ?_⟩, fun p hp => ?_⟩, by rw [hlen]; unfold maxLen at hm; omega⟩
    · have hjl : j < ((List.range len).map f).length * 4 := by rw [← flat_length aenc_length]; exact (List.getElem?_eq_some_iff.1 hj).1
      rw [hlen] at hjl
      have hq : j / 4 < len := by omega
      have hr : j % 4 < 4 := by omega
      have e : j = j / 4 * 4 + j % 4 := by omega
      rw [e] at hj
      rw [flat_get aenc_length _ (j / 4) (by rw [hlen]; exact hq) (j % 4) hr] at hj
      have := (hf' (j / 4) hq).2 (j % 4) u (by simpa using hj)
      rw [e, ← Nat.add_assoc]; exact this
    · obtain ⟨i, hi, rfl⟩ := List.mem_map.1 hp
      exact (hf' i (by simpa using hi)).1
end
end Go.Proofs.YtcbngjlgcgcljaaGreat
