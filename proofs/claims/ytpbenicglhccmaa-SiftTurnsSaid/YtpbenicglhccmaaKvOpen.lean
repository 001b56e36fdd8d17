/-
  The records and the query that a law is handed.
-/
import Derived.Test.YtpbenicglhccmaaSiftA
import Derived.Test.YtpbenicglhccmaaRowLib
import Derived.Lib.AtoiErrMem
namespace Go.Proofs.Ytpbenicglhccmaa
open Go.ChangeShapes Go.WideShapes Go.ChangeAt Go.RowKit Go.Tb Go.Deep Go.MapKept Go.ChangeMaps
set_option linter.unusedVariables false

theorem cellsKV : Try.prog.cellsOf 37 = 6 := by kernel_rfl
theorem cellsQuery : Try.prog.cellsOf 24 = 12 := by kernel_rfl
theorem cellsInt : Try.prog.cellsOf 3 = 1 := by kernel_rfl
theorem cellsI64 : Try.prog.cellsOf 2 = 1 := by kernel_rfl
theorem cellsBool : Try.prog.cellsOf 4 = 1 := by kernel_rfl
theorem cellsU8 : Try.prog.cellsOf 5 = 1 := by kernel_rfl
theorem cellsBytes : Try.prog.cellsOf 22 = 1 := by kernel_rfl

instance : Inhabited KvP := ⟨⟨⟨[], [], 0, 0, 0, 0⟩, ⟨none, 0, 0⟩, ⟨none, 0, 0⟩⟩⟩

theorem has_spot {P : Program} {w : World} {r : Reach} {base : Nat} {a : Addr} {e : TypeId} {n : Nat} (h : w.has P r base a e n) : a.spot = none ∧ a.block < w.heap.size := by
  obtain ⟨_, h1, row, cells, h2, _⟩ := h
  refine ⟨h1, ?_⟩
  unfold World.shape? at h2
  cases hh : w.heap[a.block]? with
  | none => rw [hh] at h2; cases h2
  | some o => exact (Array.getElem?_eq_some_iff.1 hh).1

theorem ok_slice {P : Program} {w : World} {r : Reach} {base : Nat} {t e : TypeId} {a : Addr} {n c : Nat} (ht : P.underlying t = some (.slice e)) (h : Value.okWide P w r base t (.slice (some a) n c)) : a.spot = none ∧ a.block < w.heap.size ∧ n ≤ c := by
  simp only [Value.okWide, ht, Cell.okWide, Cell.ok] at h
  exact ⟨(has_spot h.2.2).1, (has_spot h.2.2).2, h.1⟩

section
variable {H : Type} {enc : TypeId × Value → H} {w : World} {base : Nat} {held : Bool}

/-- Bytes inside of a struct. -/
theorem open_inner {fuel : Nat} {u : Value} {x : DataW H × List MemPlace} (h : DataW.trod enc Try.prog w base (fun _ => true) held fuel 22 [u] = some x) : ∃ (s : Sv) (l : List UInt8), u = s.v ∧ Bytes w u l := by
  rcases open_slice Try.underlying22 h with ⟨hcs, _⟩ | ⟨a', len', cap', m, n, D, Pl, hcs, _, hl, hm, hmm, _, hx⟩
  · simp only [List.cons.injEq, and_true] at hcs
    subst hcs
    exact ⟨⟨none, 0, 0⟩, [], rfl, .inl (.inl ⟨rfl, rfl⟩)⟩
  · simp only [List.cons.injEq, and_true] at hcs
    subst hcs
    simp only [if_true] at hmm
    subst hmm
    rw [cellsU8] at hx
    by_cases h0 : m = 0
    · subst h0
      obtain rfl : len' = 0 := by omega
      exact ⟨⟨some a', 0, 0⟩, [], rfl, .inr ⟨rfl, a', rfl⟩⟩
    · obtain ⟨cs0, h10, _⟩ := hx 0 (by omega)
      have hs : a'.spot = none := cells_spot h10 (by decide) (by omega)
      have each : ∀ i, i < m → ∃ y : UInt8, w.cell? ⟨a'.block, a'.off + i, none⟩ = some (.int .u8 (y.toNat : Int)) := by
        intro i hi
        obtain ⟨cs', h1, h2⟩ := hx i hi
        obtain ⟨k, e0, _, w0⟩ := DataW.trod_int Try.underlying5 h2
        subst e0
        obtain ⟨y, rfl⟩ := u8_of w0
        have hc := cells_at h1 (by decide) hs
        exact ⟨y, by simpa using hc 0 (by simp)⟩
      obtain ⟨f, hf'⟩ := choose_lt (α := UInt8) (n := m) each
      obtain ⟨b, o, s⟩ := a'
      cases hs
      refine ⟨⟨some ⟨b, o, none⟩, len', m⟩, (List.range len').map f, rfl, .inl (.inr ⟨b, o, m, by simp, by simpa using hl, ?_, fun i hi => ?_⟩)⟩
      · exact (Go.Lib.lt_of_cell (hf' 0 (by omega)))
      · simp at hi
        simpa using hf' i (by omega)

theorem field_of {fs : Array Field} {cs : List Value} {xs : List (DataW H × List MemPlace)} {n : Nat} {spare : Nat → Bool} (hlen : xs.length = fs.size)
    (hf : ∀ (i : Nat) (f : Field), fs[i]? = some f → DataW.trod enc Try.prog w base spare held n f.type ((cs.drop f.offset).take (Try.prog.cellsOf f.type)) = xs[i]?) (i : Nat) (ty : TypeId) (off : Nat) (u : Value) (h : (fs[i]?).map (fun f => (f.type, f.offset)) = some (ty, off)) (hc : Try.prog.cellsOf ty = 1) (hu : cs[off]? = some u) :
    ∃ y, DataW.trod enc Try.prog w base spare held n ty [u] = some y := by
  obtain ⟨f, h1, h2⟩ := Option.map_eq_some_iff.1 h
  cases h2
  have hi : i < xs.length := by rw [hlen]; exact (Array.getElem?_eq_some_iff.1 h1).1
  have := (hf i f h1).trans (List.getElem?_eq_getElem hi)
  obtain ⟨ho, he⟩ := List.getElem?_eq_some_iff.1 hu
  rw [hc, List.drop_eq_getElem_cons ho, he] at this
  exact ⟨xs[i], by simpa using this⟩

theorem list6 {α : Type} {l : List α} (h : l.length = 6) : ∃ a b c d e f, l = [a, b, c, d, e, f] := match l, h with | [a, b, c, d, e, f], _ => ⟨a, b, c, d, e, f, rfl⟩
theorem list12 {α : Type} {l : List α} (h : l.length = 12) : ∃ a b c d e f g i j k m n, l = [a, b, c, d, e, f, g, i, j, k, m, n] := match l, h with | [a, b, c, d, e, f, g, i, j, k, m, n], _ => ⟨a, b, c, d, e, f, g, i, j, k, m, n, rfl⟩

/-- One record. -/
theorem open_kv {fuel : Nat} {cs : List Value} {x : DataW H × List MemPlace} (h : DataW.trod enc Try.prog w base (fun _ => true) held fuel 37 cs = some x) : ∃ p : KvP, cs = kvenc p ∧ p.Ok w (fun _ => True) := by
  obtain ⟨xs, n, _, _, hl, hlen, hf⟩ := DataW.trod_struct Try.underlying37 h
  rw [cellsKV] at hl
  obtain ⟨c0, c1, c2, c3, c4, c5, rfl⟩ := list6 hl
  obtain ⟨y0, t0⟩ := field_of hlen hf 0 22 0 c0 rfl cellsBytes rfl
  obtain ⟨y1, t1⟩ := field_of hlen hf 1 22 1 c1 rfl cellsBytes rfl
  obtain ⟨y2, t2⟩ := field_of hlen hf 2 2 2 c2 rfl cellsI64 rfl
  obtain ⟨y3, t3⟩ := field_of hlen hf 3 2 3 c3 rfl cellsI64 rfl
  obtain ⟨y4, t4⟩ := field_of hlen hf 4 2 4 c4 rfl cellsI64 rfl
  obtain ⟨y5, t5⟩ := field_of hlen hf 5 2 5 c5 rfl cellsI64 rfl
  obtain ⟨s0, l0, rfl, b0⟩ := open_inner t0
  obtain ⟨s1, l1, rfl, b1⟩ := open_inner t1
  obtain ⟨n2, e2, _, _⟩ := DataW.trod_int Try.underlying2 t2
  obtain ⟨n3, e3, _, _⟩ := DataW.trod_int Try.underlying2 t3
  obtain ⟨n4, e4, _, _⟩ := DataW.trod_int Try.underlying2 t4
  obtain ⟨n5, e5, _, _⟩ := DataW.trod_int Try.underlying2 t5
  simp only [List.cons.injEq, and_true] at e2 e3 e4 e5
  subst e2 e3 e4 e5
  exact ⟨⟨⟨l0, l1, n2, n3, n4, n5⟩, s0, s1⟩, rfl, b0, b1, fun _ _ => trivial, fun _ _ => trivial⟩

theorem open_kvs {r : Reach} {b0 : Nat} {v : Value} {d : DataW H} {ps : List MemPlace} (hval : Value.okWide Try.prog w r b0 25 v)
    (h : DataW.Trod enc Try.prog w base (fun _ => true) held 25 v d ps) : ∃ (a : Option Addr) (c : Nat) (l : List KvP), v = .slice a l.length c ∧ Kvs w (fun _ => True) v l := by
  obtain ⟨a, len, cap, rfl⟩ := okWide_slice Try.underlying25 hval
  obtain ⟨fuel, hf⟩ := h
  rcases open_slice Try.underlying25 hf with ⟨hcs, _⟩ | ⟨a', len', cap', m, n, D, Pl, hcs, _, hl, hm, hmm, _, hx⟩
  · simp [Value.cells] at hcs
    obtain ⟨rfl, rfl, rfl⟩ := hcs
    exact ⟨none, 0, [], rfl, .inl ⟨rfl, rfl⟩, fun p hp => by cases hp⟩
  · simp [Value.cells] at hcs
    obtain ⟨rfl, rfl, rfl⟩ := hcs
    have hle : len ≤ m := by rw [hmm]; split <;> omega
    obtain ⟨hs, hb, _⟩ := ok_slice Try.underlying25 hval
    rw [cellsKV] at hx
    have each : ∀ i, i < len → ∃ p : KvP, p.Ok w (fun _ => True) ∧ ∀ j u, (kvenc p)[j]? = some u → w.cell? ⟨a'.block, a'.off + i * 6 + j, none⟩ = some u := by
      intro i hi
      obtain ⟨cs', h1, h2⟩ := hx i (by omega)
      obtain ⟨p, rfl, hp⟩ := open_kv h2
      have hc := cells_at h1 (by decide) hs
      refine ⟨p, hp, fun j u hj => ?_⟩
      obtain ⟨hj1, hj2⟩ := List.getElem?_eq_some_iff.1 hj
      rw [hc j hj1, hj2]
    obtain ⟨f, hf'⟩ := choose_lt (α := KvP) (n := len) each
    obtain ⟨b, o, s⟩ := a'
    cases hs
    have hlen : ((List.range len).map f).length = len := by simp
    refine ⟨some ⟨b, o, none⟩, cap, (List.range len).map f, by rw [hlen], .inr ⟨b, o, cap, by rw [hlen], by rw [hlen]; exact hl, hb, fun j u hj => ?_⟩, fun p hp => ?_⟩
    · have hjl : j < ((List.range len).map f).length * 6 := by rw [← flat_length kvenc_length]; exact (List.getElem?_eq_some_iff.1 hj).1
      rw [hlen] at hjl
      have hq : j / 6 < len := by omega
      have hr : j % 6 < 6 := by omega
      have e : j = j / 6 * 6 + j % 6 := by omega
      rw [e] at hj
      rw [flat_get kvenc_length _ (j / 6) (by rw [hlen]; exact hq) (j % 6) hr] at hj
      have := (hf' (j / 6) hq).2 (j % 6) u (by simpa using hj)
      rw [e, ← Nat.add_assoc]; exact this
    · obtain ⟨i, hi, rfl⟩ := List.mem_map.1 hp
      exact (hf' i (by simpa using hi)).1

theorem open_query {r : Reach} {b0 : Nat} {v : Value} {d : DataW H} {ps : List MemPlace} (hval : Value.okWide Try.prog w r b0 24 v)
    (h : DataW.Trod enc Try.prog w base (fun _ => true) held 24 v d ps) : ∃ (k e : Sv) (q : Qr), v = .agg (qcells k.v e.v q) := by
  obtain ⟨cs, rfl, hsz⟩ := okWide_struct Try.underlying24 hval
  obtain ⟨fuel, hf⟩ := h
  obtain ⟨xs, n, _, _, hl, hlen, hf⟩ := DataW.trod_struct Try.underlying24 hf
  rw [cellsQuery] at hl
  obtain ⟨cs⟩ := cs
  simp only [Value.cells] at hl hf
  obtain ⟨c0, c1, c2, c3, c4, c5, c6, c7, c8, c9, c10, c11, rfl⟩ := list12 hl
  obtain ⟨y0, t0⟩ := field_of hlen hf 0 22 0 c0 rfl cellsBytes rfl
  obtain ⟨y1, t1⟩ := field_of hlen hf 1 22 1 c1 rfl cellsBytes rfl
  obtain ⟨y2, t2⟩ := field_of hlen hf 2 2 2 c2 rfl cellsI64 rfl
  obtain ⟨y3, t3⟩ := field_of hlen hf 3 2 3 c3 rfl cellsI64 rfl
  obtain ⟨y4, t4⟩ := field_of hlen hf 4 3 4 c4 rfl cellsInt rfl
  obtain ⟨y5, t5⟩ := field_of hlen hf 5 4 5 c5 rfl cellsBool rfl
  obtain ⟨y6, t6⟩ := field_of hlen hf 6 4 6 c6 rfl cellsBool rfl
  obtain ⟨y7, t7⟩ := field_of hlen hf 7 4 7 c7 rfl cellsBool rfl
  obtain ⟨y8, t8⟩ := field_of hlen hf 8 2 8 c8 rfl cellsI64 rfl
  obtain ⟨y9, t9⟩ := field_of hlen hf 9 2 9 c9 rfl cellsI64 rfl
  obtain ⟨y10, t10⟩ := field_of hlen hf 10 2 10 c10 rfl cellsI64 rfl
  obtain ⟨y11, t11⟩ := field_of hlen hf 11 2 11 c11 rfl cellsI64 rfl
  obtain ⟨s0, l0, rfl, b0⟩ := open_inner t0
  obtain ⟨s1, l1, rfl, b1⟩ := open_inner t1
  obtain ⟨n2, e2, _, _⟩ := DataW.trod_int Try.underlying2 t2
  obtain ⟨n3, e3, _, _⟩ := DataW.trod_int Try.underlying2 t3
  obtain ⟨n4, e4, _, _⟩ := DataW.trod_int Try.underlying3 t4
  obtain ⟨n5, e5, _⟩ := DataW.trod_bool Try.underlying4 t5
  obtain ⟨n6, e6, _⟩ := DataW.trod_bool Try.underlying4 t6
  obtain ⟨n7, e7, _⟩ := DataW.trod_bool Try.underlying4 t7
  obtain ⟨n8, e8, _, _⟩ := DataW.trod_int Try.underlying2 t8
  obtain ⟨n9, e9, _, _⟩ := DataW.trod_int Try.underlying2 t9
  obtain ⟨n10, e10, _, _⟩ := DataW.trod_int Try.underlying2 t10
  obtain ⟨n11, e11, _, _⟩ := DataW.trod_int Try.underlying2 t11
  simp only [List.cons.injEq, and_true] at e2 e3 e4 e5 e6 e7 e8 e9 e10 e11
  subst e2 e3 e4 e5 e6 e7 e8 e9 e10 e11
  exact ⟨s0, s1, ⟨n2, n3, n4, n5, n6, n7, n8, n9, n10, n11⟩, rfl⟩

end
end Go.Proofs.Ytpbenicglhccmaa
