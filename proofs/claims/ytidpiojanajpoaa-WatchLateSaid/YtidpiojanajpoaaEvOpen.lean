/-
  The events and the watch that a law is handed.
-/
import Derived.SizedLaws
import Derived.Test.YtidpiojanajpoaaApartP
import Derived.Test.YtidpiojanajpoaaRowLib
import Derived.Lib.AtoiErrMem
namespace Go.Proofs.Ytidpiojanajpoaa
open Go.ChangeShapes Go.WideShapes Go.ChangeAt Go.RowKit Go.Tb Go.Deep Go.MapKept Go.ChangeMaps
set_option linter.unusedVariables false

theorem cellsKV : Try.prog.cellsOf 57 = 6 := by kernel_rfl
theorem cellsEv : Try.prog.cellsOf 59 = 14 := by kernel_rfl
theorem cellsEvs : Try.prog.cellsOf 32 = 1 := by kernel_rfl
theorem cellsWatch : Try.prog.cellsOf 24 = 6 := by kernel_rfl
theorem cellsInt : Try.prog.cellsOf 3 = 1 := by kernel_rfl
theorem cellsI64 : Try.prog.cellsOf 2 = 1 := by kernel_rfl
theorem cellsBool : Try.prog.cellsOf 4 = 1 := by kernel_rfl
theorem cellsU8 : Try.prog.cellsOf 5 = 1 := by kernel_rfl
theorem cellsBytes : Try.prog.cellsOf 22 = 1 := by kernel_rfl
theorem bytesU8 : Try.prog.bytesOf 5 = 1 := by kernel_rfl
theorem bytesEv : Try.prog.bytesOf 59 = 176 := by kernel_rfl

instance : Inhabited EvP := ⟨⟨0, nilP, false, nilP⟩⟩
instance : Inhabited WsP := ⟨⟨none, 0, []⟩⟩

theorem has_spot {P : Program} {w : World} {r : Reach} {base : Nat} {a : Addr} {e : TypeId} {n : Nat} (h : w.has P r base a e n) : a.spot = none ∧ a.block < w.heap.size := by
  obtain ⟨_, h1, row, cells, h2, _⟩ := h
  refine ⟨h1, ?_⟩
  unfold World.shape? at h2
  cases hh : w.heap[a.block]? with
  | none => rw [hh] at h2; cases h2
  | some o => exact (Array.getElem?_eq_some_iff.1 hh).1
theorem ok_slice {P : Program} {w : World} {r : Reach} {base : Nat} {t e : TypeId} {a : Addr} {n c : Nat} (ht : P.underlying t = some (.slice e)) (h : Value.okWide P w r base t (.slice (some a) n c)) : a.spot = none ∧ a.block < w.heap.size ∧ n ≤ c := by
  simp only [Value.okWide, ht, Cell.okWide, Cell.ok] at h
  exact ⟨(has_spot h.2.2).1, (has_spot h.2.2).2, h.1⟩
theorem reach_lt : reachBytes ≤ 140737488355328 := Nat.le_of_lt reachBytes_lt

section
variable {H : Type} {enc : TypeId × Value → H} {w : World} {base : Nat} {held : Bool}

/-- No weight passes the reach. -/
def Lite (t : TypeId) (d : DataW H) : Prop := ∀ n ∈ d.weights Try.prog t, n ≤ reachBytes

theorem weights_all {e : TypeId} : ∀ {l : List (DataW H)} {d : DataW H}, d ∈ l → ∀ n ∈ d.weights Try.prog e, n ∈ DataW.weightsAll Try.prog e l
  | x :: r, d, hd, n, hn => by
    rw [DataW.weightsAll]
    rcases List.mem_cons.1 hd with rfl | hd
    · exact List.mem_append.2 (.inl hn)
    · exact List.mem_append.2 (.inr (weights_all hd n hn))

theorem Lite.elem {t e : TypeId} (ht : Try.prog.underlying t = some (.slice e)) {l sp : List (DataW H)} (h : Lite t (.slice l sp)) {d : DataW H} (hd : d ∈ l) : Lite e d := fun n hn =>
  h n (by rw [DataW.weights, ht]; exact List.mem_cons_of_mem _ (List.mem_append.2 (.inl (weights_all hd n hn))))
theorem Lite.len {t e : TypeId} (ht : Try.prog.underlying t = some (.slice e)) {l sp : List (DataW H)} (h : Lite t (.slice l sp)) : (l.length + sp.length) * Try.prog.bytesOf e ≤ reachBytes :=
  h _ (by rw [DataW.weights, ht]; exact List.mem_cons_self)
theorem Lite.field {t : TypeId} {fs : Array Field} (ht : Try.prog.underlying t = some (.struct fs)) {l : List (DataW H)} (h : Lite t (.agg l)) {i : Nat} {f : Field} {d : DataW H} (hf : fs[i]? = some f) (hd : l[i]? = some d) : Lite f.type d := fun n hn =>
  h n (by rw [DataW.weights, ht]; exact DataW.weights_mem_each (j := i) (by simp [hf]) hd n hn)

/-- Bytes inside of a struct. -/
theorem open_inner {fuel : Nat} {u : Value} {x : DataW H × List MemPlace} (h : DataW.trod enc Try.prog w base (fun _ => true) held fuel 22 [u] = some x) (hl : Lite 22 x.1) : ∃ (s : Sv) (l : List UInt8), u = s.v ∧ Bytes w u l ∧ s.n ≤ 140737488355328 := by
  rcases open_slice Try.underlying22 h with ⟨hcs, _⟩ | ⟨a', len', cap', m, n, D, Pl, hcs, _, hll, hm, hmm, hxx, hx⟩
  · simp only [List.cons.injEq, and_true] at hcs
    subst hcs
    exact ⟨⟨none, 0, 0⟩, [], rfl, .inl (.inl ⟨rfl, rfl⟩), Nat.zero_le _⟩
  · simp only [List.cons.injEq, and_true] at hcs
    subst hcs
    have hb : len' ≤ 140737488355328 := by
      rw [hxx] at hl
      have h1 := hl.len Try.underlying22
      rw [bytesU8] at h1
      simp at h1
      have := reach_lt
      omega
    simp only [if_true] at hmm
    subst hmm
    rw [cellsU8] at hx
    by_cases h0 : m = 0
    · subst h0
      obtain rfl : len' = 0 := by omega
      exact ⟨⟨some a', 0, 0⟩, [], rfl, .inr ⟨rfl, a', rfl⟩, Nat.zero_le _⟩
    · obtain ⟨cs0, h10, _⟩ := hx 0 (by omega)
      have hs : a'.spot = none := cells_spot h10 (by decide) (by omega)
      have each : ∀ i, i < m → ∃ y : UInt8, w.cell? ⟨a'.block, a'.off + i, none⟩ = some (.int .u8 (y.toNat : Int)) := by
        intro i hi
        obtain ⟨cs', h1, h2⟩ := hx i hi
        obtain ⟨k, e0, _, w0⟩ := DataW.trod_int Try.underlying5 h2
        subst e0
        obtain ⟨y, rfl⟩ := u8_of w0
        have hc := cells_at h1 (by decide) hs
        exact ⟨y, by simpa using hc 0 (by simp)⟩
      obtain ⟨f, hf'⟩ := choose_lt (α := UInt8) (n := m) each
      obtain ⟨b, o, s⟩ := a'
      cases hs
      refine ⟨⟨some ⟨b, o, none⟩, len', m⟩, (List.range len').map f, rfl, .inl (.inr ⟨b, o, m, by simp, by simpa using hll, ?_, fun i hi => ?_⟩), hb⟩
      · exact (Go.Lib.lt_of_cell (hf' 0 (by omega)))
      · simp at hi
        simpa using hf' i (by omega)

theorem field_of {fs : Array Field} {cs : List Value} {xs : List (DataW H × List MemPlace)} {n : Nat} {spare : Nat → Bool} (hlen : xs.length = fs.size)
    (hf : ∀ (i : Nat) (f : Field), fs[i]? = some f → DataW.trod enc Try.prog w base spare held n f.type ((cs.drop f.offset).take (Try.prog.cellsOf f.type)) = xs[i]?) (i : Nat) (ty : TypeId) (off : Nat) (k : Nat) (h : (fs[i]?).map (fun f => (f.type, f.offset)) = some (ty, off)) (hc : Try.prog.cellsOf ty = k) :
    ∃ y, xs[i]? = some y ∧ DataW.trod enc Try.prog w base spare held n ty ((cs.drop off).take k) = some y ∧ ∃ f, fs[i]? = some f ∧ f.type = ty := by
  obtain ⟨f, h1, h2⟩ := Option.map_eq_some_iff.1 h
  cases h2
  have hi : i < xs.length := by rw [hlen]; exact (Array.getElem?_eq_some_iff.1 h1).1
  have := (hf i f h1).trans (List.getElem?_eq_getElem hi)
  rw [hc] at this
  exact ⟨xs[i], List.getElem?_eq_getElem hi, this, f, h1, rfl⟩

theorem list6 {α : Type} {l : List α} (h : l.length = 6) : ∃ a b c d e f, l = [a, b, c, d, e, f] := match l, h with | [a, b, c, d, e, f], _ => ⟨a, b, c, d, e, f, rfl⟩
theorem list14 {α : Type} {l : List α} (h : l.length = 14) : ∃ a b c d e f g i j k m n o p, l = [a, b, c, d, e, f, g, i, j, k, m, n, o, p] := match l, h with | [a, b, c, d, e, f, g, i, j, k, m, n, o, p], _ => ⟨a, b, c, d, e, f, g, i, j, k, m, n, o, p, rfl⟩

set_option maxRecDepth 100000 in
/-- One record. -/
theorem open_kv {fuel : Nat} {cs : List Value} {x : DataW H × List MemPlace} (h : DataW.trod enc Try.prog w base (fun _ => true) held fuel 57 cs = some x) (hl : Lite 57 x.1) : ∃ p : KvP, cs = kvenc p ∧ p.Ok w (fun _ => True) ∧ p.k.n ≤ 140737488355328 ∧ p.v.n ≤ 140737488355328 := by
  obtain ⟨xs, n, _, hx, hcl, hlen, hf⟩ := DataW.trod_struct Try.underlying57 h
  rw [cellsKV] at hcl
  rw [hx] at hl
  obtain ⟨c0, c1, c2, c3, c4, c5, rfl⟩ := list6 hcl
  obtain ⟨y0, x0, t0, f0, z0, e0⟩ := field_of hlen hf 0 22 0 1 rfl cellsBytes
  obtain ⟨y1, x1, t1, f1, z1, e1⟩ := field_of hlen hf 1 22 1 1 rfl cellsBytes
  obtain ⟨y2, x2, t2, -⟩ := field_of hlen hf 2 2 2 1 rfl cellsI64
  obtain ⟨y3, x3, t3, -⟩ := field_of hlen hf 3 2 3 1 rfl cellsI64
  obtain ⟨y4, x4, t4, -⟩ := field_of hlen hf 4 2 4 1 rfl cellsI64
  obtain ⟨y5, x5, t5, -⟩ := field_of hlen hf 5 2 5 1 rfl cellsI64
  obtain ⟨s0, l0, q0, b0, g0⟩ := open_inner (u := c0) t0 (by have := hl.field Try.underlying57 z0 (d := y0.1) (by simp [x0]); rwa [e0] at this)
  obtain ⟨s1, l1, q1, b1, g1⟩ := open_inner (u := c1) t1 (by have := hl.field Try.underlying57 z1 (d := y1.1) (by simp [x1]); rwa [e1] at this)
  obtain ⟨n2, e2, _, _⟩ := DataW.trod_int Try.underlying2 t2
  obtain ⟨n3, e3, _, _⟩ := DataW.trod_int Try.underlying2 t3
  obtain ⟨n4, e4, _, _⟩ := DataW.trod_int Try.underlying2 t4
  obtain ⟨n5, e5, _, _⟩ := DataW.trod_int Try.underlying2 t5
  have e2' : c2 = .int .i64 n2 := by simpa using e2
  have e3' : c3 = .int .i64 n3 := by simpa using e3
  have e4' : c4 = .int .i64 n4 := by simpa using e4
  have e5' : c5 = .int .i64 n5 := by simpa using e5
  subst q0 q1 e2' e3' e4' e5'
  exact ⟨⟨⟨l0, l1, n2, n3, n4, n5⟩, s0, s1⟩, rfl, ⟨b0, b1, fun _ _ => trivial, fun _ _ => trivial⟩, g0, g1⟩

set_option maxRecDepth 100000 in
/-- One event. -/
theorem open_ev {fuel : Nat} {cs : List Value} {x : DataW H × List MemPlace} (h : DataW.trod enc Try.prog w base (fun _ => true) held fuel 59 cs = some x) (hl : Lite 59 x.1) : ∃ p : EvP, cs = evenc p ∧ p.Ok w (fun _ => True) ∧ p.Short := by
  obtain ⟨xs, n, _, hx, hcl, hlen, hf⟩ := DataW.trod_struct Try.underlying59 h
  rw [cellsEv] at hcl
  rw [hx] at hl
  obtain ⟨c0, c1, c2, c3, c4, c5, c6, c7, c8, c9, c10, c11, c12, c13, rfl⟩ := list14 hcl
  obtain ⟨y0, x0, t0, -⟩ := field_of hlen hf 0 3 0 1 rfl cellsInt
  obtain ⟨y1, x1, t1, f1, z1, e1⟩ := field_of hlen hf 1 57 1 6 rfl cellsKV
  obtain ⟨y2, x2, t2, -⟩ := field_of hlen hf 2 4 7 1 rfl cellsBool
  obtain ⟨y3, x3, t3, f3, z3, e3⟩ := field_of hlen hf 3 57 8 6 rfl cellsKV
  obtain ⟨p1, q1, g1, s1, s2⟩ := open_kv t1 (by have := hl.field Try.underlying59 z1 (d := y1.1) (by simp [x1]); rwa [e1] at this)
  obtain ⟨p3, q3, g3, s3, s4⟩ := open_kv t3 (by have := hl.field Try.underlying59 z3 (d := y3.1) (by simp [x3]); rwa [e3] at this)
  obtain ⟨n0, e0, _, _⟩ := DataW.trod_int Try.underlying3 t0
  obtain ⟨n2, e2, _⟩ := DataW.trod_bool Try.underlying4 t2
  have e0' : c0 = .int .i64 n0 := by simpa using e0
  have e2' : c7 = .bool n2 := by simpa using e2
  simp only [List.drop_succ_cons, List.drop_zero, List.take_succ_cons, List.take_zero, kvenc, List.cons.injEq, and_true] at q1 q3
  obtain ⟨r1, r2, r3, r4, r5, r6⟩ := q1
  obtain ⟨u1, u2, u3, u4, u5, u6⟩ := q3
  subst e0' e2' r1 r2 r3 r4 r5 r6 u1 u2 u3 u4 u5 u6
  exact ⟨⟨n0, p1, n2, p3⟩, rfl, ⟨g1, g3⟩, s1, s2, s3, s4⟩

/-- One row of events, inside of a row. -/
theorem open_evs_in {fuel : Nat} {u : Value} {x : DataW H × List MemPlace} (h : DataW.trod enc Try.prog w base (fun _ => true) held fuel 32 [u] = some x) (hl : Lite 32 x.1) : ∃ s : WsP, u = .slice s.a s.ps.length s.c ∧ EvsW w (fun _ => True) u s.ps ∧ s.ps.length ≤ 799644820200 ∧ ∀ p ∈ s.ps, p.Short := by
  rcases open_slice Try.underlying32 h with ⟨hcs, _⟩ | ⟨a', len', cap', m, n, D, Pl, hcs, _, hll, hm, hmm, hxx, hx⟩
  · simp only [List.cons.injEq, and_true] at hcs
    subst hcs
    exact ⟨⟨none, 0, []⟩, rfl, { shape := ⟨_, _, rfl⟩, range := fun a n c e i hi => absurd hi (Nat.not_lt_zero _), ok := fun p hp => (by cases hp) }, Nat.zero_le _, fun p hp => (by cases hp)⟩
  · simp only [List.cons.injEq, and_true] at hcs
    subst hcs
    rw [hxx] at hl
    have hb : len' ≤ 799644820200 := by
      have h1 := hl.len Try.underlying32
      rw [bytesEv] at h1
      simp at h1
      have := reach_lt
      omega
    simp only [if_true] at hmm
    subst hmm
    rw [cellsEv] at hx
    by_cases h0 : len' = 0
    · subst h0
      exact ⟨⟨some a', m, []⟩, rfl, { shape := ⟨_, _, rfl⟩, range := fun a n c e i hi => absurd hi (Nat.not_lt_zero _), ok := fun p hp => (by cases hp) }, Nat.zero_le _, fun p hp => (by cases hp)⟩
    · obtain ⟨cs0, h10, _⟩ := hx 0 (by omega)
      have hs : a'.spot = none := cells_spot h10 (by decide) (by omega)
      have each : ∀ i, i < len' → ∃ p : EvP, (p.Ok w (fun _ => True) ∧ p.Short) ∧ w.rangeAt a'.block (a'.off + i * 14) (evenc p) := by
        intro i hi
        obtain ⟨cs', h1, h2⟩ := hx i (by omega)
        obtain ⟨p, rfl, hp, hsp⟩ := open_ev h2 (hl.elem Try.underlying32 (List.mem_map_of_mem (List.mem_range.2 hi)))
        have hc := cells_at h1 (by decide) hs
        refine ⟨p, ⟨hp, hsp⟩, fun j u hj => ?_⟩
        obtain ⟨hj1, hj2⟩ := List.getElem?_eq_some_iff.1 hj
        rw [hc j hj1, hj2]
      obtain ⟨f, hf'⟩ := choose_lt (α := EvP) (n := len') each
      obtain ⟨b, o, s⟩ := a'
      cases hs
      have hlen : ((List.range len').map f).length = len' := by simp
      refine ⟨⟨some ⟨b, o, none⟩, m, (List.range len').map f⟩, by rw [hlen], { shape := ⟨_, _, by rw [hlen]⟩, range := fun a n c e i hi => ?_, ok := fun p hp => ?_ }, by rw [hlen]; exact hb, fun p hp => ?_⟩
      · cases e
        simp at hi
        refine ⟨b, o, rfl, ?_⟩
        simpa using (hf' i hi).2
      · obtain ⟨i, hi, rfl⟩ := List.mem_map.1 hp
        exact (hf' i (List.mem_range.1 hi)).1.1
      · obtain ⟨i, hi, rfl⟩ := List.mem_map.1 hp
        exact (hf' i (List.mem_range.1 hi)).1.2

set_option maxRecDepth 100000 in
/-- Rows of events. -/
theorem open_wss {r : Reach} {b0 : Nat} {v : Value} {d : DataW H} {ps : List MemPlace} (hval : Value.okWide Try.prog w r b0 25 v)
    (h : DataW.Trod enc Try.prog w base (fun _ => true) held 25 v d ps) (hl : Lite 25 d) : ∃ ws : List WsP, Wss w v ws ∧ ws.length ≤ 140737488355328 := by
  obtain ⟨a, len, cap, rfl⟩ := okWide_slice Try.underlying25 hval
  obtain ⟨fuel, hf⟩ := h
  rcases open_slice Try.underlying25 hf with ⟨hcs, _⟩ | ⟨a', len', cap', m, n, D, Pl, hcs, _, hll, hm, hmm, hxx, hx⟩
  · simp [Value.cells] at hcs
    obtain ⟨rfl, rfl, rfl⟩ := hcs
    exact ⟨[], { sl := .inl ⟨rfl, rfl⟩, ev := fun s hs => (by cases hs), len := fun s hs => (by cases hs), short := fun s hs => (by cases hs) }, Nat.zero_le _⟩
  · simp [Value.cells] at hcs
    obtain ⟨rfl, rfl, rfl⟩ := hcs
    have hd : d = .slice ((List.range len).map D) ((List.range (m - len)).map fun j => D (len + j)) := (Prod.mk.inj hxx).1
    rw [hd] at hl
    have hle : len ≤ m := by rw [hmm]; split <;> omega
    obtain ⟨hs, hb, _⟩ := ok_slice Try.underlying25 hval
    rw [cellsEvs] at hx
    have hbl : len ≤ 140737488355328 := by
      have h1 := hl.len Try.underlying25
      have h2 : Try.prog.bytesOf 32 = 24 := by kernel_rfl
      rw [h2] at h1
      simp at h1
      have := reach_lt
      omega
    have each : ∀ i, i < len → ∃ s : WsP, (EvsW w (fun _ => True) (.slice s.a s.ps.length s.c) s.ps ∧ s.ps.length ≤ 799644820200 ∧ ∀ p ∈ s.ps, p.Short) ∧ w.cell? ⟨a'.block, a'.off + i, none⟩ = some (.slice s.a s.ps.length s.c) := by
      intro i hi
      obtain ⟨cs', h1, h2⟩ := hx i (by omega)
      obtain ⟨_, hl1, _⟩ := World.cells?_some h1
      obtain ⟨u, rfl⟩ := len1 hl1
      obtain ⟨s, rfl, e1, e2, e3⟩ := open_evs_in h2 (hl.elem Try.underlying25 (List.mem_map_of_mem (List.mem_range.2 hi)))
      have hc := cells_at h1 (by decide) hs 0 (by simp)
      exact ⟨s, ⟨e1, e2, e3⟩, by simpa using hc⟩
    obtain ⟨f, hf'⟩ := choose_lt (α := WsP) (n := len) each
    obtain ⟨b, o, s⟩ := a'
    cases hs
    have hlen : ((List.range len).map f).length = len := by simp
    refine ⟨(List.range len).map f, { sl := .inr ⟨b, o, cap, by rw [hlen], by rw [hlen]; exact hll, hb, fun j u hj => ?_⟩, ev := fun s hs => ?_, len := fun s hs => ?_, short := fun s hs => ?_ }, by rw [hlen]; exact hbl⟩
    · have e : ((List.range len).map f).flatMap wsenc = ((List.range len).map f).map fun s => Value.slice s.a s.ps.length s.c := flat_one _
      rw [e, List.getElem?_map] at hj
      obtain ⟨y, hy, rfl⟩ := Option.map_eq_some_iff.1 hj
      rw [List.getElem?_map] at hy
      obtain ⟨i, hi, rfl⟩ := Option.map_eq_some_iff.1 hy
      obtain ⟨hlt, rfl⟩ := List.getElem?_eq_some_iff.1 hi
      simp at hlt
      simpa using (hf' j hlt).2
    all_goals
      obtain ⟨i, hi, rfl⟩ := List.mem_map.1 hs
      have := (hf' i (List.mem_range.1 hi)).1
      first | exact this.1 | exact this.2.1 | exact this.2.2

set_option maxRecDepth 100000 in
/-- A watch. -/
theorem open_watch {r : Reach} {b0 : Nat} {v : Value} {d : DataW H} {ps : List MemPlace} (hval : Value.okWide Try.prog w r b0 24 v)
    (h : DataW.Trod enc Try.prog w base (fun _ => true) held 24 v d ps) (hl : Lite 24 d) : ∃ (k e : Value) (x : Wt), v = .agg (wcells k e x) ∧ Bytes w k x.key ∧ Bytes w e x.end_ ∧ x.key.length ≤ 140737488355328 ∧ x.end_.length ≤ 140737488355328 := by
  obtain ⟨cs, rfl, hsz⟩ := okWide_struct Try.underlying24 hval
  obtain ⟨fuel, hf0⟩ := h
  obtain ⟨xs, n, _, hx, hcl, hlen, hf⟩ := DataW.trod_struct Try.underlying24 hf0
  rw [cellsWatch] at hcl
  have hd : d = .agg (xs.map (·.1)) := (Prod.mk.inj hx).1
  rw [hd] at hl
  obtain ⟨cs⟩ := cs
  simp only [Value.cells] at hcl hf
  obtain ⟨c0, c1, c2, c3, c4, c5, rfl⟩ := list6 hcl
  obtain ⟨y0, x0, t0, f0, z0, e0⟩ := field_of hlen hf 0 22 0 1 rfl cellsBytes
  obtain ⟨y1, x1, t1, f1, z1, e1⟩ := field_of hlen hf 1 22 1 1 rfl cellsBytes
  obtain ⟨y2, x2, t2, -⟩ := field_of hlen hf 2 2 2 1 rfl cellsI64
  obtain ⟨y3, x3, t3, -⟩ := field_of hlen hf 3 4 3 1 rfl cellsBool
  obtain ⟨y4, x4, t4, -⟩ := field_of hlen hf 4 4 4 1 rfl cellsBool
  obtain ⟨y5, x5, t5, -⟩ := field_of hlen hf 5 4 5 1 rfl cellsBool
  obtain ⟨s0, l0, q0, b0', g0⟩ := open_inner (u := c0) t0 (by have := hl.field Try.underlying24 z0 (d := y0.1) (by simp [x0]); rwa [e0] at this)
  obtain ⟨s1, l1, q1, b1', g1⟩ := open_inner (u := c1) t1 (by have := hl.field Try.underlying24 z1 (d := y1.1) (by simp [x1]); rwa [e1] at this)
  obtain ⟨n2, e2, _, _⟩ := DataW.trod_int Try.underlying2 t2
  obtain ⟨n3, e3, _⟩ := DataW.trod_bool Try.underlying4 t3
  obtain ⟨n4, e4, _⟩ := DataW.trod_bool Try.underlying4 t4
  obtain ⟨n5, e5, _⟩ := DataW.trod_bool Try.underlying4 t5
  have e2' : c2 = .int .i64 n2 := by simpa using e2
  have e3' : c3 = .bool n3 := by simpa using e3
  have e4' : c4 = .bool n4 := by simpa using e4
  have e5' : c5 = .bool n5 := by simpa using e5
  subst q0 q1 e2' e3' e4' e5'
  exact ⟨s0.v, s1.v, ⟨l0, l1, n2, n3, n4, n5⟩, rfl, b0', b1', by have := (show Bytes w (.slice s0.a s0.n s0.c) l0 from b0').size; show l0.length ≤ _; omega, by have := (show Bytes w (.slice s1.a s1.n s1.c) l1 from b1').size; show l1.length ≤ _; omega⟩

set_option maxRecDepth 100000 in
/-- Bytes. -/
theorem open_by {r : Reach} {b0 : Nat} {v : Value} {d : DataW H} {ps : List MemPlace} (hval : Value.okWide Try.prog w r b0 22 v)
    (h : DataW.Trod enc Try.prog w base (fun _ => true) held 22 v d ps) (hl : Lite 22 d) : ∃ l : List UInt8, Bytes w v l ∧ l.length ≤ 140737488355328 := by
  obtain ⟨a, len, cap, rfl⟩ := okWide_slice Try.underlying22 hval
  obtain ⟨fuel, hf⟩ := h
  obtain ⟨s, l, e, hb, hn⟩ := open_inner (u := .slice a len cap) (by simpa [Value.cells] using hf) hl
  refine ⟨l, hb, ?_⟩
  rw [e] at hb
  have := hb.size
  omega

theorem lite_of {ts : List TypeId} {ds : List (DataW H)} (h : (DataW.weightsEach Try.prog ts ds).all (· ≤ reachBytes) = true) {j : Nat} {t : TypeId} {d : DataW H} (ht : ts[j]? = some t) (hd : ds[j]? = some d) : Lite t d := fun n hn => by
  have := List.all_eq_true.1 h n (DataW.weights_mem_each ht hd n hn)
  simpa using this

end
end Go.Proofs.Ytidpiojanajpoaa
