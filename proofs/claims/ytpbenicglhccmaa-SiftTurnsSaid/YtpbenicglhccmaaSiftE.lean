/-
  Sift.
-/
import Derived.Deep.RegionLaw
import Derived.Test.YtpbenicglhccmaaSiftD
import Derived.Test.YtpbenicglhccmaaRows5
namespace Go.Proofs.Ytpbenicglhccmaa
open Go.RowKit Go.Tb Go.MapKept Go.ChangeMaps Go.Lib
set_option linter.unusedVariables false

/-- The block of a query. -/
abbrev QAt (w : World) (b : Nat) (k e : Value) (q : Qr) : Prop := w.heap[b]? = some (.cells (qcells k e q) 24 (0, 0))
abbrev zres : Array Value := #[.slice none 0 0, .int .i64 0, .bool false]

/-- How Sift begins. -/
theorem sift_start (k e : Value) (q : Qr) (w : World) :
    QAt ((w.alloc (.cells (qcells k e q) 24)).alloc (.cells zres 30)) w.heap.size k e q ∧ ((w.alloc (.cells (qcells k e q) 24)).alloc (.cells zres 30)).heap[w.heap.size + 1]? = some (.cells zres 30 (0, 0)) ∧
      Upd (fun _ => False) w ((w.alloc (.cells (qcells k e q) 24)).alloc (.cells zres 30)) ∧ ((w.alloc (.cells (qcells k e q) 24)).alloc (.cells zres 30)).heap.size = w.heap.size + 2 := by
  have ha1 := heap_alloc w (.cells (qcells k e q) 24)
  have ha2 := heap_alloc (w.alloc (.cells (qcells k e q) 24)) (.cells zres 30)
  have hsz : (w.alloc (.cells (qcells k e q) 24)).heap.size = w.heap.size + 1 := by simp
  exact ⟨(ha2.2 _ (lt_of_heap ha1.1)).trans ha1.1, by rw [← hsz]; exact ha2.1, (upd_alloc _ _ _).alloc _, by simp⟩

/-- A query that may not be asked. -/
theorem sift_bad (k e : Value) (q : Qr) (v : Value) (w : World) (hq : rightQ q = false) :
    Calls Try.prog 10 #[.agg (qcells k e q), v] w fun e w' => e = .returned (.agg zres) ∧ Upd (fun _ => False) w w' := by
  have hr := right_calls k e q
  rw [hq] at hr
  obtain ⟨h1, h2, h3, h4⟩ := sift_start k e q w
  have h2' : ((w.alloc (.cells (qcells k e q) 24)).alloc (.cells #[.slice none 0 0, .int .i64 0, .bool false] 30)).heap[w.heap.size + 1]? = some (.cells zres 30 (0, 0)) := h2
  have H1 := Lib.hid h1
  have H2 := Lib.hid h2
  have H3 := Lib.hid h3
  have Hr := Lib.hid hr
  clear hr hq h1 h2 h3 h4 h2'
  go_enter Try.func10, Try.ntmps10
  go_wp2_with (first
    | ((with_reducible refine wpl_load (ty := 24) H1.out Try.underlying24 ?_ ?_ ?_ ?_); rfl; rfl; kernel_rfl)
    | (go_at_call 9; (with_reducible refine (Hr.out _).mono ?_); rintro e1 w1 ⟨rfl, hu1⟩; have G2 := Lib.hid (hu1.heap H2.out (fun x => x)); have U1 := Lib.hid hu1; clear hu1)
    | ((with_reducible refine wpl_store (ty := 30) (cs := #[.slice none 0 0, .int .i64 0, .bool false]) G2.out ?_ ?_ ?_ ?_ ?_ ?_); rfl; rfl; rfl; kernel_rfl; rfl; intro w2 hb2 hu2 hs2 hd2))
  refine bodyPost_ret (results_cell_row Try.results10 _ _ _ _ _ _ _ (by rfl) hb2 Try.underlying30 rfl (by kernel_rfl)) rfl ?_
  exact ⟨rfl, (H3.out.trans U1.out).trans' hu2 (fun x hx e => by omega)⟩

theorem info_KV3 : (Try.prog.info? 37).map (fun i => (i.zero, i.size, i.bytes)) = some (some (.agg #[.slice none 0 0, .slice none 0 0, .int .i64 0, .int .i64 0, .int .i64 0, .int .i64 0]), 6, 80) := by kernel_rfl
theorem under_KVs : Try.prog.underlying 25 = some (.slice 37) := by kernel_rfl

/-- While records are sieved. -/
structure SiftAt (w : World) (qb ob : Nat) (k e : Value) (q : Qr) (ps : List KvP) (n : Nat) (j : Nat) (wr : World) (a : Option Addr) (c : Nat) (rs : List KvP) (J : Nat → Prop) : Prop where
  out : wr.heap[ob]? = some (.cells #[.slice a rs.length c, .int .i64 (n : Int), .bool false] 30 (0, 0))
  own : wr.ownsRow (ob + 1) 37 6 (.slice a rs.length c) rs.length (rs.flatMap kvenc)
  ok : ∀ p ∈ rs, p.Ok wr J
  dj : ∀ b, sliceBlock (.slice a rs.length c) = some b → ¬ J b
  ge : ∀ b, J b → ob + 1 ≤ b ∧ b < wr.heap.size
  eq : rs.map KvP.x = ((ps.take j).map KvP.x).filter (keepsQ q)
  u : Upd (fun _ => False) w wr
  qa : QAt wr qb k e q
  s1 : qb < ob
  s2 : ob < wr.heap.size
  s3 : w.heap.size ≤ qb

theorem SiftAt.grow {w wr w' : World} {qb ob : Nat} {k e : Value} {q : Qr} {ps : List KvP} {n j : Nat} {a : Option Addr} {c : Nat} {rs : List KvP} {J : Nat → Prop} (h : SiftAt w qb ob k e q ps n j wr a c rs J) (hu : Upd (fun _ => False) wr w') : SiftAt w qb ob k e q ps n j w' a c rs J :=
  { h with out := hu.heap h.out (fun x => x), own := own_grow h.own hu, ok := fun p hp => (h.ok p hp).grow hu, ge := fun b hb => ⟨(h.ge b hb).1, Nat.lt_of_lt_of_le (h.ge b hb).2 hu.size⟩, u := h.u.trans hu, qa := hu.heap h.qa (fun x => x), s2 := Nat.lt_of_lt_of_le h.s2 hu.size }
theorem SiftAt.len {w wr : World} {qb ob : Nat} {k e : Value} {q : Qr} {ps : List KvP} {n j : Nat} {a : Option Addr} {c : Nat} {rs : List KvP} {J : Nat → Prop} (h : SiftAt w qb ob k e q ps n j wr a c rs J) : rs.length ≤ j := by
  have := congrArg List.length h.eq
  rw [List.length_map] at this
  rw [this]
  exact Nat.le_trans (List.length_filter_le _ _) (by rw [List.length_map, List.length_take]; omega)
theorem SiftAt.skip {w wr : World} {qb ob : Nat} {k e : Value} {q : Qr} {ps : List KvP} {n j : Nat} {a : Option Addr} {c : Nat} {rs : List KvP} {J : Nat → Prop} (h : SiftAt w qb ob k e q ps n j wr a c rs J) (hj : j < ps.length) (hk : keepsQ q ps[j].x = false) : SiftAt w qb ob k e q ps n (j + 1) wr a c rs J :=
  { h with eq := by rw [h.eq, List.take_succ_eq_append_getElem hj, List.map_append, List.filter_append]; simp [hk] }
/-- A record more. -/
theorem SiftAt.more {w wr w4 w5 : World} {qb ob : Nat} {k e : Value} {q : Qr} {ps : List KvP} {n j : Nat} {a a' : Option Addr} {c c' : Nat} {rs : List KvP} {J : Nat → Prop} (h : SiftAt w qb ob k e q ps n j wr a c rs J) (hj : j < ps.length) (hk : keepsQ q ps[j].x = true) {p : KvP} (hp : p.x = ps[j].x)
    (hpo : p.Ok w4 (fun b => wr.heap.size ≤ b ∧ b < w4.heap.size)) (h4 : Upd (fun _ => False) wr w4) (ho : w5.ownsRow (ob + 1) 37 6 (.slice a' (rs.length + 1) c') (rs ++ [p]).length ((rs ++ [p]).flatMap kvenc)) (hu5 : Upd (fun b => sliceBlock (.slice a rs.length c) = some b) (w4.alloc (.cells (kvenc p).toArray 37)) w5)
    (hat : sliceBlock (.slice a' (rs.length + 1) c') = sliceBlock (.slice a rs.length c) ∨ sliceBlock (.slice a' (rs.length + 1) c') = some (w4.alloc (.cells (kvenc p).toArray 37)).heap.size) :
    ∃ J', SiftAt w qb ob k e q ps n (j + 1) (w5.setCell ⟨ob, 0, none⟩ (.slice a' (rs.length + 1) c')) a' c' (rs ++ [p]) J' := by
  have hua := upd_alloc (fun _ => False) w4 (.cells (kvenc p).toArray 37)
  have hs4 := h4.size
  have hsa : (w4.alloc (.cells (kvenc p).toArray 37)).heap.size = w4.heap.size + 1 := by simp
  have hblk := own_ge h.own
  have hu3 : Upd (fun b => sliceBlock (.slice a rs.length c) = some b) wr w5 := (h4.trans hua).seq hu5 _ (fun _ _ x => x.elim) (fun _ _ x => x)
  have hus : Upd (fun b => b = ob) w5 (w5.setCell ⟨ob, 0, none⟩ (.slice a' (rs.length + 1) c')) := upd_setCell _ _ _ _ rfl
  have hob : ∀ b, sliceBlock (.slice a rs.length c) = some b → b ≠ ob := fun b hb => by have := (hblk b hb).1; omega
  have hqb : ∀ b, sliceBlock (.slice a rs.length c) = some b → b ≠ qb := fun b hb => by have := (hblk b hb).1; have := h.s1; omega
  have hout5 := hu3.heap h.out (fun e => hob _ e rfl)
  have hlt5 := own_ge ho
  refine ⟨fun b => J b ∨ sliceBlock p.k.v = some b ∨ sliceBlock p.v.v = some b, ?_⟩
  have hK : ∀ b, (sliceBlock p.k.v = some b ∨ sliceBlock p.v.v = some b) → wr.heap.size ≤ b ∧ b < w4.heap.size := fun b hb => hb.elim (fun hb => hpo.ik b hb) (fun hb => hpo.iv b hb)
  have hKold : ∀ b, (sliceBlock p.k.v = some b ∨ sliceBlock p.v.v = some b) → ¬ sliceBlock (.slice a rs.length c) = some b := fun b hb e => by have := hK b hb; have := (hblk b e).2; omega
  have hKob : ∀ b, (sliceBlock p.k.v = some b ∨ sliceBlock p.v.v = some b) → b ≠ ob := fun b hb e => by have := hK b hb; have := h.s2; omega
  have hJob : ∀ b, J b → b ≠ ob := fun b hb e => by have := h.ge b hb; omega
  exact {
    out := by rw [heap_setCell_at hout5]; simp
    own := by
      have := own_upd' ho hus (fun b hb e => by have := (hlt5 b hb).1; omega)
      simpa using this
    ok := fun x hx => by
      rcases List.mem_append.1 hx with hx | hx
      · exact (((h.ok x hx).upd hu3 (fun b hb e => h.dj b e hb)).upd hus hJob).wider (fun b hb => .inl hb)
      · rw [List.mem_singleton.1 hx]
        have h1 : p.Ok w4 (fun b => J b ∨ sliceBlock p.k.v = some b ∨ sliceBlock p.v.v = some b) := ⟨hpo.k, hpo.v, fun b hb => .inr (.inl hb), fun b hb => .inr (.inr hb)⟩
        have h2 : p.Ok w4 (fun b => sliceBlock p.k.v = some b ∨ sliceBlock p.v.v = some b) := ⟨hpo.k, hpo.v, fun b hb => .inl hb, fun b hb => .inr hb⟩
        exact (((h2.grow hua).upd hu5 hKold).upd hus hKob).wider (fun b hb => .inr hb)
    dj := fun b hb => by
      have hb' : sliceBlock (.slice a' (rs.length + 1) c') = some b := by simpa using hb
      rintro (hJ | hb2)
      · rcases hat with e | e
        · exact h.dj b (by rw [← e]; exact hb') hJ
        · rw [e] at hb'; cases hb'; have := (h.ge _ hJ).2; omega
      · rcases hat with e | e
        · exact hKold b hb2 (by rw [← e]; exact hb')
        · rw [e] at hb'; cases hb'; have := (hK _ hb2).2; omega
    ge := fun b hb => by
      have hs5 := hu3.size
      have hs6 := hus.size
      have hs7 := hu5.size
      rcases hb with hb | hb
      · have := h.ge b hb; omega
      · have := hK b hb; have := h.s2; omega
    eq := by rw [List.map_append, h.eq, List.take_succ_eq_append_getElem hj, List.map_append, List.filter_append]; simp [hk, hp]
    u := (h.u.trans' hu3 (fun x hx e => by have := (hblk x e).1; have := h.s1; have := h.s3; omega)).trans' hus (fun x hx e => by have := h.s1; have := h.s3; omega)
    qa := hus.heap (hu3.heap h.qa (fun e => hqb _ e rfl)) (by have := h.s1; omega)
    s1 := h.s1
    s2 := Nat.lt_of_lt_of_le h.s2 (Nat.le_trans hu3.size hus.size)
    s3 := h.s3 }

/-- A record's value, written out. -/
abbrev kvx (q : KvP) : Array Value := #[.slice q.k.a q.k.n q.k.c, .slice q.v.a q.v.n q.v.c, .int .i64 q.x.create, .int .i64 q.x.mod, .int .i64 q.x.version, .int .i64 q.x.lease]
theorem kvx_eq (q : KvP) : (kvenc q).toArray = kvx q := rfl

/-- The append of a twin. -/
theorem append_kv (base : Nat) (a : Option Addr) (n c : Nat) (rs : List KvP) (p : KvP) (w4 : World) (hn : n = rs.length) (hown : w4.ownsRow base 37 6 (.slice a n c) rs.length (rs.flatMap kvenc)) (hb : base ≤ w4.heap.size) (hl : rs.length ≤ 100000) :
    ∃ a' c' w5, (∀ ty, (Builtin.append_ #[25, 25] ty #[.slice a n c, .slice (some ⟨w4.heap.size, 0, none⟩) 1 1]).run Try.prog (w4.alloc (.cells (kvx p) 37)) = .ok (.slice a' (n + 1) c') w5) ∧
      w5.ownsRow base 37 6 (.slice a' (n + 1) c') (rs ++ [p]).length ((rs ++ [p]).flatMap kvenc) ∧ Upd (fun b => sliceBlock (.slice a n c) = some b) (w4.alloc (.cells (kvenc p).toArray 37)) w5 ∧
      (sliceBlock (.slice a' (n + 1) c') = sliceBlock (.slice a n c) ∨ sliceBlock (.slice a' (n + 1) c') = some (w4.alloc (.cells (kvenc p).toArray 37)).heap.size) := by
  subst hn
  have hua := upd_alloc (fun _ => False) w4 (.cells (kvenc p).toArray 37)
  obtain ⟨a', c', w5, h1, h2, h3, h4⟩ := run_append_one (P := Try.prog) (w := w4.alloc (.cells (kvenc p).toArray 37)) (t := 25) (z := .agg #[.slice none 0 0, .slice none 0 0, .int .i64 0, .int .i64 0, .int .i64 0, .int .i64 0]) under_KVs info_KV3 rfl (by decide) kvenc_length kvenc_one p (own_grow hown hua) (heap_alloc w4 _).1 (Nat.le_trans hb hua.size) (by unfold maxLen; omega) (by omega)
  exact ⟨a', c', w5, h1, h2, h3, h4⟩

end Go.Proofs.Ytpbenicglhccmaa
