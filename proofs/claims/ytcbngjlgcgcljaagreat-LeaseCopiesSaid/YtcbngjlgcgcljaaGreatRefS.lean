/-
  The document's lessor: what its Attach puts together.
-/
import Derived.Test.YtcbngjlgcgcljaaGreatRefK
import Derived.Test.YtcbngjlgcgcljaaGreatRelP
namespace Go.Proofs.YtcbngjlgcgcljaaGreat
open Go.RowKit Go.Tb Go.MapKept Go.ChangeMaps Go.Lib
set_option linter.unusedVariables false

/-- The keys of a lease that Attach has put together so far. -/
structure Acc (F : Nat → Prop) (W : World) (g : Nat) (v : Value) (acc : List KRow) (wr : World) : Prop where
  own : wr.ownsRow (g + 1) 32 1 v acc.length (acc.flatMap renc)
  by_ : ∀ k ∈ acc, Go.Tb.Bytes wr k.val k.2
  byF : ∀ k ∈ acc, ∀ b, sliceBlock k.val = some b → ¬ F b ∧ b ≠ g ∧ sliceBlock v ≠ some b
  hu : Upd (fun k => g < k) W wr

theorem Acc.grow {F : Nat → Prop} {W : World} {g : Nat} {v : Value} {acc : List KRow} {wr w2 : World} (h : Acc F W g v acc wr) (hu : Upd (fun _ => False) wr w2) : Acc F W g v acc w2 :=
  { own := own_grow h.own hu, by_ := fun k hk => Go.Tb.Bytes.upd (h.by_ k hk) hu (fun _ _ x => x), byF := h.byF, hu := h.hu.trans (hu.weak _) }

theorem Acc.push {F : Nat → Prop} {W : World} {g : Nat} {a : Option Addr} {n c : Nat} {acc : List KRow} {wr : World} (h : Acc F W g (.slice a n c) acc wr) (hg : g < wr.heap.size) (k : KRow) (hk : Go.Tb.Bytes wr k.val k.2)
    (hkF : ∀ b, sliceBlock k.val = some b → ¬ F b ∧ b ≠ g ∧ sliceBlock (.slice a n c) ≠ some b) (hn : n ≤ 1000000) :
    ∃ a2 c2 w2, (∀ ty, (Builtin.append_ #[58, 58] ty #[.slice a n c, .slice (some ⟨wr.heap.size, 0, none⟩) 1 1]).run Tryz.prog (wr.alloc (.cells #[.slice k.1.1 k.2.length k.1.2] 32)) = .ok (.slice a2 (n + 1) c2) w2) ∧
      Acc F W g (.slice a2 (n + 1) c2) (acc ++ [k]) w2 := by
  have hown := h.own
  have hge := own_ge hown
  obtain ⟨a', c', e, hle⟩ := own_shape hown
  injection e with e1 e2 e3
  subst e1 e3 e2
  have hua := upd_alloc (fun _ => False) wr (.cells #[.slice k.1.1 k.2.length k.1.2] 32)
  obtain ⟨a2, c2, w3, hap, hown3, hu3, hbl⟩ := run_append_one (P := Tryz.prog) (w := wr.alloc (.cells #[.slice k.1.1 k.2.length k.1.2] 32)) (t := 58) (z := .slice none 0 0) Tryz.underlying58 info_bytes rfl (by decide) renc_length renc_one (l := acc) (base := g + 1) k (own_grow hown hua) (heap_alloc wr _).1 (by simp; omega) (by unfold maxLen; omega) (by omega)
  refine ⟨a2, c2, w3, hap, hown3, ?_, ?_, ?_⟩
  · intro r hr
    rcases List.mem_append.1 hr with hr | hr
    · exact Go.Tb.Bytes.upd (Go.Tb.Bytes.upd (h.by_ r hr) hua (fun _ _ x => x)) hu3 (fun b hb hb2 => (h.byF r hr b hb).2.2 hb2)
    · rw [List.mem_singleton.1 hr]
      exact Go.Tb.Bytes.upd (Go.Tb.Bytes.upd hk hua (fun _ _ x => x)) hu3 (fun b hb hb2 => (hkF b hb).2.2 hb2)
  · intro r hr b hb
    have key : ¬ F b ∧ b ≠ g ∧ sliceBlock (.slice a acc.length c) ≠ some b ∧ b < wr.heap.size := by
      rcases List.mem_append.1 hr with hr | hr
      · obtain ⟨q1, q2, q3⟩ := h.byF r hr b hb
        exact ⟨q1, q2, q3, Go.Tb.Bytes.lt (h.by_ r hr) hb⟩
      · rw [List.mem_singleton.1 hr] at hb
        obtain ⟨q1, q2, q3⟩ := hkF b hb
        exact ⟨q1, q2, q3, Go.Tb.Bytes.lt hk hb⟩
    refine ⟨key.1, key.2.1, fun e => ?_⟩
    rcases hbl with q | q
    · rw [e] at q; exact key.2.2.1 q.symm
    · rw [e] at q
      injection q with q
      have : b = wr.heap.size + 1 := by rw [q]; simp
      omega
  · exact (h.hu.trans (hua.weak _)).trans (hu3.mono (fun x _ e => by have := (hge x e).1; omega))

/-- The leases that Attach has put together so far. -/
structure Lst (F : Nat → Prop) (w : World) (key : List UInt8) (id : Int) (l : List RL) (j : Nat) (v : Value) (l2 : List RL) (wr : World) : Prop where
  own : wr.ownsRow w.heap.size 73 4 v l2.length (l2.flatMap rlenc)
  len : l2.length = j
  each : ∀ i (h1 : i < l.length) (h2 : i < l2.length), l2[i].id = l[i].id ∧ l2[i].ttl = l[i].ttl ∧ l2[i].due = l[i].due ∧ l2[i].keys = insRun key l[i].keys (decide (l[i].id ≠ id))
  ok : ∀ r ∈ l2, r.Ok (fun k => F k ∨ sliceBlock v = some k) wr
  hu : Upd (fun _ => False) w wr

/-- A lease's keys lie elsewhere, too. -/
theorem RL.Ok.other {F G : Nat → Prop} {w : World} {r : RL} (h : r.Ok F w) (hG : ∀ b, b < w.heap.size → G b → F b) : r.Ok G w :=
  { sl := h.sl, slF := fun b hb e => h.slF b hb (hG b (h.sl.lt hb) e), by_ := h.by_, byF := fun k hk b hb e => h.byF k hk b hb (hG b (Go.Tb.Bytes.lt (h.by_ k hk) hb) e) }

theorem Lst.push {F : Nat → Prop} {w : World} {key : List UInt8} {id : Int} {l l2 : List RL} {j : Nat} {a : Option Addr} {c : Nat} {wr W5 : World} (h : Lst F w key id l j (.slice a j c) l2 wr) (hF : ∀ k, F k → k < w.heap.size) (hu5 : Upd (fun k => wr.heap.size ≤ k) wr W5) (hj : j < l.length) (hn : j ≤ 1000000) (r : RL)
    (hr : r.id = l[j].id ∧ r.ttl = l[j].ttl ∧ r.due = l[j].due ∧ r.keys = insRun key l[j].keys (decide (l[j].id ≠ id))) (hok : r.Ok (fun k => F k ∨ sliceBlock (.slice a j c) = some k) W5) :
    ∃ a2 c2 w6, (∀ ty, (Builtin.append_ #[52, 52] ty #[.slice a j c, .slice (some ⟨W5.heap.size, 0, none⟩) 1 1]).run Tryz.prog (W5.alloc (.cells #[.int .i64 r.id, .int .i64 r.ttl, .int .i64 r.due, .slice r.ka r.rows.length r.kc] 73)) = .ok (.slice a2 (j + 1) c2) w6) ∧
      Lst F w key id l (j + 1) (.slice a2 (j + 1) c2) (l2 ++ [r]) w6 := by
  have hge := own_ge h.own
  have hl2 := h.len
  subst hl2
  have hown5 : W5.ownsRow w.heap.size 73 4 (.slice a l2.length c) l2.length (l2.flatMap rlenc) := own_upd' h.own hu5 (fun b hb e => by have := (hge b hb).2; omega)
  have hua := upd_alloc (fun _ => False) W5 (.cells #[.int .i64 r.id, .int .i64 r.ttl, .int .i64 r.due, .slice r.ka r.rows.length r.kc] 73)
  have hw5 : w.heap.size ≤ W5.heap.size := Nat.le_trans h.hu.size hu5.size
  obtain ⟨a2, c2, w6, hap, hown6, hu6, hbl⟩ := run_append_one (P := Tryz.prog) (w := W5.alloc (.cells #[.int .i64 r.id, .int .i64 r.ttl, .int .i64 r.due, .slice r.ka r.rows.length r.kc] 73)) (t := 52) Tryz.underlying52 info_RLease rfl (by decide) rlenc_length rlenc_one (l := l2) (base := w.heap.size) r (own_grow hown5 hua) (heap_alloc W5 _).1 (Nat.le_trans hw5 (by simp)) (by unfold maxLen; omega) (by omega)
  have hold : ∀ q ∈ l2 ++ [r], q.Ok (fun k => F k ∨ sliceBlock (.slice a l2.length c) = some k) W5 := fun q hq => by
    rcases List.mem_append.1 hq with hq | hq
    · have h1 := h.ok q hq
      exact { sl := h1.sl.upd hu5 (fun b hb e => by have := h1.sl.lt hb; omega), slF := h1.slF, by_ := fun k hk => Go.Tb.Bytes.upd (h1.by_ k hk) hu5 (fun b hb e => by have := Go.Tb.Bytes.lt (h1.by_ k hk) hb; omega), byF := h1.byF }
    · rw [List.mem_singleton.1 hq]; exact hok
  refine ⟨a2, c2, w6, hap, hown6, by simp, ?_, ?_, ?_⟩
  · intro i h1 h2
    rw [List.length_append, List.length_singleton] at h2
    by_cases e : i < l2.length
    · rw [List.getElem_append_left e]
      exact h.each i h1 e
    · obtain rfl : i = l2.length := by omega
      rw [List.getElem_append_right (Nat.le_refl _)]
      simp only [Nat.sub_self, List.getElem_singleton]
      exact hr
  · intro q hq
    have h1 : q.Ok (fun k => F k ∨ sliceBlock (.slice a l2.length c) = some k) w6 := ((hold q hq).upd hua (fun _ _ x => x.elim)).upd hu6 (fun k _ e => .inr e)
    have h2 := (hold q hq).upd hua (fun _ _ x => x.elim)
    have hs : ∀ b, sliceBlock (.slice a2 (l2.length + 1) c2) = some b → sliceBlock (.slice a l2.length c) = some b ∨ b = W5.heap.size + 1 := fun b hb => by
      rcases hbl with q | q
      · rw [hb] at q; exact .inl q.symm
      · rw [hb] at q
        injection q with q
        exact .inr (by rw [q]; simp)
    refine { sl := h1.sl, slF := fun b hb e => ?_, by_ := h1.by_, byF := fun k hk b hb e => ?_ }
    · rcases e with e | e
      · exact h1.slF b hb (.inl e)
      · rcases hs b e with q | q
        · exact h1.slF b hb (.inr q)
        · have := (hold _ hq).sl.lt hb
          omega
    · rcases e with e | e
      · exact h1.byF k hk b hb (.inl e)
      · rcases hs b e with q | q
        · exact h1.byF k hk b hb (.inr q)
        · have := Go.Tb.Bytes.lt ((hold _ hq).by_ k hk) hb
          omega
  · exact (h.hu.trans' (hu5.trans (hua.weak _)) (fun x hx e => by have := h.hu.size; omega)).trans' hu6 (fun x hx e => by have := (hge x e).1; omega)

/-- A lease is put together. -/
theorem Lst.close {F : Nat → Prop} {w : World} {key : List UInt8} {id : Int} {l l2 : List RL} {j : Nat} {a : Option Addr} {c : Nat} {wo W1 wr : World} (h : Lst F w key id l j (.slice a j c) l2 wo) (hF : ∀ k, F k → k < w.heap.size) (hj : j < l.length) (hn : j ≤ 1000000)
    (hu1 : Upd (fun _ => False) wo W1) (h1 : W1.heap.size = wo.heap.size + 1) {pa : Option Addr} {pn pc : Nat} {acc : List KRow} (hacc : Acc (fun k => F k ∨ (w.heap.size ≤ k ∧ k ≤ wo.heap.size)) W1 wo.heap.size (.slice pa pn pc) acc wr)
    {old : Value} (hb : wr.heap[wo.heap.size]? = some (.cells #[.int .i64 l[j].id, .int .i64 l[j].ttl, .int .i64 l[j].due, old] 73 (0, 0))) {d0 : Bool} (hd : (l[j].id != id) = d0) (hX : acc.map (·.2) = insRun key (l[j].rows.map (·.2)) d0) :
    (wr.setCell ⟨wo.heap.size, 3, none⟩ (.slice pa pn pc)).heap[wo.heap.size]? = some (.cells #[.int .i64 l[j].id, .int .i64 l[j].ttl, .int .i64 l[j].due, .slice pa pn pc] 73 (0, 0)) ∧
    ∃ a2 c2 w6, (∀ ty, (Builtin.append_ #[52, 52] ty #[.slice a j c, .slice (some ⟨(wr.setCell ⟨wo.heap.size, 3, none⟩ (.slice pa pn pc)).heap.size, 0, none⟩) 1 1]).run Tryz.prog ((wr.setCell ⟨wo.heap.size, 3, none⟩ (.slice pa pn pc)).alloc (.cells #[.int .i64 l[j].id, .int .i64 l[j].ttl, .int .i64 l[j].due, .slice pa pn pc] 73)) = .ok (.slice a2 (j + 1) c2) w6) ∧
      ∃ l3, Lst F w key id l (j + 1) (.slice a2 (j + 1) c2) l3 w6 := by
  have hge := own_ge h.own
  have hgc := own_ge hacc.own
  obtain ⟨a', c', e, hle⟩ := own_shape hacc.own
  injection e with e1 e2 e3
  subst e1 e3 e2
  have hset := upd_setCell (fun k => k = wo.heap.size) wr ⟨wo.heap.size, 3, none⟩ (.slice pa acc.length pc) rfl
  refine ⟨by rw [heap_setCell_at hb 3 _]; rfl, ?_⟩
  obtain ⟨a2, c2, w6, hap, hl⟩ := h.push (W5 := wr.setCell ⟨wo.heap.size, 3, none⟩ (.slice pa acc.length pc)) hF ((hu1.weak _).trans ((hacc.hu.mono (fun _ _ e => Nat.le_of_lt e)).trans (hset.mono (fun _ _ e => Nat.le_of_eq e.symm)))) hj hn
    { id := l[j].id, ttl := l[j].ttl, due := l[j].due, ka := pa, kc := pc, rows := acc } ⟨rfl, rfl, rfl, by
      show acc.map (·.2) = insRun key (l[j].rows.map (·.2)) _
      rw [hX, ← hd]
      congr 1
      by_cases e : l[j].id = id <;> simp [e]⟩
    { sl := (sl_of_own renc_length hacc.own).1.upd hset (fun b hb e => by have := (hgc b hb).1; omega),
      slF := fun b hb e => by
        have h1 := (hgc b hb).1
        rcases e with e | e
        · have := hF b e; have := h.hu.size; omega
        · have := (hge b e).2; omega,
      by_ := fun k hk => Go.Tb.Bytes.upd (hacc.by_ k hk) hset (fun b hb e => (hacc.byF k hk b hb).2.1 e),
      byF := fun k hk b hb e => by
        have h1 := (hacc.byF k hk b hb).1
        rcases e with e | e
        · exact h1 (.inl e)
        · exact h1 (.inr ⟨(hge b e).1, Nat.le_of_lt (hge b e).2⟩) }
  exact ⟨a2, c2, w6, hap, _, hl⟩

theorem Lst.done {F : Nat → Prop} {w : World} {key : List UInt8} {id : Int} {R : RS} {l2 : List RL} {b : Nat} {v : Value} {wr : World} (h : Lst F w key id R.l R.l.length v l2 wr) (hF : ∀ k, F k → k < w.heap.size) (hr : IsRef F w b R) :
    Hung key id R.l l2 ∧ IsRef F (wr.setCell ⟨b, 2, none⟩ v) b { R with l := l2 } ∧ Upd (fun k => k = b) w (wr.setCell ⟨b, 2, none⟩ v) := by
  obtain ⟨v0, h1, h2, h3⟩ := hr.blk
  have hb := h.hu.heap h1 (fun x => x)
  have hbw : b < w.heap.size := lt_of_heap h1
  have hu1 := upd_setCell (fun k => k = b) wr ⟨b, 2, none⟩ v rfl
  obtain ⟨hsl, hge⟩ := sl_of_own rlenc_length h.own
  refine ⟨⟨h.len, fun j a b => h.each j a b⟩, { blk := ⟨v, ?_, ?_, fun g hg e => ?_⟩, ok := fun r hr2 => ?_, self := hr.self }, (h.hu.weak _).trans hu1⟩
  · rw [heap_setCell_at hb 2 _]; rfl
  · exact hsl.upd hu1 (fun g hg e => by have := hge g hg; omega)
  · have := hge g hg
    have := hF g e
    omega
  · exact (((h.ok r hr2).upd hu1 (fun k _ e => .inl (by rw [e]; exact hr.self)))).other (fun b _ e => .inl e)

end Go.Proofs.YtcbngjlgcgcljaaGreat
