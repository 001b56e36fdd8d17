/-
  The document's disk: Write.
-/
import Derived.Test.YteokbokgiejmpaaPDiskB
namespace Go.Proofs.Yteokbokgiejmpaa
open Go.RowKit Go.Tb Go.MapKept Go.ChangeMaps
set_option linter.unusedVariables false

theorem flat_set {α : Type} {enc : α → List Value} {k : Nat} (hk : ∀ x, (enc x).length = k) (l : List α) (j m : Nat) (hj : j < l.length) (hm : m < k) (u : Value) (x' : α) (hx : enc x' = (enc l[j]).set m u) :
    (l.set j x').flatMap enc = (l.flatMap enc).set (j * k + m) u := by
  have hk0 : 0 < k := by omega
  apply List.ext_getElem?
  intro i
  by_cases hi : i < l.length * k
  · have hq : i / k < l.length := Nat.div_lt_of_lt_mul (by rw [Nat.mul_comm]; exact hi)
    have hr : i % k < k := Nat.mod_lt _ hk0
    have e : i = i / k * k + i % k := by rw [Nat.mul_comm]; exact (Nat.div_add_mod i k).symm
    have h1 : ((l.set j x').flatMap enc)[i]? = (enc ((l.set j x')[i / k]'(by rw [List.length_set]; exact hq)))[i % k]? := by
      conv => lhs; rw [e]
      exact flat_get hk _ (i / k) (by rw [List.length_set]; exact hq) (i % k) hr
    have h2 : (l.flatMap enc)[i]? = (enc l[i / k])[i % k]? := by
      conv => lhs; rw [e]
      exact flat_get hk _ (i / k) hq (i % k) hr
    rw [h1, List.getElem?_set, List.getElem_set]
    by_cases q1 : j = i / k
    · rw [if_pos q1, hx, List.getElem?_set]
      subst q1
      by_cases q2 : m = i % k
      · rw [if_pos q2, if_pos (by rw [hk]; exact hm), if_pos (by omega), if_pos (by rw [flat_length hk]; omega)]
      · rw [if_neg q2, if_neg (by omega), h2]
    · rw [if_neg q1, if_neg, h2]
      intro q
      apply q1
      rw [← q, Nat.mul_comm, Nat.mul_add_div hk0, Nat.div_eq_of_lt hm, Nat.add_zero]
  · rw [List.getElem?_eq_none (by rw [flat_length hk, List.length_set]; omega), List.getElem?_eq_none (by rw [List.length_set, flat_length hk]; omega)]

/-- A cell of a row of the call's own is written. -/
theorem own_setCell {α : Type} {enc : α → List Value} {w : World} {base : Nat} {e : TypeId} {k : Nat} {g n cap : Nat} {l : List α} (hk : ∀ x, (enc x).length = k) (h : w.ownsRow base e k (.slice (some ⟨g, 0, none⟩) n cap) l.length (l.flatMap enc)) (j m : Nat) (hj : j < l.length) (hm : m < k) (u : Value) (x' : α) (hx : enc x' = (enc l[j]).set m u) :
    (w.setCell ⟨g, j * k + m, none⟩ u).ownsRow base e k (.slice (some ⟨g, 0, none⟩) n cap) (l.set j x').length ((l.set j x').flatMap enc) := by
  obtain ⟨h0, h1⟩ := h
  refine ⟨by rw [flat_length hk], ?_⟩
  rcases h1 with ⟨q, _⟩ | ⟨g', cap', cur, q, hg, hh, hn, hm', hs, ht⟩
  · cases q
  · injection q with q1 q2 q3
    cases q1
    subst q3
    refine .inr ⟨g, cap, cur.setIfInBounds (j * k + m) u, by rw [List.length_set, q2], hg, heap_setCell_at hh _ _, by rw [List.length_set]; exact hn, hm', by simpa using hs, ?_⟩
    rw [List.length_set, Array.toList_setIfInBounds, List.take_set, ht, flat_set hk l j m hj hm u x' hx]

/-- A row of the call's own that isn't empty lies at the head of a block. -/
theorem own_block {α : Type} {enc : α → List Value} {w : World} {base : Nat} {e : TypeId} {k : Nat} {v : Value} {l : List α} (h : w.ownsRow base e k v l.length (l.flatMap enc)) (hl : 0 < l.length) : ∃ g cap cur, v = .slice (some ⟨g, 0, none⟩) l.length cap ∧ base ≤ g ∧ w.heap[g]? = some (.cells cur e (0, 0)) := by
  rcases h.2 with ⟨_, q⟩ | ⟨g, cap, cur, q, hg, hh, _⟩
  · omega
  · exact ⟨g, cap, cur, q, hg, hh⟩

/-- What belongs to the document's disk behind an act of its own. -/
def PN (P : Nat → Prop) (w w' : World) : Nat → Prop := fun k => P k ∨ (w.heap.size ≤ k ∧ k < w'.heap.size)

/-- A page of the cache is written over. -/
theorem RDAt.setC {P : Nat → Prop} {w w5 : World} {b : Nat} {D : RD} {pv : Value} {bk n cap : Nat} {rows : List KRow} {cs : List WRow} (h : RDAt P w b D pv (.slice (some ⟨bk, 0, none⟩) n cap) rows cs) (hu : Upd (fun _ => False) w w5) {g5 c5 : Nat} {l : List UInt8} (hg5 : w.heap.size ≤ g5) (hg6 : g5 < w5.heap.size)
    (hby : Bytes w5 (.slice (some ⟨g5, 0, none⟩) l.length c5) l) (hl : l.length = 256) (j : Nat) (hj : j < cs.length) (hj2 : j < D.cache.length) :
    RDAt (PN P w w5) (w5.setCell ⟨bk, j * 2 + 1, none⟩ (.slice (some ⟨g5, 0, none⟩) l.length c5)) b { D with cache := D.cache.set j (D.cache[j].1, l) } pv (.slice (some ⟨bk, 0, none⟩) n cap) rows (cs.set j (cs[j].1, ((some ⟨g5, 0, none⟩, c5), l))) := by
  have h5 := h.grow hu
  have hset := upd_setCell (fun k => k = bk) w5 ⟨bk, j * 2 + 1, none⟩ (.slice (some ⟨g5, 0, none⟩) l.length c5) rfl
  have hbb : b ≠ bk := fun e => h.s2 (by rw [e]; rfl)
  have hW : ∀ r, RowsAt P w5 b pv (.slice (some ⟨bk, 0, none⟩) n cap) r → RowsAt (PN P w w5) (w5.setCell ⟨bk, j * 2 + 1, none⟩ (.slice (some ⟨g5, 0, none⟩) l.length c5)) b pv (.slice (some ⟨bk, 0, none⟩) n cap) r := fun r hr =>
    { by_ := hr.by_.upd hset (fun k hk e => (hr.ap k hk).2.2.2 (by rw [e]; rfl)), len := hr.len, ap := fun k hk => ⟨.inl (hr.ap k hk).1, (hr.ap k hk).2⟩ }
  have hc0 : cs[j].1 = D.cache[j].1 := by
    have h2 : (cs.map (fun c => (c.1, c.2.2)))[j]? = D.cache[j]? := by rw [h.cache]
    rw [List.getElem?_map, List.getElem?_eq_getElem hj, List.getElem?_eq_getElem hj2] at h2
    exact congrArg (·.1) (Option.some.inj h2)
  refine { blk := by rw [heap_setCell_ne _ (by exact hbb)]; exact h5.blk, pown := own_upd' h5.pown hset (fun k hk e => h.s3 k hk (by rw [e]; rfl)), cown := own_setCell wenc_length h5.cown j 1 hj (by decide) _ _ rfl, pages := h.pages, cache := ?_, pby := fun r hr => hW r (h5.pby r hr), cby := fun c hc => ?_, s1 := h.s1, s2 := h.s2, s3 := h.s3, pb := .inl h.pb, pp := fun k hk => .inl (h.pp k hk), pc := fun k hk => .inl (h.pc k hk), lt := fun k hk => ?_ }
  · show (cs.set j _).map _ = D.cache.set j _
    rw [List.map_set, h.cache, hc0]
  · rcases List.mem_or_eq_of_mem_set hc with hc | rfl
    · exact hW c.2 (h5.cby c hc)
    · refine { by_ := hby.upd hset (fun k hk e => ?_), len := hl, ap := fun k hk => ?_ }
      · have e0 : g5 = k := Option.some.inj hk
        have := h.lt bk (h.pc bk rfl)
        omega
      · have e0 : g5 = k := Option.some.inj hk
        subst e0
        exact ⟨.inr ⟨hg5, hg6⟩, fun e => by have := h.lt b h.pb; omega, fun e => by have := h.lt g5 (h.pp g5 e); omega, fun e => by have := h.lt g5 (h.pc g5 e); omega⟩
  · rcases hk with hk | hk
    · have := h.lt k hk; have := hu.size; simp; omega
    · simp; exact hk.2

/-- A page more in the cache. -/
theorem RDAt.addC {P : Nat → Prop} {w w5 : World} {b : Nat} {D : RD} {pv : Value} {ca : Option Addr} {n cc : Nat} {rows : List KRow} {cs : List WRow} (h : RDAt P w b D pv (.slice ca n cc) rows cs) (hu : Upd (fun _ => False) w w5) {g5 c5 : Nat} {l : List UInt8} (hg5 : w.heap.size ≤ g5) (hg6 : g5 < w5.heap.size)
    (hby : Bytes w5 (.slice (some ⟨g5, 0, none⟩) l.length c5) l) (hl : l.length = 256) (page : Int) (hn : cs.length ≤ 100000) :
    ∃ a2 c2 w7, (∀ ty, (Builtin.append_ #[60, 60] ty #[.slice ca n cc, .slice (some ⟨w5.heap.size, 0, none⟩) 1 1]).run Try.prog (w5.alloc (.cells #[.int .i64 page, .slice (some ⟨g5, 0, none⟩) l.length c5] 87)) = .ok (.slice a2 (n + 1) c2) w7) ∧
      w7.frozen? ⟨b, 1, none⟩ = false ∧ (∃ u, w7.cell? ⟨b, 1, none⟩ = some u) ∧ RDAt (PN P w w7) (w7.setCell ⟨b, 1, none⟩ (.slice a2 (n + 1) c2)) b { D with cache := D.cache ++ [(page, l)] } pv (.slice a2 (n + 1) c2) rows (cs ++ [(page, ((some ⟨g5, 0, none⟩, c5), l))]) ∧ Upd P w (w7.setCell ⟨b, 1, none⟩ (.slice a2 (n + 1) c2)) := by
  have h5 := h.grow hu
  have hcown := h.cown
  obtain ⟨a', c', e, hle⟩ := own_shape hcown
  injection e with e1 e2 e3
  subst e1 e3 e2
  have hua := upd_alloc (fun _ => False) w5 (.cells #[.int .i64 page, .slice (some ⟨g5, 0, none⟩) l.length c5] 87)
  have h6 := h5.grow hua
  obtain ⟨a2, c2, w7, hap, hown7, hu7, hbl⟩ := run_append_one (P := Try.prog) (w := w5.alloc (.cells #[.int .i64 page, .slice (some ⟨g5, 0, none⟩) l.length c5] 87)) (t := 60) Try.underlying60 info_Written rfl (by decide) wenc_length wenc_one (l := cs) (base := 0) ((page, ((some ⟨g5, 0, none⟩, c5), l)) : WRow) h6.cown (heap_alloc w5 _).1 (Nat.zero_le _) (by unfold maxLen; omega) (by omega)
  have hs6 : (w5.alloc (.cells #[.int .i64 page, .slice (some ⟨g5, 0, none⟩) l.length c5] 87)).heap.size = w5.heap.size + 1 := by simp
  have hb7 := hu7.heap h6.blk h.s2
  have hset := upd_setCell (fun k => k = b) w7 ⟨b, 1, none⟩ (.slice a2 (cs.length + 1) c2) rfl
  have hnew : ∀ k, sliceBlock (.slice a2 (cs.length + 1) c2) = some k → sliceBlock (.slice ca cs.length cc) = some k ∨ k = w5.heap.size + 1 := fun k hk => by
    rcases hbl with q | q
    · rw [hk] at q; exact .inl q.symm
    · rw [hk, hs6] at q; injection q with q; exact .inr q
  have hws : w.heap.size ≤ w5.heap.size := hu.size
  have hlt7 : ∀ k, sliceBlock (.slice a2 (cs.length + 1) c2) = some k → k < w7.heap.size := fun k hk => (own_ge hown7 k hk).2
  have hW : ∀ r, RowsAt P w b pv (.slice ca cs.length cc) r → RowsAt (PN P w w7) (w7.setCell ⟨b, 1, none⟩ (.slice a2 (cs.length + 1) c2)) b pv (.slice a2 (cs.length + 1) c2) r := fun r hr =>
    { by_ := (((hr.by_.upd hu (fun _ _ x => x)).upd hua (fun _ _ x => x)).upd hu7 (fun k hk e => (hr.ap k hk).2.2.2 e)).upd hset (fun k hk e => (hr.ap k hk).2.1 e), len := hr.len,
      ap := fun k hk => ⟨.inl (hr.ap k hk).1, (hr.ap k hk).2.1, (hr.ap k hk).2.2.1, fun e => by
        rcases hnew k e with q | q
        · exact (hr.ap k hk).2.2.2 q
        · have := h.lt k (hr.ap k hk).1; omega⟩ }
  have huP : Upd P w (w7.setCell ⟨b, 1, none⟩ (.slice a2 (cs.length + 1) c2)) := (((hu.trans hua).weak P).trans (hu7.mono (fun k _ e => h.pc k e))).trans (hset.mono (fun k _ e => by rw [e]; exact h.pb))
  refine ⟨a2, c2, w7, hap, free_of hb7 1, ⟨_, cell_of hb7 1⟩, ?_, huP⟩
  refine { blk := by rw [heap_setCell_at hb7 1 _]; rfl, pown := own_upd' (own_upd' h6.pown hu7 (fun k hk e => h.s3 k hk e)) hset (fun k hk e => h.s1 (by rw [← e]; exact hk)), cown := own_upd' hown7 hset (fun k hk e => ?_), pages := h.pages, cache := ?_, pby := fun r hr => hW r (h.pby r hr), cby := fun c hc => ?_, s1 := h.s1, s2 := fun e => ?_, s3 := fun k hk e => ?_, pb := .inl h.pb, pp := fun k hk => .inl (h.pp k hk), pc := fun k hk => ?_, lt := fun k hk => ?_ }
  · rcases hnew k hk with q | q
    · exact h.s2 (by rw [← e]; exact q)
    · have := h.lt b h.pb; omega
  · rw [List.map_append, h.cache]; rfl
  · rcases List.mem_append.1 hc with hc | hc
    · exact hW c.2 (h.cby c hc)
    · rw [List.mem_singleton.1 hc]
      refine { by_ := ((hby.upd hua (fun _ _ x => x)).upd hu7 (fun k hk e => ?_)).upd hset (fun k hk e => ?_), len := hl, ap := fun k hk => ?_ }
      · have e0 : g5 = k := Option.some.inj hk
        have := h.lt k (h.pc k e); omega
      · have e0 : g5 = k := Option.some.inj hk
        have := h.lt b h.pb; omega
      · have e0 : g5 = k := Option.some.inj hk
        subst e0
        refine ⟨.inr ⟨hg5, by have := hu7.size; omega⟩, fun e => by have := h.lt b h.pb; omega, fun e => by have := h.lt g5 (h.pp g5 e); omega, fun e => ?_⟩
        rcases hnew g5 e with q | q
        · have := h.lt g5 (h.pc g5 q); omega
        · omega
  · rcases hnew b e with q | q
    · exact h.s2 q
    · have := h.lt b h.pb; omega
  · rcases hnew k e with q | q
    · exact h.s3 k hk q
    · have := h.lt k (h.pp k hk); omega
  · rcases hnew k hk with q | q
    · exact .inl (h.pc k q)
    · exact .inr ⟨by omega, hlt7 k hk⟩
  · have h1 := huP.size
    rcases hk with hk | hk
    · have := h.lt k hk; omega
    · simp; exact hk.2

end Go.Proofs.Yteokbokgiejmpaa
