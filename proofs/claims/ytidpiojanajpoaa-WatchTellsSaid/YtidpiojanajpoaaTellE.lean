/-
  WatchTells: how its state begins, and what its second loop keeps.
-/
import Derived.Test.YtidpiojanajpoaaTellD
namespace Go.Proofs.Ytidpiojanajpoaa
open Go.RowKit Go.Tb Go.MapKept Go.ChangeMaps
set_option linter.unusedVariables false

section
variable {w wr w' : World} {b m : Nat} {room most : Int} {x : Wt} {kv ev : Value} {tb lb wk : Nat}

theorem law_start {o : Nat → Tg} {P : Int → Option WrP} {H : Hub} (h : IsHub wr b m o P H) (ho : ∀ q, o q ≠ .no → w.heap.size ≤ q) (hu : Upd (fun _ => False) w wr) {wv : Array Value} (hw : wr.heap[wk]? = some (.cells wv 24 (0, 0))) (ht : wr.heap[tb]? = some (.cells #[.slice none 0 0] 32 (0, 0))) (hl : wr.heap[lb]? = some (.cells #[.int .i64 0] 2 (0, 0)))
    (ew : w.heap.size ≤ wk) (et : w.heap.size ≤ tb) (el : w.heap.size ≤ lb) (n1 : wk ≠ tb) (n2 : wk ≠ lb) (n3 : tb ≠ lb) (o1 : o wk = .no) (o2 : o tb = .no) (o3 : o lb = .no) :
    ∃ lo, Law w wr b m H lo (.slice none 0 0) [] wk wv (fun _ => ⟨tb, lb, .slice none 0 0, [], 0⟩) 1 := by
  obtain ⟨lo, hlo⟩ : ∃ lo : Nat → LTg, lo = fun q => if q = wk then .wb else if q = tb then .tb 0 else if q = lb then .lb 0 else .no := ⟨_, rfl⟩
  have hc : ∀ q, lo q ≠ .no → q = wk ∨ q = tb ∨ q = lb := fun q hq => by
    rw [hlo] at hq
    by_cases e1 : q = wk
    · exact .inl e1
    · by_cases e2 : q = tb
      · exact .inr (.inl e2)
      · by_cases e3 : q = lb
        · exact .inr (.inr e3)
        · simp [e1, e2, e3] at hq
  have k1 : lo wk = .wb := by rw [hlo]; simp
  have k2 : lo tb = .tb 0 := by rw [hlo]; simp [n1.symm]
  have k3 : lo lb = .lb 0 := by rw [hlo]; simp [n2.symm, n3.symm]
  have hby : (fun k => lo k = .by_) = fun _ => False := by
    funext k
    refine propext ⟨fun e => ?_, fun e => e.elim⟩
    rcases hc k (by rw [e]; simp) with q | q | q
    · rw [q, k1] at e; cases e
    · rw [q, k2] at e; cases e
    · rw [q, k3] at e; cases e
  refine ⟨lo, { hub := ⟨o, P, h, ho, fun q hq => ?_⟩, lt := fun q hq => ?_, all := evSh_nil _ _ _, ab := fun k hk => (by cases hk), wbox := hw, ow := k1, tt := fun i hi => ?_, u := hu }⟩
  · rcases hc q hq with e | e | e <;> rw [e] <;> assumption
  · rcases hc q hq with e | e | e
    · rw [e]; exact ⟨ew, lt_of_heap hw⟩
    · rw [e]; exact ⟨et, lt_of_heap ht⟩
    · rw [e]; exact ⟨el, lt_of_heap hl⟩
  · obtain rfl : i = 0 := by omega
    exact { row := evSh_nil _ _ _, rb := fun k hk => (by cases hk), tbox := ht, lbox := hl, ot := k2, ol := k3 }
theorem tst_start {o : Nat → Tg} {P : Int → Option WrP} (h : IsHub wr b m o P (newHub 0 room most)) (ho : ∀ q, o q ≠ .no → w.heap.size ≤ q) (hu : Upd (fun _ => False) w wr) (hw : wr.heap[wk]? = some (.cells (wcells kv ev x) 24 (0, 0))) (ht : wr.heap[tb]? = some (.cells #[.slice none 0 0] 32 (0, 0))) (hl : wr.heap[lb]? = some (.cells #[.int .i64 0] 2 (0, 0)))
    (ew : w.heap.size ≤ wk) (et : w.heap.size ≤ tb) (el : w.heap.size ≤ lb) (n1 : wk ≠ tb) (n2 : wk ≠ lb) (n3 : tb ≠ lb) (o1 : o wk = .no) (o2 : o tb = .no) (o3 : o lb = .no) :
    TSt w wr b m room most x kv ev tb lb wk 0 (.slice none 0 0) [] false 0 x.start := by
  obtain ⟨lo, hL⟩ := law_start h ho hu hw ht hl ew et el n1 n2 n3 o1 o2 o3
  exact ⟨_, lo, _, [], 0, hL, { rev := rfl, room := rfl, most := rfl, ao := ⟨List.Pairwise.nil, fun y hy => (by cases hy)⟩, z := rfl, on := fun h => (by cases h), off := fun _ => ⟨rfl, rfl, rfl, rfl, rfl, rfl, .inr rfl⟩, one := fun i hi => rfl }⟩

/-- The second loop's state, ahead of round j. -/
def FSt (w wr : World) (b m : Nat) (room most : Int) (x : Wt) (kv ev : Value) (tb lb wk : Nat) (k : Nat) (va : Value) (as_ : List EvP) (S : Int) (vw : Value) (ws : List EvP) (j : Nat) : Prop :=
  ∃ H lo tv ts last y, Law w wr b m H lo va as_ wk (wcells kv ev { x with start := S }) (fun _ => ⟨tb, lb, tv, ts, last⟩) 1 ∧ H.rev = k ∧ H.room = room ∧ H.most = most ∧ AllOk k (as_.map EvP.x) ∧ H.f 1 = some y ∧ y.w = { x with start := S } ∧ WI k y (as_.map EvP.x) (ts.map EvP.x) last ∧ Through k y (as_.map EvP.x) (ts.map EvP.x) j ∧
    Evs wr (fun q => lo q = .by_) vw ws ∧ (∀ q, sliceBlock vw = some q → lo q = .by_) ∧ ws.map EvP.x = sieveE { x with start := S } (sinceE S (as_.map EvP.x))
/-- .. behind its feed. -/
def FMid (w wr : World) (b m : Nat) (room most : Int) (x : Wt) (kv ev : Value) (tb lb wk : Nat) (k : Nat) (va : Value) (as_ : List EvP) (S : Int) (vw : Value) (ws : List EvP) (j : Nat) : Prop :=
  ∃ H lo tv ts last y, Law w wr b m H lo va as_ wk (wcells kv ev { x with start := S }) (fun _ => ⟨tb, lb, tv, ts, last⟩) 1 ∧ H.rev = k ∧ H.room = room ∧ H.most = most ∧ AllOk k (as_.map EvP.x) ∧ H.f 1 = some y ∧ y.w = { x with start := S } ∧ WI k y (as_.map EvP.x) (ts.map EvP.x) last ∧
    Through k { y with buf := y.buf.drop (cutN y.buf most) } (as_.map EvP.x) (ts.map EvP.x ++ y.buf.take (cutN y.buf most)) (j + 1) ∧
    Evs wr (fun q => lo q = .by_) vw ws ∧ (∀ q, sliceBlock vw = some q → lo q = .by_) ∧ ws.map EvP.x = sieveE { x with start := S } (sinceE S (as_.map EvP.x))

variable {k : Nat} {va : Value} {as_ : List EvP} {S : Int} {vw : Value} {ws : List EvP} {j : Nat}

theorem ffeed (h : FSt w wr b m room most x kv ev tb lb wk k va as_ S vw ws j) (r0 : 1 ≤ room) (r1 : room ≤ 4096) (m0 : 1 ≤ most) (m1 : most ≤ 4096) (hk : k ≤ 1000) (l1 : x.key.length ≤ 140737488355328) (l2 : x.end_.length ≤ 140737488355328) (hs : ∀ p ∈ as_, p.x.Small) (hn : as_.length ≤ 800000000000) :
    Calls Try.prog 17 #[.pointer (some ⟨b, 0, none⟩), .int .i64 1, va] wr fun e w' => e = .returned (.bool true) ∧ FMid w w' b m room most x kv ev tb lb wk k va as_ S vw ws j := by
  obtain ⟨H, lo, tv, ts, last, y, hL, h1, h2, h3, h4, h5, h6, h7, h8, h9, h10, h11⟩ := h
  subst h2 h3
  have hok : HOk H := ⟨by omega, by omega, r0, r1, m0, m1⟩
  have hW : WI H.rev y (as_.map EvP.x) (ts.map EvP.x) last := by rw [h1]; exact h7
  refine (lfeed_calls hL 1 y h5 hok (by rw [h6]; exact l1) (by rw [h6]; exact l2) hs (by rw [h1]; exact h4) hn (by have h1 := congrArg List.length h7.eq; have h2 := wanted_len y.w y.w.start (as_.map EvP.x); simp at h1 h2; omega)).mono fun e w' ⟨he, hL', hU⟩ => ⟨he, _, lo, tv, ts, last, fedW H (as_.map EvP.x) y, hL', h1, rfl, rfl, h4, upd_at _ _ _, ?_, ?_, ?_, h9.upd hU (fun q hq s => s (h10 q hq)) (fun q hq s => s hq), h10, h11⟩
  · rw [(hW.fed (by rw [h1]; exact h4)).2.1]; exact h6
  · have := (hW.fed (by rw [h1]; exact h4)).1
    rw [h1] at this; exact this
  · have := hW.round (by rw [h1]; exact h4) H.most (k := j) (by rw [h1]; exact h8)
    rw [h1] at this; exact this
theorem ftell (h : FMid w wr b m room most x kv ev tb lb wk k va as_ S vw ws j) (hn : as_.length ≤ 800000000000) :
    Calls Try.prog 18 #[.pointer (some ⟨b, 0, none⟩), .int .i64 1, .pointer (some ⟨tb, 0, none⟩), .pointer (some ⟨lb, 0, none⟩), .int .i64 most] wr fun e w' => e = .returned (.bool true) ∧ FSt w w' b m room most x kv ev tb lb wk k va as_ S vw ws (j + 1) := by
  obtain ⟨H, lo, tv, ts, last, y, hL, h1, h2, h3, h4, h5, h6, h7, h8, h9, h10, h11⟩ := h
  subst h2 h3
  have hb := h7.len
  have hb2 := wanted_len y.w y.w.start (as_.map EvP.x)
  rw [List.length_map] at hb hb2
  refine (ltell_calls hL 0 (by decide) 1 y h5 h7.ended (h7.up h4) (fun q hq => (h7.lo q hq).1) (by show ts.length + _ ≤ _; omega)).mono fun e w' ⟨he, lo', v', rs, hrx, hL', hby, hU⟩ => ⟨he, H.upd 1 { y with buf := y.buf.drop (cutN y.buf H.most) }, lo', v', ts ++ rs, lastOf last (y.buf.take (cutN y.buf H.most)), _, ?_, h1, rfl, rfl, h4, upd_at _ _ _, h6, ?_, ?_, ?_, fun q hq => hby q (h10 q hq), h11⟩
  · exact { hub := hL'.hub, lt := hL'.lt, all := hL'.all, ab := hL'.ab, wbox := hL'.wbox, ow := hL'.ow, tt := (fun i hi => by
      obtain rfl : i = 0 := by omega
      have := hL'.tt 0 (by decide)
      simpa using this), u := hL'.u }
  · rw [List.map_append, hrx]
    exact (h7.drained h4 H.most).1
  · rw [List.map_append, hrx]
    exact h8
  · have h12 := h9.upd hU (fun q hq s => s (h10 q hq)) (fun q hq s => s hq)
    exact ⟨h12.1, fun p hp => (h12.2 p hp).wider hby⟩
theorem FSt.grow (h : FSt w wr b m room most x kv ev tb lb wk k va as_ S vw ws j) (hu : Upd (fun _ => False) wr w') : FSt w w' b m room most x kv ev tb lb wk k va as_ S vw ws j := by
  obtain ⟨H, lo, tv, ts, last, y, hL, h1, h2, h3, h4, h5, h6, h7, h8, h9, h10, h11⟩ := h
  exact ⟨H, lo, tv, ts, last, y, hL.grow hu, h1, h2, h3, h4, h5, h6, h7, h8, h9.grow hu, h10, h11⟩
/-- It begins. -/
theorem fst_start {z : Int} (h : TSt w wr b m room most x kv ev tb lb wk k va as_ true z S) (hu : Upd (fun _ => False) wr w') {J : Nat → Prop} {base : Nat} (hb : wr.heap.size ≤ base) (hr : EvRow w' base J vw ws) (hx : ws.map EvP.x = sieveE { x with start := S } (sinceE S (as_.map EvP.x))) : FSt w w' b m room most x kv ev tb lb wk k va as_ S vw ws 0 := by
  obtain ⟨H, lo, tv, ts, last, hL, hA⟩ := h
  obtain ⟨s1, s2, y, hy, hyw, hW⟩ := hA.on rfl
  obtain ⟨lo', hL', hby, hJ⟩ := hL.mark hu (J := fun q => J q ∨ sliceBlock vw = some q) (fun q hq => by
    have := hq.elim (fun q' => hr.ge q q') (fun q' => hr.blk q q')
    omega)
  exact ⟨H, lo', tv, ts, last, y, hL', hA.rev, hA.room, hA.most, hA.ao, hy, hyw, hW, .inl (Nat.zero_le _), ⟨hr.evs.1, fun p hp => (hr.evs.2 p hp).wider (fun q hq => hJ q (.inl hq))⟩, fun q hq => hJ q (.inr hq), hx⟩
/-- What was told is a beginning. -/
theorem FSt.begins (h : FSt w wr b m room most x kv ev tb lb wk k va as_ S vw ws j) (hn : as_.length ≤ 800000000000) : ∃ ta tn tc ts, ∃ I : Nat → Prop, wr.cell? ⟨tb, 0, none⟩ = some (.slice ta tn tc) ∧ tn = ts.length ∧ tn ≤ ws.length ∧ ws.length ≤ 800000000000 ∧ Evs wr I (.slice ta tn tc) ts ∧ Evs wr I vw ws ∧ ts.map EvP.x = (ws.take tn).map EvP.x := by
  obtain ⟨H, lo, tv, ts, last, y, hL, h1, h2, h3, h4, h5, h6, h7, h8, h9, h10, h11⟩ := h
  have ht := hL.tt 0 (by decide)
  obtain ⟨ta, tc, e, -⟩ := own_shape ht.row.own
  have e' : tv = .slice ta ts.length tc := e
  subst e'
  have hq : ts.map EvP.x ++ y.buf ++ sieveE y.w (sinceE y.next (as_.map EvP.x)) = ws.map EvP.x := by
    rw [h11, h7.eq, h6]
  have hl := congrArg List.length hq
  have hwl := wanted_len { x with start := S } S (as_.map EvP.x)
  rw [← h11, List.length_map, List.length_map] at hwl
  simp at hl
  refine ⟨ta, _, tc, ts, _, cell_of ht.tbox 0, rfl, by omega, by omega, ht.row.evs, h9, ?_⟩
  rw [List.map_take, ← hq, List.append_assoc]
  exact (List.take_left' (by simp)).symm
/-- What stands at the end. -/
theorem FSt.done (h : FSt w wr b m room most x kv ev tb lb wk k va as_ S vw ws j) (hj : as_.length < j) (hn : as_.length ≤ 800000000000) : ∃ H o P y, IsHub wr b m o P H ∧ H.rev = k ∧ H.f 1 = some y ∧ y.ended = false ∧ y.buf = [] ∧ (k : Int) < y.next ∧ ∃ tv ts, ∃ I : Nat → Prop, wr.cell? ⟨tb, 0, none⟩ = some tv ∧ Evs wr I tv ts ∧ Evs wr I vw ws ∧ ts.map EvP.x = ws.map EvP.x ∧ ts.length ≤ 800000000000 := by
  obtain ⟨H, lo, tv, ts, last, y, hL, h1, h2, h3, h4, h5, h6, h7, h8, h9, h10, h11⟩ := h
  have ht := hL.tt 0 (by decide)
  obtain ⟨o, P, g1, g2, g3⟩ := hL.hub
  obtain ⟨d1, d2, d3⟩ := h7.done h8 (by rw [List.length_map]; exact hj)
  have hwl := wanted_len { x with start := S } S (as_.map EvP.x)
  have he : ts.map EvP.x = ws.map EvP.x := by rw [d1, h11, h6]
  rw [← h11, ← he, List.length_map, List.length_map] at hwl
  exact ⟨H, o, P, y, g1, h1, h5, h7.ended, d2, d3, tv, ts, _, cell_of ht.tbox 0, ht.row.evs, h9, he, by omega⟩
end

end Go.Proofs.Ytidpiojanajpoaa
