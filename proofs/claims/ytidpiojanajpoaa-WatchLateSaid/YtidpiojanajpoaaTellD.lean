/-
  WatchTells: what its first loop keeps.
-/
import Derived.Test.YtidpiojanajpoaaTellA
import Derived.Test.YtidpiojanajpoaaTellB
import Derived.Test.YtidpiojanajpoaaTellC
namespace Go.Proofs.Ytidpiojanajpoaa
open Go.RowKit Go.Tb Go.MapKept Go.ChangeMaps
set_option linter.unusedVariables false

set_option maxRecDepth 100000 in
theorem behind_nil (b : Nat) (w : World) : Calls Try.prog 38 #[.pointer (some ⟨b, 0, none⟩), .pointer none] w fun e w' => e = .returned (.bool false) ∧ Upd (fun _ => False) w w' := by
  go_enter Try.func38, Try.ntmps38
  go_wp2
  go_quiet (fail)
  go_wp2
  go_ret
  exact ⟨rfl, (Upd.refl _ _).drewN _⟩

/-- Needs of a watcher that isn't there. -/
theorem needs_none (b m : Nat) (own : Nat → Tg) (P : Int → Option WrP) (H : Hub) (i : Int) (w : World) (h : IsHub w b m own P H) (hx : H.f i = none) :
    Calls Try.prog 25 #[.pointer (some ⟨b, 0, none⟩), .int .i64 i] w fun e w' => e = .returned (.tuple #[.int .i64 0, .agg zwatch, .bool false]) ∧ Upd (fun _ => False) w w' := by
  have hua := upd_alloc (fun _ => False) w (.cells #[.slice none 0 0, .slice none 0 0, .int .i64 0, .bool false, .bool false, .bool false] 24)
  have hB := (heap_alloc w (.cells #[.slice none 0 0, .slice none 0 0, .int .i64 0, .bool false, .bool false, .bool false] 24)).1
  have hf := find_calls b m own P H i _ (h.grow hua)
  have hp : P i = none := by
    cases hp : P i with
    | none => rfl
    | some p => obtain ⟨y, hy, -⟩ := h.wt i p hp; rw [hx] at hy; cases hy
  rw [hp] at hf
  simp only [wptr, Option.map_none] at hf
  have hbh := behind_nil b (w.alloc (.cells #[.slice none 0 0, .slice none 0 0, .int .i64 0, .bool false, .bool false, .bool false] 24))
  have HU := Lib.hid hua
  have HB := Lib.hid hB
  clear h hp hx hua hB
  go_enter Try.func25, Try.ntmps25
  go_wp2_with (first
    | (go_at_call 32; (with_reducible refine hf.mono ?_); rintro e w' ⟨rfl, rfl⟩)
    | (go_at_call 38; (with_reducible refine hbh.mono ?_); rintro e w4 ⟨rfl, hu4⟩; have hB4 := hu4.heap HB.out (fun x => x))
    | ((with_reducible refine wpl_store (ty := 24) (cs := #[.slice none 0 0, .slice none 0 0, .int .i64 0, .bool false, .bool false, .bool false]) hB4 ?_ ?_ ?_ ?_ ?_ ?_); rfl; rfl; rfl; kernel_rfl; rfl; intro w5 hq5 hu5 hs5 hd5; have e0 : w5.cell? ⟨w.heap.size, 0, none⟩ = some (.slice none 0 0) := cell_of hq5 0; have e1 : w5.cell? ⟨w.heap.size, 1, none⟩ = some (.slice none 0 0) := cell_of hq5 1; have e2 : w5.cell? ⟨w.heap.size, 2, none⟩ = some (.int .i64 0) := cell_of hq5 2; have e3 : w5.cell? ⟨w.heap.size, 3, none⟩ = some (.bool false) := cell_of hq5 3; have e4 : w5.cell? ⟨w.heap.size, 4, none⟩ = some (.bool false) := cell_of hq5 4; have e5 : w5.cell? ⟨w.heap.size, 5, none⟩ = some (.bool false) := cell_of hq5 5))
  refine bodyPost_ret (v := .tuple #[.int .i64 0, .agg zwatch, .bool false]) (by simp [results, Try.results25, go_sem, e0, e1, e2, e3, e4, e5]) rfl ⟨rfl, ?_⟩
  exact (HU.out.trans hu4).trans' hu5 (fun x hx e => by omega)

section
variable {w wr w' : World} {b m : Nat} {H H' : Hub} {lo : Nat → LTg} {va : Value} {as_ : List EvP} {wk : Nat} {wv : Array Value} {T : Nat → TP} {N : Nat}

theorem lfeed_none (h : Law w wr b m H lo va as_ wk wv T N) (id : Int) (hx : H.f id = none) :
    Calls Try.prog 17 #[.pointer (some ⟨b, 0, none⟩), .int .i64 id, va] wr fun e w' => e = .returned (.bool true) ∧ Law w w' b m H lo va as_ wk wv T N := by
  obtain ⟨o, P, g1, g2, g3⟩ := h.hub
  have HL := Lib.hid h
  have hn := needs_none b m o P H id wr g1 hx
  clear h hx g1 g2 g3
  go_enter Try.func17, Try.ntmps17
  go_wp2_with (first
    | (go_at_call 25; (with_reducible refine hn.mono ?_); rintro e w1 ⟨rfl, hu⟩; have hz := (heap_alloc w1 (.cells zwatch 24)).1; have huz := upd_alloc (fun _ => False) w1 (.cells zwatch 24))
    | ((with_reducible refine wpl_store (ty := 24) (cs := zwatch) hz ?_ ?_ ?_ ?_ ?_ ?_); rfl; rfl; rfl; kernel_rfl; rfl; intro w4 hq5 hu5 hs5 hd5))
  go_ret
  exact ⟨rfl, HL.out.grow ((hu.trans huz).trans' hu5 (fun x hx e => by have := hu.size; omega))⟩
theorem ltell_none (h : Law w wr b m H lo va as_ wk wv T N) (i : Nat) (id : Int) (hx : H.f id = none) :
    Calls Try.prog 18 #[.pointer (some ⟨b, 0, none⟩), .int .i64 id, .pointer (some ⟨(T i).tb, 0, none⟩), .pointer (some ⟨(T i).lb, 0, none⟩), .int .i64 H.most] wr fun e w' => e = .returned (.bool true) ∧ Law w w' b m H lo va as_ wk wv T N := by
  obtain ⟨o, P, g1, g2, g3⟩ := h.hub
  have HL := Lib.hid h
  have hd := drain_none b m o P H id wr g1 (fun y hy => by rw [hx] at hy; cases hy)
  clear h hx g1 g2 g3
  go_enter Try.func18, Try.ntmps18
  go_wp2_with (first
    | (go_at_call 13; (with_reducible refine hd.mono ?_); rintro e w1 ⟨rfl, hu⟩; have hz := (heap_alloc w1 (.cells zbatch 40)).1; have huz := upd_alloc (fun _ => False) w1 (.cells zbatch 40))
    | ((with_reducible refine wpl_store (ty := 40) (cs := zbatch) hz ?_ ?_ ?_ ?_ ?_ ?_); rfl; rfl; rfl; kernel_rfl; rfl; intro w4 hq5 hu5 hs5 hd5))
  go_ret
  exact ⟨rfl, HL.out.grow ((hu.trans huz).trans' hu5 (fun x hx e => by have := hu.size; omega))⟩

/-- The watch's box is written. -/
theorem Law.box (h : Law w wr b m H lo va as_ wk wv T N) (hu : Upd (fun k => k = wk) wr w') {wv' : Array Value} (hb : w'.heap[wk]? = some (.cells wv' 24 (0, 0))) : Law w w' b m H lo va as_ wk wv' T N := by
  obtain ⟨o, P, g1, g2, g3⟩ := h.hub
  have hw := h.lt wk (by rw [h.ow]; simp)
  exact { hub := ⟨o, P, g1.upd hu (fun k hk e => by rw [show k = wk from e] at hk; exact hk (g3 wk (by rw [h.ow]; simp))), g2, g3⟩, lt := fun q hq => ⟨(h.lt q hq).1, Nat.lt_of_lt_of_le (h.lt q hq).2 hu.size⟩, all := h.all.upd hu (fun k hk e => by have := h.ab k hk; rw [show k = wk from e, h.ow] at this; cases this) (fun k hk e => by rw [show k = wk from e, h.ow] at hk; cases hk), ab := h.ab, wbox := hb, ow := h.ow, tt := fun i hi => (h.tt i hi).upd hu (fun k e => by rw [show k = wk from e, h.ow]; simp), u := h.u.trans' hu (fun q hq e => by have e' : q = wk := e; omega) }
end

theorem upd_at (H : Hub) (i : Int) (x : Wr) : (H.upd i x).f i = some x := if_pos (rfl : i = i)
theorem upd_ne (H : Hub) (i : Int) (x : Wr) {j : Int} (h : j ≠ i) : (H.upd i x).f j = H.f j := if_neg h
/-- The abstract state. -/
structure TAbs (H : Hub) (k : Nat) (room most : Int) (x : Wt) (all told : List Ev) (last : Int) (c : Bool) (z S : Int) : Prop where
  rev : H.rev = k
  room : H.room = room
  most : H.most = most
  ao : AllOk k all
  z : z = cond c 1 0
  on : c = true → 1 ≤ S ∧ S ≤ 4611686018427387904 ∧ ∃ y, H.f 1 = some y ∧ y.w = { x with start := S } ∧ WI k y all told last
  off : c = false → H.f 1 = none ∧ H.last = 0 ∧ H.n = 0 ∧ told = [] ∧ last = 0 ∧ S = x.start ∧ (x.start = 0 ∨ k = 0)
  one : ∀ i, i ≠ 1 → H.f i = none
def TSt (w wr : World) (b m : Nat) (room most : Int) (x : Wt) (kv ev : Value) (tb lb wk : Nat) (k : Nat) (va : Value) (as_ : List EvP) (c : Bool) (z S : Int) : Prop :=
  ∃ H lo tv ts last, Law w wr b m H lo va as_ wk (wcells kv ev { x with start := S }) (fun _ => ⟨tb, lb, tv, ts, last⟩) 1 ∧ TAbs H k room most x (as_.map EvP.x) (ts.map EvP.x) last c z S

section
variable {w wr w' : World} {b m : Nat} {room most : Int} {x : Wt} {kv ev : Value} {tb lb wk : Nat} {k : Nat} {va : Value} {as_ : List EvP} {c : Bool} {z S : Int}

theorem TAbs.hok {H : Hub} {k : Nat} {room most : Int} {x : Wt} {all told : List Ev} {last : Int} {c : Bool} {z S : Int} (h : TAbs H k room most x all told last c z S) (r0 : 1 ≤ room) (r1 : room ≤ 4096) (m0 : 1 ≤ most) (m1 : most ≤ 4096) (hk : k ≤ 1000) : HOk H := by
  have h1 := h.rev; have h2 := h.room; have h3 := h.most
  exact ⟨by omega, by omega, by omega, by omega, by omega, by omega⟩
theorem TAbs.buf {H : Hub} {k : Nat} {room most : Int} {x : Wt} {all told : List Ev} {last : Int} {c : Bool} {z S : Int} (h : TAbs H k room most x all told last c z S) {i : Int} {y : Wr} (hy : H.f i = some y) : y.buf.length + told.length ≤ all.length := by
  by_cases hi : i = 1
  · subst hi
    cases c with
    | false => have := (h.off rfl).1; rw [hy] at this; cases this
    | true =>
      obtain ⟨-, -, y', h1, h2, h3⟩ := h.on rfl
      rw [hy] at h1
      cases h1
      have g1 := h3.len
      have g2 := wanted_len y.w y.w.start all
      omega
  · rw [h.one i hi] at hy; cases hy

/-- It is fed. -/
theorem tfeed (h : TSt w wr b m room most x kv ev tb lb wk k va as_ c z S) (r0 : 1 ≤ room) (r1 : room ≤ 4096) (m0 : 1 ≤ most) (m1 : most ≤ 4096) (hk : k ≤ 1000) (l1 : x.key.length ≤ 140737488355328) (l2 : x.end_.length ≤ 140737488355328) (hs : ∀ p ∈ as_, p.x.Small) (hn : as_.length ≤ 800000000000) :
    Calls Try.prog 17 #[.pointer (some ⟨b, 0, none⟩), .int .i64 z, va] wr fun e w' => e = .returned (.bool true) ∧ TSt w w' b m room most x kv ev tb lb wk k va as_ c z S := by
  obtain ⟨H, lo, tv, ts, last, hL, hA⟩ := h
  cases c with
  | false =>
    have hz : z = 0 := hA.z
    subst hz
    exact (lfeed_none hL 0 (hA.one 0 (by decide))).mono fun e w' ⟨he, hL'⟩ => ⟨he, H, lo, tv, ts, last, hL', hA⟩
  | true =>
    have hz : z = 1 := hA.z
    subst hz
    obtain ⟨s1, s2, y, hy, hyw, hW⟩ := hA.on rfl
    have hrev := hA.rev
    refine (lfeed_calls hL 1 y hy (hA.hok r0 r1 m0 m1 hk) (by rw [hyw]; exact l1) (by rw [hyw]; exact l2) hs (by rw [hrev]; exact hA.ao) hn (by have h1 := congrArg List.length hW.eq; have h2 := wanted_len y.w y.w.start (as_.map EvP.x); simp at h1 h2; omega)).mono fun e w' ⟨he, hL', _⟩ => ⟨he, _, lo, tv, ts, last, hL', ?_⟩
    have hW' : WI H.rev y (as_.map EvP.x) (ts.map EvP.x) last := by rw [hrev]; exact hW
    have hf := hW'.fed (by rw [hrev]; exact hA.ao)
    rw [hrev] at hf
    exact { rev := hrev, room := hA.room, most := hA.most, ao := hA.ao, z := rfl, on := fun _ => ⟨s1, s2, fedW H (as_.map EvP.x) y, upd_at _ _ _, by rw [hf.2.1]; exact hyw, hf.1⟩, off := fun h => (by cases h), one := fun i hi => (upd_ne _ _ _ hi).trans (hA.one i hi) }

/-- It is told. -/
theorem ttell (h : TSt w wr b m room most x kv ev tb lb wk k va as_ c z S) (hn : as_.length ≤ 800000000000) :
    Calls Try.prog 18 #[.pointer (some ⟨b, 0, none⟩), .int .i64 z, .pointer (some ⟨tb, 0, none⟩), .pointer (some ⟨lb, 0, none⟩), .int .i64 most] wr fun e w' => e = .returned (.bool true) ∧ TSt w w' b m room most x kv ev tb lb wk k va as_ c z S := by
  obtain ⟨H, lo, tv, ts, last, hL, hA⟩ := h
  have hm := hA.most
  subst hm
  cases c with
  | false =>
    have hz : z = 0 := hA.z
    subst hz
    exact (ltell_none hL 0 0 (hA.one 0 (by decide))).mono fun e w' ⟨he, hL'⟩ => ⟨he, H, lo, tv, ts, last, hL', hA⟩
  | true =>
    have hz : z = 1 := hA.z
    subst hz
    obtain ⟨s1, s2, y, hy, hyw, hW⟩ := hA.on rfl
    have hb := hA.buf hy
    rw [List.length_map, List.length_map] at hb
    refine (ltell_calls hL 0 (by decide) 1 y hy hW.ended (hW.up hA.ao) (fun q hq => (hW.lo q hq).1) (by show ts.length + _ ≤ _; omega)).mono fun e w' ⟨he, lo', v', rs, hrx, hL', _⟩ => ⟨he, H.upd 1 { y with buf := y.buf.drop (cutN y.buf H.most) }, lo', v', ts ++ rs, lastOf last (y.buf.take (cutN y.buf H.most)), ?_, ?_⟩
    · exact { hub := hL'.hub, lt := hL'.lt, all := hL'.all, ab := hL'.ab, wbox := hL'.wbox, ow := hL'.ow, tt := (fun i hi => by
        obtain rfl : i = 0 := by omega
        have := hL'.tt 0 (by decide)
        simpa using this), u := hL'.u }
    · have hd := (hW.drained hA.ao H.most).1
      rw [List.map_append, hrx]
      exact { rev := hA.rev, room := hA.room, most := rfl, ao := hA.ao, z := rfl, on := fun _ => ⟨s1, s2, _, upd_at _ _ _, hyw, hd⟩, off := fun h => (by cases h), one := fun i hi => (upd_ne _ _ _ hi).trans (hA.one i hi) }

/-- It is made. -/
theorem tcreate (h : TSt w wr b m room most x kv ev tb lb wk k va as_ false z S) (hk : k ≤ 1000) {S' : Int} (hS : 1 ≤ S') (hS2 : S' ≤ 1000) (hu : Upd (fun q => q = wk) wr w') (hb : w'.heap[wk]? = some (.cells (wcells kv ev { x with start := S' }) 24 (0, 0))) (hkk : Bytes w kv x.key) (hee : Bytes w ev x.end_) (l1 : x.key.length ≤ 140737488355328) (l2 : x.end_.length ≤ 140737488355328) :
    Calls Try.prog 9 #[.pointer (some ⟨b, 0, none⟩), .agg (wcells kv ev { x with start := S' }), .int .i64 0] w' fun e w2 => e = .returned (.tuple #[.int .i64 1, .int .i64 0]) ∧ TSt w w2 b m room most x kv ev tb lb wk k va as_ true 1 S' := by
  obtain ⟨H, lo, tv, ts, last, hL, hA⟩ := h
  have hL1 := hL.box hu hb
  obtain ⟨o, P, g1, g2, g3⟩ := hL1.hub
  obtain ⟨q1, q2, q3, q4, q5, q6, q7⟩ := hA.off rfl
  have hr := hA.rev
  have hnx : nextOf H { x with start := S' } = S' := by
    unfold nextOf; rw [if_neg (by show S' ≠ 0; omega)]
  refine (create_ok b m o P H kv ev { x with start := S' } 0 w' g1 (by omega) (by omega) (by omega) (by omega) (by show 0 ≤ S'; omega) (by show S' ≤ _; omega) (by omega) (by rw [hnx]; omega) (by rw [q2]; exact q1) (hkk.upd hL1.u (fun _ _ s => s)) (hee.upd hL1.u (fun _ _ s => s)) l1 l2).mono fun e w2 ⟨he, ⟨own', P', k1, k2⟩, k3⟩ => ⟨by rw [he, q2]; rfl, H.more { x with start := S' }, lo, tv, ts, last, hL1.step g2 g3 k1 k2 k3, ?_⟩
  have hf1 : (H.more { x with start := S' }).f 1 = some ⟨{ x with start := S' }, S', [], false, 0⟩ := by
    show (if (1 : Int) = H.last + 1 then _ else _) = _
    rw [q2, if_pos (by decide), hnx]
  exact { rev := hr, room := hA.room, most := hA.most, ao := hA.ao, z := rfl, on := fun _ => ⟨hS, by omega, _, hf1, rfl, { ended := rfl, eq := (by rw [q4]; rfl), nx := .inr rfl, st := Int.le_refl _, lo := fun y hy => (by cases hy), l0 := (by rw [q5]; show 0 < S'; omega) }⟩, off := fun h => (by cases h), one := (fun i hi => by
    show (if i = H.last + 1 then _ else _) = _
    rw [if_neg (by rw [q2]; omega)]; exact hA.one i hi) }

/-- A write. -/
theorem twrite (h : TSt w wr b m room most x kv ev tb lb wk k va as_ c z S) (r0 : 1 ≤ room) (r1 : room ≤ 4096) (m0 : 1 ≤ most) (m1 : most ≤ 4096) (hk : k ≤ 1000) (hc : c = false → x.start = 0) {w1 : World} {J : Nat → Prop} {a : Option Addr} {cc : Nat} {rs : List EvP} (hr : EvRow w1 wr.heap.size J (.slice a rs.length cc) rs) (hu : Upd (fun _ => False) wr w1) (hl : as_.length + rs.length ≤ 800000000000) (hall : allMod ((k : Int) + 1) (rs.map EvP.x) = true) (hs : ∀ p ∈ rs, p.x.Small) :
    ∃ a' n' c' w2, (∀ ty, (Builtin.append_ #[32, 32] ty #[va, .slice a rs.length cc]).run Try.prog w1 = .ok (.slice a' n' c') w2) ∧ n' = as_.length + rs.length ∧
      Calls Try.prog 11 #[.pointer (some ⟨b, 0, none⟩), .int .i64 ((k : Int) + 1), .slice a rs.length cc] w2 fun e w' => e = .returned (.int .i64 0) ∧ TSt w w' b m room most x kv ev tb lb wk (k + 1) (.slice a' n' c') (as_ ++ rs) c z S := by
  obtain ⟨H, lo, tv, ts, last, hL, hA⟩ := h
  have hrev := hA.rev
  obtain ⟨a', n', c', w2, lo', h1, h2, h3⟩ := hL.append hr hu hl (hA.hok r0 r1 m0 m1 hk) (rev := (k : Int) + 1) (by omega) (by omega) hall hs (fun i y hy => by have := hA.buf hy; rw [List.length_map, List.length_map] at this; omega)
  have hn' : n' = as_.length + rs.length := by
    obtain ⟨a9, c9, e, -⟩ := own_shape h2.all.own
    cases e
    rw [List.length_append]
  refine ⟨a', n', c', w2, h1, hn', h3.mono fun e w' ⟨he, hL'⟩ => ⟨he, _, lo', tv, ts, last, hL', ?_⟩⟩
  have hall' : ∀ y ∈ rs.map EvP.x, y.kv.mod = (k : Int) + 1 := fun y hy => by simpa using List.all_eq_true.1 hall y hy
  refine { rev := (by show (k : Int) + 1 = _; omega), room := hA.room, most := hA.most, ao := (by rw [List.map_append]; exact hA.ao.more hall'), z := hA.z, on := fun hc => ?_, off := fun hc' => ?_, one := (fun i hi => by show (H.f i).map _ = none; rw [hA.one i hi]; rfl) }
  · obtain ⟨s1, s2, y, hy, hyw, hW⟩ := hA.on hc
    have hn := hW.notified hA.ao hall' H.room
    refine ⟨s1, s2, _, by show (H.f 1).map _ = _; rw [hy]; rfl, by rw [hn.2]; exact hyw, ?_⟩
    rw [List.map_append]
    exact hn.1
  · obtain ⟨q1, q2, q3, q4, q5, q6, q7⟩ := hA.off hc'
    exact ⟨by show (H.f 1).map _ = none; rw [q1]; rfl, q2, q3, q4, q5, q6, .inl (hc hc')⟩
end

end Go.Proofs.Ytidpiojanajpoaa
