/-
  WatchCancels: what its walk keeps.
-/
import Derived.Test.YtidpiojanajpoaaHubK
import Derived.Test.YtidpiojanajpoaaHubL
import Derived.Test.YtidpiojanajpoaaHubN
import Derived.Test.YtidpiojanajpoaaHubD
import Derived.Test.YtidpiojanajpoaaHubJ
import Derived.Test.YtidpiojanajpoaaEvI
import Derived.Test.YtidpiojanajpoaaFeedC
namespace Go.Proofs.Ytidpiojanajpoaa
open Go.RowKit Go.Tb Go.MapKept Go.ChangeMaps
set_option linter.unusedVariables false

def eP (g : Nat) : EvP := ⟨1, ⟨⟨[107], [], 0, 0, 0, 0⟩, ⟨some ⟨g, 0, none⟩, 1, 1⟩, ⟨none, 0, 0⟩⟩, false, nilP⟩
def eE : Ev := ⟨1, ⟨[107], [], 0, 0, 0, 0⟩, false, zeroKV⟩
theorem eP_x (g : Nat) : (eP g).x = eE := rfl
theorem eP_ok {W : World} {g : Nat} {I : Nat → Prop} (h : W.heap[g]? = some (.cells #[.int .u8 107] 5 (1, 2))) (hi : I g) : (eP g).Ok W I := by
  refine ⟨⟨.inl (.inr ⟨g, 0, 1, rfl, Nat.le_refl _, lt_of_heap h, fun i hi => ?_⟩), .inl (.inl ⟨rfl, rfl⟩), fun b hb => by cases hb; exact hi, fun b hb => (by cases hb)⟩, nilP_ok W I⟩
  obtain rfl : i = 0 := by simp [eP] at hi; omega
  rw [cell_of h]; rfl
def kW (start : Int) : Wt := ⟨[107], [], start, false, false, false⟩
theorem sieve_e (start r : Int) : (sieveE (kW start) [withMod r eE]).length = 1 := by
  rfl

def CS (w wr : World) (b m eb g : Nat) (rev : Int) (y : Option Wr) : Prop :=
  ∃ H o P, IsHub wr b m o P H ∧ H.rev = rev ∧ H.room = 1 ∧ H.most = 1 ∧ H.f 1 = y ∧ (∀ i, i ≠ 1 → H.f i = none) ∧ H.n = cond y.isSome 1 0 ∧ (∀ q, o q ≠ .no → w.heap.size ≤ q) ∧ o eb = .no ∧ o g = .no ∧ wr.heap[eb]? = some (.cells (evx (eP g)) 59 (0, 0)) ∧ wr.heap[g]? = some (.cells #[.int .u8 107] 5 (1, 2)) ∧ Upd (fun _ => False) w wr

section
variable {w wr w' : World} {b m eb g : Nat} {rev : Int} {y : Option Wr}
theorem CS.upd (h : CS w wr b m eb g rev y) : Upd (fun _ => False) w wr := by
  obtain ⟨_, _, _, _, _, _, _, _, _, _, _, _, _, _, _, h⟩ := h; exact h
theorem CS.ebox (h : CS w wr b m eb g rev y) : wr.heap[eb]? = some (.cells (evx (eP g)) 59 (0, 0)) := by
  obtain ⟨_, _, _, _, _, _, _, _, _, _, _, _, _, h, _, _⟩ := h; exact h
theorem CS.grow (h : CS w wr b m eb g rev y) (hu : Upd (fun _ => False) wr w') : CS w w' b m eb g rev y := by
  obtain ⟨H, o, P, h1, h2, h3, h4, h5, h6, h7, h8, h9, h10, h11, h12, h13⟩ := h
  exact ⟨H, o, P, h1.grow hu, h2, h3, h4, h5, h6, h7, h8, h9, h10, hu.heap h11 (fun x => x), hu.heap h12 (fun x => x), h13.trans hu⟩
theorem cs_step {o o' : Nat → Tg} {P' : Int → Option WrP} {H' : Hub} {y' : Option Wr} {rev' : Int} (h8 : ∀ q, o q ≠ .no → w.heap.size ≤ q) (h9 : o eb = .no) (h10 : o g = .no) (h11 : wr.heap[eb]? = some (.cells (evx (eP g)) 59 (0, 0))) (h12 : wr.heap[g]? = some (.cells #[.int .u8 107] 5 (1, 2))) (h13 : Upd (fun _ => False) w wr)
    (g1 : IsHub w' b m o' P' H') (g2 : ∀ k, k < wr.heap.size → o' k = o k) (g3 : Upd (fun k => o k ≠ .no) wr w') (k1 : H'.rev = rev') (k2 : H'.room = 1) (k3 : H'.most = 1) (k4 : H'.f 1 = y') (k5 : ∀ i, i ≠ 1 → H'.f i = none) (k6 : H'.n = cond y'.isSome 1 0) : CS w w' b m eb g rev' y' := by
  refine ⟨H', o', P', g1, k1, k2, k3, k4, k5, k6, fun q hq => ?_, by rw [g2 eb (lt_of_heap h11)]; exact h9, by rw [g2 g (lt_of_heap h12)]; exact h10, g3.heap h11 (fun s => s h9), g3.heap h12 (fun s => s h10), h13.trans' g3 (fun q hq e => by have := h8 q e; omega)⟩
  by_cases hlt : q < wr.heap.size
  · exact h8 q (by rw [← g2 q hlt]; exact hq)
  · have := h13.size; omega

/-- A write. -/
theorem cs_write {x : Wr} (h : CS w wr b m eb g rev (some x)) (r : Int) (hr : r = rev + 1) (h0 : 0 ≤ rev) (h1 : rev ≤ 1000000) (hb : x.buf.length ≤ 1) :
    Calls Try.prog 12 #[.slice (some ⟨wr.heap.size, 0, none⟩) 1 1, .int .i64 r] (wr.alloc (.cells (evx (eP g)) 59)) fun e w1 => ∃ a c, e = .returned (.slice a 1 c) ∧
      Calls Try.prog 11 #[.pointer (some ⟨b, 0, none⟩), .int .i64 r, .slice a 1 c] w1 fun e w' => e = .returned (.int .i64 0) ∧ CS w w' b m eb g r (some (stepW 1 r [withMod r eE] x)) := by
  obtain ⟨H, o, P, k1, k2, k3, k4, k5, k6, k7, k8, k9, k10, k11, k12, k13⟩ := h
  have hua := upd_alloc (fun _ => False) wr (.cells (evx (eP g)) 59)
  have ha := (heap_alloc wr (.cells (evx (eP g)) 59)).1
  have hev : Evs (wr.alloc (.cells (evx (eP g)) 59)) (fun q => q = g) (.slice (some ⟨wr.heap.size, 0, none⟩) 1 1) [eP g] :=
    ⟨sl_one (enc := evenc) (x := eP g) ha, fun p hp => by rw [List.mem_singleton.1 hp]; exact eP_ok (hua.heap k12 (fun x => x)) rfl⟩
  refine (at_calls (.slice (some ⟨wr.heap.size, 0, none⟩) 1 1) [eP g] r (fun q => q = g) _ hev.weak (fun p hp => by rw [List.mem_singleton.1 hp]; exact ⟨by show (1 : Nat) ≤ 1000000; decide, Nat.zero_le _, Nat.zero_le _, Nat.zero_le _⟩) (by show (1 : Nat) ≤ 800000000000; decide)).mono fun e w1 ⟨a, c, rs, J, he, hx, hrow, hu⟩ => ?_
  have hx' : rs.map EvP.x = [withMod r eE] := hx
  have hl : rs.length = 1 := by have := congrArg List.length hx'; simpa using this
  have hno : ∀ q, wr.heap.size ≤ q → o q = .no := fun q hq => by
    cases e : o q with
    | no => rfl
    | _ => exact absurd (k1.lt q (by rw [e]; simp)) (by omega)
  have s1 := hua.size
  refine ⟨a, c, by rw [he, hl], ?_⟩
  have hn := notify_ok b m o P H r a c rs J w1 ((k1.grow hua).grow hu) ⟨by omega, by omega, by omega, by omega, by omega, by omega⟩ hrow.evs (fun q hq => ⟨hno q (by have := (hrow.ge q hq).1; omega), (hrow.ge q hq).2⟩) (fun q hq => hno q (by have := (hrow.blk q hq).1; omega)) (fun p hp => by
    have h9 : p.x ∈ [withMod r eE] := by rw [← hx']; exact List.mem_map_of_mem hp
    rw [List.mem_singleton.1 h9]
    exact ⟨by show (1 : Nat) ≤ 140737488355328; decide, Nat.zero_le _, Nat.zero_le _, Nat.zero_le _⟩) (by omega) (by omega) (by omega) (by rw [hx']; simp [allMod, withMod]) (fun i z hz => by
    by_cases hi : i = 1
    · subst hi; rw [k5] at hz; cases hz; omega
    · rw [k6 i hi] at hz; cases hz)
  rw [hl] at hn
  refine hn.mono fun e w' ⟨he, o', P', g1, g2, g3⟩ => ⟨he, ?_⟩
  have hw1 := hua.trans hu
  refine cs_step k8 k9 k10 (hw1.heap k11 (fun x => x)) (hw1.heap k12 (fun x => x)) (k13.trans hw1) g1 g2 g3 rfl k3 k4 ?_ (fun i hi => ?_) ?_
  · show (H.f 1).map _ = _
    rw [k5, k3, hx']; rfl
  · show (H.f i).map _ = none
    rw [k6 i hi]; rfl
  · exact k7

def compR (rev f : Int) (x : Wr) : Wr := if (!x.ended && decide (x.next ≤ rev)) && decide (x.next ≤ f) then { x with ended := true, floor := f + 1 } else x
theorem cs_compact (h : CS w wr b m eb g rev y) (f : Int) (h0 : 0 ≤ f) (h1 : f ≤ 1000000) :
    Calls Try.prog 23 #[.pointer (some ⟨b, 0, none⟩), .int .i64 f] wr fun e w' => e = .returned (.tuple #[]) ∧ CS w w' b m eb g rev (y.map (compR rev f)) := by
  obtain ⟨H, o, P, k1, k2, k3, k4, k5, k6, k7, k8, k9, k10, k11, k12, k13⟩ := h
  refine (compact_calls b m o P H f wr k1 (by omega) (by omega)).mono fun e w' ⟨he, ⟨o', P', g1, g2⟩, g3⟩ => ⟨he, cs_step k8 k9 k10 k11 k12 k13 g1 g2 g3 k2 k3 k4 ?_ (fun i hi => ?_) ?_⟩
  · show (H.f 1).map _ = _
    rw [k5]
    congr 1
    funext x
    unfold compW compR behindB
    rw [k2]
  · show (H.f i).map _ = none
    rw [k6 i hi]; rfl
  · show H.n = _
    rw [k7]; cases y <;> rfl
theorem cs_synced {x : Wr} (h : CS w wr b m eb g rev (some x)) :
    Calls Try.prog 15 #[.pointer (some ⟨b, 0, none⟩), .int .i64 1] wr fun e w' => e = .returned (.bool (decide (rev < x.next))) ∧ CS w w' b m eb g rev (some x) := by
  have h0 := h
  obtain ⟨H, o, P, k1, k2, k3, k4, k5, k6, k7, k8, k9, k10, k11, k12, k13⟩ := h
  refine (synced_calls b m o P H 1 wr k1).mono fun e w' ⟨he, hu⟩ => ⟨?_, h0.grow hu⟩
  rw [he]; unfold syncedB; rw [k5, k2]
theorem cs_pending {x : Wr} (h : CS w wr b m eb g rev (some x)) :
    Calls Try.prog 16 #[.pointer (some ⟨b, 0, none⟩), .int .i64 1] wr fun e w' => e = .returned (.int .i64 (x.buf.length : Nat)) ∧ wr = w' := by
  obtain ⟨H, o, P, k1, k2, k3, k4, k5, k6, k7, k8, k9, k10, k11, k12, k13⟩ := h
  refine (pending_calls b m o P H 1 wr k1).mono fun e w' ⟨he, hu⟩ => ⟨?_, hu⟩
  rw [he]; unfold pendN; rw [k5]
theorem cs_drain {x : Wr} (h : CS w wr b m eb g rev (some x)) (hb : x.buf.length = 1) :
    Calls Try.prog 13 #[.pointer (some ⟨b, 0, none⟩), .int .i64 1] wr fun e w' => ∃ a c, e = .returned (.tuple #[.agg #[.int .i64 1, .slice a 1 c, .bool false, .int .i64 0, .bool false, .int .i64 0], .bool true]) ∧ CS w w' b m eb g rev (some { x with buf := [] }) := by
  obtain ⟨H, o, P, k1, k2, k3, k4, k5, k6, k7, k8, k9, k10, k11, k12, k13⟩ := h
  have hne : x.buf ≠ [] := fun e => by rw [e] at hb; cases hb
  have hc : cutN x.buf H.most = 1 := by have h1 := cutN_pos hne H.most; have h2 := cutN_le x.buf H.most; omega
  refine (drain_some b m o P H 1 x wr k1 k5 hne (by omega)).mono fun e w' hd => ?_
  obtain ⟨a, c, rs, J, o', P', he, hx, g1, g2, -, -, g3⟩ := hd
  have hl : rs.length = 1 := by
    have := congrArg List.length hx
    rw [List.length_map, List.length_take, hc] at this; omega
  rw [hl] at he
  refine ⟨a, c, he, cs_step k8 k9 k10 k11 k12 k13 g1 g2 g3 k2 k3 k4 ?_ (fun i hi => ?_) k7⟩
  · show (if (1 : Int) = 1 then some ({ x with buf := x.buf.drop (cutN x.buf H.most) } : Wr) else H.f 1) = _
    rw [if_pos rfl, hc, List.drop_of_length_le (by omega)]
  · show (if i = 1 then _ else _) = _
    rw [if_neg hi]; exact k6 i hi
theorem cs_end {x : Wr} (h : CS w wr b m eb g rev (some x)) (hb : x.buf = []) (hen : x.ended = true) :
    Calls Try.prog 13 #[.pointer (some ⟨b, 0, none⟩), .int .i64 1] wr fun e w' => e = .returned (.tuple #[.agg #[.int .i64 1, .slice none 0 0, .bool true, .int .i64 x.floor, .bool false, .int .i64 0], .bool true]) ∧ CS w w' b m eb g rev none := by
  obtain ⟨H, o, P, k1, k2, k3, k4, k5, k6, k7, k8, k9, k10, k11, k12, k13⟩ := h
  refine (drain_end b m o P H 1 x wr k1 k5 hb hen).mono fun e w' ⟨he, ⟨P', g1⟩, g3⟩ => ⟨he, cs_step k8 k9 k10 k11 k12 k13 g1 (fun _ _ => rfl) g3 k2 k3 k4 (show (if (1 : Int) = 1 then none else H.f 1) = none from if_pos rfl) (fun i hi => ?_) (by show H.n - 1 = _; rw [k7]; rfl)⟩
  show (if i = 1 then _ else _) = _
  rw [if_neg hi]; exact k6 i hi
theorem cs_none (h : CS w wr b m eb g rev y) (hy : ∀ x, y = some x → x.buf = [] ∧ x.ended = false) :
    Calls Try.prog 13 #[.pointer (some ⟨b, 0, none⟩), .int .i64 1] wr fun e w' => e = .returned (.tuple #[.agg zbatch, .bool false]) ∧ CS w w' b m eb g rev y ∧ Upd (fun _ => False) wr w' := by
  have h0 := h
  obtain ⟨H, o, P, k1, k2, k3, k4, k5, k6, k7, k8, k9, k10, k11, k12, k13⟩ := h
  exact (drain_none b m o P H 1 wr k1 (fun x hx => hy x (by rw [← k5]; exact hx))).mono fun e w' ⟨he, hu⟩ => ⟨he, h0.grow hu, hu⟩
theorem cs_watchers (h : CS w wr b m eb g rev y) :
    Calls Try.prog 24 #[.pointer (some ⟨b, 0, none⟩)] wr fun e w' => ∃ a c, e = .returned (.slice a (cond y.isSome 1 0) c) ∧ Upd (fun _ => False) w w' := by
  obtain ⟨H, o, P, k1, k2, k3, k4, k5, k6, k7, k8, k9, k10, k11, k12, k13⟩ := h
  refine (watchers_calls b m o P H wr k1 (by rw [k7]; cases y.isSome <;> decide) (fun i hi => ?_)).mono fun e w' ⟨a, c, l, he, _, _, _, _, _, hu⟩ => ⟨a, c, by rw [he, k7], k13.trans hu⟩
  by_cases h1 : i = 1
  · omega
  · rw [k6 i h1] at hi; cases hi

theorem cs_watch0 (h : CS w wr b m eb g rev none) : Calls Try.prog 24 #[.pointer (some ⟨b, 0, none⟩)] wr fun e w' => ∃ a c, e = .returned (.slice a 0 c) ∧ Upd (fun _ => False) w w' := cs_watchers h
theorem cs_watch1 {x : Wr} (h : CS w wr b m eb g rev (some x)) : Calls Try.prog 24 #[.pointer (some ⟨b, 0, none⟩)] wr fun e w' => ∃ a c, e = .returned (.slice a 1 c) ∧ Upd (fun _ => False) w w' := cs_watchers h

/-- The watcher behind so many writes. -/
structure CI (start floor : Int) (i : Nat) (x : Wr) : Prop where
  w : x.w = kW start
  e : start ≤ floor → x.ended = true ∧ x.buf = [] ∧ x.next = start ∧ x.floor = floor + 1
  n : ¬ start ≤ floor → x.ended = false ∧ ((x.next = start ∧ x.buf = [] ∧ (start ≤ 500 ∨ 500 + (i : Int) < start)) ∨ (x.next = start + 1 ∧ x.buf.length = 1 ∧ 501 ≤ start ∧ start ≤ 500 + (i : Int)))
theorem CI.len {start floor : Int} {i : Nat} {x : Wr} (h : CI start floor i x) : x.buf.length ≤ 1 := by
  by_cases hc : start ≤ floor
  · rw [(h.e hc).2.1]; decide
  · rcases (h.n hc).2 with q | q
    · rw [q.2.1]; decide
    · omega
theorem CI.step {start floor : Int} {i : Nat} {x : Wr} (h : CI start floor i x) : CI start floor (i + 1) (stepW 1 (501 + (i : Int)) [withMod (501 + (i : Int)) eE] x) := by
  by_cases hc : start ≤ floor
  · obtain ⟨e1, e2, e3, e4⟩ := h.e hc
    have hs : stepW 1 (501 + (i : Int)) [withMod (501 + (i : Int)) eE] x = x := by unfold stepW; rw [if_pos (by rw [e1]; rfl)]
    rw [hs]
    exact ⟨h.w, h.e, fun q => absurd hc q⟩
  · obtain ⟨e1, e2⟩ := h.n hc
    have hsl : (sieveE x.w [withMod (501 + (i : Int)) eE]).length = 1 := by rw [h.w]; exact sieve_e _ _
    by_cases hn : x.next = 501 + (i : Int)
    · rcases e2 with ⟨q1, q2, q3⟩ | ⟨q1, q2, q3, q4⟩
      · have hs : stepW 1 (501 + (i : Int)) [withMod (501 + (i : Int)) eE] x = { x with buf := x.buf ++ sieveE x.w [withMod (501 + (i : Int)) eE], next := 501 + (i : Int) + 1 } := by
          unfold stepW
          rw [if_neg (by rw [e1, hn]; simp), if_pos (by unfold fits; rw [q2]; simp)]
        rw [hs]
        refine ⟨h.w, fun q => absurd q hc, fun _ => ⟨e1, .inr ⟨by show 501 + (i : Int) + 1 = _; omega, ?_, by omega, by omega⟩⟩⟩
        show (x.buf ++ _).length = 1
        rw [List.length_append, hsl, q2]; rfl
      · have hs : stepW 1 (501 + (i : Int)) [withMod (501 + (i : Int)) eE] x = x := by
          unfold stepW
          rw [if_neg (by rw [e1, hn]; simp), if_neg (by unfold fits; rw [hsl, q2]; decide)]
        rw [hs]
        exact ⟨h.w, fun q => absurd q hc, fun _ => ⟨e1, .inr ⟨q1, q2, q3, by omega⟩⟩⟩
    · have hs : stepW 1 (501 + (i : Int)) [withMod (501 + (i : Int)) eE] x = x := by
        unfold stepW; rw [if_pos (by simp [hn])]
      rw [hs]
      refine ⟨h.w, fun q => absurd q hc, fun _ => ⟨e1, ?_⟩⟩
      rcases e2 with ⟨q1, q2, q3⟩ | ⟨q1, q2, q3, q4⟩
      · exact .inl ⟨q1, q2, by omega⟩
      · exact .inr ⟨q1, q2, q3, by omega⟩
theorem cmore_at (x : Wt) : ((newHub 500 1 1).more x).f 1 = some ⟨x, nextOf (newHub 500 1 1) x, [], false, 0⟩ := by rfl
theorem cmoreE_at (x : Wt) (floor : Int) : ((newHub 500 1 1).moreE x floor).f 1 = some ⟨x, nextOf (newHub 500 1 1) x, [], true, floor + 1⟩ := by rfl
/-- The watcher is made. -/
theorem cs_create {o : Nat → Tg} {P : Int → Option WrP} (h : IsHub wr b m o P (newHub 500 1 1)) (h8 : ∀ q, o q ≠ .no → w.heap.size ≤ q) (h9 : o eb = .no) (h10 : o g = .no) (h11 : wr.heap[eb]? = some (.cells (evx (eP g)) 59 (0, 0))) (h12 : wr.heap[g]? = some (.cells #[.int .u8 107] 5 (1, 2))) (h13 : Upd (fun _ => False) w wr)
    (kv : Value) (hk : Bytes wr kv [107]) (start floor : Int) (s0 : 1 ≤ start) (s1 : start ≤ 1000) (f0 : 0 ≤ floor) (f1 : floor ≤ 1000) :
    Calls Try.prog 9 #[.pointer (some ⟨b, 0, none⟩), .agg (wcells kv (.slice none 0 0) (kW start)), .int .i64 floor] wr fun e w' => e = .returned (.tuple #[.int .i64 1, .int .i64 0]) ∧ ∃ y, CS w w' b m eb g 500 (some y) ∧ CI start floor 0 y := by
  have hnx : nextOf (newHub 500 1 1) (kW start) = start := by
    unfold nextOf; exact if_neg (by show start ≠ 0; omega)
  by_cases hc : start ≤ floor
  · refine (create_end b m o P (newHub 500 1 1) kv (.slice none 0 0) (kW start) floor wr h (by decide) (by decide) (by decide) (by decide) (by show 0 ≤ start; omega) (by show start ≤ _; omega) (by decide) (by rw [hnx]; exact hc) (by omega) f0 rfl hk (.inl (.inl ⟨rfl, rfl⟩)) (by show (1 : Nat) ≤ _; decide) (Nat.zero_le _)).mono fun e w' ⟨he, ⟨o', P', g1, g2⟩, g3⟩ => ⟨he, _, cs_step h8 h9 h10 h11 h12 h13 g1 g2 g3 rfl rfl rfl (cmoreE_at _ _) (fun i hi => if_neg (show i ≠ 0 + 1 by omega)) rfl, ⟨rfl, fun _ => ⟨rfl, rfl, hnx, rfl⟩, fun q => absurd hc q⟩⟩
  · refine (create_ok b m o P (newHub 500 1 1) kv (.slice none 0 0) (kW start) floor wr h (by decide) (by decide) (by decide) (by decide) (by show 0 ≤ start; omega) (by show start ≤ _; omega) (by decide) (by rw [hnx]; exact hc) rfl hk (.inl (.inl ⟨rfl, rfl⟩)) (by show (1 : Nat) ≤ _; decide) (Nat.zero_le _)).mono fun e w' ⟨he, ⟨o', P', g1, g2⟩, g3⟩ => ⟨he, _, cs_step h8 h9 h10 h11 h12 h13 g1 g2 g3 rfl rfl rfl (cmore_at _) (fun i hi => if_neg (show i ≠ 0 + 1 by omega)) rfl, ⟨rfl, fun q => absurd q hc, fun _ => ⟨rfl, .inl ⟨hnx, rfl, by omega⟩⟩⟩⟩
/-- What there is behind the compaction. -/
theorem CI.scene {start floor : Int} {n : Nat} {y : Wr} (h : CI start floor n y) (F : Int) (hn : (n : Int) < 20) (x : Wr) (hx : x = compR (500 + (n : Int)) F y) : x.buf.length ≤ 1 ∧
    ((start ≤ floor ∧ x.ended = true ∧ x.floor = floor + 1) ∨
     (¬ start ≤ floor ∧ decide (500 + (n : Int) < x.next) = true ∧ x.ended = false) ∨
     (¬ start ≤ floor ∧ decide (500 + (n : Int) < x.next) = false ∧ x.ended = true ∧ x.floor = F + 1 ∧ ¬ 500 < start ∧ start ≤ F ∧ start ≤ 500 + (n : Int)) ∨
     (¬ start ≤ floor ∧ decide (500 + (n : Int) < x.next) = false ∧ x.ended = true ∧ x.floor = F + 1 ∧ 500 < start ∧ start + (x.buf.length : Int) ≤ F ∧ start + (x.buf.length : Int) ≤ 500 + (n : Int)) ∨
     (¬ start ≤ floor ∧ decide (500 + (n : Int) < x.next) = false ∧ x.ended = false ∧ ¬ 500 < start ∧ ¬ start ≤ F) ∨
     (¬ start ≤ floor ∧ decide (500 + (n : Int) < x.next) = false ∧ x.ended = false ∧ 500 < start ∧ ¬ start + (x.buf.length : Int) ≤ F)) := by
  have hl := h.len
  by_cases hc : start ≤ floor
  · obtain ⟨e1, e2, e3, e4⟩ := h.e hc
    have e : x = y := by rw [hx]; unfold compR; rw [e1]; rfl
    rw [e]
    exact ⟨hl, .inl ⟨hc, e1, e4⟩⟩
  · obtain ⟨e1, e2⟩ := h.n hc
    by_cases hb : y.next ≤ 500 + (n : Int)
    · have hd : decide (500 + (n : Int) < y.next) = false := decide_eq_false (by omega)
      by_cases hf : y.next ≤ F
      · have e : x = { y with ended := true, floor := F + 1 } := by rw [hx]; unfold compR; rw [e1]; simp [hb, hf]
        rw [e]
        refine ⟨hl, ?_⟩
        rcases e2 with ⟨q1, q2, q3⟩ | ⟨q1, q2, q3, q4⟩
        · by_cases h5 : 500 < start
          · exact .inr (.inr (.inr (.inl ⟨hc, hd, rfl, rfl, h5, by show start + (y.buf.length : Int) ≤ F; rw [q2]; simp; omega, by show start + (y.buf.length : Int) ≤ _; rw [q2]; simp; omega⟩)))
          · exact .inr (.inr (.inl ⟨hc, hd, rfl, rfl, h5, by omega, by omega⟩))
        · exact .inr (.inr (.inr (.inl ⟨hc, hd, rfl, rfl, by omega, by show start + (y.buf.length : Int) ≤ F; omega, by show start + (y.buf.length : Int) ≤ _; omega⟩)))
      · have e : x = y := by rw [hx]; unfold compR; rw [e1]; simp [hf]
        rw [e]
        refine ⟨hl, ?_⟩
        rcases e2 with ⟨q1, q2, q3⟩ | ⟨q1, q2, q3, q4⟩
        · by_cases h5 : 500 < start
          · exact .inr (.inr (.inr (.inr (.inr ⟨hc, hd, e1, h5, by rw [q2]; simp; omega⟩))))
          · exact .inr (.inr (.inr (.inr (.inl ⟨hc, hd, e1, h5, by omega⟩))))
        · exact .inr (.inr (.inr (.inr (.inr ⟨hc, hd, e1, by omega, by omega⟩))))
    · have e : x = y := by rw [hx]; unfold compR; rw [e1]; simp [hb]
      rw [e]
      exact ⟨hl, .inr (.inl ⟨hc, decide_eq_true (by omega), e1⟩)⟩
end

end Go.Proofs.Ytidpiojanajpoaa
