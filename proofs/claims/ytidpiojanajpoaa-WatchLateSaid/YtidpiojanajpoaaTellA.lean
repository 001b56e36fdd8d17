/-
  A law's feed.
-/
import Derived.Test.YtidpiojanajpoaaTellS
namespace Go.Proofs.Ytidpiojanajpoaa
open Go.RowKit Go.Tb Go.MapKept Go.ChangeMaps
set_option linter.unusedVariables false

section
variable {w wr w' : World} {b m : Nat} {H H' : Hub} {lo : Nat → LTg} {va : Value} {as_ : List EvP} {wk : Nat} {wv : Array Value} {T : Nat → TP} {N : Nat}

set_option maxRecDepth 100000 in
set_option maxHeartbeats 1000000 in
theorem lfeed_calls (h : Law w wr b m H lo va as_ wk wv T N) (id : Int) (x : Wr) (hx : H.f id = some x) (hok : HOk H) (l1 : x.w.key.length ≤ 140737488355328) (l2 : x.w.end_.length ≤ 140737488355328) (hs : ∀ p ∈ as_, p.x.Small) (ha : AllOk H.rev (as_.map EvP.x)) (hlen : as_.length ≤ 800000000000) (hfew : x.buf.length + (sieveE x.w (sinceE x.next (as_.map EvP.x))).length ≤ 800000000000) :
    Calls Try.prog 17 #[.pointer (some ⟨b, 0, none⟩), .int .i64 id, va] wr fun e w' => e = .returned (.bool true) ∧ Law w w' b m (H.upd id (fedW H (as_.map EvP.x) x)) lo va as_ wk wv T N ∧ Upd (fun k => lo k ≠ .by_) wr w' := by
  obtain ⟨o, P, g1, g2, g3⟩ := h.hub
  have HL := Lib.hid h
  unfold fedW
  cases hb : behindB H x with
  | false =>
    have hn := needs_not b m o P H id wr g1 x hx hb
    have HX := Lib.hid hx
    rw [if_neg (by simp)]
    clear h hx hok hs ha g1 g2 g3 hb
    go_enter Try.func17, Try.ntmps17
    go_wp2_with (first
      | (go_at_call 25; (with_reducible refine hn.mono ?_); rintro e w1 ⟨rfl, hu⟩; have hz := (heap_alloc w1 (.cells zwatch 24)).1; have huz := upd_alloc (fun _ => False) w1 (.cells zwatch 24))
      | ((with_reducible refine wpl_store (ty := 24) (cs := zwatch) hz ?_ ?_ ?_ ?_ ?_ ?_); rfl; rfl; rfl; kernel_rfl; rfl; intro w4 hq5 hu5 hs5 hd5))
    go_ret
    refine ⟨rfl, ?_⟩
    rw [upd_same HX.out]
    have hux : Upd (fun _ => False) wr w4 := (hu.trans huz).trans' hu5 (fun x hx e => by have := hu.size; omega)
    exact ⟨HL.out.grow hux, hux.weak _⟩
  | true =>
    have hn := needs_behind b m o P H id wr g1 x hx hb l1 l2
    rw [if_pos rfl]
    obtain ⟨nx, hnx⟩ : ∃ nx, nx = x.next := ⟨_, rfl⟩
    rw [← hnx] at hn
    have hev := h.all.evs
    have hI : ∀ k, lo k = .by_ → k < wr.heap.size := fun k hk => (h.lt k (by rw [hk]; simp)).2
    have HSI := Lib.hid (fun (W : World) (hu : Upd (fun _ => False) wr W) => since_calls va nx as_ (fun k => lo k = .by_) W (hev.grow hu) (fun k hk => Nat.lt_of_lt_of_le (hI k hk) hu.size) hlen)
    have HFE := Lib.hid (show ∀ (W : World) (hu : Upd (fun _ => False) wr W) (a : Option Addr) (c : Nat) (hv : Evs W (fun k => lo k = .by_) (.slice a (sinceP nx as_).length c) (sinceP nx as_)), Calls Try.prog 34 #[.pointer (some ⟨b, 0, none⟩), .int .i64 id, .slice a (sinceP nx as_).length c] W fun e w' => e = .returned (.int .i64 0) ∧ Law w w' b m (H.upd id (feedW H x ((sinceP nx as_).map EvP.x))) lo va as_ wk wv T N ∧ Upd (fun k => lo k ≠ .by_) wr w' from fun W hu a c hv =>
      (feed_ok b m o P H id x a c (sinceP nx as_) (fun k => lo k = .by_) W (g1.grow hu) hok hx hb hv (fun p hp => hs p (List.mem_filter.1 hp).1) (Nat.le_trans (sinceP_len _ _) hlen) (by rw [sinceP_x, hnx]; exact hfew) (by rw [sinceP_x]; exact (ha.up.since nx).rising) (fun p hp => by
        obtain ⟨q1, q2⟩ := List.mem_filter.1 hp
        rw [decide_eq_true_eq, hnx] at q2
        exact ⟨q2, ha.le p.x (List.mem_map_of_mem q1)⟩)).mono fun e w' ⟨q0, own', P', q1, q2, q3⟩ => ⟨q0, (h.grow hu).step g2 g3 q1 q2 q3, (hu.weak _).trans (Law.keeps g3 q3)⟩)
    have HSX := Lib.hid (show sinceE x.next (as_.map EvP.x) = (sinceP nx as_).map EvP.x from by rw [sinceP_x, hnx])
    clear h hx hok hs ha g1 g2 g3 hb hev hI hlen hfew hnx HL
    generalize (sinceP nx as_).length = n at *
    go_enter Try.func17, Try.ntmps17
    go_wp2_with (first
      | (go_at_call 25; (with_reducible refine hn.mono ?_); rintro e w1 ⟨a1, n1, z1, a2, n2, z2, rfl, hu⟩; have hz := (heap_alloc w1 (.cells zwatch 24)).1; have huz := upd_alloc (fun _ => False) w1 (.cells zwatch 24))
      | ((with_reducible refine wpl_store (ty := 24) (cs := #[.slice a1 n1 z1, .slice a2 n2 z2, .int .i64 x.w.start, .bool x.w.np, .bool x.w.nd, .bool x.w.pv]) hz ?_ ?_ ?_ ?_ ?_ ?_); rfl; rfl; rfl; kernel_rfl; rfl; intro w4 hq5 hu5 hs5 hd5; have hu6 : Upd (fun _ => False) wr w4 := (hu.trans huz).trans' hu5 (fun x hx e => by have := hu.size; omega); have hsi := HSI.out w4 hu6)
      | (go_at_call 21; (with_reducible refine hsi.mono ?_); rintro e w5 ⟨a3, c3, rfl, hr, hu7⟩; have hfe := HFE.out w5 (hu6.trans hu7) a3 c3 hr.evs)
      | (go_at_call 34; (with_reducible refine hfe.mono ?_); rintro e w6 ⟨rfl, hL⟩))
    go_ret
    exact ⟨rfl, by rw [HSX.out]; exact hL.1, hL.2⟩
end

end Go.Proofs.Ytidpiojanajpoaa
