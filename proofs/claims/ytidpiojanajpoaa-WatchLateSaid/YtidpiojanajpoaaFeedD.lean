/-
  A hub: Feed.
-/
import Derived.Deep.Cut
import Derived.Deep.RegionHeld3
import Derived.IntWalk
import Derived.Test.YtidpiojanajpoaaFeedC
import Derived.Test.YtidpiojanajpoaaFeedR
import Derived.Test.YtidpiojanajpoaaHubD
namespace Go.Proofs.Ytidpiojanajpoaa
open Go.RowKit Go.Tb Go.MapKept Go.ChangeMaps
set_option linter.unusedVariables false

def lenOf : Value → Nat
  | .slice _ n _ => n
  | _ => 0
theorem upd_same {H : Hub} {i : Int} {x : Wr} (hx : H.f i = some x) : H.upd i x = H := by
  unfold Hub.upd
  have e : (fun j => if j = i then some x else H.f j) = H.f := by
    funext j
    by_cases h : j = i
    · rw [if_pos h, h, hx]
    · rw [if_neg h]
  rw [e]

set_option maxRecDepth 100000 in
set_option maxHeartbeats 4000000 in
theorem feed_empty (b m : Nat) (own : Nat → Tg) (P : Int → Option WrP) (H : Hub) (i : Int) (x : Wr) (a : Option Addr) (c : Nat) (I : Nat → Prop) (w : World) (h : IsHub w b m own P H) (hok : HOk H) (hx : H.f i = some x) (hbh : behindB H x = true) (hfew : x.buf.length ≤ 800000000000) (hv : Evs w I (.slice a 0 c) []) :
    Calls Try.prog 34 #[.pointer (some ⟨b, 0, none⟩), .int .i64 i, .slice a 0 c] w fun e w' => e = .returned (.int .i64 0) ∧ ∃ own' P', IsHub w' b m own' P' (H.upd i (feedW H x [])) ∧ (∀ k, k < w.heap.size → own' k = own k) ∧ Upd (fun k => own k ≠ .no) w w' := by
  obtain ⟨ps, hps⟩ : ∃ ps : List EvP, ps = [] := ⟨_, rfl⟩
  have hs : ∀ p ∈ ps, p.x.Small := by rw [hps]; intro p hp; cases hp
  have hn : ps.length ≤ 800000000000 := by rw [hps]; simp
  have hri : Rising (ps.map EvP.x) := by rw [hps]; intro i h; simp at h
  have hlo : ∀ p ∈ ps, x.next ≤ p.kv.x.mod ∧ p.kv.x.mod ≤ H.rev := by rw [hps]; intro p hp; cases hp
  subst hps
  obtain ⟨p, hp⟩ : ∃ p, P i = some p := by
    cases hp : P i with
    | none => rw [h.nn i hp] at hx; cases hx
    | some p => exact ⟨p, rfl⟩
  obtain ⟨x0, hx0, hw⟩ := h.wt i p hp
  obtain rfl : x0 = x := Option.some.inj (hx0.symm.trans hx)
  have hf := find_calls b m own P H i w h
  rw [hp] at hf
  simp only [wptr, Option.map_some] at hf
  have hbc := behind_calls b m own P H i p x0 w h hw
  rw [hbh] at hbc
  have HH := Lib.hid h
  have HOK := Lib.hid hok
  have HX := Lib.hid hx
  have HV := Lib.hid hv
  have HS := Lib.hid hs
  have HW := Lib.hid hw
  have HP := Lib.hid hp
  have HLO := Lib.hid hlo
  have HRI := Lib.hid hri
  clear h hok hx hx0 hv hs hw hp hlo hri hbh
  go_enter Try.func34, Try.ntmps34
  go_upto_region 6 with (first
    | (go_at_call 32; (with_reducible refine hf.mono ?_); rintro e w' ⟨rfl, rfl⟩)
    | (go_at_call 38; (with_reducible refine hbc.mono ?_); rintro e w1 ⟨rfl, hu1⟩))
  have hw1 : WrOk w1 own i p x0 := HW.out.upd hu1 (fun k s => s.elim) (fun _ _ => rfl)
  have c6 : w1.cell? ⟨p.blk, 6, none⟩ = some (.int .i64 x0.next) := cell_of hw1.blk 6
  have c0 : w1.cell? ⟨b, 0, none⟩ = some (.int .i64 H.rev) := hu1.cell (cell_of HH.out.hub 0) (fun x => x)
  have hrt := right_true (.slice a _ c) _ I w1.drew (HV.out.grow hu1.drew) HRI.out hn
  have HU1 := Lib.hid hu1
  clear hu1 hw1
  refine wp_region_inv3 (by kernel_rfl) feedDs (FeedJ a c w1.drew) (FeedF a c) (by kernel_rfl) (by kernel_rfl) ⟨by simp, rfl⟩ ?_ ?_ ?_
  · exact ⟨nofun, nofun, nofun, nofun, nofun, nofun, nofun, nofun, nofun, nofun, nofun, nofun, fun _ => rfl, Upd.refl _ _⟩
  · exact fun a0 Q hF => feed_steps _ (by kernel_rfl) a0 Q _ a c hF hrt
  intro D f w2 hJ hall
  have hxa : Upd (fun _ => False) w1 w2 := by
    obtain ⟨_, _, _, _, _, _, _, _, _, _, _, _, _, ju⟩ := hJ
    exact (Upd.refl _ _).drew.trans ju
  have k22 : f 22 = .bool false := by
    obtain ⟨_, _, _, _, _, _, _, _, _, _, _, k, _, _⟩ := hJ
    exact k (hall 35 (by decide))
  have hu2 := hxa
  clear hJ hall
  simp only [feedDs, fill]
  rw [k22]
  clear k22
  simp only [Exit.then, Act.put, List.setIfInBounds_toArray, List.set_cons_succ, List.set_cons_zero]
  generalize f 23 = y23
  generalize f 24 = y24
  generalize f 25 = y25
  generalize f 26 = y26
  generalize f 27 = y27
  generalize f 28 = y28
  generalize f 29 = y29
  generalize f 30 = y30
  generalize f 31 = y31
  generalize f 32 = y32
  generalize f 33 = y33
  generalize f 34 = y34
  generalize f 35 = y35
  generalize f 36 = y36
  generalize f 37 = y37
  generalize f 38 = y38
  generalize f 39 = y39
  generalize f 40 = y40
  generalize f 41 = y41
  generalize f 42 = y42
  generalize f 43 = y43
  generalize f 44 = y44
  generalize f 45 = y45
  generalize f 46 = y46
  generalize f 47 = y47
  generalize f 48 = y48
  generalize f 49 = y49
  generalize f 50 = y50
  generalize f 51 = y51
  generalize f 52 = y52
  generalize f 53 = y53
  generalize f 54 = y54
  generalize f 55 = y55
  generalize f 56 = y56
  generalize f 57 = y57
  have hw2 := HU1.out.trans hxa
  have hwV : WrOk w2 own i p x0 := HW.out.upd hw2 (fun k s => s.elim) (fun _ _ => rfl)
  have hrg : w2.rangeAt p.blk 0 (wcells p.k.v p.e.v x0.w).toList := rangeAt_pre _ hwV.blk (fun j v hj => by
    match j, hj with
    | 0, hj => exact hj
    | 1, hj => exact hj
    | 2, hj => exact hj
    | 3, hj => exact hj
    | 4, hj => exact hj
    | 5, hj => exact hj
    | n + 6, hj => cases hj)
  have hsv := sieve_calls p.k.v p.e.v x0.w _ c [] I w2 (.inl hwV.key) (.inl hwV.end_) (HV.out.grow hw2) HS.out hn
  have hone : (wcells p.k.v p.e.v x0.w).size = 6 := rfl
  have HW2 := Lib.hid hw2
  rw [List.length_nil] at hsv
  clear hwV hw2 hxa hu2 hrt
  go_wp2_with (first
    | ((with_reducible refine wpl_load_at (ty := 24) hrg Try.underlying24 ?_ ?_ ?_ ?_); rfl; rfl; kernel_rfl)
    | (go_at_call 20; (with_reducible refine hsv.mono ?_); rintro e w3 ⟨sa, sc, rs, J, rfl, hx1, hr1, hu3⟩))
  replace hx1 : rs.map EvP.x = sieveE x0.w [] := hx1
  have hlr : rs.length ≤ 0 := by
    have h1 := congrArg List.length hx1
    rw [List.length_map] at h1
    rw [h1]
    exact Nat.le_trans (sieveE_length _ _) (Nat.le_refl _)
  have hF : FAt b m p.blk own H i x0 800000000000 w w3 (.slice sa rs.length sc) x0.buf own P p rs J w2.heap.size rs.length := {
    hub := by rw [show H.upd i { x0 with buf := x0.buf } = H from upd_same HX.out]; exact HH.out.grow (HW2.out.trans hu3)
    hp := HP.out, hb := rfl, row := hr1
    free := fun k hk => by
      have hk1 : w2.heap.size ≤ k := hk.elim (fun q => (hr1.ge k q).1) (fun q => (hr1.blk k q).1)
      cases e : own k with
      | no => rfl
      | _ => have h1 := HH.out.lt k (by rw [e]; simp); have := HW2.out.size; omega
    small := fun q hq => by
      have h1 : q.x ∈ sieveE x0.w [] := by rw [← hx1]; exact List.mem_map_of_mem hq
      unfold sieveE at h1
      obtain ⟨z, hz, e⟩ := List.mem_map.1 h1
      cases (List.mem_filter.1 hz).1
    fuel := Nat.le_refl _, few := by omega, agree := fun _ _ => rfl, u := (HW2.out.trans hu3).weak _ }
  have HF := Lib.hid hF
  have HG := Lib.hid (show feedRes H.room x0.buf (sieveE x0.w []) = feedGo H.room rs.length x0.buf (rs.map EvP.x) from by
    unfold feedRes; rw [← hx1, List.length_map])
  clear hF hx1 hr1 hu3 hlr hsv hrg hone
  go_loopw [8] (fun v wr => ∃ (a : Option Addr) (c : Nat) (buf : List Ev) (own' : Nat → Tg) (P' : Int → Option WrP) (p' : WrP) (rs : List EvP) (J : Nat → Prop) (B f : Nat), v = .slice a rs.length c ∧ FAt b m p.blk own H i x0 800000000000 w wr (.slice a rs.length c) buf own' P' p' rs J B f ∧ feedRes H.room x0.buf (sieveE x0.w []) = feedGo H.room f buf (rs.map EvP.x)) (fun v _ => lenOf v)
  case atStart => exact ⟨_, _, _, _, _, _, _, _, _, _, rfl, HF.out, HG.out⟩
  case round =>
    clear HF HG
    obtain ⟨va, vc, buf, own', P', p', rs, J, B, f, rfl, hF, hG⟩ := hrel
    have hwr := hF.wr
    have hpb := hF.hb
    have HF := Lib.hid hF
    have HG := Lib.hid hG
    by_cases hne : rs = []
    · subst hne
      have h6 : wr.cell? ⟨p.blk, 6, none⟩ = some (.int .i64 x0.next) := by rw [← hpb]; exact cell_of hwr.blk 6
      have f6 : wr.frozen? ⟨p.blk, 6, none⟩ = false := by rw [← hpb]; exact free_of hwr.blk 6
      have h0 : wr.cell? ⟨b, 0, none⟩ = some (.int .i64 H.rev) := cell_of hF.hub.hub 0
      have y0 := HOK.out.rev0
      have y1 := HOK.out.rev1
      have HFIN := Lib.hid (hF.setNext (H.rev + 1) wr (Upd.refl _ _))
      have HE := Lib.hid (show feedW H x0 [] = { x0 with buf := buf, next := H.rev + 1 } from by
        unfold feedW; rw [hG, List.map_nil, feedGo_nil]; rfl)
      clear hF hG hwr hpb
      go_wp2
      go_ret
      obtain ⟨own2, P2, g1, g2, g3⟩ := HFIN.out
      exact ⟨rfl, own2, P2, by rw [HE.out]; exact g1, g2, g3⟩
    · have hl0 : 0 < rs.length := by
        cases hrs : rs with
        | nil => exact absurd hrs hne
        | cons _ _ => simp
      have hlf : rs.length ≤ 800000000000 := by have := HF.out.few; omega
      have hcut := bcut_calls (.slice va rs.length vc) rs J 1 wr hF.row.evs hF.small hlf
      clear hF hG hwr hpb
      go_upto_region 11 with (go_at_call 33; (with_reducible refine hcut.mono ?_); intro e1 wc hcs; obtain ⟨a1, c1, rs1, J1, a2, c2, rs2, J2, wm, rfl, hx1, hx2, hs1, hs2, hr1, hlt1, hlt2, hr2, hu4⟩ := hcs)
      have hwc : WrOk wc own' i p' { x0 with buf := buf } := HF.out.wr.upd hu4 (fun k s => s.elim) (fun _ _ => rfl)
      have c7 : wc.cell? ⟨p.blk, 7, none⟩ = some (.slice p'.b.a p'.b.n p'.b.c) := by rw [← HF.out.hb]; exact cell_of hwc.blk 7
      have c1r : wc.cell? ⟨b, 1, none⟩ = some (.int .i64 H.room) := hu4.cell (cell_of HF.out.hub.hub 1) (fun x => x)
      have drc := (Upd.refl (fun _ => False) wc).drew
      have c7d := drc.cell c7 (fun x => x)
      have c1d := drc.cell c1r (fun x => x)
      have nb : p'.b.n = buf.length := hwc.nb
      have l1 : rs1.length = cutN (rs.map EvP.x) 1 := by
        have h1 := congrArg List.length hx1
        have h2 := cutN_le (rs.map EvP.x) 1
        rw [List.length_map, List.length_take] at h1
        omega
      have l2 : 1 ≤ rs1.length := by rw [l1]; exact cutN_pos (fun e => hne (List.map_eq_nil_iff.1 e)) 1
      have l3 := HOK.out.room0
      have l4 := HOK.out.room1
      have l5 : buf.length ≤ 800000000000 := by have := HF.out.few; omega
      have l6 : rs1.length ≤ 800000000000 := by rw [l1]; have := cutN_le (rs.map EvP.x) 1; rw [List.length_map] at this; omega
      obtain ⟨g, hg⟩ : ∃ g, f = g + 1 := ⟨f - 1, by have := HF.out.fuel; omega⟩
      have HX1 := Lib.hid hx1
      have HX2 := Lib.hid hx2
      have HS1 := Lib.hid hs1
      have HS2 := Lib.hid hs2
      have HR1 := Lib.hid hr1
      have HR2 := Lib.hid hr2
      have HL1 := Lib.hid hlt1
      have HL2 := Lib.hid hlt2
      have HU4 := Lib.hid hu4
      have HL := Lib.hid l1
      have HNB := Lib.hid nb
      have HGG := Lib.hid hg
      have HNE := Lib.hid hne
      have k3 : IntKind.i64.wrap (H.room - (p'.b.n : Int)) = H.room - (p'.b.n : Int) := IntWalk.i64_in _ (by omega)
      clear hx1 hx2 hs1 hs2 hr1 hr2 hlt1 hlt2 hu4 l1 nb hwc drc hcut hne hg
      by_cases q0 : p'.b.n = 0
      · have k0 : decide (0 < p'.b.n) = false := decide_eq_false (by omega)
        have HNO := Lib.hid (show ¬ (0 < buf.length ∧ H.room - (buf.length : Int) < (cutN (rs.map EvP.x) 1 : Nat)) from fun hh => by rw [← HNB.out] at hh; omega)
        clear q0 k3
        go_wp2
        go_quiet (fail)
        have hX := (Upd.refl (fun _ => False) wc).drewN nq
        have hst := HF.out.step (X := wc.drewN nq) (by omega) HNE.out HX1.out HX2.out HS1.out (Nat.le_trans HS2.out hX.size) (HR1.out.grow hX) HL1.out HL2.out (HR2.out.grow hX) (HU4.out.trans hX)
        have c7' := hX.cell c7 (fun x => x)
        generalize wc.drewN nq = X at *
        obtain ⟨a', N, c', w5, hap, f7, h7, own2, P2, p2, hF2, hlen⟩ := hst
        have HF2 := Lib.hid hF2
        have HLEN := Lib.hid hlen
        clear hF2 hlen hX c7 c1r c7d c1d
        go_wp2_with (first | (refine wpList_append hap (by rfl) (by rfl) (by rfl) (by rfl) ?_))
        go_roundw
        case rel =>
          refine ⟨a2, c2, _, own2, P2, p2, rs2, J2, _, f - 1, rfl, HF2.out, ?_⟩
          rw [HG.out, HGG.out, feedGo_on (fun e => HNE.out (List.map_eq_nil_iff.1 e)) HNO.out, HX2.out]
          rfl
        case measure => simp [lenOf]; exact HLEN.out
      · have k0 : decide (0 < p'.b.n) = true := decide_eq_true (by omega)
        by_cases q1 : H.room - (p'.b.n : Int) < (rs1.length : Int)
        · have k1 : decide (H.room - (p'.b.n : Int) < (rs1.length : Int)) = true := decide_eq_true q1
          have HYES := Lib.hid (show 0 < buf.length ∧ H.room - (buf.length : Int) < (cutN (rs.map EvP.x) 1 : Nat) from ⟨by rw [← HNB.out]; omega, by rw [← HNB.out, ← HL.out]; exact q1⟩)
          obtain ⟨b5, o5, rfl, -⟩ := HR1.out.evs.range 0 (by omega)
          have m5 := HR1.out.evs.mod 0 (by omega)
          simp only [Nat.zero_mul, Nat.add_zero] at m5
          have HZ := Lib.hid (show (rs.map EvP.x)[0]? = some rs1[0].x from by
            have h1 : (rs1.map EvP.x)[0]? = ((rs.map EvP.x).take (cutN (rs.map EvP.x) 1))[0]? := by rw [HX1.out]
            rw [List.getElem?_map, List.getElem?_eq_getElem (by omega), List.getElem?_take, if_pos (by rw [← HL.out]; omega)] at h1
            exact h1.symm)
          have hmm : rs1[0].x.kv.mod = rs1[0].kv.x.mod := rfl
          obtain ⟨r, hr⟩ : ∃ r, r = rs1[0].kv.x.mod := ⟨_, rfl⟩
          rw [← hr] at m5 hmm
          have HE := Lib.hid (show feedW H x0 [] = { x0 with buf := buf, next := r } from by
            unfold feedW; rw [HG.out, HGG.out, feedGo_stop HZ.out HYES.out, hmm]; rfl)
          have x1 : (0 : Int) < (rs1.length : Int) := by omega
          clear q0 q1 hmm hr HZ
          go_wp2
          go_quiet (fail)
          have hX := (Upd.refl (fun _ => False) wc).drewN nq
          have HFIN := Lib.hid (HF.out.setNext r _ (HU4.out.trans hX))
          have m5' := hX.cell m5 (fun x => x)
          have h6 : (wc.drewN nq).cell? ⟨p.blk, 6, none⟩ = some (.int .i64 x0.next) := by rw [← HF.out.hb]; exact hX.cell (HU4.out.cell (cell_of HF.out.wr.blk 6) (fun x => x)) (fun x => x)
          have f6 : (wc.drewN nq).frozen? ⟨p.blk, 6, none⟩ = false := by rw [← HF.out.hb]; exact free_of (hX.heap (HU4.out.heap HF.out.wr.blk (fun x => x)) (fun x => x)) 6
          generalize wc.drewN nq = X at *
          clear hX m5 c7 c1r c7d c1d k0 k1 k3
          go_wp2
          go_ret
          obtain ⟨own2, P2, g1, g2, g3⟩ := HFIN.out
          exact ⟨rfl, own2, P2, by rw [HE.out]; exact g1, g2, g3⟩
        · have k1 : decide (H.room - (p'.b.n : Int) < (rs1.length : Int)) = false := decide_eq_false q1
          have HNO := Lib.hid (show ¬ (0 < buf.length ∧ H.room - (buf.length : Int) < (cutN (rs.map EvP.x) 1 : Nat)) from fun hh => by rw [← HNB.out, ← HL.out] at hh; exact q1 hh.2)
          clear q0 q1
          go_wp2
          go_quiet (fail)
          have hX := (Upd.refl (fun _ => False) wc).drewN nq
          have hst := HF.out.step (X := wc.drewN nq) (by omega) HNE.out HX1.out HX2.out HS1.out (Nat.le_trans HS2.out hX.size) (HR1.out.grow hX) HL1.out HL2.out (HR2.out.grow hX) (HU4.out.trans hX)
          have c7' := hX.cell c7 (fun x => x)
          generalize wc.drewN nq = X at *
          obtain ⟨a', N, c', w5, hap, f7, h7, own2, P2, p2, hF2, hlen⟩ := hst
          have HF2 := Lib.hid hF2
          have HLEN := Lib.hid hlen
          clear hF2 hlen hX c7 c1r c7d c1d
          go_wp2_with (first | (refine wpList_append hap (by rfl) (by rfl) (by rfl) (by rfl) ?_))
          go_roundw
          case rel =>
            refine ⟨a2, c2, _, own2, P2, p2, rs2, J2, _, f - 1, rfl, HF2.out, ?_⟩
            rw [HG.out, HGG.out, feedGo_on (fun e => HNE.out (List.map_eq_nil_iff.1 e)) HNO.out, HX2.out]
            rfl
          case measure => simp [lenOf]; exact HLEN.out

set_option maxRecDepth 100000 in
set_option maxHeartbeats 4000000 in
/-- A watcher that is behind is fed. -/
theorem feed_ok (b m : Nat) (own : Nat → Tg) (P : Int → Option WrP) (H : Hub) (i : Int) (x : Wr) (a : Option Addr) (c : Nat) (ps : List EvP) (I : Nat → Prop) (w : World) (h : IsHub w b m own P H) (hok : HOk H) (hx : H.f i = some x) (hbh : behindB H x = true) (hv : Evs w I (.slice a ps.length c) ps) (hs : ∀ p ∈ ps, p.x.Small) (hn : ps.length ≤ 800000000000) (hfew : x.buf.length + (sieveE x.w (ps.map EvP.x)).length ≤ 800000000000)
    (hri : Rising (ps.map EvP.x)) (hlo : ∀ p ∈ ps, x.next ≤ p.kv.x.mod ∧ p.kv.x.mod ≤ H.rev) :
    Calls Try.prog 34 #[.pointer (some ⟨b, 0, none⟩), .int .i64 i, .slice a ps.length c] w fun e w' => e = .returned (.int .i64 0) ∧ ∃ own' P', IsHub w' b m own' P' (H.upd i (feedW H x (ps.map EvP.x))) ∧ (∀ k, k < w.heap.size → own' k = own k) ∧ Upd (fun k => own k ≠ .no) w w' := by
  by_cases he : ps = []
  · subst he
    exact feed_empty b m own P H i x a c I w h hok hx hbh (by omega) hv
  have he : ps.length ≠ 0 := fun e => he (List.length_eq_zero_iff.1 e)
  obtain ⟨p, hp⟩ : ∃ p, P i = some p := by
    cases hp : P i with
    | none => rw [h.nn i hp] at hx; cases hx
    | some p => exact ⟨p, rfl⟩
  obtain ⟨x0, hx0, hw⟩ := h.wt i p hp
  obtain rfl : x0 = x := Option.some.inj (hx0.symm.trans hx)
  have hf := find_calls b m own P H i w h
  rw [hp] at hf
  simp only [wptr, Option.map_some] at hf
  have hbc := behind_calls b m own P H i p x0 w h hw
  rw [hbh] at hbc
  have HH := Lib.hid h
  have HOK := Lib.hid hok
  have HX := Lib.hid hx
  have HV := Lib.hid hv
  have HS := Lib.hid hs
  have HW := Lib.hid hw
  have HP := Lib.hid hp
  have HLO := Lib.hid hlo
  have HRI := Lib.hid hri
  clear h hok hx hx0 hv hs hw hp hlo hri hbh
  go_enter Try.func34, Try.ntmps34
  go_upto_region 6 with (first
    | (go_at_call 32; (with_reducible refine hf.mono ?_); rintro e w' ⟨rfl, rfl⟩)
    | (go_at_call 38; (with_reducible refine hbc.mono ?_); rintro e w1 ⟨rfl, hu1⟩))
  have hw1 : WrOk w1 own i p x0 := HW.out.upd hu1 (fun k s => s.elim) (fun _ _ => rfl)
  have c6 : w1.cell? ⟨p.blk, 6, none⟩ = some (.int .i64 x0.next) := cell_of hw1.blk 6
  have c0 : w1.cell? ⟨b, 0, none⟩ = some (.int .i64 H.rev) := hu1.cell (cell_of HH.out.hub 0) (fun x => x)
  have hrt := right_true (.slice a _ c) _ I w1.drew (HV.out.grow hu1.drew) HRI.out hn
  have HU1 := Lib.hid hu1
  obtain ⟨n1, hn1⟩ : ∃ n1, ps.length = n1 + 1 := ⟨ps.length - 1, by omega⟩
  obtain ⟨b1, o1, rfl, -⟩ := HV.out.range 0 (by omega)
  have m0 := hu1.cell (HV.out.mod 0 (by omega)) (fun x => x)
  have m1 := hu1.cell (HV.out.mod n1 (by omega)) (fun x => x)
  obtain ⟨q0, -⟩ := HLO.out _ (List.getElem_mem (show 0 < ps.length by omega))
  obtain ⟨-, q1⟩ := HLO.out _ (List.getElem_mem (show n1 < ps.length by omega))
  have k0 : decide (ps[0].kv.x.mod < x0.next) = false := decide_eq_false (by omega)
  have k1 : decide (H.rev < ps[n1].kv.x.mod) = false := decide_eq_false (by omega)
  have k2 : decide ((0 : Int) < (ps.length : Int)) = true := decide_eq_true (by omega)
  have k3 : IntKind.i64.wrap ((ps.length : Int) - 1) = (n1 : Int) := by rw [IntWalk.i64_in _ (by omega)]; omega
  have k4 : (0 : Int) ≤ (n1 : Int) := by omega
  have k5 : (n1 : Int) < (ps.length : Int) := by omega
  have k6 : 0 < ps.length := by omega
  have k7 : decide (0 < ps.length) = true := decide_eq_true k6
  generalize ps[0].kv.x.mod = y0 at *
  generalize ps[n1].kv.x.mod = y1 at *
  simp only [Nat.zero_mul, Nat.add_zero] at m0
  clear hu1 hw1 q0 q1 hn1 he
  go_region_held3 (fun w' => w'.cell? ⟨p.blk, 6, none⟩ = some (.int .i64 x0.next) ∧ w'.cell? ⟨b, 0, none⟩ = some (.int .i64 H.rev) ∧ w'.cell? ⟨b1, o1 + 4, none⟩ = some (.int .i64 y0) ∧ w'.cell? ⟨b1, o1 + n1 * 14 + 4, none⟩ = some (.int .i64 y1))
    (first | exact ⟨c6, c0, m0, m1⟩ | exact ⟨hxa.cell c6 (fun x => x), hxa.cell c0 (fun x => x), hxa.cell m0 (fun x => x), hxa.cell m1 (fun x => x)⟩)
    (first | (go_at_call 48; (with_reducible refine hrt.mono ?_); rintro e w2 ⟨rfl, hu2⟩; have hxa := hu2.undrew))
  have hw2 := HU1.out.trans hxa
  have hwV : WrOk w2 own i p x0 := HW.out.upd hw2 (fun k s => s.elim) (fun _ _ => rfl)
  have hrg : w2.rangeAt p.blk 0 (wcells p.k.v p.e.v x0.w).toList := rangeAt_pre _ hwV.blk (fun j v hj => by
    match j, hj with
    | 0, hj => exact hj
    | 1, hj => exact hj
    | 2, hj => exact hj
    | 3, hj => exact hj
    | 4, hj => exact hj
    | 5, hj => exact hj
    | n + 6, hj => cases hj)
  have hsv := sieve_calls p.k.v p.e.v x0.w _ c ps I w2 (.inl hwV.key) (.inl hwV.end_) (HV.out.grow hw2) HS.out hn
  have hone : (wcells p.k.v p.e.v x0.w).size = 6 := rfl
  have HW2 := Lib.hid hw2
  clear hwV hw2 hxa hu2 hrt
  go_wp2_with (first
    | ((with_reducible refine wpl_load_at (ty := 24) hrg Try.underlying24 ?_ ?_ ?_ ?_); rfl; rfl; kernel_rfl)
    | (go_at_call 20; (with_reducible refine hsv.mono ?_); rintro e w3 ⟨sa, sc, rs, J, rfl, hx1, hr1, hu3⟩))
  have hlr : rs.length ≤ ps.length := by
    have h1 := congrArg List.length hx1
    rw [List.length_map] at h1
    rw [h1]
    exact Nat.le_trans (sieveE_length _ _) (by rw [List.length_map]; exact Nat.le_refl _)
  have hF : FAt b m p.blk own H i x0 800000000000 w w3 (.slice sa rs.length sc) x0.buf own P p rs J w2.heap.size rs.length := {
    hub := by rw [show H.upd i { x0 with buf := x0.buf } = H from upd_same HX.out]; exact HH.out.grow (HW2.out.trans hu3)
    hp := HP.out, hb := rfl, row := hr1
    free := fun k hk => by
      have hk1 : w2.heap.size ≤ k := hk.elim (fun q => (hr1.ge k q).1) (fun q => (hr1.blk k q).1)
      cases e : own k with
      | no => rfl
      | _ => have h1 := HH.out.lt k (by rw [e]; simp); have := HW2.out.size; omega
    small := fun q hq => by
      have h1 : q.x ∈ sieveE x0.w (ps.map EvP.x) := by rw [← hx1]; exact List.mem_map_of_mem hq
      unfold sieveE at h1
      obtain ⟨z, hz, e⟩ := List.mem_map.1 h1
      obtain ⟨y, hy, rfl⟩ := List.mem_map.1 (List.mem_filter.1 hz).1
      have h2 := HS.out y hy
      rw [← e]
      unfold told
      split
      · exact h2
      · exact ⟨h2.a, h2.b, Nat.zero_le _, Nat.zero_le _⟩
    fuel := Nat.le_refl _, few := (by have h1 := congrArg List.length hx1; rw [List.length_map] at h1; omega), agree := fun _ _ => rfl, u := (HW2.out.trans hu3).weak _ }
  have HF := Lib.hid hF
  have HG := Lib.hid (show feedRes H.room x0.buf (sieveE x0.w (ps.map EvP.x)) = feedGo H.room rs.length x0.buf (rs.map EvP.x) from by
    unfold feedRes; rw [← hx1, List.length_map])
  clear hF hx1 hr1 hu3 hlr hsv hrg hone
  go_loopw [8] (fun v wr => ∃ (a : Option Addr) (c : Nat) (buf : List Ev) (own' : Nat → Tg) (P' : Int → Option WrP) (p' : WrP) (rs : List EvP) (J : Nat → Prop) (B f : Nat), v = .slice a rs.length c ∧ FAt b m p.blk own H i x0 800000000000 w wr (.slice a rs.length c) buf own' P' p' rs J B f ∧ feedRes H.room x0.buf (sieveE x0.w (ps.map EvP.x)) = feedGo H.room f buf (rs.map EvP.x)) (fun v _ => lenOf v)
  case atStart => exact ⟨_, _, _, _, _, _, _, _, _, _, rfl, HF.out, HG.out⟩
  case round =>
    clear HF HG
    obtain ⟨va, vc, buf, own', P', p', rs, J, B, f, rfl, hF, hG⟩ := hrel
    have hwr := hF.wr
    have hpb := hF.hb
    have HF := Lib.hid hF
    have HG := Lib.hid hG
    by_cases hne : rs = []
    · subst hne
      have h6 : wr.cell? ⟨p.blk, 6, none⟩ = some (.int .i64 x0.next) := by rw [← hpb]; exact cell_of hwr.blk 6
      have f6 : wr.frozen? ⟨p.blk, 6, none⟩ = false := by rw [← hpb]; exact free_of hwr.blk 6
      have h0 : wr.cell? ⟨b, 0, none⟩ = some (.int .i64 H.rev) := cell_of hF.hub.hub 0
      have y0 := HOK.out.rev0
      have y1 := HOK.out.rev1
      have HFIN := Lib.hid (hF.setNext (H.rev + 1) wr (Upd.refl _ _))
      have HE := Lib.hid (show feedW H x0 (ps.map EvP.x) = { x0 with buf := buf, next := H.rev + 1 } from by
        unfold feedW; rw [hG, List.map_nil, feedGo_nil]; rfl)
      clear hF hG hwr hpb
      go_wp2
      go_ret
      obtain ⟨own2, P2, g1, g2, g3⟩ := HFIN.out
      exact ⟨rfl, own2, P2, by rw [HE.out]; exact g1, g2, g3⟩
    · have hl0 : 0 < rs.length := by
        cases hrs : rs with
        | nil => exact absurd hrs hne
        | cons _ _ => simp
      have hlf : rs.length ≤ 800000000000 := by have := HF.out.few; omega
      have hcut := bcut_calls (.slice va rs.length vc) rs J 1 wr hF.row.evs hF.small hlf
      clear hF hG hwr hpb
      go_upto_region 11 with (go_at_call 33; (with_reducible refine hcut.mono ?_); intro e1 wc hcs; obtain ⟨a1, c1, rs1, J1, a2, c2, rs2, J2, wm, rfl, hx1, hx2, hs1, hs2, hr1, hlt1, hlt2, hr2, hu4⟩ := hcs)
      have hwc : WrOk wc own' i p' { x0 with buf := buf } := HF.out.wr.upd hu4 (fun k s => s.elim) (fun _ _ => rfl)
      have c7 : wc.cell? ⟨p.blk, 7, none⟩ = some (.slice p'.b.a p'.b.n p'.b.c) := by rw [← HF.out.hb]; exact cell_of hwc.blk 7
      have c1r : wc.cell? ⟨b, 1, none⟩ = some (.int .i64 H.room) := hu4.cell (cell_of HF.out.hub.hub 1) (fun x => x)
      have drc := (Upd.refl (fun _ => False) wc).drew
      have c7d := drc.cell c7 (fun x => x)
      have c1d := drc.cell c1r (fun x => x)
      have nb : p'.b.n = buf.length := hwc.nb
      have l1 : rs1.length = cutN (rs.map EvP.x) 1 := by
        have h1 := congrArg List.length hx1
        have h2 := cutN_le (rs.map EvP.x) 1
        rw [List.length_map, List.length_take] at h1
        omega
      have l2 : 1 ≤ rs1.length := by rw [l1]; exact cutN_pos (fun e => hne (List.map_eq_nil_iff.1 e)) 1
      have l3 := HOK.out.room0
      have l4 := HOK.out.room1
      have l5 : buf.length ≤ 800000000000 := by have := HF.out.few; omega
      have l6 : rs1.length ≤ 800000000000 := by rw [l1]; have := cutN_le (rs.map EvP.x) 1; rw [List.length_map] at this; omega
      obtain ⟨g, hg⟩ : ∃ g, f = g + 1 := ⟨f - 1, by have := HF.out.fuel; omega⟩
      have HX1 := Lib.hid hx1
      have HX2 := Lib.hid hx2
      have HS1 := Lib.hid hs1
      have HS2 := Lib.hid hs2
      have HR1 := Lib.hid hr1
      have HR2 := Lib.hid hr2
      have HL1 := Lib.hid hlt1
      have HL2 := Lib.hid hlt2
      have HU4 := Lib.hid hu4
      have HL := Lib.hid l1
      have HNB := Lib.hid nb
      have HGG := Lib.hid hg
      have HNE := Lib.hid hne
      have k3 : IntKind.i64.wrap (H.room - (p'.b.n : Int)) = H.room - (p'.b.n : Int) := IntWalk.i64_in _ (by omega)
      clear hx1 hx2 hs1 hs2 hr1 hr2 hlt1 hlt2 hu4 l1 nb hwc drc hcut hne hg
      by_cases q0 : p'.b.n = 0
      · have k0 : decide (0 < p'.b.n) = false := decide_eq_false (by omega)
        have HNO := Lib.hid (show ¬ (0 < buf.length ∧ H.room - (buf.length : Int) < (cutN (rs.map EvP.x) 1 : Nat)) from fun hh => by rw [← HNB.out] at hh; omega)
        clear q0 k3
        go_wp2
        go_quiet (fail)
        have hX := (Upd.refl (fun _ => False) wc).drewN nq
        have hst := HF.out.step (X := wc.drewN nq) (by omega) HNE.out HX1.out HX2.out HS1.out (Nat.le_trans HS2.out hX.size) (HR1.out.grow hX) HL1.out HL2.out (HR2.out.grow hX) (HU4.out.trans hX)
        have c7' := hX.cell c7 (fun x => x)
        generalize wc.drewN nq = X at *
        obtain ⟨a', N, c', w5, hap, f7, h7, own2, P2, p2, hF2, hlen⟩ := hst
        have HF2 := Lib.hid hF2
        have HLEN := Lib.hid hlen
        clear hF2 hlen hX c7 c1r c7d c1d
        go_wp2_with (first | (refine wpList_append hap (by rfl) (by rfl) (by rfl) (by rfl) ?_))
        go_roundw
        case rel =>
          refine ⟨a2, c2, _, own2, P2, p2, rs2, J2, _, f - 1, rfl, HF2.out, ?_⟩
          rw [HG.out, HGG.out, feedGo_on (fun e => HNE.out (List.map_eq_nil_iff.1 e)) HNO.out, HX2.out]
          rfl
        case measure => simp [lenOf]; exact HLEN.out
      · have k0 : decide (0 < p'.b.n) = true := decide_eq_true (by omega)
        by_cases q1 : H.room - (p'.b.n : Int) < (rs1.length : Int)
        · have k1 : decide (H.room - (p'.b.n : Int) < (rs1.length : Int)) = true := decide_eq_true q1
          have HYES := Lib.hid (show 0 < buf.length ∧ H.room - (buf.length : Int) < (cutN (rs.map EvP.x) 1 : Nat) from ⟨by rw [← HNB.out]; omega, by rw [← HNB.out, ← HL.out]; exact q1⟩)
          obtain ⟨b5, o5, rfl, -⟩ := HR1.out.evs.range 0 (by omega)
          have m5 := HR1.out.evs.mod 0 (by omega)
          simp only [Nat.zero_mul, Nat.add_zero] at m5
          have HZ := Lib.hid (show (rs.map EvP.x)[0]? = some rs1[0].x from by
            have h1 : (rs1.map EvP.x)[0]? = ((rs.map EvP.x).take (cutN (rs.map EvP.x) 1))[0]? := by rw [HX1.out]
            rw [List.getElem?_map, List.getElem?_eq_getElem (by omega), List.getElem?_take, if_pos (by rw [← HL.out]; omega)] at h1
            exact h1.symm)
          have hmm : rs1[0].x.kv.mod = rs1[0].kv.x.mod := rfl
          obtain ⟨r, hr⟩ : ∃ r, r = rs1[0].kv.x.mod := ⟨_, rfl⟩
          rw [← hr] at m5 hmm
          have HE := Lib.hid (show feedW H x0 (ps.map EvP.x) = { x0 with buf := buf, next := r } from by
            unfold feedW; rw [HG.out, HGG.out, feedGo_stop HZ.out HYES.out, hmm]; rfl)
          have x1 : (0 : Int) < (rs1.length : Int) := by omega
          clear q0 q1 hmm hr HZ
          go_wp2
          go_quiet (fail)
          have hX := (Upd.refl (fun _ => False) wc).drewN nq
          have HFIN := Lib.hid (HF.out.setNext r _ (HU4.out.trans hX))
          have m5' := hX.cell m5 (fun x => x)
          have h6 : (wc.drewN nq).cell? ⟨p.blk, 6, none⟩ = some (.int .i64 x0.next) := by rw [← HF.out.hb]; exact hX.cell (HU4.out.cell (cell_of HF.out.wr.blk 6) (fun x => x)) (fun x => x)
          have f6 : (wc.drewN nq).frozen? ⟨p.blk, 6, none⟩ = false := by rw [← HF.out.hb]; exact free_of (hX.heap (HU4.out.heap HF.out.wr.blk (fun x => x)) (fun x => x)) 6
          generalize wc.drewN nq = X at *
          clear hX m5 c7 c1r c7d c1d k0 k1 k3
          go_wp2
          go_ret
          obtain ⟨own2, P2, g1, g2, g3⟩ := HFIN.out
          exact ⟨rfl, own2, P2, by rw [HE.out]; exact g1, g2, g3⟩
        · have k1 : decide (H.room - (p'.b.n : Int) < (rs1.length : Int)) = false := decide_eq_false q1
          have HNO := Lib.hid (show ¬ (0 < buf.length ∧ H.room - (buf.length : Int) < (cutN (rs.map EvP.x) 1 : Nat)) from fun hh => by rw [← HNB.out, ← HL.out] at hh; exact q1 hh.2)
          clear q0 q1
          go_wp2
          go_quiet (fail)
          have hX := (Upd.refl (fun _ => False) wc).drewN nq
          have hst := HF.out.step (X := wc.drewN nq) (by omega) HNE.out HX1.out HX2.out HS1.out (Nat.le_trans HS2.out hX.size) (HR1.out.grow hX) HL1.out HL2.out (HR2.out.grow hX) (HU4.out.trans hX)
          have c7' := hX.cell c7 (fun x => x)
          generalize wc.drewN nq = X at *
          obtain ⟨a', N, c', w5, hap, f7, h7, own2, P2, p2, hF2, hlen⟩ := hst
          have HF2 := Lib.hid hF2
          have HLEN := Lib.hid hlen
          clear hF2 hlen hX c7 c1r c7d c1d
          go_wp2_with (first | (refine wpList_append hap (by rfl) (by rfl) (by rfl) (by rfl) ?_))
          go_roundw
          case rel =>
            refine ⟨a2, c2, _, own2, P2, p2, rs2, J2, _, f - 1, rfl, HF2.out, ?_⟩
            rw [HG.out, HGG.out, feedGo_on (fun e => HNE.out (List.map_eq_nil_iff.1 e)) HNO.out, HX2.out]
            rfl
          case measure => simp [lenOf]; exact HLEN.out

end Go.Proofs.Ytidpiojanajpoaa
