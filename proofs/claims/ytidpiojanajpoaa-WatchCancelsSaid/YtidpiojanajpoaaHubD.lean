/-
  A hub: Notify, the walk.
-/
import Derived.IntWalk
import Derived.Test.YtidpiojanajpoaaHubC
namespace Go.Proofs.Ytidpiojanajpoaa
open Go.RowKit Go.Tb Go.MapKept Go.ChangeMaps
set_option linter.unusedVariables false

theorem rangeAt_pre {w : World} {b : Nat} {c : Array Value} {t : TypeId} {f : Nat × Nat} (l : List Value) (h : w.heap[b]? = some (.cells c t f)) (hl : ∀ (j : Nat) (v : Value), l[j]? = some v → c[j]? = some v) : w.rangeAt b 0 l := fun j v hj => by
  rw [Nat.zero_add, cell_of h]; exact hl j v hj

set_option maxRecDepth 100000 in
set_option maxHeartbeats 2000000 in
theorem notify_ok (b m : Nat) (own : Nat → Tg) (P : Int → Option WrP) (H : Hub) (rev : Int) (a : Option Addr) (c : Nat) (ps : List EvP) (I : Nat → Prop) (w : World) (h : IsHub w b m own P H) (hok : HOk H) (hv : Evs w I (.slice a ps.length c) ps)
    (hI : ∀ k, I k → own k = .no ∧ k < w.heap.size) (hvb : ∀ k, sliceBlock (.slice a ps.length c) = some k → own k = .no) (hs : ∀ p ∈ ps, p.x.Small) (hn : ps.length ≤ 800000000000) (hr : rev = H.rev + 1) (hr2 : rev ≤ 4611686018427387904) (hall : allMod rev (ps.map EvP.x) = true)
    (hfew : ∀ i x, H.f i = some x → x.buf.length + ps.length ≤ 800000000000) :
    Calls Try.prog 11 #[.pointer (some ⟨b, 0, none⟩), .int .i64 rev, .slice a ps.length c] w fun e w' => e = .returned (.int .i64 0) ∧ ∃ own' P', IsHub w' b m own' P' (H.notified rev (ps.map EvP.x)) ∧ (∀ k, k < w.heap.size → own' k = own k) ∧ Upd (fun k => own k ≠ .no) w w' := by
  have hb := lt_of_heap h.hub
  have hua := upd_alloc (fun _ => False) w (.cells #[.int .i64 rev] 2)
  have hB := (heap_alloc w (.cells #[.int .i64 rev] 2)).1
  have hBn : own w.heap.size = .no := by
    cases e : own w.heap.size with
    | no => rfl
    | _ => exact absurd (h.lt _ (by rw [e]; simp)) (Nat.lt_irrefl _)
  have hd := hua.drew
  have cB : (w.alloc (.cells #[.int .i64 rev] 2)).cell? ⟨w.heap.size, 0, none⟩ = some (.int .i64 rev) := cell_of hB 0
  have c0 : (w.alloc (.cells #[.int .i64 rev] 2)).cell? ⟨b, 0, none⟩ = some (.int .i64 H.rev) := hua.cell (cell_of h.hub 0) (fun x => x)
  have hcon := contains_calls w.heap.size rev (.slice a ps.length c) ps I _ (hv.grow hd) hn ((Upd.refl (fun _ => False) _).drew.cell cB (fun x => x))
  rw [hall] at hcon
  have k1 : IntKind.i64.wrap (H.rev + 1) = rev := by rw [IntWalk.i64_in _ (by have := hok.rev0; have := hok.rev1; omega)]; exact hr.symm
  have k5 : (rev != rev) = false := by simp
  have k2 : decide ((4611686018427387904 : Int) < rev) = false := decide_eq_false (by omega)
  have HO := Lib.hid h
  have HK := Lib.hid hok
  have HV := Lib.hid hv
  have HI := Lib.hid hI
  have HVB := Lib.hid hvb
  have HS := Lib.hid hs
  have HB := Lib.hid hB
  have HFEW := Lib.hid hfew
  have HR := Lib.hid hr
  have HBN := Lib.hid hBn
  have HUA := Lib.hid hua
  clear h hok hv hI hvb hs hB hfew hr hall hd hBn
  have cBd := (Upd.refl (fun _ => False) (w.alloc (.cells #[.int .i64 rev] 2))).drew.cell cB (fun x => x)
  have c0d := (Upd.refl (fun _ => False) (w.alloc (.cells #[.int .i64 rev] 2))).drew.cell c0 (fun x => x)
  go_enter Try.func11, Try.ntmps11
  go_wp2
  go_region_held3 (fun w' => w'.cell? ⟨w.heap.size, 0, none⟩ = some (.int .i64 rev) ∧ w'.cell? ⟨b, 0, none⟩ = some (.int .i64 H.rev))
    (first | exact ⟨cB, c0⟩ | exact ⟨hx.cell cB (fun x => x), hx.cell c0 (fun x => x)⟩)
    (first | (go_at_call 29; (with_reducible refine hcon.mono ?_); rintro e w1 ⟨rfl, hu1⟩; have hx := hu1.undrew))
  clear k1 k2 k5 cB c0 cBd c0d hcon
  have hU1 := HUA.out.trans hx
  have hh1 := HO.out.grow hU1
  have hB1 := hU1.size
  obtain ⟨o, todo, hrun, hit, -, htodo⟩ := hh1.map.range (P := Try.prog) (keyT_int .i64) Try.underlying66
  have c4 : w1.cell? ⟨b, 4, none⟩ = some (.map (some m)) := cell_of hh1.hub 4
  have hao := upd_alloc (fun _ => False) w1 o
  have hR : own w1.heap.size = .no := by
    cases e : own w1.heap.size with
    | no => rfl
    | _ => exact absurd (HO.out.lt _ (by rw [e]; simp)) (by omega)
  have hRs : w1.heap.size < (w1.alloc o).heap.size := by simp
  have hst : NRel b m w1.heap.size own H rev (ps.map EvP.x) (w1.alloc o) (w1.alloc o) := ⟨todo, own, P, H.f, hit, hh1.grow hao, fun _ _ => rfl, fun i hi => by
    have h1 : P i = none := by
      have h2 : ¬ (mptr P i).isSome = true := fun h => hi ((htodo i).2 h)
      unfold mptr at h2
      cases hp : P i with
      | none => rfl
      | some p => rw [hp] at h2; simp at h2
    rw [HO.out.nn i h1]; rfl, fun _ _ => rfl, Upd.refl _ _⟩
  have HST := Lib.hid hst
  have HU2 := Lib.hid (hU1.trans hao)
  have HB2 := Lib.hid ((hx.trans hao).heap HB.out (fun x => x))
  have HV2 := Lib.hid (HV.out.grow (hU1.trans hao))
  have HR2 := Lib.hid hR
  have hrs := Lib.hid (show w.heap.size < (w1.alloc o).heap.size from by have := hx.size; simp at this ⊢; omega)
  have hsz : w.heap.size < w1.heap.size := by have := hx.size; simp at this; omega
  clear hst hit htodo hao hU1 hh1 hB1 hx hu1 hR
  go_wp2
  generalize w1.alloc o = W at *
  generalize w1.heap.size = R at *
  clear hrun c4
  go_loopw [] (fun wr => NRel b m R own H rev (ps.map EvP.x) W wr) (fun wr => wr.rangeLeft m R)
  case atStart => exact HST.out
  case round =>
    clear HST
    rcases GRel.next hrel HR2.out hRs with ⟨hnx, own', P', hh, hown, hu⟩ | ⟨i, p, x, v1, own', F', P', hnx, hen, hh, hp, hxF, hxH, hw, hown, hu, hstay, hput⟩
    · have cB : wr.cell? ⟨w.heap.size, 0, none⟩ = some (.int .i64 rev) := hu.cell (cell_of HB2.out 0) (fun e => e.elim (fun e => e HBN.out) (fun e => by simp at e; omega))
      have c0 : wr.cell? ⟨b, 0, none⟩ = some (.int .i64 H.rev) := cell_of hh.hub 0
      have f0 := free_of hh.hub 0
      have HH := Lib.hid hh
      have HOW := Lib.hid hown
      have HU := Lib.hid hu
      clear hrel hh hown hu
      go_wp2
      go_ret
      refine ⟨rfl, own', P', HH.out.setRev rev, fun k hk => HOW.out k (Nat.lt_of_lt_of_le hk HU2.out.size), ?_⟩
      have h1 : Upd (fun k => own k ≠ .no) w wr := HU2.out.seq HU.out _ (fun _ _ e => e.elim) (fun k hk e => e.elim (fun e => e) (fun e => by omega))
      exact h1.setCell (p := ⟨b, 0, none⟩) (fun _ => by show own b ≠ .no; rw [HO.out.ob]; simp) _
    · have c11 : v1.cell? ⟨p.blk, 11, none⟩ = some (.bool x.ended) := cell_of hw.blk 11
      have c6 : v1.cell? ⟨p.blk, 6, none⟩ = some (.int .i64 x.next) := cell_of hw.blk 6
      have cB : v1.cell? ⟨w.heap.size, 0, none⟩ = some (.int .i64 rev) := hu.cell (cell_of HB2.out 0) (fun e => e.elim (fun e => e HBN.out) (fun e => by simp at e; omega))
      have hdr := (Upd.refl (fun _ => False) v1).drew
      have c11d := hdr.cell c11 (fun x => x)
      have c6d := hdr.cell c6 (fun x => x)
      have cBd := hdr.cell cB (fun x => x)
      clear hrel hdr
      by_cases hE : x.ended = true
      · have hst : stepW H.room rev (ps.map EvP.x) x = x := by unfold stepW; rw [if_pos (by rw [hE]; rfl)]
        rw [hE] at c11 c11d
        clear hE hh hp hxF hxH hw hown hu
        clear hput
        have HSTAY := Lib.hid (hstay hst)
        clear hstay hst
        go_wp2
        go_quiet (fail)
        go_wp2
        go_roundw
        case rel => exact (HSTAY.out _ ((Upd.refl _ v1).drewN nq)).1
        case measure => exact (HSTAY.out _ ((Upd.refl _ v1).drewN nq)).2
      · have hE' : x.ended = false := by simpa using hE
        rw [hE'] at c11 c11d
        by_cases hN : x.next = rev
        · have HSF := Lib.hid (show stepW H.room rev (ps.map EvP.x) x = if fits H.room x (sieveE x.w (ps.map EvP.x)) then { x with buf := x.buf ++ sieveE x.w (ps.map EvP.x), next := rev + 1 } else x from by
            unfold stepW; rw [if_neg (by rw [hE', hN]; simp)])
          rw [hN] at c6 c6d
          have k5 : (rev != rev) = false := by simp
          have HNX := Lib.hid hN
          have HEN := Lib.hid hE'
          have HH := Lib.hid hh
          have HW := Lib.hid hw
          have HP := Lib.hid hp
          have HXF := Lib.hid hxF
          have HXH := Lib.hid hxH
          have HOW := Lib.hid hown
          have HU := Lib.hid hu
          have HSTAY := Lib.hid hstay
          have HPUT0 := Lib.hid hput
          clear hE hE' hN hh hp hxF hxH hw hown hu hstay hput
          go_wp2
          go_quiet (fail)
          have hV := (Upd.refl (fun _ => False) v1).drewN nq
          generalize v1.drewN nq = V at *
          clear c11 c6 cB c11d c6d cBd
          have hwV : WrOk V own' i p x := HW.out.upd hV (fun k s => s.elim) (fun _ _ => rfl)
          have hrg : V.rangeAt p.blk 0 (wcells p.k.v p.e.v x.w).toList := rangeAt_pre _ hwV.blk (fun j v hj => by
            match j, hj with
            | 0, hj => exact hj
            | 1, hj => exact hj
            | 2, hj => exact hj
            | 3, hj => exact hj
            | 4, hj => exact hj
            | 5, hj => exact hj
            | n + 6, hj => cases hj)
          have hevV : Evs V I (.slice a ps.length c) ps := (HV2.out.upd HU.out (fun k hk e => e.elim (fun e => e (HVB.out k hk)) (fun e => by have := HV.out.1.lt hk; omega)) (fun k hk e => e.elim (fun e => e (HI.out k hk).1) (fun e => by have := (HI.out k hk).2; omega))).grow hV
          have hsv := sieve_calls p.k.v p.e.v x.w a c ps I V (.inl hwV.key) (.inl hwV.end_) hevV HS.out hn
          have HV1 := Lib.hid hV
          have HWV := Lib.hid hwV
          have cB : V.cell? ⟨w.heap.size, 0, none⟩ = some (.int .i64 rev) := hV.cell (HU.out.cell (cell_of HB2.out 0) (fun e => e.elim (fun e => e HBN.out) (fun e => by simp at e; omega))) (fun x => x)
          have c7 : V.cell? ⟨p.blk, 7, none⟩ = some (.slice p.b.a p.b.n p.b.c) := cell_of hwV.blk 7
          have c1 : V.cell? ⟨b, 1, none⟩ = some (.int .i64 H.room) := hV.cell (cell_of HH.out.hub 1) (fun x => x)
          have hone : (wcells p.k.v p.e.v x.w).size = 6 := rfl
          clear hV hwV hevV
          go_upto_region 8 with (first
            | ((with_reducible refine wpl_load_at (ty := 24) hrg Try.underlying24 ?_ ?_ ?_ ?_); rfl; rfl; kernel_rfl)
            | (go_at_call 20; (with_reducible refine hsv.mono ?_); rintro e w2 ⟨sa, sc, rs, J, rfl, hx1, hr1, hu1⟩))
          have d7 := hu1.cell c7 (fun x => x)
          have d1 := hu1.cell c1 (fun x => x)
          have dr2 := (Upd.refl (fun _ => False) w2).drew
          have d7d := dr2.cell d7 (fun x => x)
          have d1d := dr2.cell d1 (fun x => x)
          have HPUT := Lib.hid (show ∀ X, Upd (fun _ => False) w2 X → stepW H.room rev (ps.map EvP.x) x = { x with buf := x.buf ++ sieveE x.w (ps.map EvP.x), next := rev + 1 } → ∃ (a' : Option Addr) (N c' : Nat) (w3 : World), (∀ ty, (Builtin.append_ #[32, 32] ty #[.slice p.b.a p.b.n p.b.c, .slice sa rs.length sc]).run Try.prog X = .ok (.slice a' N c') w3) ∧ w3.frozen? ⟨p.blk, 6, none⟩ = false ∧ w3.frozen? ⟨p.blk, 7, none⟩ = false ∧ w3.cell? ⟨p.blk, 6, none⟩ = some (.int .i64 x.next) ∧ w3.cell? ⟨p.blk, 7, none⟩ = some (.slice p.b.a p.b.n p.b.c) ∧ w3.cell? ⟨w.heap.size, 0, none⟩ = some (.int .i64 rev) ∧
              NRel b m R own H rev (ps.map EvP.x) W ((w3.setCell ⟨p.blk, 7, none⟩ (.slice a' N c')).setCell ⟨p.blk, 6, none⟩ (.int .i64 (rev + 1))) ∧ ((w3.setCell ⟨p.blk, 7, none⟩ (.slice a' N c')).setCell ⟨p.blk, 6, none⟩ (.int .i64 (rev + 1))).rangeLeft m R < wr.rangeLeft m R from by
            intro X hX hst
            have hvX : Upd (fun _ => False) v1 X := (HV1.out.trans hu1).trans hX
            have hVX : Upd (fun _ => False) V X := hu1.trans hX
            have hwX : WrOk X own' i p x := HW.out.upd hvX (fun k s => s.elim) (fun _ _ => rfl)
            obtain ⟨J0, hrow, hJ0⟩ := hwX.row
            obtain ⟨J1, hrowV, -⟩ := HWV.out.row
            have hs2 := (hr1.evs).grow hX
            have hpV := lt_of_heap HWV.out.blk
            have sX := hX.size
            have s1 := hu1.size
            have l1 : p.ps.length + ps.length ≤ 800000000000 := by have := HFEW.out i x HXH.out; rw [← HW.out.eq, List.length_map] at this; exact this
            have l2 : rs.length ≤ ps.length := by
              have h1 := congrArg List.length hx1
              rw [List.length_map] at h1
              rw [h1]
              exact Nat.le_trans (sieveE_length _ _) (by rw [List.length_map]; exact Nat.le_refl _)
            obtain ⟨a', c', w3, hap, hr3, hu3, hbk⟩ := hrow.append hs2 (fun k hk => ⟨Nat.zero_le _, Nat.lt_of_lt_of_le (hr1.ge k hk).2 sX⟩) (fun k hk e => by have := (hrowV.blk k hk).2; have := (hr1.ge k e).1; omega) (Nat.zero_le _) (by omega)
            have hpb : ∀ k, sliceBlock p.b.v = some k → k ≠ p.blk := fun k hk e => by have h1 := hwX.ob k hk; rw [e, hwX.ow] at h1; cases h1
            have hb3 := hu3.heap hwX.blk (fun e => hpb _ e rfl)
            have hcB : w3.cell? ⟨w.heap.size, 0, none⟩ = some (.int .i64 rev) := hu3.cell (hVX.cell cB (fun x => x)) (fun e => by have h1 := hwX.ob _ e; rw [HOW.out _ (show w.heap.size < W.heap.size from hrs.out), HBN.out] at h1; cases h1)
            refine ⟨a', _, c', w3, hap, free_of hb3 6, free_of hb3 7, cell_of hb3 6, cell_of hb3 7, hcB, ?_⟩
            have hu4 : Upd (fun k => k = p.blk) w3 ((w3.setCell ⟨p.blk, 7, none⟩ (.slice a' (p.ps ++ rs).length c')).setCell ⟨p.blk, 6, none⟩ (.int .i64 (rev + 1))) := (upd_setCell (fun k => k = p.blk) w3 ⟨p.blk, 7, none⟩ _ rfl).trans (upd_setCell (fun k => k = p.blk) _ ⟨p.blk, 6, none⟩ _ rfl)
            have hpX := lt_of_heap hwX.blk
            refine HPUT0.out _ { p with b := ⟨a', (p.ps ++ rs).length, c'⟩, ps := p.ps ++ rs } _ hst (((hvX.weak _).trans' hu3 (fun k _ e => .inr e)).trans' hu4 (fun k _ e => .inl e)) ?_ rfl rfl rfl rfl ⟨fun k => J0 k ∨ J k, hr3.upd hu4 (fun k hk e => ?_) (fun k hk e => ?_), fun k hk => ?_⟩ (fun k hk => ?_) ?_ ?_ ?_
            · have z1 := heap_setCell_at hb3 7 (.slice a' (p.ps ++ rs).length c')
              have z2 := heap_setCell_at z1 6 (.int .i64 (rev + 1))
              rw [z2]
              simp only [wrenc, List.setIfInBounds_toArray, List.set_cons_succ, List.set_cons_zero]
              rfl
            · rcases hbk with q | q
              · exact hpb k (q ▸ hk) e
              · rw [q] at hk; cases hk; omega
            · rcases hk with q | q
              · have h1 := hJ0 k q; rw [e, hwX.ow] at h1; cases h1
              · have := (hr1.ge k q).1; omega
            · rcases hk with q | q
              · exact .inl (hJ0 k q)
              · exact .inr (Nat.le_trans HV1.out.size (hr1.ge k q).1)
            · rcases hbk with q | q
              · exact .inl (q ▸ hk)
              · have hk' : sliceBlock (.slice a' (p.ps ++ rs).length c') = some k := hk
                rw [q] at hk'; cases hk'; exact .inr hvX.size
            · rw [List.map_append, hwX.eq, hx1]
            · show (p.ps ++ rs).length = (x.buf ++ sieveE x.w (ps.map EvP.x)).length
              rw [← hwX.eq, ← hx1, ← List.map_append, List.length_map]
            · intro y hy
              rcases List.mem_append.1 hy with hy | hy
              · exact hwX.small y hy
              · unfold sieveE at hy
                obtain ⟨z, hz, rfl⟩ := List.mem_map.1 hy
                obtain ⟨q, hq, rfl⟩ := List.mem_map.1 (List.mem_filter.1 hz).1
                have h1 := HS.out q hq
                unfold told
                split
                · exact h1
                · exact ⟨h1.a, h1.b, Nat.zero_le _, Nat.zero_le _⟩)
          have e1 : rs.length = (sieveE x.w (ps.map EvP.x)).length := by rw [← hx1, List.length_map]
          have e2 := HW.out.nb
          have e3 := HK.out.room0
          have e4 := HK.out.room1
          have e5 := HFEW.out i x HXH.out
          have HSTAY2 := Lib.hid (show fits H.room x (sieveE x.w (ps.map EvP.x)) = false → ∀ X, Upd (fun _ => False) w2 X → NRel b m R own H rev (ps.map EvP.x) W X ∧ X.rangeLeft m R < wr.rangeLeft m R from fun hf X hX => HSTAY.out (by rw [HSF.out, hf]; rfl) X ((HV1.out.trans hu1).trans hX))
          by_cases q0 : rs.length = 0
          · have hfit : fits H.room x (sieveE x.w (ps.map EvP.x)) = true := by unfold fits; rw [← e1, q0]; rfl
            have k0 : ((rs.length : Int) == 0) = true := by simp [q0]
            clear q0 e1 e2 e3 e4 e5 HSTAY2 HSTAY hx1 hr1
            have HF := Lib.hid (show stepW H.room rev (ps.map EvP.x) x = { x with buf := x.buf ++ sieveE x.w (ps.map EvP.x), next := rev + 1 } from by rw [HSF.out, if_pos hfit])
            clear hfit
            go_wp2
            go_quiet (fail)
            have hX := (Upd.refl (fun _ => False) w2).drewN nq
            have hp9 := HPUT.out _ hX HF.out
            generalize w2.drewN nq = X at *
            obtain ⟨a', N, c', w3, hap, f6, f7, e6, e7, eB, hfin⟩ := hp9
            have HFIN := Lib.hid hfin
            have e7' := hX.cell d7 (fun x => x)
            clear hfin d7 d1 d7d d1d
            have y1 : 0 ≤ rev := by rw [HR.out]; have := HK.out.rev0; omega
            go_wp2_with (at_builtin; refine wpList_append hap rfl rfl rfl rfl ?_)
            go_roundw
            case rel => exact HFIN.out.1
            case measure => exact HFIN.out.2
          · have k0 : ((rs.length : Int) == 0) = false := by simp [q0]
            by_cases q1 : p.b.n = 0
            · have hfit : fits H.room x (sieveE x.w (ps.map EvP.x)) = true := by unfold fits; rw [← e2, q1]; simp
              have k1 : ((p.b.n : Int) == 0) = true := by simp [q1]
              clear q0 q1 e1 e2 e3 e4 e5 HSTAY2 HSTAY hx1 hr1
              have HF := Lib.hid (show stepW H.room rev (ps.map EvP.x) x = { x with buf := x.buf ++ sieveE x.w (ps.map EvP.x), next := rev + 1 } from by rw [HSF.out, if_pos hfit])
              clear hfit
              go_wp2
              go_quiet (fail)
              have hX := (Upd.refl (fun _ => False) w2).drewN nq
              have hp9 := HPUT.out _ hX HF.out
              generalize w2.drewN nq = X at *
              obtain ⟨a', N, c', w3, hap, f6, f7, e6, e7, eB, hfin⟩ := hp9
              have HFIN := Lib.hid hfin
              have e7' := hX.cell d7 (fun x => x)
              clear hfin d7 d1 d7d d1d
              have y1 : 0 ≤ rev := by rw [HR.out]; have := HK.out.rev0; omega
              go_wp2_with (at_builtin; refine wpList_append hap rfl rfl rfl rfl ?_)
              go_roundw
              case rel => exact HFIN.out.1
              case measure => exact HFIN.out.2
            · have k1 : ((p.b.n : Int) == 0) = false := by simp [q1]
              have k3 : IntKind.i64.wrap (H.room - (p.b.n : Int)) = H.room - (p.b.n : Int) := IntWalk.i64_in _ (by omega)
              by_cases q2 : (rs.length : Int) ≤ H.room - (p.b.n : Int)
              · have hfit : fits H.room x (sieveE x.w (ps.map EvP.x)) = true := by unfold fits; rw [← e1, ← e2]; simp [q2]
                have k4 : decide ((rs.length : Int) ≤ H.room - (p.b.n : Int)) = true := decide_eq_true q2
                clear q0 q1 e1 e2 e3 e4 e5 HSTAY2 HSTAY hx1 hr1
                have HF := Lib.hid (show stepW H.room rev (ps.map EvP.x) x = { x with buf := x.buf ++ sieveE x.w (ps.map EvP.x), next := rev + 1 } from by rw [HSF.out, if_pos hfit])
                clear hfit
                go_wp2
                go_quiet (fail)
                have hX := (Upd.refl (fun _ => False) w2).drewN nq
                have hp9 := HPUT.out _ hX HF.out
                generalize w2.drewN nq = X at *
                obtain ⟨a', N, c', w3, hap, f6, f7, e6, e7, eB, hfin⟩ := hp9
                have HFIN := Lib.hid hfin
                have e7' := hX.cell d7 (fun x => x)
                clear hfin d7 d1 d7d d1d
                have y1 : 0 ≤ rev := by rw [HR.out]; have := HK.out.rev0; omega
                go_wp2_with (at_builtin; refine wpList_append hap rfl rfl rfl rfl ?_)
                go_roundw
                case rel => exact HFIN.out.1
                case measure => exact HFIN.out.2
              · have hfit : fits H.room x (sieveE x.w (ps.map EvP.x)) = false := by unfold fits; rw [← e1, ← e2]; simp [q0, q1, q2]
                have k4 : decide ((rs.length : Int) ≤ H.room - (p.b.n : Int)) = false := decide_eq_false q2
                have HST9 := Lib.hid (HSTAY2.out hfit)
                clear q0 q1 q2 e1 e2 e3 e4 e5 HSTAY2 HSTAY HPUT hx1 hr1 hfit
                go_wp2
                go_quiet (fail)
                go_wp2
                go_roundw
                case rel => exact (HST9.out _ ((Upd.refl _ w2).drewN nq)).1
                case measure => exact (HST9.out _ ((Upd.refl _ w2).drewN nq)).2
        · have hst : stepW H.room rev (ps.map EvP.x) x = x := by unfold stepW; rw [if_pos (by simp [hN])]
          have k5 : (x.next != rev) = true := by simp [hN]
          clear hE hE' hN hh hp hxF hxH hw hown hu
          generalize x.next = nx at *
          clear hput
          have HSTAY := Lib.hid (hstay hst)
          clear hstay hst
          go_wp2
          go_quiet (fail)
          go_wp2
          go_roundw
          case rel => exact (HSTAY.out _ ((Upd.refl _ v1).drewN nq)).1
          case measure => exact (HSTAY.out _ ((Upd.refl _ v1).drewN nq)).2

end Go.Proofs.Ytidpiojanajpoaa
