/-
  WatchApart: the walk where the arguments are in their bounds.
-/
import Derived.Test.YtidpiojanajpoaaApartP
namespace Go.Proofs.Ytidpiojanajpoaa
open Go.RowKit Go.Tb Go.MapKept Go.ChangeMaps
set_option linter.unusedVariables false

set_option maxRecDepth 100000 in
set_option maxHeartbeats 4000000 in
theorem apart_good (room most : Int) (wk we ok_ oe : Value) (x o : Wt) (va vw : Value) (ws : List WsP) (when : List UInt8) (w : World) (hwk : Bytes w wk x.key) (hwe : Bytes w we x.end_) (hok : Bytes w ok_ o.key) (hoe : Bytes w oe o.end_) (lw1 : x.key.length ≤ 140737488355328) (lw2 : x.end_.length ≤ 140737488355328) (lo1 : o.key.length ≤ 140737488355328) (lo2 : o.end_.length ≤ 140737488355328)
    (hev : Wss w va ws) (hwh : Bytes w vw when) (g1 : 1 ≤ room) (g2 : room ≤ 4096) (g3 : 1 ≤ most) (g4 : most ≤ 4096) (g5 : ws.length ≤ 30) (g6 : x.key.length + x.end_.length ≤ 300) (g7 : o.key.length + o.end_.length ≤ 300) (hwl : when.length ≤ 140737488355328) :
    Calls Try.prog 3 #[.int .i64 room, .int .i64 most, .agg (wcells wk we x), .agg (wcells ok_ oe o), va, vw] w fun e w' => e = .returned (.bool true) ∧ Upd (fun _ => False) w w' := by
  obtain ⟨wka, wkn, wkc, rfl⟩ := hwk.form
  obtain ⟨wea, wen, wec, rfl⟩ := hwe.form
  obtain ⟨oka, okn, okc, rfl⟩ := hok.form
  obtain ⟨oea, oen, oec, rfl⟩ := hoe.form
  obtain ⟨eva, evc, rfl, hevc⟩ := hev.sl.shape
  obtain ⟨wha, whn, whc, rfl⟩ := hwh.form
  have n1 := hwk.size
  have n2 := hwe.size
  have n3 := hok.size
  have n4 := hoe.size
  obtain ⟨key, end_, start, np, nd, pv⟩ := x
  obtain ⟨key', end_', start', np', nd', pv'⟩ := o
  simp only at g6 g7 n1 n2 n3 n4 lw1 lw2 lo1 lo2 hwk hwe hok hoe
  show Calls Try.prog 3 #[.int .i64 room, .int .i64 most, .agg #[.slice wka wkn wkc, .slice wea wen wec, .int .i64 start, .bool np, .bool nd, .bool pv], .agg #[.slice oka okn okc, .slice oea oen oec, .int .i64 start', .bool np', .bool nd', .bool pv'], .slice eva ws.length evc, .slice wha whn whc] w _
  obtain ⟨w0, hw0⟩ : ∃ w0, w0 = (w.alloc (.cells #[.slice wka wkn wkc, .slice wea wen wec, .int .i64 start, .bool np, .bool nd, .bool pv] 24)).alloc (.cells #[.slice oka okn okc, .slice oea oen oec, .int .i64 start', .bool np', .bool nd', .bool pv'] 24) := ⟨_, rfl⟩
  have hu0 : Upd (fun _ => False) w w0 := by rw [hw0]; exact (upd_alloc _ _ _).alloc _
  have hb8 : w0.heap[w.heap.size]? = some (.cells #[.slice wka wkn wkc, .slice wea wen wec, .int .i64 start, .bool np, .bool nd, .bool pv] 24 (0, 0)) := by
    rw [hw0]; exact (upd_alloc (fun _ => False) _ _).heap (heap_alloc w _).1 (fun x => x)
  have hb9 : w0.heap[w.heap.size + 1]? = some (.cells #[.slice oka okn okc, .slice oea oen oec, .int .i64 start', .bool np', .bool nd', .bool pv'] 24 (0, 0)) := by
    have h := (heap_alloc (w.alloc (.cells #[.slice wka wkn wkc, .slice wea wen wec, .int .i64 start, .bool np, .bool nd, .bool pv] 24)) (.cells #[.slice oka okn okc, .slice oea oen oec, .int .i64 start', .bool np', .bool nd', .bool pv'] 24)).1
    rw [← hw0] at h
    simpa using h
  have HB0 := Lib.hid (show w0.cell? ⟨w.heap.size, 0, none⟩ = some (.slice wka wkn wkc) ∧ w0.cell? ⟨w.heap.size, 1, none⟩ = some (.slice wea wen wec) ∧ w0.cell? ⟨w.heap.size + 1, 0, none⟩ = some (.slice oka okn okc) ∧ w0.cell? ⟨w.heap.size + 1, 1, none⟩ = some (.slice oea oen oec) from ⟨cell_of hb8 0, cell_of hb8 1, cell_of hb9 0, cell_of hb9 1⟩)
  have HU0 := Lib.hid hu0
  have HW0 := Lib.hid hw0
  have HB8 := Lib.hid hb8
  have HB9 := Lib.hid hb9
  clear hb8 hb9 hu0
  clear hw0
  have b1 : ¬ room < 1 := by omega
  have b2 : ¬ 4096 < room := by omega
  have b3 : ¬ most < 1 := by omega
  have b4 : ¬ 4096 < most := by omega
  have b5 : ¬ (30 : Int) < (ws.length : Int) := by omega
  have b6 : ¬ (300 : Int) < (wkn : Int) + (wen : Int) := by omega
  have b7 : ¬ (300 : Int) < (okn : Int) + (oen : Int) := by omega
  have HWK := Lib.hid hwk
  have HWE := Lib.hid hwe
  have HOK := Lib.hid hok
  have HOE := Lib.hid hoe
  have HEV := Lib.hid hev
  have HWH := Lib.hid hwh
  clear hwk hwe hok hoe hev hwh
  go_enter Try.func3, Try.ntmps3
  go_upto_region 1 with (fail)
  rw [← HW0.out]
  have hnew1 := fun W => new_ok 0 room most W (by decide) (by decide) g1 g2 g3 g4
  have HNEW := Lib.hid hnew1
  clear hnew1
  go_upto_region 3 with (first | (go_at_call 7; (with_reducible refine (lives_calls w0).mono ?_); rintro e w' ⟨rfl, hux⟩; have hz := hux.cell HB0.out.1 (fun x => x); have hz1 := hux.cell HB0.out.2.1 (fun x => x); have hz2 := hux.cell HB0.out.2.2.1 (fun x => x); have hz3 := hux.cell HB0.out.2.2.2 (fun x => x); have HUX := Lib.hid hux; have hnew := HNEW.out w'; clear hux))
  clear b1 b2 b3 b4 b5 b6 b7 hz hz1 hz2 hz3
  go_upto_region 4 with (first
    | (go_at_call 8; (with_reducible refine hnew.mono ?_); rintro e w1 ⟨ba, ma, oa, rfl, hha, hga, hua⟩; have hnew2 := HNEW.out w1)
    | (go_at_call 8; (with_reducible refine hnew2.mono ?_); rintro e w2 ⟨bb, mb, ob, rfl, hhb, hgb, hub⟩))
  have hT0 : Two w0 w2 ba ma bb mb (newHub 0 room most) (newHub 0 room most) (fun _ => False) := by
    refine ⟨oa, _, ob, _, hha.grow hub, hhb, fun q hq => ?_, fun q hq => Nat.le_trans HUX.out.size (hga q hq), fun q hq => Nat.le_trans (Nat.le_trans HUX.out.size hua.size) (hgb q hq), fun q hq => hq.elim, (HUX.out.trans hua).trans hub⟩
    cases e : ob q with
    | no => rfl
    | _ => have h1 := hgb q (by rw [e]; simp); have h2 := hha.lt q hq; omega
  clear hha hhb hga hgb hua hub hnew hnew2 HNEW
  have hw8 := hT0.upd.heap HB8.out (fun x => x)
  have hc1 := two_create w0 w2 ba ma bb mb _ _ _ hT0 (.slice wka wkn wkc) (.slice wea wen wec) ⟨key, end_, start, np, nd, pv⟩ (HWK.out.upd HU0.out (fun _ _ x => x)) (HWE.out.upd HU0.out (fun _ _ x => x)) lw1 lw2 (Int.le_refl 0) (by show (0 : Int) ≤ 4611686018427387904; decide) (Int.le_refl 0) (by show (0 : Int) ≤ 4611686018427387904; decide) (by show 0 < 16; decide) rfl
  have HC2 := Lib.hid (fun w3 Ha1 (hT1 : Two w0 w3 ba ma bb mb Ha1 (newHub 0 room most) (fun _ => False)) => two_create w0 w3 bb mb ba ma _ _ _ hT1.swap (.slice wka wkn wkc) (.slice wea wen wec) ⟨key, end_, start, np, nd, pv⟩ (HWK.out.upd HU0.out (fun _ _ x => x)) (HWE.out.upd HU0.out (fun _ _ x => x)) lw1 lw2 (Int.le_refl 0) (by show (0 : Int) ≤ 4611686018427387904; decide) (Int.le_refl 0) (by show (0 : Int) ≤ 4611686018427387904; decide) (by show 0 < 16; decide) rfl)
  have HC3 := Lib.hid (fun w4 Ha1 Hb1 (hT2 : Two w0 w4 bb mb ba ma Hb1 Ha1 (fun _ => False)) (r0 : 0 ≤ Hb1.rev) (r1 : Hb1.rev ≤ 4611686018427387904) (t0 : 0 ≤ Hb1.last) (t1 : Hb1.last ≤ 4611686018427387904) (hn : Hb1.n < 16) (hf : Hb1.f (Hb1.last + 1) = none) => two_create w0 w4 bb mb ba ma Hb1 Ha1 _ hT2 (.slice oka okn okc) (.slice oea oen oec) ⟨key', end_', start', np', nd', pv'⟩ (HOK.out.upd HU0.out (fun _ _ x => x)) (HOE.out.upd HU0.out (fun _ _ x => x)) lo1 lo2 r0 r1 t0 t1 hn hf)
  have HT0 := Lib.hid hT0
  clear hT0
  simp only [wcells] at hc1 HC2 HC3
  by_cases hokx : okW ⟨key, end_, start, np, nd, pv⟩ = true
  · have e1 : createZ (newHub 0 room most) ⟨key, end_, start, np, nd, pv⟩ = 1 := by unfold createZ; rw [if_pos hokx]; rfl
    have e2 : createG ⟨key, end_, start, np, nd, pv⟩ = 0 := by unfold createG; rw [if_pos hokx]
    have e3 : createH (newHub 0 room most) ⟨key, end_, start, np, nd, pv⟩ = (newHub 0 room most).more ⟨key, end_, start, np, nd, pv⟩ := by unfold createH; rw [if_pos hokx]
    have hf2 : ((newHub 0 room most).more ⟨key, end_, start, np, nd, pv⟩).f (((newHub 0 room most).more ⟨key, end_, start, np, nd, pv⟩).last + 1) = none := by rfl
    have hz1 : createZ ((newHub 0 room most).more ⟨key, end_, start, np, nd, pv⟩) ⟨key', end_', start', np', nd', pv'⟩ ≠ 1 := by
      unfold createZ
      split
      · show ((0 : Int) + 1) + 1 ≠ 1; decide
      · decide
    rw [e1, e2, e3] at hc1 HC2
    obtain ⟨H1, hH1⟩ : ∃ H1, H1 = (newHub 0 room most).more ⟨key, end_, start, np, nd, pv⟩ := ⟨_, rfl⟩
    have hp1 : PairOk room most 0 0 H1 (createH H1 ⟨key', end_', start', np', nd', pv'⟩) := by
      rw [hH1]; exact pair_start room most _ _
    have hH1r : H1.rev = 0 ∧ H1.last = 1 ∧ H1.n = 1 := by rw [hH1]; exact ⟨rfl, rfl, rfl⟩
    rw [← hH1] at hc1 HC2 hf2 hz1
    have HP1 := Lib.hid hp1
    have HF2 := Lib.hid hf2
    have HR1 := Lib.hid hH1r
    clear hp1 hf2 hH1r hH1 hokx e1 e2 e3
    generalize hz : createZ H1 ⟨key', end_', start', np', nd', pv'⟩ = z at *
    generalize hg : createG ⟨key', end_', start', np', nd', pv'⟩ = g at *
    clear hg
    go_upto_region 7 with (first
      | ((with_reducible refine wpl_load (ty := 24) hw8 Try.underlying24 ?_ ?_ ?_ ?_); rfl; rfl; kernel_rfl)
      | (go_at_call 9; (with_reducible refine hc1.mono ?_); rintro e w3 ⟨rfl, hT1⟩; have hc2 := HC2.out w3 H1 hT1; have hw83 := hT1.upd.heap HB8.out (fun x => x); clear hT1)
      | ((with_reducible refine wpl_load (ty := 24) hw83 Try.underlying24 ?_ ?_ ?_ ?_); rfl; rfl; kernel_rfl)
      | (go_at_call 9; (with_reducible refine hc2.mono ?_); rintro e w4 ⟨rfl, hT2⟩; have hc3 := HC3.out w4 H1 H1 hT2 (by rw [HR1.out.1]; decide) (by rw [HR1.out.1]; decide) (by rw [HR1.out.2.1]; decide) (by rw [HR1.out.2.1]; decide) (by rw [HR1.out.2.2]; decide) HF2.out; have hw94 := hT2.upd.heap HB9.out (fun x => x); clear hT2)
      | ((with_reducible refine wpl_load (ty := 24) hw94 Try.underlying24 ?_ ?_ ?_ ?_); rfl; rfl; kernel_rfl)
      | (go_at_call 9; (with_reducible refine hc3.mono ?_); rintro e w5 ⟨rfl, hT3⟩; have HT3 := Lib.hid hT3.swap; clear hT3))
    clear hc1 HC2 HC3 hw8 HT0
    go_wp2
    go_loopw [21, 108] (fun nn i wr => ∃ (k n : Nat) (Ha Hb : Hub), k ≤ ws.length ∧ i = .int .i64 k ∧ nn = .int .i64 n ∧ n ≤ 150 ∧ Two w0 wr ba ma bb mb Ha Hb (fun _ => False) ∧ PairOk room most k n Ha Hb) (fun _ i _ => ws.length - (intOf i).toNat)
    case atStart => exact ⟨0, 0, _, _, Nat.zero_le _, rfl, rfl, by decide, HT3.out, HP1.out⟩
    case round =>
      clear HT3 HP1
      obtain ⟨k, n, Ha, Hb, hk, rfl, rfl, hn, hT, hP⟩ := hrel
      have HT := Lib.hid hT
      have HP := Lib.hid hP
      have HUW := Lib.hid (HU0.out.trans hT.upd)
      clear hT hP
      by_cases hlt : k < ws.length
      · obtain ⟨eb, eo, cap, hee, hcap, hbk, -⟩ := HEV.out.sl.block (by omega)
        cases hee
        have hcell : wr.cell? ⟨eb, eo + k, none⟩ = some (.slice ws[k].a ws[k].ps.length ws[k].c) := by
          have h1 := HEV.out.sl.at wsenc_length k hlt 0 (by decide) (.slice ws[k].a ws[k].ps.length ws[k].c) rfl
          exact HUW.out.cell (by simpa using h1) (fun x => x)
        have hev0 := HEV.out.ev _ (List.getElem_mem hlt)
        have hevs := (HEV.out.ev _ (List.getElem_mem hlt)).grow HUW.out
        have hsh := HEV.out.short _ (List.getElem_mem hlt)
        have hpl := HEV.out.len _ (List.getElem_mem hlt)
        generalize ws[k] = s at *
        obtain ⟨sa, sc, ps⟩ := s
        simp only at hcell hevs hsh hpl hev0
        have HE0 := Lib.hid hev0
        clear hev0
        have hal := (heap_alloc wr (.cells (actE sa ps.length sc) 35)).1
        have hau := upd_alloc (fun _ => False) wr (.cells (actE sa ps.length sc) 35)
        have hfew := few1_calls wr.heap.size sa sc ps (fun _ => True) _ hal (hevs.grow hau) hpl hsh
        have x0 : (0 : Int) ≤ (k : Int) := by omega
        have x1 : (k : Int) < (ws.length : Int) := by omega
        have kmin : ∀ (W : World) (ats : Array TypeId) (ty : TypeId), (Builtin.min_ ats ty #[.int .i64 (ps.length : Int), .int .i64 200]).run Try.prog W = .ok (.int .i64 (if (200 : Int) < (ps.length : Int) then (200 : Int) else (ps.length : Int))) W := fun W ats ty => by
          simp only [Builtin.min_, List.foldlM_cons, List.foldlM_nil, Builtin.min2, Sem.run_bind, Sem.run_pure, Result.andThen_ok]
        have HAU := Lib.hid hau
        have HES := Lib.hid hevs
        clear hal hau hevs hsh
        by_cases hbig : 150 < n + ps.length
        · obtain ⟨mn, hmn⟩ : ∃ mn : Int, mn = if (200 : Int) < (ps.length : Int) then (200 : Int) else (ps.length : Int) := ⟨_, rfl⟩
          have m0 : 150 < (n : Int) + mn := by rw [hmn]; split <;> omega
          have m1 : mn ≤ 200 := by rw [hmn]; split <;> omega
          rw [← hmn] at kmin
          clear hmn hbig hfew
          go_wp2
          go_ret
          exact ⟨rfl, HUW.out⟩
        · have hmn : (if (200 : Int) < (ps.length : Int) then (200 : Int) else (ps.length : Int)) = (ps.length : Int) := if_neg (by omega)
          rw [hmn] at kmin
          have m0 : ¬ 150 < (n : Int) + (ps.length : Int) := by omega
          have hps : ps.length ≤ 150 := by omega
          cases hfl : fewL (ps.map EvP.x) with
          | false =>
            rw [hfl] at hfew
            clear hfl hmn hbig
            go_wp2_with (go_at_call 10; (with_reducible refine hfew.mono ?_); rintro e wf ⟨rfl, huf⟩)
            go_ret
            exact ⟨rfl, (HUW.out.trans HAU.out).trans huf⟩
          | true =>
            rw [hfl] at hfew
            have HTY := Lib.hid (show ∀ p ∈ ps, p.x.Tiny from fun p hp => fewE_tiny (List.all_eq_true.1 hfl p.x (List.mem_map_of_mem hp)))
            clear hfl hmn
            go_upto_region 16 with (go_at_call 10; (with_reducible refine hfew.mono ?_); rintro e wf ⟨rfl, huf⟩)
            clear hfew kmin m0
            have HTF := Lib.hid ((HT.out.grow HAU.out).grow huf)
            have HEF := Lib.hid ((HES.out.grow HAU.out).grow huf)
            clear huf
            have hwsz := HWH.out.size
            by_cases hw : k < when.length
            · rcases HWH.out with (⟨_, rfl⟩ | ⟨yb, yo, ycap, hye, hyc, hyl, hyy⟩) | ⟨rfl, _⟩
              · exact absurd hw (Nat.not_lt_zero _)
              · cases hye
                have hcy : wf.cell? ⟨yb, yo + k, none⟩ = some (.int .u8 (when[k].toNat : Int)) := (HTF.out.upd).cell (HU0.out.cell (hyy k hw) (fun x => x)) (fun x => x)
                have y1 : (k : Int) < (when.length : Int) := by omega
                generalize (when[k].toNat : Int) = y at *
                clear hyy hyc hyl
                go_upto_region 19 with (fail)
                clear hcy y1
                have hat1 := at_calls (.slice sa ps.length sc) ps ((k : Int) + 1) (fun _ => True) wf HEF.out HTY.out (by omega)
                have HK1 := Lib.hid (HP.out.hok g1 g2 g3 g4 (by omega))
                go_upto_region 20 with (first
                  | (go_at_call 12; (with_reducible refine hat1.mono ?_); rintro e wa ⟨a1, c1, rs1, J1, rfl, hx1, hr1, hu1⟩; have hnt1 := two_notify w0 wf wa ba ma bb mb Ha Hb _ HTF.out hu1 ((k : Int) + 1) a1 c1 rs1 J1 hr1 (at_small hx1 HTY.out) HK1.out.1 (by rw [at_len hx1]; omega) (by rw [HP.out.ra]) (by omega) (by rw [hx1]; exact allMod_at _ _) n HP.out.ia (by omega); rw [hx1] at hnt1; clear hu1 hr1)
                  | (go_at_call 11; (with_reducible refine hnt1.mono ?_); rintro e wn ⟨rfl, hT1⟩))
                have hat2 := at_calls (.slice sa ps.length sc) ps ((k : Int) + 1) (fun _ => True) wn (HE0.out.grow (HU0.out.trans hT1.upd)) HTY.out (by omega)
                have HT1 := Lib.hid hT1
                clear hT1 hat1 hnt1 hx1
                go_upto_region 21 with (first
                  | (go_at_call 12; (with_reducible refine hat2.mono ?_); rintro e wb ⟨a2, c2, rs2, J2, rfl, hx2, hr2, hu2⟩; have hnt2 := two_notify w0 wn wb bb mb ba ma Hb _ _ HT1.out.swap hu2 ((k : Int) + 1) a2 c2 rs2 J2 hr2 (at_small hx2 HTY.out) HK1.out.2 (by rw [at_len hx2]; omega) (by rw [HP.out.rb]) (by omega) (by rw [hx2]; exact allMod_at _ _) n HP.out.ib (by omega); rw [hx2] at hnt2; clear hu2 hr2)
                  | (go_at_call 11; (with_reducible refine hnt2.mono ?_); rintro e wm ⟨rfl, hT2⟩))
                have HT2 := Lib.hid hT2.swap
                have HP2 := Lib.hid (HP.out.notified ((ps.map EvP.x).map (withMod ((k : Int) + 1))))
                have hll : ((ps.map EvP.x).map (withMod ((k : Int) + 1))).length = ps.length := by simp
                rw [hll] at HP2
                clear hT2 hat2 hnt2 hx2 HT1 hll
                generalize Ha.notified ((k : Int) + 1) ((ps.map EvP.x).map (withMod ((k : Int) + 1))) = Ha2 at *
                generalize Hb.notified ((k : Int) + 1) ((ps.map EvP.x).map (withMod ((k : Int) + 1))) = Hb2 at *
                have hdz := two_drain w0 wm bb mb ba ma Hb2 Ha2 _ HT2.out.swap z (n + ps.length) HP2.out.ib (by omega)
                go_upto_region 23 with (go_at_call 13; (with_reducible refine hdz.mono ?_); rintro e wz ⟨az, cz, rz, Jz, rfl, -, hTz, -, -, -⟩; have HT2 := Lib.hid (hTz.swap.free (G := fun _ => False) (fun _ h => h.elim)); have HP2 := Lib.hid (HP2.out.other hz1); clear hTz)
                all_goals
                  obtain ⟨Hb3, hT3, hP3⟩ := (⟨_, HT2.out, HP2.out⟩ : ∃ Hb3, Two w0 _ ba ma bb mb Ha2 Hb3 (fun _ => False) ∧ PairOk room most (k + 1) (n + ps.length) Ha2 Hb3)
                  have HT3 := Lib.hid hT3
                  have HP3 := Lib.hid hP3
                  clear hT3 hP3 HT2 HP2 hdz
                  by_cases hb2 : bits BinOp.and IntKind.u8 y 2 = 2
                  · have hda := two_drain _ _ ba ma bb mb Ha2 Hb3 _ HT3.out 1 (n + ps.length) HP3.out.ia (by omega)
                    obtain ⟨-, q2, q3⟩ := drainH_at HP3.out.f1 (HP3.out.ma.trans HP3.out.mb.symm)
                    generalize hok1 : drainOk Ha2 1 = okv at *
                    generalize hiv : (if okv = true then (1 : Int) else 0) = iv at *
                    go_upto_region 27 with (first
                      | (go_at_call 13; (with_reducible refine hda.mono ?_); rintro e wd ⟨a3, c3, r3, J3, rfl, hx3, hTd, he3, hb3, -⟩; have hz4 := (heap_alloc wd (.cells #[.int .i64 0, .slice none 0 0, .bool false, .int .i64 0, .bool false, .int .i64 0] 40)).1; have huz4 := upd_alloc (fun _ => False) wd (.cells #[.int .i64 0, .slice none 0 0, .bool false, .int .i64 0, .bool false, .int .i64 0] 40); have HTD := Lib.hid hTd; have HE3 := Lib.hid he3; have HB3 := Lib.hid hb3; clear hTd he3 hb3)
                      | ((with_reducible refine wpl_store (ty := 40) (cs := #[.int .i64 iv, .slice a3 r3.length c3, .bool false, .int .i64 0, .bool false, .int .i64 0]) hz4 ?_ ?_ ?_ ?_ ?_ ?_); rfl; rfl; rfl; kernel_rfl; rfl; intro w7 hq7 hu7 hs7 hd7; have hw7 : Upd (fun _ => False) wd w7 := huz4.trans' hu7 (fun x hx e => by omega); have hdb := two_drain _ _ bb mb ba ma Hb3 _ _ (HTD.out.fresh hw7).swap 1 (n + ps.length) HP3.out.ib (by omega); rw [← q2, hiv] at hdb; have HW7 := Lib.hid hw7; have HQ7 := Lib.hid hq7; clear hw7 hu7 hq7)
                      | (go_at_call 13; (with_reducible refine hdb.mono ?_); rintro e wf2 ⟨a5, c5, r5, J5, rfl, hx5, hTf, he5, hb5, hu5⟩; have hq8 := hu5.heap HQ7.out (fun hn => hn (.inr ⟨Nat.le_refl _, lt_of_heap HQ7.out⟩)); have hz6 := (heap_alloc wf2 (.cells #[.int .i64 0, .slice none 0 0, .bool false, .int .i64 0, .bool false, .int .i64 0] 40)).1; have huz6 := upd_alloc (fun _ => False) wf2 (.cells #[.int .i64 0, .slice none 0 0, .bool false, .int .i64 0, .bool false, .int .i64 0] 40); have HTF2 := Lib.hid hTf; have HE5 := Lib.hid he5; have HB5 := Lib.hid hb5; have HU5 := Lib.hid hu5; clear hTf he5 hb5 hu5)
                      | ((with_reducible refine wpl_store (ty := 40) (cs := #[.int .i64 iv, .slice a5 r5.length c5, .bool false, .int .i64 0, .bool false, .int .i64 0]) hz6 ?_ ?_ ?_ ?_ ?_ ?_); rfl; rfl; rfl; kernel_rfl; rfl; intro w9 hq9 hu9 hs9 hd9; have hw9 : Upd (fun _ => False) wf2 w9 := huz6.trans' hu9 (fun x hx e => by omega); have hq10 := hw9.heap hq8 (fun x => x); have k10 := cell_of hq10 0; have k11 := free_of hq10 0; have k12 := cell_of hq9 0; have k13 := free_of hq9 0; have HW9 := Lib.hid hw9; have k14 : wd.heap.size ≠ wf2.heap.size := Nat.ne_of_lt (Nat.lt_of_lt_of_le (lt_of_heap HQ7.out) HU5.out.size); have k15 := Ne.symm k14; clear hw9 hu9))
                    have hq11 := heap_setCell_at hq10 0 (.int .i64 0)
                    have hq12 := (heap_setCell_ne (.int .i64 0) (show wd.heap.size ≠ (⟨wf2.heap.size, 0, none⟩ : Addr).block from k14)).trans hq11
                    have hq13 := heap_setCell_at ((heap_setCell_ne (.int .i64 0) (show wf2.heap.size ≠ (⟨wd.heap.size, 0, none⟩ : Addr).block from k15)).trans hq9) 0 (.int .i64 0)
                    simp only [List.setIfInBounds_toArray, List.set_cons_zero] at hq12 hq13
                    have hu14 : Upd (fun q => q = wd.heap.size ∨ q = wf2.heap.size) w9 ((w9.setCell ⟨wd.heap.size, 0, none⟩ (.int .i64 0)).setCell ⟨wf2.heap.size, 0, none⟩ (.int .i64 0)) := (upd_setCell (fun q => q = wd.heap.size ∨ q = wf2.heap.size) w9 ⟨wd.heap.size, 0, none⟩ _ (.inl rfl)).trans (upd_setCell (fun q => q = wd.heap.size ∨ q = wf2.heap.size) _ ⟨wf2.heap.size, 0, none⟩ _ (.inr rfl))
                    have s1 := HTD.out.upd.size
                    have s2 := HTF2.out.upd.size
                    have s3 := lt_of_heap HQ7.out
                    have s4 := HU5.out.size
                    have hT9 := (HTF2.out.fresh HW9.out).touch hu14 (fun q hq => by
                      rcases hq with e | e
                      · rw [e]; exact ⟨.inl (.inl (.inr ⟨Nat.le_refl _, s3⟩)), s1⟩
                      · rw [e]; exact ⟨.inr ⟨Nat.le_refl _, lt_of_heap hq9⟩, s2⟩)
                    have he3' := (((HE3.out.grow HW7.out).upd HU5.out (fun q hq hn => hn (.inl (.inr (.inr hq)))) (fun q hq hn => hn (.inl (.inr (.inl hq))))).grow HW9.out).upd hu14 (fun q hq e => by have := HB3.out q (.inr hq); rcases e with e | e <;> omega) (fun q hq e => by have := HB3.out q (.inl hq); rcases e with e | e <;> omega)
                    have he5' := (HE5.out.grow HW9.out).upd hu14 (fun q hq e => by have := HB5.out q (.inr hq); rcases e with e | e <;> omega) (fun q hq e => by have := HB5.out q (.inl hq); rcases e with e | e <;> omega)
                    have hsb := sameb_true 0 0 0 false false a3 a5 r3.length c3 r5.length c5 r3 r5 _ _ _ he3' he5' (by rw [hx3, hx5, q3]) (by
                      have h1 := congrArg List.length hx3
                      rw [List.length_map] at h1
                      rw [h1]
                      unfold drainE
                      cases hxx : Ha2.f 1 with
                      | none => exact Nat.zero_le _
                      | some xx => have h2 := (HP3.out.ia 1 xx hxx).2; show (xx.buf.take _).length ≤ _; rw [List.length_take]; omega)
                    have HT9 := Lib.hid (hT9.swap.free (G := fun _ => False) (fun _ h => h.elim))
                    have HP9 := Lib.hid HP3.out.both
                    have k30 : (okv != okv) = false := by simp
                    clear hq10 hq11 hq9 hq8 hu14 he3' he5' hT9 k10 k11 k12 k13 hx3 hx5 hz4 huz4 hz6 huz6 q2 q3 hok1 hiv hda hdb
                    generalize (w9.setCell ⟨wd.heap.size, 0, none⟩ (.int .i64 0)).setCell ⟨wf2.heap.size, 0, none⟩ (.int .i64 0) = w10 at *
                    have m0 : w10.cell? ⟨wd.heap.size, 0, none⟩ = some (.int .i64 0) := cell_of hq12 0
                    have m1 : w10.cell? ⟨wd.heap.size, 1, none⟩ = some (.slice a3 r3.length c3) := cell_of hq12 1
                    have m2 : w10.cell? ⟨wd.heap.size, 2, none⟩ = some (.bool false) := cell_of hq12 2
                    have m3 : w10.cell? ⟨wd.heap.size, 3, none⟩ = some (.int .i64 0) := cell_of hq12 3
                    have m4 : w10.cell? ⟨wd.heap.size, 4, none⟩ = some (.bool false) := cell_of hq12 4
                    have m5 : w10.cell? ⟨wd.heap.size, 5, none⟩ = some (.int .i64 0) := cell_of hq12 5
                    have p0 : w10.cell? ⟨wf2.heap.size, 0, none⟩ = some (.int .i64 0) := cell_of hq13 0
                    have p1 : w10.cell? ⟨wf2.heap.size, 1, none⟩ = some (.slice a5 r5.length c5) := cell_of hq13 1
                    have p2 : w10.cell? ⟨wf2.heap.size, 2, none⟩ = some (.bool false) := cell_of hq13 2
                    have p3 : w10.cell? ⟨wf2.heap.size, 3, none⟩ = some (.int .i64 0) := cell_of hq13 3
                    have p4 : w10.cell? ⟨wf2.heap.size, 4, none⟩ = some (.bool false) := cell_of hq13 4
                    have p5 : w10.cell? ⟨wf2.heap.size, 5, none⟩ = some (.int .i64 0) := cell_of hq13 5
                    clear hq12 hq13
                    go_upto_region 29 with (go_at_call 14; (with_reducible refine hsb.mono ?_); rintro e w11 ⟨rfl, hu15⟩; have hT10 := HT9.out.grow hu15)
                    obtain ⟨Ha4, Hb4, hT4, hP4⟩ := (⟨_, _, hT10, HP9.out⟩ : ∃ Ha4 Hb4, Two w0 _ ba ma bb mb Ha4 Hb4 (fun _ => False) ∧ PairOk room most (k + 1) (n + ps.length) Ha4 Hb4)
                    have HP4 := Lib.hid hP4
                    obtain ⟨q5, q6⟩ := hP4.same
                    have hs1 := two_synced _ _ ba ma bb mb Ha4 Hb4 _ hT4 1
                    have hs2 := fun w' (h : Two w0 w' bb mb ba ma Hb4 Ha4 (fun _ => False)) => two_synced w0 w' bb mb ba ma Hb4 Ha4 _ h 1
                    have hp1 := fun w' (h : Two w0 w' ba ma bb mb Ha4 Hb4 (fun _ => False)) => two_pending w0 w' ba ma bb mb Ha4 Hb4 _ h 1
                    have hp2 := fun w' (h : Two w0 w' bb mb ba ma Hb4 Ha4 (fun _ => False)) => two_pending w0 w' bb mb ba ma Hb4 Ha4 _ h 1
                    simp only [← q5] at hs2
                    simp only [← q6] at hp2
                    clear q5 q6 hT4 hP4
                    generalize syncedB Ha4 1 = sy at hs1 hs2
                    generalize pendN Ha4 1 = pe at hp1 hp2
                    have k20 : (sy != sy) = false := by simp
                    have k21 : ((pe : Int) != (pe : Int)) = false := by simp
                    have HS2 := Lib.hid hs2
                    have HQ1 := Lib.hid hp1
                    have HQ2 := Lib.hid hp2
                    clear hs2 hp1 hp2
                    go_wp2_with (first
                      | (go_at_call 15; (with_reducible refine hs1.mono ?_); rintro e ws1 ⟨rfl, hTs⟩; have hs3 := HS2.out _ hTs.swap; clear hTs)
                      | (go_at_call 15; (with_reducible refine hs3.mono ?_); rintro e ws2 ⟨rfl, hTt⟩; have HTT := Lib.hid hTt.swap; clear hTt; have hp3 := HQ1.out _ HTT.out; have hp4 := HQ2.out _ HTT.out.swap)
                      | (go_at_call 16; (with_reducible refine hp3.mono ?_); rintro e ws3 ⟨rfl, rfl⟩)
                      | (go_at_call 16; (with_reducible refine hp4.mono ?_); rintro e ws4 ⟨rfl, rfl⟩))
                    go_roundw
                    case rel => exact ⟨k + 1, n + ps.length, Ha4, Hb4, by omega, by go_num, by go_num, by omega, HTT.out, HP4.out⟩
                    case measure => simp [intOf]; omega
                  · go_upto_region 29 with (fail)
                    obtain ⟨Ha4, Hb4, hT4, hP4⟩ := (⟨_, _, HT3.out, HP3.out⟩ : ∃ Ha4 Hb4, Two w0 _ ba ma bb mb Ha4 Hb4 (fun _ => False) ∧ PairOk room most (k + 1) (n + ps.length) Ha4 Hb4)
                    have HP4 := Lib.hid hP4
                    obtain ⟨q5, q6⟩ := hP4.same
                    have hs1 := two_synced _ _ ba ma bb mb Ha4 Hb4 _ hT4 1
                    have hs2 := fun w' (h : Two w0 w' bb mb ba ma Hb4 Ha4 (fun _ => False)) => two_synced w0 w' bb mb ba ma Hb4 Ha4 _ h 1
                    have hp1 := fun w' (h : Two w0 w' ba ma bb mb Ha4 Hb4 (fun _ => False)) => two_pending w0 w' ba ma bb mb Ha4 Hb4 _ h 1
                    have hp2 := fun w' (h : Two w0 w' bb mb ba ma Hb4 Ha4 (fun _ => False)) => two_pending w0 w' bb mb ba ma Hb4 Ha4 _ h 1
                    simp only [← q5] at hs2
                    simp only [← q6] at hp2
                    clear q5 q6 hT4 hP4
                    generalize syncedB Ha4 1 = sy at hs1 hs2
                    generalize pendN Ha4 1 = pe at hp1 hp2
                    have k20 : (sy != sy) = false := by simp
                    have k21 : ((pe : Int) != (pe : Int)) = false := by simp
                    have HS2 := Lib.hid hs2
                    have HQ1 := Lib.hid hp1
                    have HQ2 := Lib.hid hp2
                    clear hs2 hp1 hp2
                    go_wp2_with (first
                      | (go_at_call 15; (with_reducible refine hs1.mono ?_); rintro e ws1 ⟨rfl, hTs⟩; have hs3 := HS2.out _ hTs.swap; clear hTs)
                      | (go_at_call 15; (with_reducible refine hs3.mono ?_); rintro e ws2 ⟨rfl, hTt⟩; have HTT := Lib.hid hTt.swap; clear hTt; have hp3 := HQ1.out _ HTT.out; have hp4 := HQ2.out _ HTT.out.swap)
                      | (go_at_call 16; (with_reducible refine hp3.mono ?_); rintro e ws3 ⟨rfl, rfl⟩)
                      | (go_at_call 16; (with_reducible refine hp4.mono ?_); rintro e ws4 ⟨rfl, rfl⟩))
                    go_roundw
                    case rel => exact ⟨k + 1, n + ps.length, Ha4, Hb4, by omega, by go_num, by go_num, by omega, HTT.out, HP4.out⟩
                    case measure => simp [intOf]; omega
              · exact absurd hw (Nat.not_lt_zero _)
            · have y1 : ¬ (k : Int) < (whn : Int) := by omega
              go_upto_region 19 with (fail)
              clear y1
              have hat1 := at_calls (.slice sa ps.length sc) ps ((k : Int) + 1) (fun _ => True) wf HEF.out HTY.out (by omega)
              have HK1 := Lib.hid (HP.out.hok g1 g2 g3 g4 (by omega))
              go_upto_region 20 with (first
                | (go_at_call 12; (with_reducible refine hat1.mono ?_); rintro e wa ⟨a1, c1, rs1, J1, rfl, hx1, hr1, hu1⟩; have hnt1 := two_notify w0 wf wa ba ma bb mb Ha Hb _ HTF.out hu1 ((k : Int) + 1) a1 c1 rs1 J1 hr1 (at_small hx1 HTY.out) HK1.out.1 (by rw [at_len hx1]; omega) (by rw [HP.out.ra]) (by omega) (by rw [hx1]; exact allMod_at _ _) n HP.out.ia (by omega); rw [hx1] at hnt1; clear hu1 hr1)
                | (go_at_call 11; (with_reducible refine hnt1.mono ?_); rintro e wn ⟨rfl, hT1⟩))
              have hat2 := at_calls (.slice sa ps.length sc) ps ((k : Int) + 1) (fun _ => True) wn (HE0.out.grow (HU0.out.trans hT1.upd)) HTY.out (by omega)
              have HT1 := Lib.hid hT1
              clear hT1 hat1 hnt1 hx1
              go_upto_region 21 with (first
                | (go_at_call 12; (with_reducible refine hat2.mono ?_); rintro e wb ⟨a2, c2, rs2, J2, rfl, hx2, hr2, hu2⟩; have hnt2 := two_notify w0 wn wb bb mb ba ma Hb _ _ HT1.out.swap hu2 ((k : Int) + 1) a2 c2 rs2 J2 hr2 (at_small hx2 HTY.out) HK1.out.2 (by rw [at_len hx2]; omega) (by rw [HP.out.rb]) (by omega) (by rw [hx2]; exact allMod_at _ _) n HP.out.ib (by omega); rw [hx2] at hnt2; clear hu2 hr2)
                | (go_at_call 11; (with_reducible refine hnt2.mono ?_); rintro e wm ⟨rfl, hT2⟩))
              have HT2 := Lib.hid hT2.swap
              have HP2 := Lib.hid (HP.out.notified ((ps.map EvP.x).map (withMod ((k : Int) + 1))))
              have hll : ((ps.map EvP.x).map (withMod ((k : Int) + 1))).length = ps.length := by simp
              rw [hll] at HP2
              clear hT2 hat2 hnt2 hx2 HT1 hll
              generalize Ha.notified ((k : Int) + 1) ((ps.map EvP.x).map (withMod ((k : Int) + 1))) = Ha2 at *
              generalize Hb.notified ((k : Int) + 1) ((ps.map EvP.x).map (withMod ((k : Int) + 1))) = Hb2 at *
              go_upto_region 29 with (fail)
              obtain ⟨Ha4, Hb4, hT4, hP4⟩ := (⟨_, _, HT2.out, HP2.out⟩ : ∃ Ha4 Hb4, Two w0 _ ba ma bb mb Ha4 Hb4 (fun _ => False) ∧ PairOk room most (k + 1) (n + ps.length) Ha4 Hb4)
              have HP4 := Lib.hid hP4
              obtain ⟨q5, q6⟩ := hP4.same
              have hs1 := two_synced _ _ ba ma bb mb Ha4 Hb4 _ hT4 1
              have hs2 := fun w' (h : Two w0 w' bb mb ba ma Hb4 Ha4 (fun _ => False)) => two_synced w0 w' bb mb ba ma Hb4 Ha4 _ h 1
              have hp1 := fun w' (h : Two w0 w' ba ma bb mb Ha4 Hb4 (fun _ => False)) => two_pending w0 w' ba ma bb mb Ha4 Hb4 _ h 1
              have hp2 := fun w' (h : Two w0 w' bb mb ba ma Hb4 Ha4 (fun _ => False)) => two_pending w0 w' bb mb ba ma Hb4 Ha4 _ h 1
              simp only [← q5] at hs2
              simp only [← q6] at hp2
              clear q5 q6 hT4 hP4
              generalize syncedB Ha4 1 = sy at hs1 hs2
              generalize pendN Ha4 1 = pe at hp1 hp2
              have k20 : (sy != sy) = false := by simp
              have k21 : ((pe : Int) != (pe : Int)) = false := by simp
              have HS2 := Lib.hid hs2
              have HQ1 := Lib.hid hp1
              have HQ2 := Lib.hid hp2
              clear hs2 hp1 hp2
              go_wp2_with (first
                | (go_at_call 15; (with_reducible refine hs1.mono ?_); rintro e ws1 ⟨rfl, hTs⟩; have hs3 := HS2.out _ hTs.swap; clear hTs)
                | (go_at_call 15; (with_reducible refine hs3.mono ?_); rintro e ws2 ⟨rfl, hTt⟩; have HTT := Lib.hid hTt.swap; clear hTt; have hp3 := HQ1.out _ HTT.out; have hp4 := HQ2.out _ HTT.out.swap)
                | (go_at_call 16; (with_reducible refine hp3.mono ?_); rintro e ws3 ⟨rfl, rfl⟩)
                | (go_at_call 16; (with_reducible refine hp4.mono ?_); rintro e ws4 ⟨rfl, rfl⟩))
              go_roundw
              case rel => exact ⟨k + 1, n + ps.length, Ha4, Hb4, by omega, by go_num, by go_num, by omega, HTT.out, HP4.out⟩
              case measure => simp [intOf]; omega
      · obtain rfl : k = ws.length := by omega
        go_wp2
        go_ret
        exact ⟨rfl, HUW.out⟩
  · have e1 : createG ⟨key, end_, start, np, nd, pv⟩ = 1 := by unfold createG; rw [if_neg hokx]
    have e3 : createH (newHub 0 room most) ⟨key, end_, start, np, nd, pv⟩ = newHub 0 room most := by unfold createH; rw [if_neg hokx]
    rw [e1, e3] at hc1 HC2
    have HF2 := Lib.hid (show (newHub 0 room most).f ((newHub 0 room most).last + 1) = none from rfl)
    generalize createG ⟨key', end_', start', np', nd', pv'⟩ = g at *
    clear hokx e1 e3
    go_wp2_with (first
      | ((with_reducible refine wpl_load (ty := 24) hw8 Try.underlying24 ?_ ?_ ?_ ?_); rfl; rfl; kernel_rfl)
      | (go_at_call 9; (with_reducible refine hc1.mono ?_); rintro e w3 ⟨rfl, hT1⟩; have hc2 := HC2.out w3 _ hT1; have hw83 := hT1.upd.heap HB8.out (fun x => x); clear hT1)
      | ((with_reducible refine wpl_load (ty := 24) hw83 Try.underlying24 ?_ ?_ ?_ ?_); rfl; rfl; kernel_rfl)
      | (go_at_call 9; (with_reducible refine hc2.mono ?_); rintro e w4 ⟨rfl, hT2⟩; have hc3 := HC3.out w4 _ _ hT2 (Int.le_refl 0) (by show (0 : Int) ≤ 4611686018427387904; decide) (Int.le_refl 0) (by show (0 : Int) ≤ 4611686018427387904; decide) (by show 0 < 16; decide) HF2.out; have hw94 := hT2.upd.heap HB9.out (fun x => x); clear hT2)
      | ((with_reducible refine wpl_load (ty := 24) hw94 Try.underlying24 ?_ ?_ ?_ ?_); rfl; rfl; kernel_rfl)
      | (go_at_call 9; (with_reducible refine hc3.mono ?_); rintro e w5 ⟨rfl, hT3⟩; have HT3 := Lib.hid hT3.swap; clear hT3))
    go_ret
    exact ⟨rfl, HU0.out.trans HT3.out.upd⟩

end Go.Proofs.Ytidpiojanajpoaa
