/-
  WatchLate: the walk where the arguments are in their bounds.
-/
import Derived.Deep.CutRange
import Derived.Deep.RegionHeld3
import Derived.Deep.QuietTactic
import Derived.IntWalk
import Derived.Test.YtidpiojanajpoaaLateS
import Derived.Test.YtidpiojanajpoaaApartP
namespace Go.Proofs.Ytidpiojanajpoaa
open Go.RowKit Go.Tb Go.MapKept Go.ChangeMaps
set_option linter.unusedVariables false

/-- Behind the place where the second watcher is made. -/
def Sec (z : Value) (Lt k : Nat) (Z : Bool → Int → Prop) : Prop := ∃ (cb : Bool) (zi : Int), z = .int .i64 zi ∧ (cb = true → Lt ≤ k) ∧ (cb = false → k < Lt) ∧ Z cb zi

set_option maxRecDepth 100000 in
set_option maxHeartbeats 8000000 in
theorem late_good (room most : Int) (wk we : Value) (x : Wt) (va : Value) (late : Int) (ws : List WsP) (w : World) (hwk : Bytes w wk x.key) (hwe : Bytes w we x.end_) (lw1 : x.key.length ≤ 140737488355328) (lw2 : x.end_.length ≤ 140737488355328)
    (hev : Wss w va ws) (hlt0 : -9223372036854775808 ≤ late) (hlt1 : late ≤ 9223372036854775807) (g1 : 1 ≤ room) (g2 : room ≤ 4096) (g3 : 1 ≤ most) (g4 : most ≤ 4096) (g5 : ws.length ≤ 30) (g6 : x.key.length + x.end_.length ≤ 300) :
    Calls Try.prog 4 #[.int .i64 room, .int .i64 most, .agg (wcells wk we x), va, .int .i64 late] w fun e w' => e = .returned (.bool true) ∧ Upd (fun _ => False) w w' := by
  obtain ⟨wka, wkn, wkc, rfl⟩ := hwk.form
  obtain ⟨wea, wen, wec, rfl⟩ := hwe.form
  obtain ⟨eva, evc, rfl, hevc⟩ := hev.sl.shape
  have n1 := hwk.size
  have n2 := hwe.size
  obtain ⟨key, end_, start, np, nd, pv⟩ := x
  simp only at g6 n1 n2 lw1 lw2 hwk hwe
  show Calls Try.prog 4 #[.int .i64 room, .int .i64 most, .agg #[.slice wka wkn wkc, .slice wea wen wec, .int .i64 start, .bool np, .bool nd, .bool pv], .slice eva ws.length evc, .int .i64 late] w _
  obtain ⟨w0, hw0⟩ : ∃ w0, w0 = w.alloc (.cells #[.slice wka wkn wkc, .slice wea wen wec, .int .i64 start, .bool np, .bool nd, .bool pv] 24) := ⟨_, rfl⟩
  have hu0 : Upd (fun _ => False) w w0 := by rw [hw0]; exact upd_alloc _ _ _
  have hb8 : w0.heap[w.heap.size]? = some (.cells #[.slice wka wkn wkc, .slice wea wen wec, .int .i64 start, .bool np, .bool nd, .bool pv] 24 (0, 0)) := by
    rw [hw0]; exact (heap_alloc w _).1
  have HB0 := Lib.hid (show w0.cell? ⟨w.heap.size, 0, none⟩ = some (.slice wka wkn wkc) ∧ w0.cell? ⟨w.heap.size, 1, none⟩ = some (.slice wea wen wec) ∧ w0.cell? ⟨w.heap.size, 2, none⟩ = some (.int .i64 start) from ⟨cell_of hb8 0, cell_of hb8 1, cell_of hb8 2⟩)
  have HU0 := Lib.hid hu0
  have HW0 := Lib.hid hw0
  have HB8 := Lib.hid hb8
  clear hb8 hu0
  clear hw0
  have b1 : ¬ room < 1 := by omega
  have b2 : ¬ 4096 < room := by omega
  have b3 : ¬ most < 1 := by omega
  have b4 : ¬ 4096 < most := by omega
  have b5 : ¬ (30 : Int) < (ws.length : Int) := by omega
  have b6 : ¬ (300 : Int) < (wkn : Int) + (wen : Int) := by omega
  have HWK := Lib.hid hwk
  have HWE := Lib.hid hwe
  have HEV := Lib.hid hev
  clear hwk hwe hev
  go_enter Try.func4, Try.ntmps4
  go_upto_region 1 with (fail)
  rw [← HW0.out]
  have hnew1 := fun W => new_ok 0 room most W (by decide) (by decide) g1 g2 g3 g4
  have HNEW := Lib.hid hnew1
  clear hnew1
  go_upto_region 3 with (first | (go_at_call 7; (with_reducible refine (lives_calls w0).mono ?_); rintro e w' ⟨rfl, hux⟩; have hz := hux.cell HB0.out.1 (fun x => x); have hz1 := hux.cell HB0.out.2.1 (fun x => x); have HUX := Lib.hid hux; have hnew := HNEW.out w'; clear hux))
  clear b1 b2 b3 b4 b5 b6 hz hz1
  generalize hq1 : decide (room < 1) = q1 at *
  generalize hq2 : decide (4096 < room) = q2 at *
  generalize hq3 : decide (most < 1) = q3 at *
  generalize hq4 : decide (4096 < most) = q4 at *
  generalize hq5 : decide ((30 : Int) < (ws.length : Int)) = q5 at *
  generalize hq6 : decide ((300 : Int) < (wkn : Int) + (wen : Int)) = q6 at *
  clear hq1 hq2 hq3 hq4 hq5 hq6
  go_upto_region 4 with (first
    | (go_at_call 8; (with_reducible refine hnew.mono ?_); rintro e w1 ⟨ba, ma, oa, rfl, hha, hga, hua⟩; have HHA := Lib.hid hha; have HGA := Lib.hid hga; have HUA := Lib.hid hua; clear hha hga hua hnew))
  have s1 := HUX.out.size
  have s2 := HUA.out.size
  have s3 := lt_of_heap HB8.out
  have hb1 := HUA.out.heap (HUX.out.heap HB8.out (fun x => x)) (fun x => x)
  have hset := heap_setCell_at hb1 2 (.int .i64 1)
  simp only [List.setIfInBounds_toArray, List.set_cons_succ, List.set_cons_zero] at hset
  have hsu := upd_setCell (fun q => q = w.heap.size) w1 ⟨w.heap.size, 2, none⟩ (.int .i64 1) rfl
  have hown : oa w.heap.size = .no := by
    cases e : oa w.heap.size with
    | no => rfl
    | _ => exact absurd (HGA.out w.heap.size (by rw [e]; simp)) (by omega)
  have hcr := lst_start (w := w) (room := room) (most := most) (kv := .slice wka wkn wkc) (ev := .slice wea wen wec) (x := ⟨key, end_, 1, np, nd, pv⟩) (wk := w.heap.size) (o := oa) (HHA.out.upd hsu (fun k hk e => by rw [show k = w.heap.size from e] at hk; exact hk hown)) (fun q hq => by have := HGA.out q hq; have := HU0.out.size; omega)
    (((HU0.out.trans HUX.out).trans HUA.out).trans' hsu (fun q hq e => by have e' : q = w.heap.size := e; omega)) hset (Nat.le_refl _) hown rfl HWK.out HWE.out lw1 lw2
  simp only [wcells] at hcr
  have c2 : w1.cell? ⟨w.heap.size, 2, none⟩ = some (.int .i64 start) := cell_of hb1 2
  have f2 : w1.frozen? ⟨w.heap.size, 2, none⟩ = false := free_of hb1 2
  clear s1 s2 s3 hb1 hsu hown HHA HGA HUA HUX HNEW HB8 HW0 HB0
  go_upto_region 8 with (first
    | ((with_reducible refine wpl_load (ty := 24) hset Try.underlying24 ?_ ?_ ?_ ?_); rfl; rfl; kernel_rfl)
    | (go_at_call 9; (with_reducible refine hcr.mono ?_); rintro e w2 ⟨rfl, hT0⟩; have HT0 := Lib.hid hT0; clear hT0))
  clear c2 f2 hset hcr
  go_upto_region 9 with (fail)
  obtain ⟨Lt, hLt, hLe⟩ : ∃ Lt : Nat, Lt ≤ ws.length ∧ wrap64 ((IntKind.u64.wrap late).tmod ((ws.length : Int) + 1)) = (Lt : Int) := by
    have h0 : 0 ≤ IntKind.u64.wrap late := by rw [IntKind.wrap_u64]; omega
    rw [Int.tmod_eq_emod_of_nonneg h0]
    have h1 := Int.emod_nonneg (IntKind.u64.wrap late) (show (ws.length : Int) + 1 ≠ 0 by omega)
    have h2 := Int.emod_lt_of_pos (IntKind.u64.wrap late) (show 0 < (ws.length : Int) + 1 by omega)
    exact ⟨(IntKind.u64.wrap late % ((ws.length : Int) + 1)).toNat, by omega, by unfold wrap64; omega⟩
  rw [hLe]
  clear hLe
  generalize hlw : IntKind.u64.wrap late = lw at *
  generalize hlm : lw.tmod ((ws.length : Int) + 1) = lm at *
  clear hlw hlm
  have HUT := Lib.hid (fun (W : World) (k : Nat) (va : Value) (as_ : List EvP) (c : Bool) (z : Int) (hT : LSt w W ba ma room most ⟨key, end_, 1, np, nd, pv⟩ (.slice wka wkn wkc) (.slice wea wen wec) w.heap.size k va as_ c z) => (show Upd (fun _ => False) w W from by obtain ⟨_, _, hL, -⟩ := hT; exact hL.u))
  go_wp2
  go_loopw [14, 15, 16] (fun va z i wr => ∃ (k : Nat) (a : Option Addr) (n cc : Nat) (as_ : List EvP) (cb : Bool) (zi : Int), k ≤ ws.length ∧ i = .int .i64 k ∧ va = .slice a n cc ∧ z = .int .i64 zi ∧ n = as_.length ∧ n ≤ 800000000000 ∧ (∀ p ∈ as_, p.x.Small) ∧ (cb = true → Lt < k) ∧ (cb = false → k ≤ Lt) ∧ LSt w wr ba ma room most ⟨key, end_, 1, np, nd, pv⟩ (.slice wka wkn wkc) (.slice wea wen wec) w.heap.size k (.slice a n cc) as_ cb zi) (fun _ _ i _ => ws.length + 1 - (intOf i).toNat)
  case atStart => exact ⟨0, none, 0, 0, [], false, 0, Nat.zero_le _, rfl, rfl, rfl, rfl, by decide, fun p hp => (by cases hp), nofun, fun _ => Nat.zero_le _, HT0.out⟩
  case round =>
    clear HT0
    obtain ⟨k, a, n, cc, as_, cb, zi, hk, rfl, rfl, rfl, hn, hn8, hsm, hc1, hc2, hT⟩ := hrel
    have HT := Lib.hid hT
    have HSM := Lib.hid hsm
    have HN := Lib.hid hn
    have HC1 := Lib.hid hc1
    have HC2 := Lib.hid hc2
    have HUW := Lib.hid (HUT.out _ _ _ _ _ _ hT)
    clear hT hsm hn hc1 hc2
    have x0 : (0 : Int) ≤ (k : Int) := by omega
    have x1 : ¬ (ws.length : Int) < (k : Int) := by omega
    have x2 : (k : Int) ≤ (ws.length : Int) := by omega
    have HK := Lib.hid hk
    go_upto_if 84 with (fail)
    go_cut [13, 15] from 76 to 125 (fun e z wx => Sec z Lt k (fun cb' zi' => LSt w wx ba ma room most ⟨key, end_, 1, np, nd, pv⟩ (.slice wka wkn wkc) (.slice wea wen wec) w.heap.size k (.slice a n cc) as_ cb' zi'))
    case first =>
      by_cases hkl : k = Lt
      · have hkl' : ((k : Int) == (Lt : Int)) = true := by simp [hkl]
        have HKL := Lib.hid hkl
        obtain rfl : cb = false := by
          cases cb with
          | false => rfl
          | true => have := HC1.out rfl; omega
        have hbx : wr.heap[w.heap.size]? = some (.cells #[.slice wka wkn wkc, .slice wea wen wec, .int .i64 1, .bool np, .bool nd, .bool pv] 24 (0, 0)) := by
          obtain ⟨_, _, hL, -⟩ := HT.out; exact hL.wbox
        have hcr := lsecond HT.out (by omega) rfl HWK.out HWE.out lw1 lw2
        simp only [wcells] at hcr
        clear hkl HC1 HC2
        go_wp2_with (first
          | ((with_reducible refine wpl_load (ty := 24) hbx Try.underlying24 ?_ ?_ ?_ ?_); rfl; rfl; kernel_rfl)
          | (go_at_call 9; (with_reducible refine hcr.mono ?_); rintro e w5 ⟨rfl, hT5⟩; have HT5 := Lib.hid hT5; clear hT5))
        go_meet
        case rel => exact ⟨true, 2, rfl, fun _ => by have := HKL.out; omega, nofun, HT5.out⟩
      · have hkl' : ((k : Int) == (Lt : Int)) = false := beq_eq_false_iff_ne.2 (by omega)
        have HKL := Lib.hid hkl
        clear hkl
        go_wp2
        go_meet
        case rel => exact ⟨cb, zi, rfl, fun h => by have := HC1.out h; omega, fun h => by have h1 := HC2.out h; have h2 := HKL.out; omega, HT.out⟩
    case rest =>
      clear HT HC1 HC2 HUW
      obtain ⟨cb', zi', rfl, hc1, hc2, hT⟩ := hcut
      have HT := Lib.hid hT
      have HC1 := Lib.hid hc1
      have HC2 := Lib.hid hc2
      have HUW := Lib.hid (HUT.out _ _ _ _ _ _ hT)
      clear hT hc1 hc2
      by_cases hlt : k < ws.length
      · have x3 : ((k : Int) == (ws.length : Int)) = false := beq_eq_false_iff_ne.2 (by omega)
        have x4 : (k : Int) < (ws.length : Int) := by omega
        obtain ⟨eb, eo, cap, hee, hcap, hbk, -⟩ := HEV.out.sl.block (by omega)
        cases hee
        have hcell : wc.cell? ⟨eb, eo + k, none⟩ = some (.slice ws[k].a ws[k].ps.length ws[k].c) := by
          have h1 := HEV.out.sl.at wsenc_length k hlt 0 (by decide) (.slice ws[k].a ws[k].ps.length ws[k].c) rfl
          exact HUW.out.cell (by simpa using h1) (fun x => x)
        have hevs0 := HEV.out.ev _ (List.getElem_mem hlt)
        have hevs := hevs0.grow HUW.out
        have hsh := HEV.out.short _ (List.getElem_mem hlt)
        have hpl := HEV.out.len _ (List.getElem_mem hlt)
        generalize ws[k] = s at *
        obtain ⟨sa, sc, ps⟩ := s
        simp only at hcell hevs hsh hpl hevs0
        have HE0 := Lib.hid hevs0
        have hal := (heap_alloc wc (.cells (actE sa ps.length sc) 35)).1
        have hau := upd_alloc (fun _ => False) wc (.cells (actE sa ps.length sc) 35)
        have hfew := few1_calls wc.heap.size sa sc ps (fun _ => True) _ hal (hevs.grow hau) (Nat.le_trans hpl (by decide)) hsh
        have HAU := Lib.hid hau
        have HLT := Lib.hid hlt
        clear hal hau hevs hevs0 hsh hlt hk
        by_cases hbig : 100 < n
        · have x5 : (100 : Int) < (n : Int) := by omega
          clear hbig
          go_wp2
          go_ret
          exact ⟨rfl, HUW.out⟩
        · have x5 : ¬ (100 : Int) < (n : Int) := by omega
          have HPL := Lib.hid (show ps.length ≤ 799644820200 ∧ n ≤ 100 from ⟨hpl, by omega⟩)
          clear hbig
          cases hfl : fewL (ps.map EvP.x) with
          | false =>
            rw [hfl] at hfew
            clear hfl
            go_wp2_with (go_at_call 10; (with_reducible refine hfew.mono ?_); rintro e wf ⟨rfl, huf⟩)
            go_ret
            exact ⟨rfl, (HUW.out.trans HAU.out).trans huf⟩
          | true =>
            rw [hfl] at hfew
            have HTY := Lib.hid (show ∀ p ∈ ps, p.x.Tiny from fun p hp => fewE_tiny (List.all_eq_true.1 hfl p.x (List.mem_map_of_mem hp)))
            have HTF := Lib.hid (show ∀ W, Upd (fun _ => False) (wc.alloc (.cells (actE sa ps.length sc) 35)) W → LSt w W ba ma room most ⟨key, end_, 1, np, nd, pv⟩ (.slice wka wkn wkc) (.slice wea wen wec) w.heap.size k (.slice a n cc) as_ cb' zi' from fun W hu => by
              obtain ⟨H, lo, hL, hA⟩ := HT.out
              exact ⟨H, lo, hL.grow (HAU.out.trans hu), hA⟩)
            clear hfl hpl
            go_upto_region 21 with (go_at_call 10; (with_reducible refine hfew.mono ?_); rintro e wf ⟨rfl, huf⟩; have HTA := Lib.hid (HTF.out wf huf); have hcellf := (HAU.out.trans huf).cell hcell (fun x => x); clear huf)
            have hat := at_calls (.slice sa ps.length sc) ps ((k : Int) + 1) (fun _ => True) wf (HE0.out.grow (HUT.out _ _ _ _ _ _ HTA.out)) HTY.out (by have := HPL.out; omega)
            clear hfew HTF HT hcell x5
            go_upto_region 13 with (first
              | (go_at_call 12; (with_reducible refine hat.mono ?_); rintro e wa ⟨a1, c1, rs1, J1, rfl, hx1, hr1, hu1⟩; obtain ⟨a', n', c', w2, hap, hn', hnt⟩ := lwrite HTA.out g1 g2 g3 g4 (by omega) hr1 hu1 (by have h1 := at_len hx1; have h2 := HN.out; have h3 := HPL.out; omega) (by rw [hx1]; exact allMod_at _ _) (at_small hx1 HTY.out); have HX1 := Lib.hid hx1; have HN1 := Lib.hid hn'; clear hx1 hr1 hu1 hn')
              | (refine wpList_append hap (by rfl) (by rfl) (by rfl) (by rfl) ?_)
              | (go_at_call 11; (with_reducible refine hnt.mono ?_); rintro e wn ⟨rfl, hT6⟩; have HT6 := Lib.hid hT6; clear hT6))
            have HNN := Lib.hid (show n' = (as_ ++ rs1).length ∧ n' ≤ 800000000000 from by
              have h1 := HN1.out; have h2 := at_len HX1.out; have h3 := HPL.out; have h4 := HN.out
              rw [List.length_append]; omega)
            have HSM2 := Lib.hid (show ∀ p ∈ as_ ++ rs1, p.x.Small from fun p hp => (List.mem_append.1 hp).elim (HSM.out p) (at_small HX1.out HTY.out p))
            clear hat hap hnt HSM HN HN1 HX1 HPL HTY HE0 HTA hcellf
            generalize as_ ++ rs1 = as2 at *
            go_wp2
            go_roundw
            case rel => exact ⟨k + 1, a', n', c', as2, cb', zi', by have := HLT.out; omega, by go_num, rfl, rfl, HNN.out.1, HNN.out.2, HSM2.out, fun h => by have := HC1.out h; omega, fun h => by have := HC2.out h; omega, HT6.out⟩
            case measure => have := HLT.out; simp [intOf]; omega
      · obtain rfl : k = ws.length := by omega
        obtain rfl : cb' = true := by
          cases cb' with
          | true => rfl
          | false => have := HC2.out rfl; omega
        have x3 : ((ws.length : Int) == (ws.length : Int)) = true := by simp
        clear hlt hk HC1 HC2
        obtain rfl : zi' = 2 := by obtain ⟨_, _, _, hA⟩ := HT.out; exact hA.z
        go_upto_region 27 with (fail)
        have ha1 := (heap_alloc wc (.cells #[.slice none 0 0] 32)).1
        have hu1 := upd_alloc (fun _ => False) wc (.cells #[.slice none 0 0] 32)
        have ha2 := (heap_alloc (wc.alloc (.cells #[.slice none 0 0] 32)) (.cells #[.slice none 0 0] 32)).1
        have hu2 := upd_alloc (fun _ => False) (wc.alloc (.cells #[.slice none 0 0] 32)) (.cells #[.slice none 0 0] 32)
        have ha3 := (heap_alloc ((wc.alloc (.cells #[.slice none 0 0] 32)).alloc (.cells #[.slice none 0 0] 32)) (.cells #[.int .i64 0] 2)).1
        have hu3 := upd_alloc (fun _ => False) ((wc.alloc (.cells #[.slice none 0 0] 32)).alloc (.cells #[.slice none 0 0] 32)) (.cells #[.int .i64 0] 2)
        have ha4 := (heap_alloc (((wc.alloc (.cells #[.slice none 0 0] 32)).alloc (.cells #[.slice none 0 0] 32)).alloc (.cells #[.int .i64 0] 2)) (.cells #[.int .i64 0] 2)).1
        have hu4 := upd_alloc (fun _ => False) (((wc.alloc (.cells #[.slice none 0 0] 32)).alloc (.cells #[.slice none 0 0] 32)).alloc (.cells #[.int .i64 0] 2)) (.cells #[.int .i64 0] 2)
        have z1 : (wc.alloc (.cells #[.slice none 0 0] 32)).heap.size = wc.heap.size + 1 := by simp
        have z2 : ((wc.alloc (.cells #[.slice none 0 0] 32)).alloc (.cells #[.slice none 0 0] 32)).heap.size = wc.heap.size + 2 := by simp
        have z3 : (((wc.alloc (.cells #[.slice none 0 0] 32)).alloc (.cells #[.slice none 0 0] 32)).alloc (.cells #[.int .i64 0] 2)).heap.size = wc.heap.size + 3 := by simp
        rw [z1] at ha2
        rw [z2] at ha3
        rw [z3] at ha4
        have HL2 := Lib.hid (l2_start (t0 := wc.heap.size) (l0 := wc.heap.size + 2) (t1 := wc.heap.size + 1) (l1 := wc.heap.size + 3) HT.out (((hu1.trans hu2).trans hu3).trans hu4) ⟨by omega, by omega, by omega, by omega⟩ ⟨by omega, by omega, by omega, by omega, by omega, by omega⟩ (hu4.heap (hu3.heap (hu2.heap ha1 (fun x => x)) (fun x => x)) (fun x => x)) (hu4.heap ha3 (fun x => x)) (hu4.heap (hu3.heap ha2 (fun x => x)) (fun x => x)) ha4)
        clear z1 z2 z3 ha1 ha2 ha3 ha4 hu1 hu2 hu3 hu4 HT
        generalize (((wc.alloc (.cells #[.slice none 0 0] 32)).alloc (.cells #[.slice none 0 0] 32)).alloc (.cells #[.int .i64 0] 2)).alloc (.cells #[.int .i64 0] 2) = W5 at *
        generalize wc.heap.size = tb at *
        have m1 : (0 : Int) ≤ (n : Int) := by omega
        have m2 : (n : Int) ≤ 800000000000 := by omega
        go_wp2
        go_loopw [130] (fun i wr => ∃ j : Nat, i = .int .i64 j ∧ j ≤ 2 * n + 4 ∧ L2 w wr ba ma room most ⟨key, end_, 1, np, nd, pv⟩ (.slice wka wkn wkc) (.slice wea wen wec) w.heap.size ws.length (.slice a n cc) as_ tb (tb + 2) (tb + 1) (tb + 3) (fun _ => false) (fun _ => j)) (fun i _ => 2 * n + 4 - (intOf i).toNat)
        case atStart => exact ⟨0, rfl, Nat.zero_le _, HL2.out⟩
        case round =>
          clear HL2
          obtain ⟨j, rfl, hj, hF⟩ := hrel
          have HF := Lib.hid hF
          clear hF
          by_cases hlt : j < 2 * n + 4
          · have hfd := l2feed HF.out 0 (by decide) 1 rfl rfl g1 g2 g3 g4 (by omega) lw1 lw2 HSM.out (by have := HN.out; omega)
            have HF2 := Lib.hid (fun (W : World) (h : L2 w W ba ma room most ⟨key, end_, 1, np, nd, pv⟩ (.slice wka wkn wkc) (.slice wea wen wec) w.heap.size ws.length (.slice a n cc) as_ tb (tb + 2) (tb + 1) (tb + 3) (fun q => if q = 0 then true else false) (fun _ => j)) => l2feed h 1 (by decide) 2 rfl rfl g1 g2 g3 g4 (by omega) lw1 lw2 HSM.out (by have := HN.out; omega))
            have HT1 := Lib.hid (fun (W : World) (h : L2 w W ba ma room most ⟨key, end_, 1, np, nd, pv⟩ (.slice wka wkn wkc) (.slice wea wen wec) w.heap.size ws.length (.slice a n cc) as_ tb (tb + 2) (tb + 1) (tb + 3) (fun q => if q = 1 then true else if q = 0 then true else false) (fun _ => j)) => l2tell h 0 (by decide) 1 rfl rfl tb (tb + 2) rfl rfl (by have := HN.out; omega))
            have HT2 := Lib.hid (fun (W : World) (h : L2 w W ba ma room most ⟨key, end_, 1, np, nd, pv⟩ (.slice wka wkn wkc) (.slice wea wen wec) w.heap.size ws.length (.slice a n cc) as_ tb (tb + 2) (tb + 1) (tb + 3) (fun q => if q = 0 then false else if q = 1 then true else if q = 0 then true else false) (fun q => if q = 0 then j + 1 else j)) => l2tell h 1 (by decide) 2 rfl rfl (tb + 1) (tb + 3) rfl rfl (by have := HN.out; omega))
            have x6 : (j : Int) < 2 * (n : Int) + 4 := by omega
            clear HF
            go_wp2_with (first
              | (go_at_call 17; (with_reducible refine hfd.mono ?_); rintro e w5 ⟨rfl, hM⟩; have hfd2 := HF2.out w5 hM; clear hM)
              | (go_at_call 17; (with_reducible refine hfd2.mono ?_); rintro e w6 ⟨rfl, hM⟩; have htl1 := HT1.out w6 hM; clear hM)
              | (go_at_call 18; (with_reducible refine htl1.mono ?_); rintro e w7 ⟨rfl, hM⟩; have htl2 := HT2.out w7 hM; clear hM)
              | (go_at_call 18; (with_reducible refine htl2.mono ?_); rintro e w8 ⟨rfl, hF6⟩; have HF6 := Lib.hid hF6; clear hF6))
            go_roundw
            case rel => exact ⟨j + 1, by go_num, by omega, HF6.out.cong (fun i hi => by rcases (show i = 0 ∨ i = 1 by omega) with e | e <;> subst e <;> rfl) (fun i hi => by rcases (show i = 0 ∨ i = 1 by omega) with e | e <;> subst e <;> rfl)⟩
            case measure => simp [intOf]; omega
          · have x6 : ¬ (j : Int) < 2 * (n : Int) + 4 := by omega
            obtain ⟨H, o, P, y1, y2, d1, d2, d3, d4, d5, d6, v1, ts1, v2, ts2, I2, d7, d8, d9, d10, d11, d12⟩ := HF.out.done ⟨by have := HN.out; omega, by have := HN.out; omega⟩ (by have := HN.out; omega)
            have HUR := Lib.hid (show Upd (fun _ => False) w wr from by obtain ⟨_, _, _, _, hL, -⟩ := HF.out; exact hL.u)
            have hsa := same17_true v1 v2 ts1 ts2 I2 I2 wr d9 d10 d11 d12
            have HSY := Lib.hid (fun (i : Int) (W : World) (hu : Upd (fun _ => False) wr W) => synced_calls ba ma o P H i W (d1.grow hu))
            have q1 : syncedB H 1 = true := by unfold syncedB; rw [d3]; simp; omega
            have q2 : syncedB H 2 = true := by unfold syncedB; rw [d4]; simp; omega
            have HQ1 := Lib.hid q1
            have HQ2 := Lib.hid q2
            clear HF hj hlt d1 d2 d3 d4 d5 d6 d9 d10 d11 d12 q1 q2
            go_wp2_with (first
              | (go_at_call 19; (with_reducible refine hsa.mono ?_); rintro e w9 ⟨rfl, hu9⟩; have hsy := HSY.out 1 w9 hu9; rw [HQ1.out] at hsy; have hsy2 := fun W (hu : Upd (fun _ => False) w9 W) => HSY.out 2 W (hu9.trans hu); rw [HQ2.out] at hsy2; have HSY2 := Lib.hid hsy2; clear hsy2)
              | (go_at_call 15; (with_reducible refine hsy.mono ?_); rintro e wa ⟨rfl, hua⟩; have hsz := HSY2.out wa hua)
              | (go_at_call 15; (with_reducible refine hsz.mono ?_); rintro e wb ⟨rfl, hub⟩))
            go_ret
            exact ⟨rfl, ((HUR.out.trans hu9).trans hua).trans hub⟩

end Go.Proofs.Ytidpiojanajpoaa
