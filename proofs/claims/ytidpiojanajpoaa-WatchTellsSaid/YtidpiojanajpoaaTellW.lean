/-
  WatchTells: the walk where the arguments are in their bounds.
-/
import Derived.Deep.CutRange
import Derived.Deep.RegionHeld3
import Derived.Deep.QuietTactic
import Derived.IntWalk
import Derived.Test.YtidpiojanajpoaaTellE
import Derived.Test.YtidpiojanajpoaaApartP
namespace Go.Proofs.Ytidpiojanajpoaa
open Go.RowKit Go.Tb Go.MapKept Go.ChangeMaps
set_option linter.unusedVariables false

/-- Is a watcher made now? -/
def Now (s : Value) (cb : Bool) (start : Int) (Z : Prop) : Prop := ∃ t : Bool, s = .bool t ∧ (t = true → cb = false) ∧ (t = false → cb = false → start = 0) ∧ Z
/-- .. and behind that. -/
def Then (c z : Value) (start : Int) (Z : Bool → Int → Int → Prop) : Prop := ∃ (cb : Bool) (zi S : Int), c = .bool cb ∧ z = .int .i64 zi ∧ (cb = false → start = 0) ∧ Z cb zi S

set_option maxRecDepth 100000 in
set_option maxHeartbeats 8000000 in
theorem tells_good (room most : Int) (wk we : Value) (x : Wt) (va vw : Value) (ws : List WsP) (when : List UInt8) (w : World) (hwk : Bytes w wk x.key) (hwe : Bytes w we x.end_) (lw1 : x.key.length ≤ 140737488355328) (lw2 : x.end_.length ≤ 140737488355328)
    (hev : Wss w va ws) (hwh : Bytes w vw when) (g1 : 1 ≤ room) (g2 : room ≤ 4096) (g3 : 1 ≤ most) (g4 : most ≤ 4096) (g5 : ws.length ≤ 40) (g6 : x.key.length + x.end_.length ≤ 300) (g7 : 0 ≤ x.start) (g8 : x.start ≤ 60) (hwl : when.length ≤ 140737488355328) :
    Calls Try.prog 5 #[.int .i64 room, .int .i64 most, .agg (wcells wk we x), va, vw] w fun e w' => e = .returned (.bool true) ∧ Upd (fun _ => False) w w' := by
  obtain ⟨wka, wkn, wkc, rfl⟩ := hwk.form
  obtain ⟨wea, wen, wec, rfl⟩ := hwe.form
  obtain ⟨eva, evc, rfl, hevc⟩ := hev.sl.shape
  obtain ⟨wha, whn, whc, rfl⟩ := hwh.form
  have n1 := hwk.size
  have n2 := hwe.size
  obtain ⟨key, end_, start, np, nd, pv⟩ := x
  simp only at g6 g7 g8 n1 n2 lw1 lw2 hwk hwe
  show Calls Try.prog 5 #[.int .i64 room, .int .i64 most, .agg #[.slice wka wkn wkc, .slice wea wen wec, .int .i64 start, .bool np, .bool nd, .bool pv], .slice eva ws.length evc, .slice wha whn whc] w _
  obtain ⟨w0, hw0⟩ : ∃ w0, w0 = w.alloc (.cells #[.slice wka wkn wkc, .slice wea wen wec, .int .i64 start, .bool np, .bool nd, .bool pv] 24) := ⟨_, rfl⟩
  have hu0 : Upd (fun _ => False) w w0 := by rw [hw0]; exact upd_alloc _ _ _
  have hb8 : w0.heap[w.heap.size]? = some (.cells #[.slice wka wkn wkc, .slice wea wen wec, .int .i64 start, .bool np, .bool nd, .bool pv] 24 (0, 0)) := by
    rw [hw0]; exact (heap_alloc w _).1
  have HB0 := Lib.hid (show w0.cell? ⟨w.heap.size, 0, none⟩ = some (.slice wka wkn wkc) ∧ w0.cell? ⟨w.heap.size, 1, none⟩ = some (.slice wea wen wec) ∧ w0.cell? ⟨w.heap.size, 2, none⟩ = some (.int .i64 start) from ⟨cell_of hb8 0, cell_of hb8 1, cell_of hb8 2⟩)
  have HU0 := Lib.hid hu0
  have HW0 := Lib.hid hw0
  have HB8 := Lib.hid hb8
  clear hb8 hu0
  clear hw0
  have b1 : ¬ room < 1 := by omega
  have b2 : ¬ 4096 < room := by omega
  have b3 : ¬ most < 1 := by omega
  have b4 : ¬ 4096 < most := by omega
  have b5 : ¬ (40 : Int) < (ws.length : Int) := by omega
  have b6 : ¬ (300 : Int) < (wkn : Int) + (wen : Int) := by omega
  have b7 : ¬ start < 0 := by omega
  have b8 : ¬ 60 < start := by omega
  have HWK := Lib.hid hwk
  have HWE := Lib.hid hwe
  have HEV := Lib.hid hev
  have HWH := Lib.hid hwh
  clear hwk hwe hev hwh
  go_enter Try.func5, Try.ntmps5
  go_upto_region 1 with (fail)
  rw [← HW0.out]
  have hnew1 := fun W => new_ok 0 room most W (by decide) (by decide) g1 g2 g3 g4
  have HNEW := Lib.hid hnew1
  clear hnew1
  go_upto_region 3 with (first | (go_at_call 7; (with_reducible refine (lives_calls w0).mono ?_); rintro e w' ⟨rfl, hux⟩; have hz := hux.cell HB0.out.1 (fun x => x); have hz1 := hux.cell HB0.out.2.1 (fun x => x); have hz2 := hux.cell HB0.out.2.2 (fun x => x); have HUX := Lib.hid hux; have hnew := HNEW.out w'; clear hux))
  clear b1 b2 b3 b4 b5 b6 b7 b8 hz hz1 hz2
  go_upto_region 8 with (first
    | (go_at_call 8; (with_reducible refine hnew.mono ?_); rintro e w1 ⟨ba, ma, oa, rfl, hha, hga, hua⟩; have HHA := Lib.hid hha; have HGA := Lib.hid hga; have HUA := Lib.hid hua; clear hha hga hua hnew))
  have s1 := HUX.out.size
  have s2 := HUA.out.size
  have s3 := lt_of_heap HB8.out
  have ha1 := (heap_alloc w1 (.cells #[.slice none 0 0] 32)).1
  have hu1 := upd_alloc (fun _ => False) w1 (.cells #[.slice none 0 0] 32)
  have ha2 := (heap_alloc (w1.alloc (.cells #[.slice none 0 0] 32)) (.cells #[.int .i64 0] 2)).1
  have hu2 := upd_alloc (fun _ => False) (w1.alloc (.cells #[.slice none 0 0] 32)) (.cells #[.int .i64 0] 2)
  have sz1 : (w1.alloc (.cells #[.slice none 0 0] 32)).heap.size = w1.heap.size + 1 := by simp
  rw [sz1] at ha2
  have hux : Upd (fun _ => False) w ((w1.alloc (.cells #[.slice none 0 0] 32)).alloc (.cells #[.int .i64 0] 2)) := (((HU0.out.trans HUX.out).trans HUA.out).trans hu1).trans hu2
  have hno : ∀ q, w1.heap.size ≤ q → oa q = .no := fun q hq => by
    cases e : oa q with
    | no => rfl
    | _ => exact absurd (HHA.out.lt q (by rw [e]; simp)) (by omega)
  have hT0 : TSt w ((w1.alloc (.cells #[.slice none 0 0] 32)).alloc (.cells #[.int .i64 0] 2)) ba ma room most ⟨key, end_, start, np, nd, pv⟩ (.slice wka wkn wkc) (.slice wea wen wec) w1.heap.size (w1.heap.size + 1) w.heap.size 0 (.slice none 0 0) [] false 0 start :=
    tst_start (o := oa) ((HHA.out.grow hu1).grow hu2) (fun q hq => by have := HGA.out q hq; have := HU0.out.size; omega) hux (hu2.heap (hu1.heap (HUA.out.heap (HUX.out.heap HB8.out (fun x => x)) (fun x => x)) (fun x => x)) (fun x => x)) (hu2.heap ha1 (fun x => x)) ha2 (Nat.le_refl _) (by have := HU0.out.size; omega) (by have := HU0.out.size; omega) (by omega) (by omega) (by omega) (by
      cases e : oa w.heap.size with
      | no => rfl
      | _ => exact absurd (HGA.out w.heap.size (by rw [e]; simp)) (by omega)) (hno _ (Nat.le_refl _)) (hno _ (by omega))
  have HT0 := Lib.hid hT0
  have HTN := Lib.hid (show w.heap.size < w1.heap.size from by omega)
  clear hT0 hno hux sz1 ha1 hu1 ha2 hu2 s1 s2 s3 HHA HGA HUA HUX HNEW HB8 HW0
  generalize hW : (w1.alloc (.cells #[.slice none 0 0] 32)).alloc (.cells #[.int .i64 0] 2) = W at *
  clear hW
  generalize w1.heap.size = tb at *
  generalize hq1 : decide (room < 1) = q1 at *
  generalize hq2 : decide (4096 < room) = q2 at *
  generalize hq3 : decide (most < 1) = q3 at *
  generalize hq4 : decide (4096 < most) = q4 at *
  generalize hq5 : decide ((40 : Int) < (ws.length : Int)) = q5 at *
  generalize hq6 : decide ((300 : Int) < (wkn : Int) + (wen : Int)) = q6 at *
  generalize hq7 : decide (start < 0) = q7 at *
  generalize hq8 : decide (60 < start) = q8 at *
  clear hq1 hq2 hq3 hq4 hq5 hq6 hq7 hq8
  go_wp2
  go_loopw [12, 14, 15, 75] (fun va c z i wr => ∃ (k : Nat) (a : Option Addr) (n cc : Nat) (as_ : List EvP) (cb : Bool) (zi S : Int), k ≤ ws.length ∧ i = .int .i64 k ∧ va = .slice a n cc ∧ c = .bool cb ∧ z = .int .i64 zi ∧ n = as_.length ∧ n ≤ 800000000000 ∧ (∀ p ∈ as_, p.x.Small) ∧ TSt w wr ba ma room most ⟨key, end_, start, np, nd, pv⟩ (.slice wka wkn wkc) (.slice wea wen wec) tb (tb + 1) w.heap.size k (.slice a n cc) as_ cb zi S) (fun _ _ _ i _ => ws.length - (intOf i).toNat)
  case atStart => exact ⟨0, none, 0, 0, [], false, 0, start, Nat.zero_le _, rfl, rfl, rfl, rfl, rfl, by decide, fun p hp => (by cases hp), HT0.out⟩
  case round =>
    clear HT0
    obtain ⟨k, a, n, cc, as_, cb, zi, S, hk, rfl, rfl, rfl, rfl, hn, hn8, hsm, hT⟩ := hrel
    have HT := Lib.hid hT
    have HSM := Lib.hid hsm
    have HN := Lib.hid hn
    have HUW := Lib.hid (show Upd (fun _ => False) w wr from by obtain ⟨_, _, _, _, _, hL, -⟩ := hT; exact hL.u)
    clear hT hsm hn
    by_cases hlt : k < ws.length
    · obtain ⟨eb, eo, cap, hee, hcap, hbk, -⟩ := HEV.out.sl.block (by omega)
      cases hee
      have hcell : wr.cell? ⟨eb, eo + k, none⟩ = some (.slice ws[k].a ws[k].ps.length ws[k].c) := by
        have h1 := HEV.out.sl.at wsenc_length k hlt 0 (by decide) (.slice ws[k].a ws[k].ps.length ws[k].c) rfl
        exact HUW.out.cell (by simpa using h1) (fun x => x)
      have hevs0 := HEV.out.ev _ (List.getElem_mem hlt)
      have hevs := hevs0.grow HUW.out
      have hsh := HEV.out.short _ (List.getElem_mem hlt)
      have hpl := HEV.out.len _ (List.getElem_mem hlt)
      generalize ws[k] = s at *
      obtain ⟨sa, sc, ps⟩ := s
      simp only at hcell hevs hsh hpl hevs0
      have HE0 := Lib.hid hevs0
      have hal := (heap_alloc wr (.cells (actE sa ps.length sc) 35)).1
      have hau := upd_alloc (fun _ => False) wr (.cells (actE sa ps.length sc) 35)
      have hfew := few1_calls wr.heap.size sa sc ps (fun _ => True) _ hal (hevs.grow hau) (Nat.le_trans hpl (by decide)) hsh
      have x0 : (0 : Int) ≤ (k : Int) := by omega
      have x1 : (k : Int) < (ws.length : Int) := by omega
      have HAU := Lib.hid hau
      clear hal hau hevs hevs0 hsh
      cases hfl : fewL (ps.map EvP.x) with
      | false =>
        rw [hfl] at hfew
        clear hfl
        go_wp2_with (go_at_call 10; (with_reducible refine hfew.mono ?_); rintro e wf ⟨rfl, huf⟩)
        go_ret
        exact ⟨rfl, (HUW.out.trans HAU.out).trans huf⟩
      | true =>
        rw [hfl] at hfew
        have HTY := Lib.hid (show ∀ p ∈ ps, p.x.Tiny from fun p hp => fewE_tiny (List.all_eq_true.1 hfl p.x (List.mem_map_of_mem hp)))
        clear hfl
        by_cases hbig : 150 < n
        · have x2 : (150 : Int) < (n : Int) := by omega
          clear hbig
          go_wp2_with (go_at_call 10; (with_reducible refine hfew.mono ?_); rintro e wf ⟨rfl, huf⟩)
          go_ret
          exact ⟨rfl, (HUW.out.trans HAU.out).trans huf⟩
        · have x2 : ¬ (150 : Int) < (n : Int) := by omega
          have HPL := Lib.hid (show ps.length ≤ 799644820200 ∧ n ≤ 150 from ⟨hpl, by omega⟩)
          clear hbig
          have HTF := Lib.hid (show ∀ W, Upd (fun _ => False) (wr.alloc (.cells (actE sa ps.length sc) 35)) W → TSt w W ba ma room most ⟨key, end_, start, np, nd, pv⟩ (.slice wka wkn wkc) (.slice wea wen wec) tb (tb + 1) w.heap.size k (.slice a n cc) as_ cb zi S from fun W hu => by
            obtain ⟨H, lo, tv, ts, last, hL, hA⟩ := HT.out
            exact ⟨H, lo, tv, ts, last, hL.grow (HAU.out.trans hu), hA⟩)
          go_upto_if 93 with (go_at_call 10; (with_reducible refine hfew.mono ?_); rintro e wf ⟨rfl, huf⟩; have HTA := Lib.hid (HTF.out wf huf))
          clear hfew x2 HTF HT
          have hk40 : k ≤ 40 := by omega
          have HLT := Lib.hid hlt
          clear hk hlt hpl x1
          go_cut [19] from 76 to 158 (fun s wx => ∃ y : Int, s = .int .u8 y ∧ TSt w wx ba ma room most ⟨key, end_, start, np, nd, pv⟩ (.slice wka wkn wkc) (.slice wea wen wec) tb (tb + 1) w.heap.size k (.slice a n cc) as_ cb zi S)
          case first =>
            by_cases hw : k < when.length
            · rcases HWH.out with (⟨_, rfl⟩ | ⟨yb, yo, ycap, hye, hyc, hyl, hyy⟩) | ⟨rfl, _⟩
              · exact absurd hw (Nat.not_lt_zero _)
              · cases hye
                have hcy : wf.cell? ⟨yb, yo + k, none⟩ = some (.int .u8 (when[k].toNat : Int)) := by
                  obtain ⟨_, _, _, _, _, hL, -⟩ := HTA.out
                  exact hL.u.cell (hyy k hw) (fun x => x)
                have y1 : (k : Int) < (when.length : Int) := by omega
                generalize (when[k].toNat : Int) = y at *
                clear hyy hyc hyl
                go_wp2
                go_meet
                case rel => exact ⟨y, rfl, HTA.out⟩
              · exact absurd hw (Nat.not_lt_zero _)
            · have hwsz := HWH.out.size
              have y1 : ¬ (k : Int) < (whn : Int) := by omega
              go_wp2
              go_meet
              case rel => exact ⟨0, rfl, HTA.out⟩
          case rest =>
            obtain ⟨y, rfl, hT⟩ := hcut
            have HT := Lib.hid hT
            clear hT HTA
            go_upto_region 16 with (fail)
            go_cut [109] from 76 to 158 (fun s wx => Now s cb start (TSt w wx ba ma room most ⟨key, end_, start, np, nd, pv⟩ (.slice wka wkn wkc) (.slice wea wen wec) tb (tb + 1) w.heap.size k (.slice a n cc) as_ cb zi S))
            case first =>
              cases cb with
              | true =>
                go_wp2
                go_meet
                case rel => exact ⟨false, rfl, nofun, nofun, HT.out⟩
              | false =>
                obtain ⟨hbx, hSs⟩ : wc.heap[w.heap.size]? = some (.cells (wcells (.slice wka wkn wkc) (.slice wea wen wec) ⟨key, end_, start, np, nd, pv⟩) 24 (0, 0)) ∧ S = start := by
                  obtain ⟨_, _, _, _, _, hL, hA⟩ := HT.out
                  obtain ⟨-, -, -, -, -, q, -⟩ := hA.off rfl
                  have q' : S = start := q
                  have h1 := hL.wbox
                  rw [q'] at h1
                  exact ⟨h1, q'⟩
                have c2 : wc.cell? ⟨w.heap.size, 2, none⟩ = some (.int .i64 start) := cell_of hbx 2
                clear hbx hSs
                by_cases hb1 : bits BinOp.and IntKind.u8 y 1 = 1
                · go_wp2
                  go_meet
                  case rel => exact ⟨true, rfl, fun _ => rfl, nofun, HT.out⟩
                · have hb1' : (bits BinOp.and IntKind.u8 y 1 == 1) = false := beq_eq_false_iff_ne.2 hb1
                  clear hb1
                  by_cases hs : 0 < start
                  · go_wp2
                    go_meet
                    case rel => exact ⟨true, rfl, fun _ => rfl, nofun, HT.out⟩
                  · go_wp2
                    go_meet
                    case rel => exact ⟨false, rfl, nofun, fun _ _ => by omega, HT.out⟩
            case rest =>
              obtain ⟨t, rfl, ht1, ht2, hT⟩ := hcut
              have HT := Lib.hid hT
              have HT1 := Lib.hid ht1
              have HT2 := Lib.hid ht2
              clear hT ht1 ht2
              go_upto_if 109 with (fail)
              go_cut [14, 15] from 76 to 158 (fun c z wx => Then c z start (fun cb' zi' S' => TSt w wx ba ma room most ⟨key, end_, start, np, nd, pv⟩ (.slice wka wkn wkc) (.slice wea wen wec) tb (tb + 1) w.heap.size k (.slice a n cc) as_ cb' zi' S'))
              case first =>
                cases t with
                | false =>
                  have HT2' := Lib.hid (HT2.out rfl)
                  clear HT2 HT1
                  go_wp2
                  go_meet
                  case rel => exact ⟨cb, zi, S, rfl, rfl, HT2'.out, HT.out⟩
                | true =>
                  obtain rfl := HT1.out rfl
                  obtain ⟨hbx, hSs⟩ : wc.heap[w.heap.size]? = some (.cells (wcells (.slice wka wkn wkc) (.slice wea wen wec) ⟨key, end_, start, np, nd, pv⟩) 24 (0, 0)) ∧ S = start := by
                    obtain ⟨_, _, _, _, _, hL, hA⟩ := HT.out
                    obtain ⟨-, -, -, -, -, q, -⟩ := hA.off rfl
                    have q' : S = start := q
                    have h1 := hL.wbox
                    rw [q'] at h1
                    exact ⟨h1, q'⟩
                  have c2 : wc.cell? ⟨w.heap.size, 2, none⟩ = some (.int .i64 start) := cell_of hbx 2
                  have f2 : wc.frozen? ⟨w.heap.size, 2, none⟩ = false := free_of hbx 2
                  clear hSs
                  by_cases hs : start = 0
                  · have hs' : (start == 0) = true := by simp [hs]
                    have HS := Lib.hid hs
                    clear hs
                    have hset := heap_setCell_at hbx 2 (.int .i64 ((k : Int) + 1))
                    simp only [wcells, List.setIfInBounds_toArray, List.set_cons_succ, List.set_cons_zero] at hset
                    have hcr := tcreate (S' := (k : Int) + 1) HT.out (by omega) (by omega) (by omega) (upd_setCell (fun q => q = w.heap.size) wc ⟨w.heap.size, 2, none⟩ (.int .i64 ((k : Int) + 1)) rfl) hset HWK.out HWE.out lw1 lw2
                    simp only [wcells] at hcr
                    clear hbx
                    go_wp2_with (first
                      | ((with_reducible refine wpl_load (ty := 24) hset Try.underlying24 ?_ ?_ ?_ ?_); rfl; rfl; kernel_rfl)
                      | (go_at_call 9; (with_reducible refine hcr.mono ?_); rintro e w5 ⟨rfl, hT5⟩; have HT5 := Lib.hid hT5; clear hT5))
                    go_meet
                    case rel => exact ⟨true, 1, (k : Int) + 1, rfl, rfl, nofun, HT5.out⟩
                  · have hs' : (start == 0) = false := beq_eq_false_iff_ne.2 hs
                    have hcr := tcreate (S' := start) HT.out (by omega) (by omega) (by omega) (Upd.refl _ _) hbx HWK.out HWE.out lw1 lw2
                    simp only [wcells] at hcr hbx
                    clear hs
                    go_wp2_with (first
                      | ((with_reducible refine wpl_load (ty := 24) hbx Try.underlying24 ?_ ?_ ?_ ?_); rfl; rfl; kernel_rfl)
                      | (go_at_call 9; (with_reducible refine hcr.mono ?_); rintro e w5 ⟨rfl, hT5⟩; have HT5 := Lib.hid hT5; clear hT5))
                    go_meet
                    case rel => exact ⟨true, 1, start, rfl, rfl, nofun, HT5.out⟩
              case rest =>
                clear HT HT1 HT2
                obtain ⟨cb', zi', S', rfl, rfl, hc0, hT⟩ := hcut
                have HC0 := Lib.hid hc0
                have HT := Lib.hid hT
                have hat := at_calls (.slice sa ps.length sc) ps ((k : Int) + 1) (fun _ => True) wc (HE0.out.grow (by obtain ⟨_, _, _, _, _, hL, -⟩ := hT; exact hL.u)) HTY.out (by have := HPL.out; omega)
                clear hT hc0
                go_upto_region 28 with (first
                  | (go_at_call 12; (with_reducible refine hat.mono ?_); rintro e wa ⟨a1, c1, rs1, J1, rfl, hx1, hr1, hu1⟩; obtain ⟨a', n', c', w2, hap, hn', hnt⟩ := twrite HT.out g1 g2 g3 g4 (by omega) HC0.out hr1 hu1 (by have h1 := at_len hx1; have h2 := HN.out; have h3 := HPL.out; omega) (by rw [hx1]; exact allMod_at _ _) (at_small hx1 HTY.out); have HX1 := Lib.hid hx1; have HN1 := Lib.hid hn'; clear hx1 hr1 hu1 hn')
                  | (refine wpList_append hap (by rfl) (by rfl) (by rfl) (by rfl) ?_)
                  | (go_at_call 11; (with_reducible refine hnt.mono ?_); rintro e wn ⟨rfl, hT6⟩; have HT6 := Lib.hid hT6; clear hT6))
                have HNN := Lib.hid (show n' = (as_ ++ rs1).length ∧ n' ≤ 800000000000 from by
                  have h1 := HN1.out; have h2 := at_len HX1.out; have h3 := HPL.out; have h4 := HN.out
                  rw [List.length_append]; omega)
                have HSM2 := Lib.hid (show ∀ p ∈ as_ ++ rs1, p.x.Small from fun p hp => (List.mem_append.1 hp).elim (HSM.out p) (at_small HX1.out HTY.out p))
                clear hat hap hnt HSM HN HN1 HX1 HT HC0 HPL HTY HE0
                generalize as_ ++ rs1 = as2 at *
                go_cut [147] from 76 to 158 (fun s wx => s = .bool false ∧ TSt w wx ba ma room most ⟨key, end_, start, np, nd, pv⟩ (.slice wka wkn wkc) (.slice wea wen wec) tb (tb + 1) w.heap.size (k + 1) (.slice a' n' c') as2 cb' zi' S')
                case first =>
                  by_cases hb2 : bits BinOp.and IntKind.u8 y 2 = 2
                  · have hfd := tfeed HT6.out g1 g2 g3 g4 (by omega) lw1 lw2 HSM2.out (by have := HNN.out; omega)
                    go_wp2_with (go_at_call 17; (with_reducible refine hfd.mono ?_); rintro e w7 ⟨rfl, hT7⟩; have HT7 := Lib.hid hT7; clear hT7)
                    go_meet
                    case rel => exact ⟨rfl, HT7.out⟩
                  · have hb2' : (bits BinOp.and IntKind.u8 y 2 == 2) = false := beq_eq_false_iff_ne.2 hb2
                    clear hb2
                    go_wp2
                    go_meet
                    case rel => exact ⟨rfl, HT6.out⟩
                case rest =>
                  clear HT6
                  obtain ⟨rfl, hT⟩ := hcut
                  have HT := Lib.hid hT
                  clear hT
                  go_upto_region 30 with (fail)
                  go_cut [157] from 76 to 158 (fun s wx => s = .bool false ∧ TSt w wx ba ma room most ⟨key, end_, start, np, nd, pv⟩ (.slice wka wkn wkc) (.slice wea wen wec) tb (tb + 1) w.heap.size (k + 1) (.slice a' n' c') as2 cb' zi' S')
                  case first =>
                    by_cases hb2 : bits BinOp.and IntKind.u8 y 4 = 4
                    · have hfd := ttell HT.out (by have := HNN.out; omega)
                      go_wp2_with (go_at_call 18; (with_reducible refine hfd.mono ?_); rintro e w7 ⟨rfl, hT7⟩; have HT7 := Lib.hid hT7; clear hT7)
                      go_meet
                      case rel => exact ⟨rfl, HT7.out⟩
                    · have hb2' : (bits BinOp.and IntKind.u8 y 4 == 4) = false := beq_eq_false_iff_ne.2 hb2
                      clear hb2
                      go_wp2
                      go_meet
                      case rel => exact ⟨rfl, HT.out⟩
                  case rest =>
                    clear HT
                    obtain ⟨rfl, hT⟩ := hcut
                    have HT := Lib.hid hT
                    clear hT
                    go_wp2
                    go_roundw
                    case rel => exact ⟨k + 1, a', n', c', as2, cb', zi', S', by have := HLT.out; omega, by go_num, rfl, rfl, rfl, HNN.out.1, HNN.out.2, HSM2.out, HT.out⟩
                    case measure => have := HLT.out; simp [intOf]; omega
    · obtain rfl : k = ws.length := by omega
      clear hk hlt
      cases cb with
      | false =>
        go_wp2
        go_ret
        exact ⟨rfl, HUW.out⟩
      | true =>
        obtain ⟨S', hS'⟩ : ∃ S', S' = S := ⟨_, rfl⟩
        obtain rfl : zi = 1 := by obtain ⟨_, _, _, _, _, _, hA⟩ := HT.out; exact hA.z
        have hbx : wr.heap[w.heap.size]? = some (.cells #[.slice wka wkn wkc, .slice wea wen wec, .int .i64 S, .bool np, .bool nd, .bool pv] 24 (0, 0)) := by
          obtain ⟨_, _, _, _, _, hL, -⟩ := HT.out; exact hL.wbox
        have e0 : wr.cell? ⟨w.heap.size, 0, none⟩ = some (.slice wka wkn wkc) := cell_of hbx 0
        have e1 : wr.cell? ⟨w.heap.size, 1, none⟩ = some (.slice wea wen wec) := cell_of hbx 1
        have e2 : wr.cell? ⟨w.heap.size, 2, none⟩ = some (.int .i64 S) := cell_of hbx 2
        have e3 : wr.cell? ⟨w.heap.size, 3, none⟩ = some (.bool np) := cell_of hbx 3
        have e4 : wr.cell? ⟨w.heap.size, 4, none⟩ = some (.bool nd) := cell_of hbx 4
        have e5 : wr.cell? ⟨w.heap.size, 5, none⟩ = some (.bool pv) := cell_of hbx 5
        have hn9 : as_.length ≤ 800000000000 := by have := HN.out; omega
        obtain ⟨I, hIlt, hev⟩ : ∃ I : Nat → Prop, (∀ q, I q → q < wr.heap.size) ∧ Evs wr I (.slice a n cc) as_ := by
          obtain ⟨H, lo, tv, ts, last, hL, hA⟩ := HT.out
          exact ⟨_, fun q hq => (hL.lt q (by rw [hq]; simp)).2, hL.all.evs⟩
        have hsi := since_calls (.slice a n cc) S as_ I wr.drew (hev.grow (Upd.refl _ _).drew) (fun q hq => by have := hIlt q hq; exact this) hn9
        have HSV := Lib.hid (show ∀ (W : World), Upd (fun _ => False) wr W → ∀ a2 c2, Evs W I (.slice a2 (sinceP S as_).length c2) (sinceP S as_) → _ from fun W hu a2 c2 hv => sieve_calls (.slice wka wkn wkc) (.slice wea wen wec) ⟨key, end_, S, np, nd, pv⟩ a2 c2 (sinceP S as_) I W (HWK.out.upd (HUW.out.trans hu) (fun _ _ x => x)) (HWE.out.upd (HUW.out.trans hu) (fun _ _ x => x)) hv (fun p hp => HSM.out p (List.mem_filter.1 hp).1) (Nat.le_trans (sinceP_len _ _) hn9))
        have HSX := Lib.hid (show (sinceP S as_).map EvP.x = sinceE S (as_.map EvP.x) from sinceP_x S as_)
        simp only [wcells] at HSV
        clear hev hbx hIlt hn9 hS'
        generalize (sinceP S as_).length = n2 at *
        go_upto_region 35 with (fail)
        go_region_held3 (fun w' => w'.cell? ⟨w.heap.size, 0, none⟩ = some (.slice wka wkn wkc) ∧ w'.cell? ⟨w.heap.size, 1, none⟩ = some (.slice wea wen wec) ∧ w'.cell? ⟨w.heap.size, 2, none⟩ = some (.int .i64 S) ∧ w'.cell? ⟨w.heap.size, 3, none⟩ = some (.bool np) ∧ w'.cell? ⟨w.heap.size, 4, none⟩ = some (.bool nd) ∧ w'.cell? ⟨w.heap.size, 5, none⟩ = some (.bool pv))
          (first | exact ⟨e0, e1, e2, e3, e4, e5⟩ | exact ⟨hxa.cell e0 (fun x => x), hxa.cell e1 (fun x => x), hxa.cell e2 (fun x => x), hxa.cell e3 (fun x => x), hxa.cell e4 (fun x => x), hxa.cell e5 (fun x => x)⟩)
          (first
            | (go_at_call 21; (with_reducible refine hsi.mono ?_); rintro e w1 ⟨a2, c2, rfl, hr2, hu2⟩; have hxa := hu2.undrew; have hsv := HSV.out w1 hxa a2 c2 hr2.evs; clear hr2 hu2)
            | (go_at_call 20; (with_reducible refine hsv.mono ?_); rintro e w3 ⟨a3, c3, rs, J, rfl, hx3, hr3, hu3⟩; have hxb := hxa; clear hxa; have hxa := hxb.trans hu3))
        have hF : FSt w w3 ba ma room most ⟨key, end_, start, np, nd, pv⟩ (.slice wka wkn wkc) (.slice wea wen wec) tb (tb + 1) w.heap.size ws.length (.slice a n cc) as_ S (.slice a3 rs.length c3) rs 0 :=
          fst_start HT.out hxa (by have := hxb.size; exact this) hr3 (by rw [hx3, HSX.out])
        have HF := Lib.hid hF
        clear hF hx3 hr3 hu3 hxb hxa hsv HSV HSX e0 e1 e2 e3 e4 e5 HT hsi
        obtain ⟨ta, tn, tc, ts, I2, ct, htn, htl, hrl, hev1, hev2, hpre⟩ := HF.out.begins (by have := HN.out; omega)
        obtain ⟨a4, c4, hsl, hup, hblk4⟩ := Sl.upto (P := Try.prog) under_Evs size_Ev hev2.1 evenc_length tn htl
        have hev4 : Evs w3 I2 (.slice a4 tn c4) (rs.take tn) := ⟨hup, fun p hp => hev2.2 p (List.mem_of_mem_take hp)⟩
        have HSA := Lib.hid (fun (W : World) (hu : Upd (fun _ => False) w3 W) => same17_true (.slice ta tn tc) (.slice a4 tn c4) ts (rs.take tn) I2 I2 W (hev1.grow hu) (hev4.grow hu) hpre (by omega))
        have k1 : decide (rs.length < tn) = false := decide_eq_false (by omega)
        have k2 : (tn : Int) ≤ (rs.length : Int) := by omega
        have k3 : (0 : Int) ≤ (tn : Int) := by omega
        have hsa := HSA.out w3.drew (Upd.refl _ _).drew
        clear hev1 hev2 hev4 hpre hup hblk4 htn HSA
        go_upto_region 36 with (fail)
        go_region_held3 (fun w' => w'.cell? ⟨tb, 0, none⟩ = some (.slice ta tn tc))
          (first | exact ct | exact hxa.cell ct (fun x => x))
          (first
            | (go_at_call 19; (with_reducible refine hsa.mono ?_); rintro e w4 ⟨rfl, hu4⟩; have hxa := hu4.undrew))
        have HF4 := Lib.hid (HF.out.grow hxa)
        clear HF hxa hu4 hsa ct hsl k1 k2 k3 htl hrl
        go_upto_region 38 with (fail)
        have m1 : (0 : Int) ≤ (n : Int) := by omega
        have m2 : (n : Int) ≤ 800000000000 := by omega
        have HEND := Lib.hid (fun (W : World) (j : Nat) (hF : FSt w W ba ma room most ⟨key, end_, start, np, nd, pv⟩ (.slice wka wkn wkc) (.slice wea wen wec) tb (tb + 1) w.heap.size ws.length (.slice a n cc) as_ S (.slice a3 rs.length c3) rs j) (hj : n < j) => hF.done (by have := HN.out; omega) (by have := HN.out; omega))
        go_wp2
        go_loopw [185] (fun i wr => ∃ j : Nat, i = .int .i64 j ∧ j ≤ 2 * n + 4 ∧ FSt w wr ba ma room most ⟨key, end_, start, np, nd, pv⟩ (.slice wka wkn wkc) (.slice wea wen wec) tb (tb + 1) w.heap.size ws.length (.slice a n cc) as_ S (.slice a3 rs.length c3) rs j) (fun i _ => 2 * n + 4 - (intOf i).toNat)
        case atStart => exact ⟨0, rfl, Nat.zero_le _, HF4.out⟩
        case round =>
          clear HF4
          obtain ⟨j, rfl, hj, hF⟩ := hrel
          have HF := Lib.hid hF
          clear hF
          by_cases hlt : j < 2 * n + 4
          · have hfd := ffeed HF.out g1 g2 g3 g4 (by omega) lw1 lw2 HSM.out (by have := HN.out; omega)
            have HTL := Lib.hid (fun (W : World) (hM : FMid w W ba ma room most ⟨key, end_, start, np, nd, pv⟩ (.slice wka wkn wkc) (.slice wea wen wec) tb (tb + 1) w.heap.size ws.length (.slice a n cc) as_ S (.slice a3 rs.length c3) rs j) => ftell hM (by have := HN.out; omega))
            have x3 : (j : Int) < 2 * (n : Int) + 4 := by omega
            clear HF
            go_wp2_with (first
              | (go_at_call 17; (with_reducible refine hfd.mono ?_); rintro e w5 ⟨rfl, hM⟩; have htl := HTL.out w5 hM; clear hM)
              | (go_at_call 18; (with_reducible refine htl.mono ?_); rintro e w6 ⟨rfl, hF6⟩; have HF6 := Lib.hid hF6; clear hF6))
            go_roundw
            case rel => exact ⟨j + 1, by go_num, by omega, HF6.out⟩
            case measure => simp [intOf]; omega
          · have x3 : ¬ (j : Int) < 2 * (n : Int) + 4 := by omega
            obtain ⟨H, o, P, y, d1, d2, d3, d4, d5, d6, tv, ts, I2, d7, d8, d9, d10, d11⟩ := HEND.out _ j HF.out (by omega)
            have HUR := Lib.hid (show Upd (fun _ => False) w wr from by obtain ⟨_, _, _, _, _, _, hL, -⟩ := HF.out; exact hL.u)
            clear HF HEND hj hlt
            have hpg := progress_ok ba ma o P H 1 y wr d1 d3 d4 d5 (by rw [d2]; exact d6)
            have HSA := Lib.hid (fun (W : World) (hu : Upd (fun _ => False) wr W) => same17_true tv (.slice a3 rs.length c3) ts rs I2 I2 W (d8.grow hu) (d9.grow hu) d10 d11)
            have HSY := Lib.hid (fun (W : World) (hu : Upd (fun _ => False) wr W) => synced_calls ba ma o P H 1 W (d1.grow hu))
            have HPE := Lib.hid (fun (W : World) (hu : Upd (fun _ => False) wr W) => pending_calls ba ma o P H 1 W (d1.grow hu))
            have q1 : syncedB H 1 = true := by unfold syncedB; rw [d3]; simp; omega
            have q2 : pendN H 1 = 0 := by unfold pendN; rw [d3]; simp [d5]
            rw [q1] at HSY
            rw [q2] at HPE
            rw [d2] at hpg
            have D7 := Lib.hid d7
            clear d1 d2 d3 d4 d5 d6 d7 d8 d9 d10 d11 q1 q2
            go_upto_region 44 with (first
              | (go_at_call 22; (with_reducible refine hpg.mono ?_); rintro e w7 ⟨rfl, hu7⟩; have hz := (heap_alloc w7 (.cells zbatch 40)).1; have huz := upd_alloc (fun _ => False) w7 (.cells zbatch 40))
              | ((with_reducible refine wpl_store (ty := 40) (cs := #[.int .i64 1, .slice none 0 0, .bool false, .int .i64 0, .bool true, .int .i64 (ws.length : Int)]) hz ?_ ?_ ?_ ?_ ?_ ?_); rfl; rfl; rfl; kernel_rfl; rfl; intro w8 hq5 hu5 hs5 hd5))
            have hu8 : Upd (fun _ => False) wr w8 := (hu7.trans huz).trans' hu5 (fun x hx e => by have := hu7.size; omega)
            have c5 : w8.cell? ⟨w7.heap.size, 5, none⟩ = some (.int .i64 (ws.length : Int)) := cell_of hq5 5
            have c0 := hu8.cell D7.out (fun x => x)
            have hsa := HSA.out w8 hu8
            have k9 : ((ws.length : Int) == (ws.length : Int)) = true := by simp
            clear hq5 hu5 hs5 hd5 hz huz hu7
            have HC5 := Lib.hid c5
            clear c5
            go_wp2_with (first
              | (go_at_call 19; (with_reducible refine hsa.mono ?_); rintro e w9 ⟨rfl, hu9⟩; have hsy := HSY.out w9 (hu8.trans hu9))
              | (go_at_call 15; (with_reducible refine hsy.mono ?_); rintro e wa ⟨rfl, hua⟩; have hpe := HPE.out wa ((hu8.trans hu9).trans hua); have ca := hua.cell (hu9.cell HC5.out (fun x => x)) (fun x => x))
              | (go_at_call 16; (with_reducible refine hpe.mono ?_); rintro e wb ⟨rfl, rfl⟩))
            go_ret
            exact ⟨rfl, ((HUR.out.trans hu8).trans hu9).trans hua⟩

end Go.Proofs.Ytidpiojanajpoaa
