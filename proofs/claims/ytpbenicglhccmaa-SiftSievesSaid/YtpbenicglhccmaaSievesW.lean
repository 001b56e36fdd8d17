/-
  SiftSieves: the walk.
-/
import Derived.Deep.Cut
import Derived.Test.YtpbenicglhccmaaSievesA
import Derived.Test.YtpbenicglhccmaaTwiceW
namespace Go.Proofs.Ytpbenicglhccmaa
open Go.RowKit Go.Tb Go.MapKept Go.ChangeMaps Go.Lib
set_option linter.unusedVariables false

theorem RowAt.range {g : Nat} {w : World} {a : Option Addr} {c : Nat} {rs : List KvP} (h : RowAt g w (.slice a rs.length c) rs) (i : Nat) (hi : i < rs.length) : ∃ b off, a = some ⟨b, off, none⟩ ∧ w.rangeAt b (off + i * 6) (kvenc rs[i]) ∧ rs[i].Ok w (fun _ => True) := by
  obtain ⟨b, off, e, hr⟩ := h.1.range i hi
  exact ⟨b, off, e, hr, (h.1.2 _ (List.getElem_mem hi)).wider (fun _ _ => trivial)⟩

set_option maxRecDepth 100000 in
set_option maxHeartbeats 8000000 in
theorem sieves_ok (k e : Value) (q : Qr) (a : Option Addr) (c : Nat) (ps : List KvP) (w : World) (hs : Kvs w (fun _ => True) (.slice a ps.length c) ps) (hf : fewB ps = true) (hr : rightQ q = true) :
    Calls Try.prog 5 #[.agg (qcells k e q), .slice a ps.length c] w fun e w' => e = .returned (.bool true) ∧ Upd (fun _ => False) w w' := by
  have Hs := Lib.hid hs
  have Hu0 := Lib.hid (upd_alloc (fun _ => False) w (.cells (qcells k e q) 24))
  have Hq0 := Lib.hid (heap_alloc w (.cells (qcells k e q) 24)).1
  have Hf := Lib.hid hf
  have Hr := Lib.hid hr
  have hle60 : ps.length ≤ 60 := (fewB_true hf).1
  clear hs hf hr
  go_enter Try.func5, Try.ntmps5
  go_upto_region 3 with (first | (go_at_call 7; (with_reducible refine (lives_calls (w.alloc (.cells (qcells k e q) 24))).mono ?_); rintro e1 w1 ⟨rfl, hu1⟩; have U1 := Lib.hid (Hu0.out.trans hu1); have Q1 := Lib.hid (hu1.heap Hq0.out (fun x => x)); clear hu1) | (go_at_call 8; (with_reducible refine (few_at Hf.out a c _ w1 (Hs.out.grow U1.out)).mono ?_); rintro e2 w2 ⟨rfl, hu2⟩; have U2 := Lib.hid (U1.out.trans hu2); have Q2 := Lib.hid (hu2.heap Q1.out (fun x => x)); have d0 : w2.cell? ⟨w.heap.size, 0, none⟩ = some (k) := cell_of Q2.out 0; have d1 : w2.cell? ⟨w.heap.size, 1, none⟩ = some (e) := cell_of Q2.out 1; have d2 : w2.cell? ⟨w.heap.size, 2, none⟩ = some (.int .i64 q.at_) := cell_of Q2.out 2; have d3 : w2.cell? ⟨w.heap.size, 3, none⟩ = some (.int .i64 q.lim) := cell_of Q2.out 3; have d4 : w2.cell? ⟨w.heap.size, 4, none⟩ = some (.int .i64 q.sort) := cell_of Q2.out 4; have d5 : w2.cell? ⟨w.heap.size, 5, none⟩ = some (.bool q.desc) := cell_of Q2.out 5; have d6 : w2.cell? ⟨w.heap.size, 6, none⟩ = some (.bool q.keys) := cell_of Q2.out 6; have d7 : w2.cell? ⟨w.heap.size, 7, none⟩ = some (.bool q.count) := cell_of Q2.out 7; have d8 : w2.cell? ⟨w.heap.size, 8, none⟩ = some (.int .i64 q.mm) := cell_of Q2.out 8; have d9 : w2.cell? ⟨w.heap.size, 9, none⟩ = some (.int .i64 q.xm) := cell_of Q2.out 9; have d10 : w2.cell? ⟨w.heap.size, 10, none⟩ = some (.int .i64 q.mc) := cell_of Q2.out 10; have d11 : w2.cell? ⟨w.heap.size, 11, none⟩ = some (.int .i64 q.xc) := cell_of Q2.out 11; clear hu2) | (go_at_call 9; refine (right_at Hr.out k e w2).mono ?_; rintro e3 w3 ⟨rfl, hu3⟩; have U3 := Lib.hid (U2.out.trans hu3); have Q3 := Lib.hid (hu3.heap Q2.out (fun x => x)); clear d0 d1 d2 d3 d4 d5 d6 d7 d8 d9 d10 d11; skip; skip; clear hu3))
  have c3 : w3.cell? ⟨w.heap.size, 3, none⟩ = some (.int .i64 q.lim) := cell_of Q3.out 3
  have c6 : w3.cell? ⟨w.heap.size, 6, none⟩ = some (.bool q.keys) := cell_of Q3.out 6
  have c7 : w3.cell? ⟨w.heap.size, 7, none⟩ = some (.bool q.count) := cell_of Q3.out 7
  have f3 := free_of Q3.out 3
  have f6 := free_of Q3.out 6
  have f7 := free_of Q3.out 7
  go_upto_region 4 with (first | (go_at_call 7))
  have Q4 := Lib.hid (show (((w3.setCell ⟨w.heap.size, 3, none⟩ (.int .i64 0)).setCell ⟨w.heap.size, 7, none⟩ (.bool false)).setCell ⟨w.heap.size, 6, none⟩ (.bool false)).heap[w.heap.size]? = some (.cells (qcells k e (qA q)) 24 (0, 0)) by
    rw [heap_setCell_at (heap_setCell_at (heap_setCell_at Q3.out 3 _) 7 _) 6 _]; rfl)
  have U4 := Lib.hid (show Upd (fun _ => False) w (((w3.setCell ⟨w.heap.size, 3, none⟩ (.int .i64 0)).setCell ⟨w.heap.size, 7, none⟩ (.bool false)).setCell ⟨w.heap.size, 6, none⟩ (.bool false)) from
    U3.out.trans' (((upd_setCell (fun b => b = w.heap.size) w3 ⟨w.heap.size, 3, none⟩ _ rfl).trans (upd_setCell (fun b => b = w.heap.size) _ ⟨w.heap.size, 7, none⟩ _ rfl)).trans (upd_setCell (fun b => b = w.heap.size) _ ⟨w.heap.size, 6, none⟩ _ rfl)) (fun x hx e => by omega))
  clear c3 c6 c7 f3 f6 f7
  generalize ((w3.setCell ⟨w.heap.size, 3, none⟩ (.int .i64 0)).setCell ⟨w.heap.size, 7, none⟩ (.bool false)).setCell ⟨w.heap.size, 6, none⟩ (.bool false) = w4 at *
  clear U1 U2 U3 Q1 Q2 Q3 Hu0 Hq0
  generalize hg : w.heap.size = g at *
  go_wp2
  go_loopw [5, 30] (fun n i wr => ∃ j : Nat, j ≤ ps.length ∧ i = .int .i64 j ∧ n = .int .i64 ((passed q (ps.take j)).length : Nat) ∧ Upd (fun _ => False) w4 wr) (fun _ i _ => ps.length - (intOf i).toNat)
  case atStart => exact ⟨0, Nat.zero_le _, rfl, by simp [passed], Upd.refl _ _⟩
  case round =>
    obtain ⟨j, hj, rfl, rfl, hu⟩ := hrel
    have Hu := Lib.hid hu
    by_cases hlt : j < ps.length
    · obtain ⟨sb, so, rfl, hrg⟩ := Hs.out.range j hlt
      have hrg' : wr.rangeAt sb (so + j * 6) (kvenc ps[j]).toArray.toList := by
        rw [List.toList_toArray]; exact rangeAt_upd hrg (U4.out.trans hu) (fun x => x)
      have hkc := keeps_calls k e (qA q) ps[j].k.v ps[j].v.v ps[j].x
      have hkv : kvv ps[j].k.v ps[j].v.v ps[j].x = .agg (kvenc ps[j]).toArray := rfl
      rw [hkv] at hkc
      have hst := passed_step (q := q) hlt
      have Hq := Lib.hid (hu.heap Q4.out (fun x => x))
      have hkk : keepsQ (qA q) ps[j].x = keepsQ q ps[j].x := rfl
      rw [hkk] at hkc
      have hple : (passed q (ps.take j)).length ≤ 60 := by
        have := (fewB_true Hf.out).1
        unfold passed
        exact Nat.le_trans (List.length_filter_le _ _) (by rw [List.length_take]; omega)
      generalize (passed q (ps.take j)).length = m at *
      generalize ps[j] = p at *
      obtain ⟨x, s1, s2⟩ := p
      obtain ⟨key, val, cr, md, ve, le⟩ := x
      obtain ⟨a1, n1, d1⟩ := s1
      obtain ⟨a2, n2, d2⟩ := s2
      simp only [kvenc, Sv.v] at hrg' hkc
      have hbx := (heap_alloc wr (.cells #[.slice a1 n1 d1, .slice a2 n2 d2, .int .i64 cr, .int .i64 md, .int .i64 ve, .int .i64 le] 37)).1
      have hux := upd_alloc (fun _ => False) wr (.cells #[.slice a1 n1 d1, .slice a2 n2 d2, .int .i64 cr, .int .i64 md, .int .i64 ve, .int .i64 le] 37)
      have Hbx := Lib.hid hbx
      have Hux := Lib.hid hux
      have Hqx := Lib.hid (hux.heap Hq.out (fun x => x))
      have Hkc := Lib.hid hkc
      have Hrg := Lib.hid hrg'
      have Hst := Lib.hid hst
      have x0 : (0 : Int) ≤ (j : Int) := by omega
      have x1 : (j : Int) < (ps.length : Int) := by omega
      clear hrg hkv hbx hux hkc hrg' hst hkk hu
      cases hkq : keepsQ q ⟨key, val, cr, md, ve, le⟩ with
      | false =>
        have Hkq := Lib.hid hkq
        rw [hkq] at Hkc Hst
        clear hkq
        go_wp2_with (first
          | ((with_reducible refine wpl_load_at (ty := 37) Hrg.out Try.underlying37 ?_ ?_ ?_ ?_); rfl; rfl; kernel_rfl)
          | ((with_reducible refine wpl_load (ty := 24) Hqx.out Try.underlying24 ?_ ?_ ?_ ?_); rfl; rfl; kernel_rfl)
          | ((with_reducible refine wpl_load (ty := 37) Hbx.out Try.underlying37 ?_ ?_ ?_ ?_); rfl; rfl; kernel_rfl)
          | (go_at_call 14; (with_reducible refine (Hkc.out _).mono ?_); rintro e1 w3 ⟨rfl, hu3⟩; have U3 := Lib.hid hu3; clear hu3))
        go_roundw
        case rel => exact ⟨j + 1, by omega, by go_num, by rw [Hst.out]; simp, (Hu.out.trans Hux.out).trans U3.out⟩
        case measure => simp [intOf]; omega
      | true =>
        have Hkq := Lib.hid hkq
        rw [hkq] at Hkc Hst
        clear hkq
        go_wp2_with (first
          | ((with_reducible refine wpl_load_at (ty := 37) Hrg.out Try.underlying37 ?_ ?_ ?_ ?_); rfl; rfl; kernel_rfl)
          | ((with_reducible refine wpl_load (ty := 24) Hqx.out Try.underlying24 ?_ ?_ ?_ ?_); rfl; rfl; kernel_rfl)
          | ((with_reducible refine wpl_load (ty := 37) Hbx.out Try.underlying37 ?_ ?_ ?_ ?_); rfl; rfl; kernel_rfl)
          | (go_at_call 14; (with_reducible refine (Hkc.out _).mono ?_); rintro e1 w3 ⟨rfl, hu3⟩; have U3 := Lib.hid hu3; clear hu3))
        go_roundw
        case rel => exact ⟨j + 1, by omega, by go_num, by rw [Hst.out]; go_num, (Hu.out.trans Hux.out).trans U3.out⟩
        case measure => simp [intOf]; omega
    · obtain rfl : j = ps.length := by omega
      rw [List.take_length]
      have Q5 := Lib.hid (hu.heap Q4.out (fun x => x))
      have U5 := Lib.hid (U4.out.trans hu)
      have Hg5 := Lib.hid (show g < wr.heap.size from lt_of_heap Q5.out)
      have h1c := sieve_calls g k e q a c ps wr Hg5.out Hr.out (Hs.out.grow U5.out) (fewB_true Hf.out)
      have H1c := Lib.hid h1c
      clear h1c hu Hu
      generalize hN : (passed q ps).length = N at *
      have HN := Lib.hid hN
      clear hN
      go_upto_region 12 with (first
        | ((with_reducible refine wpl_load (ty := 24) Q5.out Try.underlying24 ?_ ?_ ?_ ?_); rfl; rfl; kernel_rfl)
        | (go_at_call 10; (with_reducible refine H1c.out.mono ?_); rintro e6 w6 ⟨a1, c1, rs, rfl, hlen, hkp, hrow, hu6, hnext⟩; rw [HN.out] at hlen; subst hlen; have ua6 := upd_alloc (fun _ => False) w6 (.cells #[.slice a1 rs.length c1, .int .i64 (ps.length : Nat), .bool false] 30); have Hkp := Lib.hid hkp; have Row6 := Lib.hid (hrow.grow ua6); have U6 := Lib.hid ((U5.out.trans hu6).trans ua6); have Q6 := Lib.hid (ua6.heap (hu6.heap Q5.out (fun x => x)) (fun x => x)); have R6 := Lib.hid (heap_alloc w6 (.cells #[.slice a1 rs.length c1, .int .i64 (ps.length : Nat), .bool false] 30)).1; have G6 := Lib.hid (Nat.lt_of_lt_of_le Hg5.out hu6.size); have Hnext := Lib.hid hnext; clear hkp hrow hu6 hnext ua6))
      generalize w6.alloc (.cells #[.slice a1 rs.length c1, .int .i64 (ps.length : Nat), .bool false] 30) = wA at *
      generalize w6.heap.size = g8 at *
      have hle2 : rs.length ≤ 60 := by
        have := HN.out
        have h2 : (passed q ps).length ≤ ps.length := List.length_filter_le _ _
        omega
      clear HN H1c Q5 U5
      have c6 : wA.cell? ⟨g, 6, none⟩ = some (.bool false) := cell_of Q6.out 6
      have f6 := free_of Q6.out 6
      go_upto_region 13 with (first | (go_at_call 7))
      clear c6 f6
      have u7 := upd_setCell (fun b => b = g) wA ⟨g, 6, none⟩ (.bool true) rfl
      have Q7 := Lib.hid (show (wA.setCell ⟨g, 6, none⟩ (.bool true)).heap[g]? = some (.cells (qcells k e (qB q)) 24 (0, 0)) by rw [heap_setCell_at Q6.out 6 _]; rfl)
      have U7 := Lib.hid (U6.out.trans' u7 (fun x hx e => by omega))
      have Row7 := Lib.hid (Row6.out.upd u7)
      have R7 := Lib.hid (u7.heap R6.out (fun e => by have := G6.out; omega))
      generalize wA.setCell ⟨g, 6, none⟩ (.bool true) = wB at *
      clear u7 Q6 U6 Row6 R6
      have H2c := Lib.hid (Hnext.out wB (lt_of_heap Q7.out) (Hs.out.grow U7.out))
      clear Hnext
      go_upto_region 14 with (first
        | ((with_reducible refine wpl_load (ty := 24) Q7.out Try.underlying24 ?_ ?_ ?_ ?_); rfl; rfl; kernel_rfl)
        | (go_at_call 10; (with_reducible refine H2c.out.mono ?_); rintro e8 w8 ⟨a2, c2, rs2, rfl, hmap, hrow2, hu8⟩; have ua8 := upd_alloc (fun _ => False) w8 (.cells #[.slice a2 rs.length c2, .int .i64 (ps.length : Nat), .bool false] 30); have Hmap := Lib.hid hmap; have Row8 := Lib.hid ((Row7.out.grow hu8).grow ua8); have Rowb := Lib.hid (hrow2.grow ua8); have U8 := Lib.hid ((U7.out.trans hu8).trans ua8); have Q8 := Lib.hid (ua8.heap (hu8.heap Q7.out (fun x => x)) (fun x => x)); have R8 := Lib.hid (ua8.heap (hu8.heap R7.out (fun x => x)) (fun x => x)); have R8b := Lib.hid (heap_alloc w8 (.cells #[.slice a2 rs.length c2, .int .i64 (ps.length : Nat), .bool false] 30)).1; have G8 := Lib.hid (Nat.lt_of_lt_of_le (lt_of_heap Q7.out) hu8.size); clear hmap hrow2 hu8 ua8))
      generalize w8.alloc (.cells #[.slice a2 rs.length c2, .int .i64 (ps.length : Nat), .bool false] 30) = wC at *
      generalize w8.heap.size = g9 at *
      clear H2c Row7 U7 Q7 R7
      have c7 : wC.cell? ⟨g, 7, none⟩ = some (.bool false) := cell_of Q8.out 7
      have f7 := free_of Q8.out 7
      go_upto_region 15 with (first | (go_at_call 7))
      clear c7 f7
      have u9 := upd_setCell (fun b => b = g) wC ⟨g, 7, none⟩ (.bool true) rfl
      have Q9 := Lib.hid (show (wC.setCell ⟨g, 7, none⟩ (.bool true)).heap[g]? = some (.cells (qcells k e (qC q)) 24 (0, 0)) by rw [heap_setCell_at Q8.out 7 _]; rfl)
      have U9 := Lib.hid (U8.out.trans' u9 (fun x hx e => by omega))
      have Row9 := Lib.hid (Row8.out.upd u9)
      have Row9b := Lib.hid (Rowb.out.upd u9)
      have R9 := Lib.hid (u9.heap R8.out (fun e => by have := G6.out; omega))
      have R9b := Lib.hid (u9.heap R8b.out (fun e => by have := G8.out; omega))
      generalize wC.setCell ⟨g, 7, none⟩ (.bool true) = wD at *
      clear u9 Q8 U8 Row8 Rowb R8 R8b
      go_upto_region 16 with (first
        | ((with_reducible refine wpl_load (ty := 24) Q9.out Try.underlying24 ?_ ?_ ?_ ?_); rfl; rfl; kernel_rfl)
        | (go_at_call 10; (with_reducible refine (sift_count k e (qC q) a ps.length c wD (qC_right Hr.out) rfl).mono ?_); rintro e10 w10 ⟨rfl, hu10⟩; have ua10 := hu10.trans (upd_alloc (fun _ => False) w10 (.cells #[.slice none 0 0, .int .i64 (ps.length : Nat), .bool false] 30)); have RowF := Lib.hid (Row9.out.grow ua10); have RowFb := Lib.hid (Row9b.out.grow ua10); have UF := Lib.hid (U9.out.trans ua10); have QF := Lib.hid (ua10.heap Q9.out (fun x => x)); have RF := Lib.hid (ua10.heap R9.out (fun x => x)); have RFb := Lib.hid (ua10.heap R9b.out (fun x => x)); have RFc := Lib.hid (heap_alloc w10 (.cells #[.slice none 0 0, .int .i64 (ps.length : Nat), .bool false] 30)).1; clear hu10 ua10))
      generalize w10.alloc (.cells #[.slice none 0 0, .int .i64 (ps.length : Nat), .bool false] 30) = wF at *
      generalize w10.heap.size = g10 at *
      clear Q9 U9 Row9 Row9b R9 R9b
      have e80 : wF.cell? ⟨g8, 0, none⟩ = some (.slice a1 rs.length c1) := cell_of RF.out 0
      have e90 : wF.cell? ⟨g9, 0, none⟩ = some (.slice a2 rs.length c2) := cell_of RFb.out 0
      have e100 : wF.cell? ⟨g10, 0, none⟩ = some (.slice none 0 0) := cell_of RFc.out 0
      have e101 : wF.cell? ⟨g10, 1, none⟩ = some (.int .i64 (ps.length : Nat)) := cell_of RFc.out 1
      have e102 : wF.cell? ⟨g10, 2, none⟩ = some (.bool false) := cell_of RFc.out 2
      go_wp2
      clear e80 e90 e100 e101 e102
      go_loopw [83] (fun i wr => ∃ j : Nat, j ≤ rs.length ∧ i = .int .i64 j ∧ Upd (fun _ => False) wF wr) (fun i _ => rs.length - (intOf i).toNat)
      case atStart => exact ⟨0, Nat.zero_le _, rfl, Upd.refl _ _⟩
      case round =>
        obtain ⟨j, hj, rfl, hu⟩ := hrel
        have Hu := Lib.hid hu
        have hl2 : rs2.length = rs.length := by have := congrArg List.length Hmap.out; simpa using this
        have Hl2 := Lib.hid hl2
        by_cases hlt : j < rs.length
        · obtain ⟨b1, o1, rfl, q1, ok1⟩ := (RowF.out.grow hu).range j hlt
          obtain ⟨b2, o2, e2, q2, ok2⟩ := (show RowAt g wr (.slice a2 rs2.length c2) rs2 by rw [hl2]; exact RowFb.out.grow hu).range j (by omega)
          subst e2
          have hbare : rs2[j].x = bare rs[j].x := by
            have h1 : (rs2.map KvP.x)[j]? = ((rs.map KvP.x).map bare)[j]? := by rw [Hmap.out]
            rw [List.getElem?_map, List.getElem?_map, List.getElem?_map, List.getElem?_eq_getElem hlt, List.getElem?_eq_getElem (by omega)] at h1
            simpa using h1
          have hkeep := Hkp.out _ (List.getElem_mem hlt)
          have y0 : wr.cell? ⟨g8, 0, none⟩ = some (.slice (some ⟨b1, o1, none⟩) rs.length c1) := cell_of (hu.heap RF.out (fun x => x)) 0
          have y1 : wr.cell? ⟨g9, 0, none⟩ = some (.slice (some ⟨b2, o2, none⟩) rs.length c2) := cell_of (hu.heap RFb.out (fun x => x)) 0
          have d0 : wr.cell? ⟨g, 0, none⟩ = some (k) := cell_of (Hu.out.heap QF.out (fun x => x)) 0
          have d1 : wr.cell? ⟨g, 1, none⟩ = some (e) := cell_of (Hu.out.heap QF.out (fun x => x)) 1
          have d2 : wr.cell? ⟨g, 2, none⟩ = some (.int .i64 q.at_) := cell_of (Hu.out.heap QF.out (fun x => x)) 2
          have d3 : wr.cell? ⟨g, 3, none⟩ = some (.int .i64 0) := cell_of (Hu.out.heap QF.out (fun x => x)) 3
          have d4 : wr.cell? ⟨g, 4, none⟩ = some (.int .i64 q.sort) := cell_of (Hu.out.heap QF.out (fun x => x)) 4
          have d5 : wr.cell? ⟨g, 5, none⟩ = some (.bool q.desc) := cell_of (Hu.out.heap QF.out (fun x => x)) 5
          have d6 : wr.cell? ⟨g, 6, none⟩ = some (.bool true) := cell_of (Hu.out.heap QF.out (fun x => x)) 6
          have d7 : wr.cell? ⟨g, 7, none⟩ = some (.bool true) := cell_of (Hu.out.heap QF.out (fun x => x)) 7
          have d8 : wr.cell? ⟨g, 8, none⟩ = some (.int .i64 q.mm) := cell_of (Hu.out.heap QF.out (fun x => x)) 8
          have d9 : wr.cell? ⟨g, 9, none⟩ = some (.int .i64 q.xm) := cell_of (Hu.out.heap QF.out (fun x => x)) 9
          have d10 : wr.cell? ⟨g, 10, none⟩ = some (.int .i64 q.mc) := cell_of (Hu.out.heap QF.out (fun x => x)) 10
          have d11 : wr.cell? ⟨g, 11, none⟩ = some (.int .i64 q.xc) := cell_of (Hu.out.heap QF.out (fun x => x)) 11
          have x0 : (0 : Int) ≤ (j : Int) := by omega
          have x1 : (j : Int) < (rs.length : Int) := by omega
          have hkc := keeps_calls k e (qC q) rs[j].k.v rs[j].v.v rs[j].x wr.drew
          rw [show keepsQ (qC q) rs[j].x = true from hkeep] at hkc
          have hsm := same01_calls rs[j].k.v rs2[j].k.v rs[j].x.key rs2[j].x.key wr.drew (ok1.k.upd (Upd.refl _ _).drew (fun _ _ x => x)) (ok2.k.upd (Upd.refl _ _).drew (fun _ _ x => x))
          have hky : rs2[j].x.key = rs[j].x.key := by rw [hbare]; rfl
          have hvl : rs2[j].x.val = [] := by rw [hbare]; rfl
          rw [hky, beq_self_eq_true] at hsm
          have hvs := ok2.v
          rw [hvl] at hvs
          clear hky hvl hbare hkeep ok1 ok2 hu
          generalize rs[j] = p at *
          generalize rs2[j] = p2 at *
          obtain ⟨⟨key, val, t1, m1, n1, l1⟩, ⟨ka, kn, kc⟩, ⟨va, vn, vc⟩⟩ := p
          obtain ⟨⟨key2, val2, t2, m2, n2, l2⟩, ⟨ka2, kn2, kc2⟩, ⟨va2, vn2, vc2⟩⟩ := p2
          obtain rfl : vn2 = 0 := hvs.size.symm
          simp only [kvenc, Sv.v, kvv] at q1 q2 hkc hsm
          have hkc' : Calls Try.prog 14 #[.agg #[k, e, .int .i64 q.at_, .int .i64 0, .int .i64 q.sort, .bool q.desc, .bool true, .bool true, .int .i64 q.mm, .int .i64 q.xm, .int .i64 q.mc, .int .i64 q.xc], .agg #[.slice ka kn kc, .slice va vn vc, .int .i64 t1, .int .i64 m1, .int .i64 n1, .int .i64 l1]] wr.drew (fun e w' => e = .returned (.bool true) ∧ Upd (fun _ => False) wr.drew w') := hkc
          clear hvs hkc
          obtain ⟨r0, r1, r2, r3, r4, r5⟩ := range6 q1
          obtain ⟨s0, s1, _, _, _, _⟩ := range6 q2
          clear q1 q2
          go_wp2
          go_region_held3 (fun w' => w'.cell? ⟨g8, 0, none⟩ = some (.slice (some ⟨b1, o1, none⟩) rs.length c1) ∧ w'.cell? ⟨g9, 0, none⟩ = some (.slice (some ⟨b2, o2, none⟩) rs.length c2) ∧ w'.cell? ⟨b1, o1 + j * 6, none⟩ = some (.slice ka kn kc) ∧ w'.cell? ⟨b1, o1 + j * 6 + 1, none⟩ = some (.slice va vn vc) ∧ w'.cell? ⟨b1, o1 + j * 6 + 2, none⟩ = some (.int .i64 t1) ∧ w'.cell? ⟨b1, o1 + j * 6 + 3, none⟩ = some (.int .i64 m1) ∧ w'.cell? ⟨b1, o1 + j * 6 + 4, none⟩ = some (.int .i64 n1) ∧ w'.cell? ⟨b1, o1 + j * 6 + 5, none⟩ = some (.int .i64 l1) ∧ w'.cell? ⟨b2, o2 + j * 6, none⟩ = some (.slice ka2 kn2 kc2) ∧ w'.cell? ⟨b2, o2 + j * 6 + 1, none⟩ = some (.slice va2 0 vc2) ∧ w'.cell? ⟨g, 0, none⟩ = some (k) ∧ w'.cell? ⟨g, 1, none⟩ = some (e) ∧ w'.cell? ⟨g, 2, none⟩ = some (.int .i64 q.at_) ∧ w'.cell? ⟨g, 3, none⟩ = some (.int .i64 0) ∧ w'.cell? ⟨g, 4, none⟩ = some (.int .i64 q.sort) ∧ w'.cell? ⟨g, 5, none⟩ = some (.bool q.desc) ∧ w'.cell? ⟨g, 6, none⟩ = some (.bool true) ∧ w'.cell? ⟨g, 7, none⟩ = some (.bool true) ∧ w'.cell? ⟨g, 8, none⟩ = some (.int .i64 q.mm) ∧ w'.cell? ⟨g, 9, none⟩ = some (.int .i64 q.xm) ∧ w'.cell? ⟨g, 10, none⟩ = some (.int .i64 q.mc) ∧ w'.cell? ⟨g, 11, none⟩ = some (.int .i64 q.xc))
            (first | exact ⟨y0, y1, r0, r1, r2, r3, r4, r5, s0, s1, d0, d1, d2, d3, d4, d5, d6, d7, d8, d9, d10, d11⟩ | exact ⟨hx.cell y0 (fun x => x), hx.cell y1 (fun x => x), hx.cell r0 (fun x => x), hx.cell r1 (fun x => x), hx.cell r2 (fun x => x), hx.cell r3 (fun x => x), hx.cell r4 (fun x => x), hx.cell r5 (fun x => x), hx.cell s0 (fun x => x), hx.cell s1 (fun x => x), hx.cell d0 (fun x => x), hx.cell d1 (fun x => x), hx.cell d2 (fun x => x), hx.cell d3 (fun x => x), hx.cell d4 (fun x => x), hx.cell d5 (fun x => x), hx.cell d6 (fun x => x), hx.cell d7 (fun x => x), hx.cell d8 (fun x => x), hx.cell d9 (fun x => x), hx.cell d10 (fun x => x), hx.cell d11 (fun x => x)⟩)
            (first | (go_at_call 15; (with_reducible refine hsm.mono ?_); rintro e1 wx ⟨rfl, rfl⟩) | (go_at_call 14; (with_reducible refine hkc'.mono ?_); rintro e1 wx ⟨rfl, hxu⟩; have hx := hxu.undrew))
          go_wp2
          go_roundw
          case rel => exact ⟨j + 1, by omega, by go_num, Hu.out.trans hx⟩
          case measure => simp [intOf]; omega
        · obtain rfl : j = rs.length := by omega
          go_wp2
          go_ret
          exact ⟨rfl, UF.out.trans Hu.out⟩

end Go.Proofs.Ytpbenicglhccmaa
