/-
  Sift: the walk.
-/
import Derived.Deep.Cut
import Derived.Test.YtpbenicglhccmaaSiftG
namespace Go.Proofs.Ytpbenicglhccmaa
open Go.RowKit Go.Tb Go.MapKept Go.ChangeMaps Go.Lib
set_option linter.unusedVariables false

set_option maxRecDepth 100000 in
set_option maxHeartbeats 4000000 in
theorem sift_ok (k e : Value) (q : Qr) (a : Option Addr) (c : Nat) (ps : List KvP) (I : Nat → Prop) (w : World) (hq : rightQ q = true) (hc : q.count = false) (hs : Kvs w I (.slice a ps.length c) ps) (hn : ps.length ≤ 100000) (hl : ∀ p ∈ ps, p.x.key.length ≤ 100000 ∧ p.x.val.length ≤ 100000) :
    Calls Try.prog 10 #[.agg (qcells k e q), .slice a ps.length c] w (SiftSays q ps w) := by
  have hr := right_calls k e q
  rw [hq] at hr
  obtain ⟨h1, h2, h3, h4⟩ := sift_start k e q w
  have H1 := Lib.hid h1
  have H2 := Lib.hid h2
  have H3 := Lib.hid h3
  have Hr := Lib.hid hr
  have Hs := Lib.hid hs
  have Hl := Lib.hid hl
  have Hc := Lib.hid hc
  clear hr hq h1 h2 h3 h4 hs hl hc
  go_enter Try.func10, Try.ntmps10
  go_wp2_with (first
    | ((with_reducible refine wpl_load (ty := 24) H1.out Try.underlying24 ?_ ?_ ?_ ?_); rfl; rfl; kernel_rfl)
    | (go_at_call 9; (with_reducible refine (Hr.out _).mono ?_); rintro e1 w1 ⟨rfl, hu1⟩; have G1 := Lib.hid (hu1.heap H1.out (fun x => x)); have G2 := Lib.hid (hu1.heap H2.out (fun x => x)); have U1 := Lib.hid hu1; have hzz : w.heap.size + 1 < w1.heap.size := lt_of_heap G2.out; have c7' : (w1.alloc (.cells #[.slice none 0 0, .int .i64 (ps.length : Nat), .bool false] 30)).cell? ⟨w.heap.size, 7, none⟩ = some (.bool false) := (upd_alloc (fun _ => False) _ _).cell (show w1.cell? ⟨w.heap.size, 7, none⟩ = some (.bool false) by { rw [cell_of G1.out 7]; simp [qcells, Hc.out] }) (fun x => x); clear hu1))
  have hua := upd_alloc (fun _ => False) w1 (.cells #[.slice none 0 0, .int .i64 (ps.length : Nat), .bool false] 30)
  have hoa := (heap_alloc w1 (.cells #[.slice none 0 0, .int .i64 (ps.length : Nat), .bool false] 30)).1
  have Hst := Lib.hid (show SiftAt w w.heap.size w1.heap.size k e q ps ps.length 0 (w1.alloc (.cells #[.slice none 0 0, .int .i64 (ps.length : Nat), .bool false] 30)) none 0 [] (fun _ => False) from
    { out := hoa, own := World.ownsRow_nil _ _ _ _, ok := fun p hp => (by cases hp), dj := fun b hb => (by cases hb), ge := fun b hb => hb.elim, eq := by simp, u := (H3.out.trans U1.out).trans hua, qa := hua.heap G1.out (fun x => x), s1 := by omega, s2 := by simp, s3 := Nat.le_refl _ })
  have G2' := Lib.hid (hua.heap G2.out (fun x => x))
  have hzb : w.heap.size + 1 < w1.heap.size := hzz
  clear hua hoa c7' hzz U1 H1 H2 H3
  generalize w1.heap.size = ob at *
  go_loopw [21] (fun i wr => ∃ (j : Nat) (va : Option Addr) (vc : Nat) (rs : List KvP) (J : Nat → Prop), j ≤ ps.length ∧ i = .int .i64 j ∧ SiftAt w w.heap.size ob k e q ps ps.length j wr va vc rs J ∧ wr.heap[w.heap.size + 1]? = some (.cells zres 30 (0, 0))) (fun i _ => ps.length - (intOf i).toNat)
  case atStart => exact ⟨0, _, _, _, _, Nat.zero_le _, rfl, Hst.out, G2'.out⟩
  case round =>
    clear Hst G2'
    obtain ⟨j, va, vc, rs, J, hj, rfl, hA, hz⟩ := hrel
    by_cases hlt : j < ps.length
    · have hAl := hA.len
      obtain ⟨sb, so, rfl, hrg⟩ := Hs.out.range j hlt
      have hrg' : wr.rangeAt sb (so + j * 6) (kvenc ps[j]).toArray.toList := by
        rw [List.toList_toArray]; exact rangeAt_upd hrg hA.u (fun x => x)
      have hpo := (Hs.out.2 _ (List.getElem_mem hlt)).grow hA.u
      have hkc := keeps_calls k e q ps[j].k.v ps[j].v.v ps[j].x
      have htw := fun (W : World) (hu : Upd (fun _ => False) wr W) => twin_calls ps[j] I W (hpo.grow hu) (by have := (Hl.out _ (List.getElem_mem hlt)).1; omega) (by have := (Hl.out _ (List.getElem_mem hlt)).2; omega)
      have hskip := hA.skip hlt
      have hmore := @SiftAt.more w wr
      have hxs : (kvenc ps[j]).toArray.size = 6 := rfl
      have hkv : kvv ps[j].k.v ps[j].v.v ps[j].x = .agg (kvenc ps[j]).toArray := rfl
      rw [hkv] at hkc
      have Hmore := Lib.hid (show keepsQ q ps[j].x = true → ∀ (w4 w5 : World) (a' : Option Addr) (c' : Nat) (p : KvP), p.x = ps[j].x → p.Ok w4 (fun b => (wr.alloc (.cells (kvenc ps[j]).toArray 37)).heap.size ≤ b ∧ b < w4.heap.size) → Upd (fun _ => False) (wr.alloc (.cells (kvenc ps[j]).toArray 37)) w4 → w5.ownsRow (ob + 1) 37 6 (.slice a' (rs.length + 1) c') (rs ++ [p]).length ((rs ++ [p]).flatMap kvenc) → Upd (fun b => sliceBlock (.slice va rs.length vc) = some b) (w4.alloc (.cells (kvenc p).toArray 37)) w5 → (sliceBlock (.slice a' (rs.length + 1) c') = sliceBlock (.slice va rs.length vc) ∨ sliceBlock (.slice a' (rs.length + 1) c') = some (w4.alloc (.cells (kvenc p).toArray 37)).heap.size) →
          ∃ J', SiftAt w w.heap.size ob k e q ps ps.length (j + 1) (w5.setCell ⟨ob, 0, none⟩ (.slice a' (rs.length + 1) c')) a' c' (rs ++ [p]) J' from
        fun hk w4 w5 a' c' p hp hpo h4 ho hu5 hat => (hA.grow (upd_alloc _ wr _)).more hlt hk hp hpo h4 ho hu5 hat)
      have hqa := Lib.hid hA.qa
      have hout := Lib.hid hA.out
      have hown := Lib.hid hA.own
      have hgs := Lib.hid (show ob < wr.heap.size from hA.s2)
      have hus := Lib.hid hA.u
      have hA' := Lib.hid (fun (W : World) (hu : Upd (fun _ => False) wr W) => hA.grow hu)
      generalize ps[j] = p at *
      obtain ⟨x, s1, s2⟩ := p
      obtain ⟨key, val, cr, md, ve, le⟩ := x
      obtain ⟨a1, n1, d1⟩ := s1
      obtain ⟨a2, n2, d2⟩ := s2
      simp only [kvenc, Sv.v] at hrg' hkc htw Hmore hskip
      have hbx := (heap_alloc wr (.cells #[.slice a1 n1 d1, .slice a2 n2 d2, .int .i64 cr, .int .i64 md, .int .i64 ve, .int .i64 le] 37)).1
      have hux := upd_alloc (fun _ => False) wr (.cells #[.slice a1 n1 d1, .slice a2 n2 d2, .int .i64 cr, .int .i64 md, .int .i64 ve, .int .i64 le] 37)
      have Hbx := Lib.hid hbx
      have Hux := Lib.hid hux
      have Hqx := Lib.hid (hux.heap hqa.out (fun x => x))
      have Hkc := Lib.hid hkc
      have Htw := Lib.hid htw
      have Hskip := Lib.hid hskip
      have Hz := Lib.hid hz
      have HA := Lib.hid hA
      have Hrg := Lib.hid hrg'
      clear hrg hpo hmore hxs hkv hbx hux hkc htw hskip hA hz hrg'
      have x0 : (0 : Int) ≤ (j : Int) := by omega
      have x1 : (j : Int) < (ps.length : Int) := by omega
      cases hkq : keepsQ q ⟨key, val, cr, md, ve, le⟩ with
      | false =>
        rw [hkq] at Hkc
        have Hn := Lib.hid (Hskip.out hkq)
        clear hkq Hskip Hmore
        go_wp2_with (first
          | ((with_reducible refine wpl_load_at (ty := 37) Hrg.out Try.underlying37 ?_ ?_ ?_ ?_); rfl; rfl; kernel_rfl)
          | ((with_reducible refine wpl_load (ty := 24) Hqx.out Try.underlying24 ?_ ?_ ?_ ?_); rfl; rfl; kernel_rfl)
          | ((with_reducible refine wpl_load (ty := 37) Hbx.out Try.underlying37 ?_ ?_ ?_ ?_); rfl; rfl; kernel_rfl)
          | (go_at_call 14; (with_reducible refine (Hkc.out _).mono ?_); rintro e1 w3 ⟨rfl, hu3⟩; have U3 := Lib.hid hu3; clear hu3))
        go_roundw
        case rel => exact ⟨j + 1, va, vc, rs, J, by omega, by go_num, Hn.out.grow (Hux.out.trans U3.out), (Hux.out.trans U3.out).heap Hz.out (fun x => x)⟩
        case measure => simp [intOf]; omega
      | true =>
        rw [hkq] at Hkc
        have Hn := Lib.hid (Hmore.out hkq)
        clear hkq Hskip Hmore
        have Hap := Lib.hid (fun (w4 : World) (p : KvP) (hu : Upd (fun _ => False) wr w4) => append_kv (ob + 1) va rs.length vc rs p w4 rfl (own_grow hown.out hu) (by have := hgs.out; have := hu.size; omega) (by omega))
        go_wp2_with (first
          | ((with_reducible refine wpl_load_at (ty := 37) Hrg.out Try.underlying37 ?_ ?_ ?_ ?_); rfl; rfl; kernel_rfl)
          | ((with_reducible refine wpl_load (ty := 24) Hqx.out Try.underlying24 ?_ ?_ ?_ ?_); rfl; rfl; kernel_rfl)
          | ((with_reducible refine wpl_load (ty := 37) Hbx.out Try.underlying37 ?_ ?_ ?_ ?_); rfl; rfl; kernel_rfl)
          | (go_at_call 14; (with_reducible refine (Hkc.out _).mono ?_); rintro e1 w3 ⟨rfl, hu3⟩; have U3 := Lib.hid (Hux.out.trans hu3); have U3x := Lib.hid hu3; have hb3 := hu3.heap Hbx.out (fun x => x); have e0 := cell_of hb3 0; have e1' := cell_of hb3 1; have e2 := cell_of hb3 2; have e3 := cell_of hb3 3; have e4 := cell_of hb3 4; have e5 := cell_of hb3 5; have ev : w3.cell? ⟨ob, 0, none⟩ = some (.slice va rs.length vc) := cell_of ((Hux.out.trans hu3).heap hout.out (fun x => x)) 0; have htw3 := Htw.out w3.drew (Hux.out.trans hu3).drew; clear hu3 hb3))
        go_region_law (first
          | (refine step_append hap (by rfl) (by rfl) (by rfl) (by rfl) ?_)
          | (go_simp; go_at_call 16; with_reducible refine htw3.mono ?_; rintro e4 w4 ⟨p4, rfl, hx4, ho4, hu4⟩; have Hx4 := Lib.hid hx4; clear hx4; obtain ⟨a5, c5, w5, hap, hown5, hu5, hat5⟩ := Hap.out w4 p4 (U3.out.trans hu4.undrew); have ev4 := hu4.undrew.cell ev (fun x => x); have ev4' : (w4.alloc (.cells (kvx p4) 37)).cell? ⟨ob, 0, none⟩ = some (.slice va rs.length vc) := (upd_alloc (fun _ => False) w4 _).cell ev4 (fun x => x); have hblk5 := hu5.heap ((upd_alloc (fun _ => False) w4 (.cells (kvenc p4).toArray 37)).heap ((U3.out.trans hu4.undrew).heap hout.out (fun x => x)) (fun x => x)) (fun e => by have := (own_ge hown.out _ e).1; omega); have ev5 := cell_of hblk5 0; have fv5 := free_of hblk5 0; have U4 := Lib.hid hu4.undrew; have Ho4 := Lib.hid ho4; have Hown5 := Lib.hid hown5; have Hu5 := Lib.hid hu5; have Hat5 := Lib.hid hat5; clear hu4 ho4 hown5 hu5 hat5 hblk5))
        all_goals
          have Hfin := Lib.hid (Hn.out w4 w5 a5 c5 p4 Hx4.out (Ho4.out.wider (fun b hb => ⟨Nat.le_trans U3x.out.size hb.1, hb.2⟩)) (U3x.out.trans U4.out) Hown5.out Hu5.out Hat5.out)
          have Hz5 := Lib.hid (show (w5.setCell ⟨ob, 0, none⟩ (.slice a5 (rs.length + 1) c5)).heap[w.heap.size + 1]? = some (.cells zres 30 (0, 0)) from
            (upd_setCell (fun b => b = ob) w5 ⟨ob, 0, none⟩ _ rfl).heap (Hu5.out.heap ((upd_alloc (fun _ => False) w4 (.cells (kvenc p4).toArray 37)).heap ((U3.out.trans U4.out).heap Hz.out (fun x => x)) (fun x => x)) (fun e => by have := (own_ge hown.out _ e).1; omega)) (by omega))
          clear ev ev4 ev4' ev5 fv5 hap htw3 e0 e1' e2 e3 e4 e5
          go_wp2
          go_roundw
          case rel =>
            obtain ⟨J', hJ'⟩ := Hfin.out
            exact ⟨j + 1, a5, c5, rs ++ [p4], J', by omega, by go_num, hJ', Hz5.out⟩
          case measure => simp [intOf]; omega
    · obtain rfl : j = ps.length := by omega
      have hAl := hA.len
      have heq : rs.map KvP.x = (ps.map KvP.x).filter (keepsQ q) := by have := hA.eq; rwa [List.take_length] at this
      have hsort := sortkv_calls (ob + 1) w.heap.size k e q (.slice va rs.length vc) rs J wr hA.own hA.ok hA.dj hA.qa (fun h => by have := (own_ge hA.own _ h).1; have := hA.s1; omega) (by omega)
      have hobr : ¬ sliceBlock (.slice va rs.length vc) = some ob := fun h => by have := (own_ge hA.own _ h).1; omega
      have hrb := own_ge hA.own
      have ev : wr.cell? ⟨ob, 0, none⟩ = some (.slice va rs.length vc) := cell_of hA.out 0
      have HA := Lib.hid hA
      have Hz := Lib.hid hz
      have Heq := Lib.hid heq
      have Hrb := Lib.hid hrb
      have Hob := Lib.hid hobr
      clear hA hz heq hrb hobr
      have hbq := Lib.hid (fun (W : World) (h : W.heap[w.heap.size]? = some (.cells (qcells k e q) 24 (0, 0))) => (show W.cell? ⟨w.heap.size, 3, none⟩ = some (.int .i64 q.lim) ∧ W.cell? ⟨w.heap.size, 6, none⟩ = some (.bool q.keys) from ⟨cell_of h 3, cell_of h 6⟩))
      have hqo := HA.out.s1
      by_cases hcut : 0 < q.lim ∧ q.lim < (rs.length : Int)
      · obtain ⟨m, hm⟩ := Int.eq_ofNat_of_zero_le (show 0 ≤ q.lim by omega)
        have Hcut := Lib.hid (show cutQ q rs.length = true from decide_eq_true hcut)
        have hbm := Lib.hid (fun (W : World) (h : W.heap[w.heap.size]? = some (.cells (qcells k e q) 24 (0, 0))) => (show W.cell? ⟨w.heap.size, 3, none⟩ = some (.int .i64 (m : Int)) ∧ W.cell? ⟨w.heap.size, 6, none⟩ = some (.bool q.keys) from ⟨by rw [← hm]; exact cell_of h 3, cell_of h 6⟩))
        obtain ⟨hc1, hc2⟩ := hcut
        rw [hm] at hc1 hc2
        have Hm := Lib.hid (show q.lim.toNat = m by omega)
        have hcap : rs.length ≤ vc := by obtain ⟨a3, c3, h3, h4⟩ := own_shape HA.out.own; cases h3; exact h4
        have hm0 : (0 : Int) ≤ (m : Int) := by omega
        have hm1 : (m : Int) ≤ (vc : Int) := by omega
        clear hm hbq
        have hbq := hbm
        go_upto_region 15 with (first | (go_at_call 17; (with_reducible refine hsort.mono ?_); rintro e6 w6 ⟨rfl, qs, hperm, hpw, hown6, hok6, hu6⟩; have Hlq := Lib.hid (show qs.length = rs.length from hperm.length_eq); have Hperm := Lib.hid hperm; have Hpw := Lib.hid hpw; have Hown6 := Lib.hid hown6; have Hok6 := Lib.hid hok6; have Hu6 := Lib.hid hu6; have ho6 := hu6.heap HA.out.out Hob.out; have ev6 : w6.cell? ⟨ob, 0, none⟩ = some (.slice va rs.length vc) := cell_of ho6 0; have fv6 : w6.frozen? ⟨ob, 0, none⟩ = false := free_of ho6 0; have ev62 : w6.cell? ⟨ob, 2, none⟩ = some (.bool false) := cell_of ho6 2; have fv62 : w6.frozen? ⟨ob, 2, none⟩ = false := free_of ho6 2; have Hq6 := Lib.hid (hu6.heap HA.out.qa (fun e => by have := (Hrb.out _ e).1; omega)); obtain ⟨d3, d6⟩ := hbq.out w6 Hq6.out; have Ho6 := Lib.hid ho6; have Hz6 := Lib.hid (hu6.heap Hz.out (fun e => by have := (Hrb.out _ e).1; omega)); clear hperm hpw hown6 hok6 hu6 ho6))
        have hu8 : Upd (fun b => b = ob) w6 ((w6.setCell ⟨ob, 0, none⟩ (.slice va m vc)).setCell ⟨ob, 2, none⟩ (.bool true)) := (upd_setCell (fun b => b = ob) _ ⟨ob, 0, none⟩ _ rfl).trans (upd_setCell (fun b => b = ob) _ ⟨ob, 2, none⟩ _ rfl)
        have ho8 : ((w6.setCell ⟨ob, 0, none⟩ (.slice va m vc)).setCell ⟨ob, 2, none⟩ (.bool true)).heap[ob]? = some (.cells #[.slice va m vc, .int .i64 (ps.length : Nat), .bool true] 30 (0, 0)) := by
          rw [heap_setCell_at (heap_setCell_at Ho6.out 0 _) 2 _]; rfl
        generalize (w6.setCell ⟨ob, 0, none⟩ (.slice va m vc)).setCell ⟨ob, 2, none⟩ (.bool true) = w8 at *
        have hown8 : w8.ownsRow (ob + 1) 37 6 (.slice va m vc) m ((qs.take m).flatMap kvenc) := by
          have h := own_take (m := m) (show w6.ownsRow (ob + 1) 37 6 (.slice va rs.length vc) rs.length (qs.flatMap kvenc) by have := Hown6.out; rwa [Hlq.out] at this) (by omega)
          rw [← flat_take kvenc_length] at h
          exact own_upd' h hu8 (fun b hb e => by have := (own_ge h b hb).1; omega)
        have Hown8 := Lib.hid hown8
        have Hok8 := Lib.hid (show ∀ p ∈ qs.take m, p.Ok w8 J from fun p hp => (Hok6.out p (List.mem_of_mem_take hp)).upd hu8 (fun b hb e => by have := (HA.out.ge b hb).1; omega))
        have Hrb8 := Lib.hid (show ∀ b, sliceBlock (.slice va m vc) = some b → ob + 1 ≤ b from fun b hb => (own_ge hown8 b hb).1)
        have Hdj8 := Lib.hid (show ∀ b, J b → ¬ sliceBlock (.slice va m vc) = some b from fun b hb e => HA.out.dj b ((block_len va rs.length m vc vc).trans e) hb)
        have Hz8 := Lib.hid (hu8.heap Hz6.out (by omega))
        have q8 := hu8.heap Hq6.out (by omega)
        have d8 := (hbq.out w8 q8).2
        have Ho8 := Lib.hid ho8
        have ev8 : w8.cell? ⟨ob, 0, none⟩ = some (.slice va m vc) := cell_of ho8 0
        have Hlm := Lib.hid (show (qs.take m).length = m by rw [List.length_take, Hlq.out]; omega)
        have Hu8 := Lib.hid (show Upd (fun _ => False) w w8 from (HA.out.u.trans' Hu6.out (fun x hx e => by have := (Hrb.out _ e).1; omega)).trans' hu8 (fun x hx e => by omega))
        clear hown8 ho8 hu8 q8 d3 d6 ev6 fv6 ev62 fv62 hsort ev
        cases hkeys : q.keys with
        | false =>
          have Hkeys := Lib.hid hkeys
          go_wp2_with (first | ((with_reducible refine wpl_load (ty := 30) Ho8.out Try.underlying30 ?_ ?_ ?_ ?_); rfl; rfl; kernel_rfl) | ((with_reducible refine wpl_store (ty := 30) (cs := #[.slice va m vc, .int .i64 (ps.length : Nat), .bool true]) Hz8.out ?_ ?_ ?_ ?_ ?_ ?_); rfl; rfl; rfl; kernel_rfl; rfl; intro w7 hb7 hu7 hs7 hd7))
          refine bodyPost_ret (results_cell_row Try.results10 _ _ _ _ _ _ _ (by rfl) hb7 Try.underlying30 rfl (by kernel_rfl)) rfl ?_
          exact sift_says (R := qs.take m) Hperm.out Heq.out (Hpw.out.imp (fun h => by omega)) (by rw [← Hm.out]; exact finQ_cut (by rw [Hlq.out]; exact Hcut.out) Hkeys.out) Hlm.out (by rw [Hlq.out]; exact Hcut.out.symm) Hown8.out Hok8.out (fun b hb => (HA.out.ge b hb).1) hzb Hu8.out hu7
        | true =>
          have Hkeys := Lib.hid hkeys
          go_wp2
          have Hst := Lib.hid (show StripAt ob va m vc (qs.take m) w8 w8 0 from ⟨by rw [stripTo_zero]; exact Hown8.out, Upd.refl _ _⟩)
          go_loopw [63] (fun i wr => ∃ j : Nat, j ≤ m ∧ i = .int .i64 j ∧ StripAt ob va m vc (qs.take m) w8 wr j) (fun i _ => m - (intOf i).toNat)
          case atStart => exact ⟨0, Nat.zero_le _, rfl, Hst.out⟩
          case round =>
            clear Hst d8 ev8
            obtain ⟨j, hj, rfl, hS⟩ := hrel
            have ho7 := hS.2.heap Ho8.out (fun e => by have := Hrb8.out _ e; omega)
            have Hz7 := Lib.hid (hS.2.heap Hz8.out (fun e => by have := Hrb8.out _ e; omega))
            have d0 : wr.cell? ⟨ob, 0, none⟩ = some (.slice va m vc) := cell_of ho7 0
            have Ho7 := Lib.hid ho7
            have HS := Lib.hid hS
            clear ho7 hS
            by_cases hlt : j < m
            · obtain ⟨g, rfl, ⟨u, hu⟩, hf, hnext⟩ := HS.out.next Hlm.out hlt
              have Hn := Lib.hid hnext
              clear hnext
              go_wp2
              go_roundw
              case rel => exact ⟨j + 1, by omega, by go_num, Hn.out⟩
              case measure => simp [intOf]; omega
            · obtain rfl : j = m := by omega
              go_wp2_with (first | ((with_reducible refine wpl_load (ty := 30) Ho7.out Try.underlying30 ?_ ?_ ?_ ?_); rfl; rfl; kernel_rfl) | ((with_reducible refine wpl_store (ty := 30) (cs := #[.slice va j vc, .int .i64 (ps.length : Nat), .bool true]) Hz7.out ?_ ?_ ?_ ?_ ?_ ?_); rfl; rfl; rfl; kernel_rfl; rfl; intro w7 hb7 hu7 hs7 hd7))
              refine bodyPost_ret (results_cell_row Try.results10 _ _ _ _ _ _ _ (by rfl) hb7 Try.underlying30 rfl (by kernel_rfl)) rfl ?_
              exact sift_says (R := (qs.take j).map strip) Hperm.out Heq.out (Hpw.out.imp (fun h => by omega)) (by rw [← Hm.out]; exact finQ_both (by rw [Hlq.out]; exact Hcut.out) Hkeys.out) (by rw [List.length_map]; exact Hlm.out) (by rw [Hlq.out]; exact Hcut.out.symm) (by have := HS.out.1; rwa [show stripTo (qs.take j) j = (qs.take j).map strip by have h := stripTo_all (qs.take j); rwa [Hlm.out] at h] at this) (fun p hp => by obtain ⟨r, hr, rfl⟩ := List.mem_map.1 hp; exact strip_ok ((Hok8.out r hr).upd HS.out.2 Hdj8.out)) (fun b hb => (HA.out.ge b hb).1) hzb (Hu8.out.trans' HS.out.2 (fun x hx e => by have := Hrb8.out _ e; omega)) hu7
      · have Hcut := Lib.hid (show cutQ q rs.length = false from decide_eq_false hcut)
        have hno : q.lim ≤ 0 ∨ (0 < q.lim ∧ (rs.length : Int) ≤ q.lim) := by omega
        clear hcut
        rcases hno with hno | ⟨hno, hno2⟩
        · cases hkeys : q.keys with
          | false =>
            have Hkeys := Lib.hid hkeys
            go_wp2_with (first | (go_at_call 17; (with_reducible refine hsort.mono ?_); rintro e6 w6 ⟨rfl, qs, hperm, hpw, hown6, hok6, hu6⟩; have Hlq := Lib.hid (show qs.length = rs.length from hperm.length_eq); have Hperm := Lib.hid hperm; have Hpw := Lib.hid hpw; have Hown6 := Lib.hid hown6; have Hok6 := Lib.hid hok6; have Hu6 := Lib.hid hu6; have ho6 := hu6.heap HA.out.out Hob.out; have ev6 : w6.cell? ⟨ob, 0, none⟩ = some (.slice va rs.length vc) := cell_of ho6 0; have fv6 : w6.frozen? ⟨ob, 0, none⟩ = false := free_of ho6 0; have ev62 : w6.cell? ⟨ob, 2, none⟩ = some (.bool false) := cell_of ho6 2; have fv62 : w6.frozen? ⟨ob, 2, none⟩ = false := free_of ho6 2; have Hq6 := Lib.hid (hu6.heap HA.out.qa (fun e => by have := (Hrb.out _ e).1; omega)); obtain ⟨d3, d6⟩ := hbq.out w6 Hq6.out; have Ho6 := Lib.hid ho6; have Hz6 := Lib.hid (hu6.heap Hz.out (fun e => by have := (Hrb.out _ e).1; omega)); clear hperm hpw hown6 hok6 hu6 ho6) | ((with_reducible refine wpl_load (ty := 30) Ho6.out Try.underlying30 ?_ ?_ ?_ ?_); rfl; rfl; kernel_rfl) | ((with_reducible refine wpl_store (ty := 30) (cs := #[.slice va rs.length vc, .int .i64 (ps.length : Nat), .bool false]) Hz6.out ?_ ?_ ?_ ?_ ?_ ?_); rfl; rfl; rfl; kernel_rfl; rfl; intro w7 hb7 hu7 hs7 hd7))
            refine bodyPost_ret (results_cell_row Try.results10 _ _ _ _ _ _ _ (by rfl) hb7 Try.underlying30 rfl (by kernel_rfl)) rfl ?_
            exact sift_says Hperm.out Heq.out (Hpw.out.imp (fun h => by omega)) (finQ_plain (by rw [Hlq.out]; exact Hcut.out) Hkeys.out) Hlq.out (by rw [Hlq.out]; exact Hcut.out.symm) (by have := Hown6.out; rwa [Hlq.out] at this) Hok6.out (fun b hb => (HA.out.ge b hb).1) hzb (HA.out.u.trans' Hu6.out (fun x hx e => by have := (Hrb.out _ e).1; omega)) hu7
          | true =>
            have Hkeys := Lib.hid hkeys
            go_wp2_with (first | (go_at_call 17; (with_reducible refine hsort.mono ?_); rintro e6 w6 ⟨rfl, qs, hperm, hpw, hown6, hok6, hu6⟩; have Hlq := Lib.hid (show qs.length = rs.length from hperm.length_eq); have Hperm := Lib.hid hperm; have Hpw := Lib.hid hpw; have Hown6 := Lib.hid hown6; have Hok6 := Lib.hid hok6; have Hu6 := Lib.hid hu6; have ho6 := hu6.heap HA.out.out Hob.out; have ev6 : w6.cell? ⟨ob, 0, none⟩ = some (.slice va rs.length vc) := cell_of ho6 0; have fv6 : w6.frozen? ⟨ob, 0, none⟩ = false := free_of ho6 0; have ev62 : w6.cell? ⟨ob, 2, none⟩ = some (.bool false) := cell_of ho6 2; have fv62 : w6.frozen? ⟨ob, 2, none⟩ = false := free_of ho6 2; have Hq6 := Lib.hid (hu6.heap HA.out.qa (fun e => by have := (Hrb.out _ e).1; omega)); obtain ⟨d3, d6⟩ := hbq.out w6 Hq6.out; have Ho6 := Lib.hid ho6; have Hz6 := Lib.hid (hu6.heap Hz.out (fun e => by have := (Hrb.out _ e).1; omega)); clear hperm hpw hown6 hok6 hu6 ho6))
            have Hst := Lib.hid (show StripAt ob va rs.length vc qs w6 w6 0 from ⟨by rw [stripTo_zero]; have := Hown6.out; rwa [Hlq.out] at this, Upd.refl _ _⟩)
            go_loopw [63] (fun i wr => ∃ j : Nat, j ≤ rs.length ∧ i = .int .i64 j ∧ StripAt ob va rs.length vc qs w6 wr j) (fun i _ => rs.length - (intOf i).toNat)
            case atStart => exact ⟨0, Nat.zero_le _, rfl, Hst.out⟩
            case round =>
              clear Hst d3 d6 ev6 fv6 ev62 fv62
              obtain ⟨j, hj, rfl, hS⟩ := hrel
              have ho7 := hS.2.heap Ho6.out Hob.out
              have Hz7 := Lib.hid (hS.2.heap Hz6.out (fun e => by have := (Hrb.out _ e).1; omega))
              have d0 : wr.cell? ⟨ob, 0, none⟩ = some (.slice va rs.length vc) := cell_of ho7 0
              have Ho7 := Lib.hid ho7
              have HS := Lib.hid hS
              clear ho7 hS
              by_cases hlt : j < rs.length
              · obtain ⟨g, rfl, ⟨u, hu⟩, hf, hnext⟩ := HS.out.next Hlq.out hlt
                have Hn := Lib.hid hnext
                clear hnext
                go_wp2
                go_roundw
                case rel => exact ⟨j + 1, by omega, by go_num, Hn.out⟩
                case measure => simp [intOf]; omega
              · obtain rfl : j = rs.length := by omega
                go_wp2_with (first | ((with_reducible refine wpl_load (ty := 30) Ho7.out Try.underlying30 ?_ ?_ ?_ ?_); rfl; rfl; kernel_rfl) | ((with_reducible refine wpl_store (ty := 30) (cs := #[.slice va rs.length vc, .int .i64 (ps.length : Nat), .bool false]) Hz7.out ?_ ?_ ?_ ?_ ?_ ?_); rfl; rfl; rfl; kernel_rfl; rfl; intro w7 hb7 hu7 hs7 hd7))
                refine bodyPost_ret (results_cell_row Try.results10 _ _ _ _ _ _ _ (by rfl) hb7 Try.underlying30 rfl (by kernel_rfl)) rfl ?_
                exact sift_says Hperm.out Heq.out (Hpw.out.imp (fun h => by omega)) (finQ_keys (by rw [Hlq.out]; exact Hcut.out) Hkeys.out) (by rw [List.length_map]; exact Hlq.out) (by rw [Hlq.out]; exact Hcut.out.symm) (by have := HS.out.1; rwa [← Hlq.out, stripTo_all, Hlq.out] at this) (fun p hp => by obtain ⟨r, hr, rfl⟩ := List.mem_map.1 hp; exact strip_ok ((Hok6.out r hr).upd HS.out.2 (fun b hb e => HA.out.dj b e hb))) (fun b hb => (HA.out.ge b hb).1) hzb ((HA.out.u.trans' Hu6.out (fun x hx e => by have := (Hrb.out _ e).1; omega)).trans' HS.out.2 (fun x hx e => by have := (Hrb.out _ e).1; omega)) hu7
        · cases hkeys : q.keys with
          | false =>
            have Hkeys := Lib.hid hkeys
            go_wp2_with (first | (go_at_call 17; (with_reducible refine hsort.mono ?_); rintro e6 w6 ⟨rfl, qs, hperm, hpw, hown6, hok6, hu6⟩; have Hlq := Lib.hid (show qs.length = rs.length from hperm.length_eq); have Hperm := Lib.hid hperm; have Hpw := Lib.hid hpw; have Hown6 := Lib.hid hown6; have Hok6 := Lib.hid hok6; have Hu6 := Lib.hid hu6; have ho6 := hu6.heap HA.out.out Hob.out; have ev6 : w6.cell? ⟨ob, 0, none⟩ = some (.slice va rs.length vc) := cell_of ho6 0; have fv6 : w6.frozen? ⟨ob, 0, none⟩ = false := free_of ho6 0; have ev62 : w6.cell? ⟨ob, 2, none⟩ = some (.bool false) := cell_of ho6 2; have fv62 : w6.frozen? ⟨ob, 2, none⟩ = false := free_of ho6 2; have Hq6 := Lib.hid (hu6.heap HA.out.qa (fun e => by have := (Hrb.out _ e).1; omega)); obtain ⟨d3, d6⟩ := hbq.out w6 Hq6.out; have Ho6 := Lib.hid ho6; have Hz6 := Lib.hid (hu6.heap Hz.out (fun e => by have := (Hrb.out _ e).1; omega)); clear hperm hpw hown6 hok6 hu6 ho6) | ((with_reducible refine wpl_load (ty := 30) Ho6.out Try.underlying30 ?_ ?_ ?_ ?_); rfl; rfl; kernel_rfl) | ((with_reducible refine wpl_store (ty := 30) (cs := #[.slice va rs.length vc, .int .i64 (ps.length : Nat), .bool false]) Hz6.out ?_ ?_ ?_ ?_ ?_ ?_); rfl; rfl; rfl; kernel_rfl; rfl; intro w7 hb7 hu7 hs7 hd7))
            refine bodyPost_ret (results_cell_row Try.results10 _ _ _ _ _ _ _ (by rfl) hb7 Try.underlying30 rfl (by kernel_rfl)) rfl ?_
            exact sift_says Hperm.out Heq.out (Hpw.out.imp (fun h => by omega)) (finQ_plain (by rw [Hlq.out]; exact Hcut.out) Hkeys.out) Hlq.out (by rw [Hlq.out]; exact Hcut.out.symm) (by have := Hown6.out; rwa [Hlq.out] at this) Hok6.out (fun b hb => (HA.out.ge b hb).1) hzb (HA.out.u.trans' Hu6.out (fun x hx e => by have := (Hrb.out _ e).1; omega)) hu7
          | true =>
            have Hkeys := Lib.hid hkeys
            go_wp2_with (first | (go_at_call 17; (with_reducible refine hsort.mono ?_); rintro e6 w6 ⟨rfl, qs, hperm, hpw, hown6, hok6, hu6⟩; have Hlq := Lib.hid (show qs.length = rs.length from hperm.length_eq); have Hperm := Lib.hid hperm; have Hpw := Lib.hid hpw; have Hown6 := Lib.hid hown6; have Hok6 := Lib.hid hok6; have Hu6 := Lib.hid hu6; have ho6 := hu6.heap HA.out.out Hob.out; have ev6 : w6.cell? ⟨ob, 0, none⟩ = some (.slice va rs.length vc) := cell_of ho6 0; have fv6 : w6.frozen? ⟨ob, 0, none⟩ = false := free_of ho6 0; have ev62 : w6.cell? ⟨ob, 2, none⟩ = some (.bool false) := cell_of ho6 2; have fv62 : w6.frozen? ⟨ob, 2, none⟩ = false := free_of ho6 2; have Hq6 := Lib.hid (hu6.heap HA.out.qa (fun e => by have := (Hrb.out _ e).1; omega)); obtain ⟨d3, d6⟩ := hbq.out w6 Hq6.out; have Ho6 := Lib.hid ho6; have Hz6 := Lib.hid (hu6.heap Hz.out (fun e => by have := (Hrb.out _ e).1; omega)); clear hperm hpw hown6 hok6 hu6 ho6))
            have Hst := Lib.hid (show StripAt ob va rs.length vc qs w6 w6 0 from ⟨by rw [stripTo_zero]; have := Hown6.out; rwa [Hlq.out] at this, Upd.refl _ _⟩)
            go_loopw [63] (fun i wr => ∃ j : Nat, j ≤ rs.length ∧ i = .int .i64 j ∧ StripAt ob va rs.length vc qs w6 wr j) (fun i _ => rs.length - (intOf i).toNat)
            case atStart => exact ⟨0, Nat.zero_le _, rfl, Hst.out⟩
            case round =>
              clear Hst d3 d6 ev6 fv6 ev62 fv62
              obtain ⟨j, hj, rfl, hS⟩ := hrel
              have ho7 := hS.2.heap Ho6.out Hob.out
              have Hz7 := Lib.hid (hS.2.heap Hz6.out (fun e => by have := (Hrb.out _ e).1; omega))
              have d0 : wr.cell? ⟨ob, 0, none⟩ = some (.slice va rs.length vc) := cell_of ho7 0
              have Ho7 := Lib.hid ho7
              have HS := Lib.hid hS
              clear ho7 hS
              by_cases hlt : j < rs.length
              · obtain ⟨g, rfl, ⟨u, hu⟩, hf, hnext⟩ := HS.out.next Hlq.out hlt
                have Hn := Lib.hid hnext
                clear hnext
                go_wp2
                go_roundw
                case rel => exact ⟨j + 1, by omega, by go_num, Hn.out⟩
                case measure => simp [intOf]; omega
              · obtain rfl : j = rs.length := by omega
                go_wp2_with (first | ((with_reducible refine wpl_load (ty := 30) Ho7.out Try.underlying30 ?_ ?_ ?_ ?_); rfl; rfl; kernel_rfl) | ((with_reducible refine wpl_store (ty := 30) (cs := #[.slice va rs.length vc, .int .i64 (ps.length : Nat), .bool false]) Hz7.out ?_ ?_ ?_ ?_ ?_ ?_); rfl; rfl; rfl; kernel_rfl; rfl; intro w7 hb7 hu7 hs7 hd7))
                refine bodyPost_ret (results_cell_row Try.results10 _ _ _ _ _ _ _ (by rfl) hb7 Try.underlying30 rfl (by kernel_rfl)) rfl ?_
                exact sift_says Hperm.out Heq.out (Hpw.out.imp (fun h => by omega)) (finQ_keys (by rw [Hlq.out]; exact Hcut.out) Hkeys.out) (by rw [List.length_map]; exact Hlq.out) (by rw [Hlq.out]; exact Hcut.out.symm) (by have := HS.out.1; rwa [← Hlq.out, stripTo_all, Hlq.out] at this) (fun p hp => by obtain ⟨r, hr, rfl⟩ := List.mem_map.1 hp; exact strip_ok ((Hok6.out r hr).upd HS.out.2 (fun b hb e => HA.out.dj b e hb))) (fun b hb => (HA.out.ge b hb).1) hzb ((HA.out.u.trans' Hu6.out (fun x hx e => by have := (Hrb.out _ e).1; omega)).trans' HS.out.2 (fun x hx e => by have := (Hrb.out _ e).1; omega)) hu7

end Go.Proofs.Ytpbenicglhccmaa
