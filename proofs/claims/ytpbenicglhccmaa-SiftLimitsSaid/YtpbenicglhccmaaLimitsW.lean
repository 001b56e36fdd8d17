/-
  SiftLimits: the walk.
-/
import Derived.Deep.Cut
import Derived.Deep.CutRange
import Derived.Test.YtpbenicglhccmaaLimJ
import Derived.Test.YtpbenicglhccmaaLimP
import Derived.Test.YtpbenicglhccmaaTwiceW
namespace Go.Proofs.Ytpbenicglhccmaa
open Go.RowKit Go.Tb Go.MapKept Go.ChangeMaps Go.Lib
set_option linter.unusedVariables false

set_option maxRecDepth 100000 in
set_option maxHeartbeats 8000000 in
theorem limits_ok (ka : Option Addr) (kn kc : Nat) (ea : Option Addr) (en ec : Nat) (q : Qr) (a : Option Addr) (c : Nat) (ps : List KvP) (w : World) (hs : Kvs w (fun _ => True) (.slice a ps.length c) ps) (hf : fewB ps = true) (hr : rightQ q = true) (hc : q.count = false) :
    Calls Try.prog 3 #[.agg (qcells (.slice ka kn kc) (.slice ea en ec) q), .slice a ps.length c] w fun e w' => e = .returned (.bool true) ∧ Upd (fun _ => False) w w' := by
  have Hs := Lib.hid hs
  have Hu0 := Lib.hid (upd_alloc (fun _ => False) w (.cells (qcells (.slice ka kn kc) (.slice ea en ec) q) 24))
  have Hq0 := Lib.hid (heap_alloc w (.cells (qcells (.slice ka kn kc) (.slice ea en ec) q) 24)).1
  have Hf := Lib.hid hf
  have Hr := Lib.hid hr
  have Hc := Lib.hid hc
  have hle60 : ps.length ≤ 60 := (fewB_true hf).1
  clear hs hf hr hc
  go_enter Try.func3, Try.ntmps3
  go_upto_region 3 with (first
    | (go_at_call 7; (with_reducible refine (lives_calls (w.alloc (.cells (qcells (.slice ka kn kc) (.slice ea en ec) q) 24))).mono ?_); rintro e1 w1 ⟨rfl, hu1⟩; have U1 := Lib.hid (Hu0.out.trans hu1); have Q1 := Lib.hid (hu1.heap Hq0.out (fun x => x)); clear hu1) | (go_at_call 8; (with_reducible refine (few_at Hf.out a c _ w1 (Hs.out.grow U1.out)).mono ?_); rintro e2 w2 ⟨rfl, hu2⟩; have U2 := Lib.hid (U1.out.trans hu2); have Q2 := Lib.hid (hu2.heap Q1.out (fun x => x)); have d0 : w2.cell? ⟨w.heap.size, 0, none⟩ = some ((.slice ka kn kc)) := cell_of Q2.out 0; have d1 : w2.cell? ⟨w.heap.size, 1, none⟩ = some ((.slice ea en ec)) := cell_of Q2.out 1; have d2 : w2.cell? ⟨w.heap.size, 2, none⟩ = some (.int .i64 q.at_) := cell_of Q2.out 2; have d3 : w2.cell? ⟨w.heap.size, 3, none⟩ = some (.int .i64 q.lim) := cell_of Q2.out 3; have d4 : w2.cell? ⟨w.heap.size, 4, none⟩ = some (.int .i64 q.sort) := cell_of Q2.out 4; have d5 : w2.cell? ⟨w.heap.size, 5, none⟩ = some (.bool q.desc) := cell_of Q2.out 5; have d6 : w2.cell? ⟨w.heap.size, 6, none⟩ = some (.bool q.keys) := cell_of Q2.out 6; have d7 : w2.cell? ⟨w.heap.size, 7, none⟩ = some (.bool q.count) := cell_of Q2.out 7; have d8 : w2.cell? ⟨w.heap.size, 8, none⟩ = some (.int .i64 q.mm) := cell_of Q2.out 8; have d9 : w2.cell? ⟨w.heap.size, 9, none⟩ = some (.int .i64 q.xm) := cell_of Q2.out 9; have d10 : w2.cell? ⟨w.heap.size, 10, none⟩ = some (.int .i64 q.mc) := cell_of Q2.out 10; have d11 : w2.cell? ⟨w.heap.size, 11, none⟩ = some (.int .i64 q.xc) := cell_of Q2.out 11; clear hu2) | (go_at_call 9; refine (right_at Hr.out (.slice ka kn kc) (.slice ea en ec) w2).mono ?_; rintro e3 w3 ⟨rfl, hu3⟩; have U3 := Lib.hid (U2.out.trans hu3); have Q3 := Lib.hid (hu3.heap Q2.out (fun x => x)); clear d0 d1 d2 d3 d4 d5 d6 d7 d8 d9 d10 d11; have c7 : w3.cell? ⟨w.heap.size, 7, none⟩ = some (.bool false) := (cell_of Q3.out 7).trans (Hc.out ▸ rfl); skip; clear hu3))
  clear c7
  have d0 : w3.cell? ⟨w.heap.size, 0, none⟩ = some ((.slice ka kn kc)) := cell_of Q3.out 0
  have d1 : w3.cell? ⟨w.heap.size, 1, none⟩ = some ((.slice ea en ec)) := cell_of Q3.out 1
  have d2 : w3.cell? ⟨w.heap.size, 2, none⟩ = some (.int .i64 q.at_) := cell_of Q3.out 2
  have d3 : w3.cell? ⟨w.heap.size, 3, none⟩ = some (.int .i64 q.lim) := cell_of Q3.out 3
  have d4 : w3.cell? ⟨w.heap.size, 4, none⟩ = some (.int .i64 q.sort) := cell_of Q3.out 4
  have d5 : w3.cell? ⟨w.heap.size, 5, none⟩ = some (.bool q.desc) := cell_of Q3.out 5
  have d6 : w3.cell? ⟨w.heap.size, 6, none⟩ = some (.bool q.keys) := cell_of Q3.out 6
  have d7 : w3.cell? ⟨w.heap.size, 7, none⟩ = some (.bool q.count) := cell_of Q3.out 7
  have d8 : w3.cell? ⟨w.heap.size, 8, none⟩ = some (.int .i64 q.mm) := cell_of Q3.out 8
  have d9 : w3.cell? ⟨w.heap.size, 9, none⟩ = some (.int .i64 q.xm) := cell_of Q3.out 9
  have d10 : w3.cell? ⟨w.heap.size, 10, none⟩ = some (.int .i64 q.mc) := cell_of Q3.out 10
  have d11 : w3.cell? ⟨w.heap.size, 11, none⟩ = some (.int .i64 q.xc) := cell_of Q3.out 11
  go_upto_region 4 with (first | (go_at_call 7))
  clear d0 d1 d2 d3 d4 d5 d6 d7 d8 d9 d10 d11
  have ua := upd_alloc (fun _ => False) w3 (.cells #[(.slice ka kn kc), (.slice ea en ec), .int .i64 q.at_, .int .i64 q.lim, .int .i64 q.sort, .bool q.desc, .bool q.keys, .bool q.count, .int .i64 q.mm, .int .i64 q.xm, .int .i64 q.mc, .int .i64 q.xc] 24)
  have A4 := Lib.hid (heap_alloc w3 (.cells #[(.slice ka kn kc), (.slice ea en ec), .int .i64 q.at_, .int .i64 q.lim, .int .i64 q.sort, .bool q.desc, .bool q.keys, .bool q.count, .int .i64 q.mm, .int .i64 q.xm, .int .i64 q.mc, .int .i64 q.xc] 24)).1
  have Q4 := Lib.hid (ua.heap Q3.out (fun x => x))
  have U4 := Lib.hid (U3.out.trans ua)
  have G4 := Lib.hid (lt_of_heap Q3.out)
  have G5 := Lib.hid (U3.out.size)
  clear ua U1 U2 U3 Q1 Q2 Q3 Hu0 Hq0
  generalize w3.alloc (.cells #[(.slice ka kn kc), (.slice ea en ec), .int .i64 q.at_, .int .i64 q.lim, .int .i64 q.sort, .bool q.desc, .bool q.keys, .bool q.count, .int .i64 q.mm, .int .i64 q.xm, .int .i64 q.mc, .int .i64 q.xc] 24) = w4 at *
  generalize w3.heap.size = ga at *
  have c3 : w4.cell? ⟨ga, 3, none⟩ = some (.int .i64 q.lim) := cell_of A4.out 3
  have f3 := free_of A4.out 3
  go_upto_region 5 with (first | (go_at_call 7))
  have u5 := upd_setCell (fun b => b = ga) w4 ⟨ga, 3, none⟩ (.int .i64 0) rfl
  have A5 := Lib.hid (show (w4.setCell ⟨ga, 3, none⟩ (.int .i64 0)).heap[ga]? = some (.cells (qcells (.slice ka kn kc) (.slice ea en ec) (q0 q)) 24 (0, 0)) by rw [heap_setCell_at A4.out 3 _]; rfl)
  have Q5 := Lib.hid (u5.heap Q4.out (fun h => by have := G4.out; omega))
  have U5 := Lib.hid (U4.out.trans' u5 (fun x hx h => by have := G5.out; omega))
  clear u5 c3 f3 A4 Q4 U4
  generalize w4.setCell ⟨ga, 3, none⟩ (.int .i64 0) = w5 at *
  generalize w.heap.size = g at *
  have HA := Lib.hid (show ∀ W, Upd (fun _ => False) w5 W → Calls Try.prog 10 #[.agg #[(.slice ka kn kc), (.slice ea en ec), .int .i64 q.at_, .int .i64 q.lim, .int .i64 q.sort, .bool q.desc, .bool q.keys, .bool q.count, .int .i64 q.mm, .int .i64 q.xm, .int .i64 q.mc, .int .i64 q.xc], .slice a ps.length c] W (LimSays q ps W) from fun W hW => lim_calls (.slice ka kn kc) (.slice ea en ec) q a c ps W Hr.out Hc.out ((Hs.out.grow U5.out).grow hW) (fewB_true Hf.out))
  have HB := Lib.hid (show ∀ W, Upd (fun _ => False) w5 W → Calls Try.prog 10 #[.agg #[(.slice ka kn kc), (.slice ea en ec), .int .i64 q.at_, .int .i64 0, .int .i64 q.sort, .bool q.desc, .bool q.keys, .bool q.count, .int .i64 q.mm, .int .i64 q.xm, .int .i64 q.mc, .int .i64 q.xc], .slice a ps.length c] W (LimSays (q0 q) ps W) from fun W hW => lim_calls (.slice ka kn kc) (.slice ea en ec) (q0 q) a c ps W (q0_right Hr.out) Hc.out ((Hs.out.grow U5.out).grow hW) (fewB_true Hf.out))
  have hQ : w5.heap[g]? = some (.cells (qcells (.slice ka kn kc) (.slice ea en ec) q) 24 (0, 0)) := Q5.out
  have hA : w5.heap[ga]? = some (.cells (qcells (.slice ka kn kc) (.slice ea en ec) (q0 q)) 24 (0, 0)) := A5.out
  have HQ := Lib.hid hQ
  have HA5 := Lib.hid hA
  clear hQ hA
  refine wp_region_inv2 (by kernel_rfl) [28, 29, 30, 31, 32, 33, 6, 7] (LimJ w5 (qcells (.slice ka kn kc) (.slice ea en ec) q) (qcells (.slice ka kn kc) (.slice ea en ec) (q0 q)) (.slice a ps.length c) q ps) (fun _ => undef) (LimF (.slice a ps.length c) g ga) (by kernel_rfl) (by kernel_rfl) ⟨rfl, rfl, rfl, rfl⟩ ?_ ?_ ?_
  · exact ⟨fun _ => 99, fun _ _ => rfl, (Upd.refl _ _).drew, by simp, by simp, by simp, by simp, by simp, by simp, by simp, by simp, by simp, by simp⟩
  · exact fun a0 Q hF => lim_steps _ (by kernel_rfl) a0 Q _ _ _ _ _ _ _ _ _ _ hF HQ.out HA5.out HA.out HB.out
  · intro D f wx hJ hall
    obtain ⟨g6, g7, a1, c1, rs, m1, a2, c2, rs2, m2, e6, e7, hh6, hh7, p1, p2, v1, v2, hq, hux⟩ := lim_end hJ (fun i hi => hall i hi) HQ.out
    have UX := Lib.hid (U5.out.trans hux)
    obtain ⟨h1, h2, rfl, rfl⟩ := lim_plain (few_unlike (fewB_true Hf.out)) (right_lim Hr.out) p1 p2
    have Hb2 := Lib.hid (show rs2.length ≤ 1000 by
      obtain ⟨S2, hp2, -, hr2, -⟩ := p2
      have := (says_few (fewB_true Hf.out) hp2 hr2).1
      omega)
    rw [h1] at v1 hh6
    have H2 := Lib.hid h2
    have V1 := Lib.hid v1
    have V2 := Lib.hid v2
    have HH6 := Lib.hid hh6
    have HH7 := Lib.hid hh7
    have HX := Lib.hid hq
    clear h2 v1 v2 hh6 hh7 hq hux p1 p2 hJ hall HA HB HQ HA5 h1
    simp only [fill]
    rw [e6, e7]
    generalize f 28 = y1
    generalize f 29 = y2
    generalize f 30 = y3
    generalize f 31 = y4
    generalize f 32 = y5
    generalize f 33 = y6
    simp only [Act.put, List.setIfInBounds_toArray, List.set]
    have c60 : wx.cell? ⟨g6, 0, none⟩ = some (.slice a1 (nLim q rs2.length) c1) := cell_of HH6.out 0
    have c61 : wx.cell? ⟨g6, 1, none⟩ = some (.int .i64 (ps.length : Nat)) := cell_of HH6.out 1
    have c62 : wx.cell? ⟨g6, 2, none⟩ = some (.bool (decide (nLim q rs2.length < rs2.length))) := cell_of HH6.out 2
    have c70 : wx.cell? ⟨g7, 0, none⟩ = some (.slice a2 rs2.length c2) := cell_of HH7.out 0
    have c71 : wx.cell? ⟨g7, 1, none⟩ = some (.int .i64 (ps.length : Nat)) := cell_of HH7.out 1
    have c72 : wx.cell? ⟨g7, 2, none⟩ = some (.bool false) := cell_of HH7.out 2
    have c3 : wx.cell? ⟨g, 3, none⟩ = some (.int .i64 q.lim) := cell_of HX.out 3
    have hq0 := right_lim Hr.out
    have hb2 : rs2.length ≤ 1000 := Hb2.out
    have hcase : (q.lim = 0 ∧ nLim q rs2.length = rs2.length) ∨ (0 < q.lim ∧ (rs2.length : Int) ≤ q.lim ∧ nLim q rs2.length = rs2.length) ∨ ∃ k : Nat, q.lim = k ∧ 0 < k ∧ k < rs2.length ∧ nLim q rs2.length = k := by
      unfold nLim
      by_cases h0 : q.lim = 0
      · exact .inl ⟨h0, if_pos h0⟩
      · rw [if_neg h0]
        by_cases h1 : (rs2.length : Int) ≤ q.lim
        · exact .inr (.inl ⟨by omega, h1, Nat.min_eq_left (by omega)⟩)
        · exact .inr (.inr ⟨q.lim.toNat, by omega, by omega, by omega, Nat.min_eq_right (by omega)⟩)
    have hn : nLim q rs2.length ≤ rs2.length := by unfold nLim; split <;> omega
    have hsm : ∀ o, Kvs wx (fun _ => True) o (rs2.take (nLim q rs2.length)) → Calls Try.prog 11 #[.slice a1 (nLim q rs2.length) c1, o] wx.drew fun e w' => e = .returned (.bool true) ∧ Upd (fun _ => False) wx w' := by
      intro o ho
      have hW : Upd (fun _ => False) wx wx.drew := (Upd.refl _ _).drew
      refine (sameall_calls _ _ rs _ _ _ wx.drew (V1.out.grow hW) (ho.grow hW) ?_).mono ?_
      · have := congrArg List.length H2.out
        simp at this; omega
      · rintro e w' ⟨rfl, hu⟩
        refine ⟨?_, hW.trans hu⟩
        have : sameAllKV rs (rs2.take (nLim q rs2.length)) = true := decide_eq_true H2.out
        rw [this]
    have hshape : (a2 = none ∧ c2 = 0 ∧ rs2.length = 0 ∧ Kvs wx (fun _ => True) (.slice none 0 0) (rs2.take (nLim q rs2.length))) ∨
        ∃ b o, a2 = some ⟨b, o, none⟩ ∧ rs2.length ≤ c2 ∧ Kvs wx (fun _ => True) (.slice (some ⟨b, o, none⟩) (nLim q rs2.length) c2) (rs2.take (nLim q rs2.length)) := by
      have hv := V2.out
      have hk : ∀ p ∈ rs2.take (nLim q rs2.length), p.Ok wx (fun _ => True) := fun p hp => hv.2 p (List.mem_of_mem_take hp)
      rcases hv.1 with ⟨he, hnil⟩ | ⟨b, off, cap, he, hc, hb, hcells⟩
      · subst hnil
        cases he
        exact .inl ⟨rfl, rfl, rfl, .inl ⟨rfl, by simp⟩, hk⟩
      · have h0 := hv.1
        cases he
        exact .inr ⟨b, off, rfl, hc, h0.take kvenc_length _ hn, hk⟩
    clear H2 V1 V2
    generalize nLim q rs2.length = nl at *
    generalize rs2.length = n2 at *
    generalize q.lim = lim at *
    have hend : ∀ W, Upd (fun _ => False) wx W → Upd (fun _ => False) w W := fun W h => UX.out.trans h
    have HE := Lib.hid hend
    clear hend
    rcases hshape with ⟨rfl, rfl, rfl, hk⟩ | ⟨b2, o2, rfl, hc2, hk⟩
    · obtain rfl : nl = 0 := by omega
      have HS := Lib.hid (hsm _ hk)
      clear hsm hk hcase
      have hd : decide (0 < 0) = false := by simp
      rw [hd] at c62
      clear hd
      rcases (show lim = 0 ∨ 0 < lim by omega) with rfl | hl1
      · skip
        go_upto_region 9 with fail
        go_region_held3 (fun w' => w'.cell? ⟨g6, 0, none⟩ = some (.slice a1 0 c1) ∧ w'.cell? ⟨g6, 1, none⟩ = some (.int .i64 (ps.length : Nat)) ∧ w'.cell? ⟨g6, 2, none⟩ = some (.bool false) ∧ w'.cell? ⟨g7, 0, none⟩ = some (.slice none 0 0) ∧ w'.cell? ⟨g7, 1, none⟩ = some (.int .i64 (ps.length : Nat)) ∧ w'.cell? ⟨g7, 2, none⟩ = some (.bool false))
          (first | exact ⟨c60, c61, c62, c70, c71, c72⟩ | exact ⟨hx.cell c60 (fun x => x), hx.cell c61 (fun x => x), hx.cell c62 (fun x => x), hx.cell c70 (fun x => x), hx.cell c71 (fun x => x), hx.cell c72 (fun x => x)⟩)
          ((go_at_call 11; (with_reducible refine HS.out.mono ?_); rintro e9 w9 ⟨rfl, hx⟩))
        go_wp2
        go_ret
        exact ⟨rfl, HE.out _ hx⟩
      · have hmin : min (0 : Int) lim = 0 := by omega
        go_upto_region 9 with fail
        go_region_held3 (fun w' => w'.cell? ⟨g6, 0, none⟩ = some (.slice a1 0 c1) ∧ w'.cell? ⟨g6, 1, none⟩ = some (.int .i64 (ps.length : Nat)) ∧ w'.cell? ⟨g6, 2, none⟩ = some (.bool false) ∧ w'.cell? ⟨g7, 0, none⟩ = some (.slice none 0 0) ∧ w'.cell? ⟨g7, 1, none⟩ = some (.int .i64 (ps.length : Nat)) ∧ w'.cell? ⟨g7, 2, none⟩ = some (.bool false))
          (first | exact ⟨c60, c61, c62, c70, c71, c72⟩ | exact ⟨hx.cell c60 (fun x => x), hx.cell c61 (fun x => x), hx.cell c62 (fun x => x), hx.cell c70 (fun x => x), hx.cell c71 (fun x => x), hx.cell c72 (fun x => x)⟩)
          ((go_at_call 11; (with_reducible refine HS.out.mono ?_); rintro e9 w9 ⟨rfl, hx⟩))
        go_wp2
        go_ret
        exact ⟨rfl, HE.out _ hx⟩
    · have HS := Lib.hid (hsm _ hk)
      clear hsm hk
      rcases hcase with ⟨rfl, rfl⟩ | ⟨hl1, hl2, rfl⟩ | ⟨k', rfl, hk1, hk2, rfl⟩
      · have hd : decide (nl < nl) = false := by simp
        rw [hd] at c62
        clear hd
        go_upto_region 9 with fail
        go_region_held3 (fun w' => w'.cell? ⟨g6, 0, none⟩ = some (.slice a1 nl c1) ∧ w'.cell? ⟨g6, 1, none⟩ = some (.int .i64 (ps.length : Nat)) ∧ w'.cell? ⟨g6, 2, none⟩ = some (.bool false) ∧ w'.cell? ⟨g7, 0, none⟩ = some (.slice (some ⟨b2, o2, none⟩) nl c2) ∧ w'.cell? ⟨g7, 1, none⟩ = some (.int .i64 (ps.length : Nat)) ∧ w'.cell? ⟨g7, 2, none⟩ = some (.bool false))
          (first | exact ⟨c60, c61, c62, c70, c71, c72⟩ | exact ⟨hx.cell c60 (fun x => x), hx.cell c61 (fun x => x), hx.cell c62 (fun x => x), hx.cell c70 (fun x => x), hx.cell c71 (fun x => x), hx.cell c72 (fun x => x)⟩)
          ((go_at_call 11; (with_reducible refine HS.out.mono ?_); rintro e9 w9 ⟨rfl, hx⟩))
        go_wp2
        go_ret
        exact ⟨rfl, HE.out _ hx⟩
      · have hd : decide (nl < nl) = false := by simp
        rw [hd] at c62
        clear hd
        have hmin : min (nl : Int) lim = nl := by omega
        go_upto_region 9 with fail
        go_region_held3 (fun w' => w'.cell? ⟨g6, 0, none⟩ = some (.slice a1 nl c1) ∧ w'.cell? ⟨g6, 1, none⟩ = some (.int .i64 (ps.length : Nat)) ∧ w'.cell? ⟨g6, 2, none⟩ = some (.bool false) ∧ w'.cell? ⟨g7, 0, none⟩ = some (.slice (some ⟨b2, o2, none⟩) nl c2) ∧ w'.cell? ⟨g7, 1, none⟩ = some (.int .i64 (ps.length : Nat)) ∧ w'.cell? ⟨g7, 2, none⟩ = some (.bool false))
          (first | exact ⟨c60, c61, c62, c70, c71, c72⟩ | exact ⟨hx.cell c60 (fun x => x), hx.cell c61 (fun x => x), hx.cell c62 (fun x => x), hx.cell c70 (fun x => x), hx.cell c71 (fun x => x), hx.cell c72 (fun x => x)⟩)
          ((go_at_call 11; (with_reducible refine HS.out.mono ?_); rintro e9 w9 ⟨rfl, hx⟩))
        go_wp2
        go_ret
        exact ⟨rfl, HE.out _ hx⟩
      · have hmin : min (n2 : Int) (nl : Int) = nl := by omega
        have hi0 : (0 : Int) ≤ (nl : Int) := by omega
        have hi1 : (nl : Int) ≤ (c2 : Int) := by omega
        have hi2 : (nl : Int) < (n2 : Int) := by omega
        have hd : decide (nl < n2) = true := by simpa using hk2
        rw [hd] at c62
        clear hd
        go_upto_region 9 with fail
        go_region_held3 (fun w' => w'.cell? ⟨g6, 0, none⟩ = some (.slice a1 nl c1) ∧ w'.cell? ⟨g6, 1, none⟩ = some (.int .i64 (ps.length : Nat)) ∧ w'.cell? ⟨g6, 2, none⟩ = some (.bool true) ∧ w'.cell? ⟨g7, 0, none⟩ = some (.slice (some ⟨b2, o2, none⟩) n2 c2) ∧ w'.cell? ⟨g7, 1, none⟩ = some (.int .i64 (ps.length : Nat)) ∧ w'.cell? ⟨g7, 2, none⟩ = some (.bool false))
          (first | exact ⟨c60, c61, c62, c70, c71, c72⟩ | exact ⟨hx.cell c60 (fun x => x), hx.cell c61 (fun x => x), hx.cell c62 (fun x => x), hx.cell c70 (fun x => x), hx.cell c71 (fun x => x), hx.cell c72 (fun x => x)⟩)
          ((go_at_call 11; (with_reducible refine HS.out.mono ?_); rintro e9 w9 ⟨rfl, hx⟩))
        go_wp2
        go_ret
        exact ⟨rfl, HE.out _ hx⟩

end Go.Proofs.Ytpbenicglhccmaa
