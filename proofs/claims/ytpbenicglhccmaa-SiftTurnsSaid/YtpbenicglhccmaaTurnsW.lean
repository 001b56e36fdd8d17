/-
  SiftTurns: the walk.
-/
import Derived.Deep.RegionHeld3
import Derived.Deep.CutRange
import Derived.Test.YtpbenicglhccmaaTurnJ
import Derived.Test.YtpbenicglhccmaaTwiceW
namespace Go.Proofs.Ytpbenicglhccmaa
open Go.RowKit Go.Tb Go.MapKept Go.ChangeMaps Go.Lib
set_option linter.unusedVariables false

theorem turn_range (turn : Int) (n : Nat) (h0 : 0 < n) (h1 : n ≤ 1100) : ∃ k : Nat, k < n ∧ wrap64 ((IntKind.u64.wrap turn).tmod n) = (k : Int) := by
  have h2 : 0 ≤ IntKind.u64.wrap turn := by rw [IntKind.wrap_u64]; omega
  rw [Int.tmod_eq_emod_of_nonneg h2]
  have h3 := Int.emod_nonneg (IntKind.u64.wrap turn) (show (n : Int) ≠ 0 by omega)
  have h4 := Int.emod_lt_of_pos (IntKind.u64.wrap turn) (show (0 : Int) < n by omega)
  rw [IntWalk.wrap64_in _ (by omega)]
  exact ⟨(IntKind.u64.wrap turn % n).toNat, by omega, by omega⟩

set_option maxRecDepth 100000 in
set_option maxHeartbeats 1000000 in
/-- Two results that are alike. -/
theorem same14_calls (a1 a2 : Option Addr) (n1 n2 c1 c2 : Nat) (ct : Int) (m : Bool) (ps qs : List KvP) (w : World) (h1 : Kvs w (fun _ => True) (.slice a1 n1 c1) ps) (h2 : Kvs w (fun _ => True) (.slice a2 n2 c2) qs) (hl : ps.length ≤ 1000000) (he : ps.map KvP.x = qs.map KvP.x) :
    Calls Try.prog 12 #[.agg #[.slice a1 n1 c1, .int .i64 ct, .bool m], .agg #[.slice a2 n2 c2, .int .i64 ct, .bool m]] w fun e w' => e = .returned (.bool true) ∧ Upd (fun _ => False) w w' := by
  have hu : Upd (fun _ => False) w ((w.alloc (.cells #[.slice a1 n1 c1, .int .i64 ct, .bool m] 30)).alloc (.cells #[.slice a2 n2 c2, .int .i64 ct, .bool m] 30)) := (upd_alloc _ _ _).alloc _
  have hsm := sameall_calls _ _ ps qs _ _ _ (h1.grow hu) (h2.grow hu) hl
  rw [show sameAllKV ps qs = true from decide_eq_true he] at hsm
  have HU := Lib.hid hu
  clear h1 h2 he hu
  go_enter Try.func12, Try.ntmps12
  cases m
  all_goals go_wp2_with (go_at_call 11; (with_reducible refine hsm.mono ?_); rintro e1 w1 ⟨rfl, hu1⟩)
  all_goals go_ret
  all_goals exact ⟨by simp, HU.out.trans hu1⟩

/-- The other way round, as the law makes it. -/
theorem rotate_row (rb off c n : Nat) (ps : List KvP) (k : Nat) (w : World) (hs : Kvs w (fun _ => True) (.slice (some ⟨rb, off, none⟩) n c) ps) (hk : k < n) (hn : n ≤ 60) (hc : n ≤ c) :
    ∃ v3 w3 a4 c4 w4, (∀ ty, (Builtin.append_ #[25, 25] ty #[.slice (some ⟨w.heap.size, 0, none⟩) 0 0, .slice (some ⟨rb, off + k * 6, none⟩) (n - k) (c - k)]).run Try.prog (w.drew.alloc (.cells #[] 37)) = .ok v3 w3) ∧
      (∀ ty, (Builtin.append_ #[25, 25] ty #[v3, .slice (some ⟨rb, off, none⟩) k c]).run Try.prog w3 = .ok (.slice a4 n c4) w4) ∧
      Kvs w4 (fun _ => True) (.slice a4 n c4) (ps.drop k ++ ps.take k) ∧ Upd (fun _ => False) w w4 := by
  have hl : ps.length = n := hs.1.size
  have hown0 : (w.drew.alloc (.cells #[] 37)).ownsRow w.heap.size 37 6 (.slice (some ⟨w.heap.size, 0, none⟩) 0 0) ([] : List KvP).length (([] : List KvP).flatMap kvenc) := World.ownsRow_made w.drew #[] 0 (Nat.le_refl _) (Nat.zero_le _) (by simp)
  have hua : Upd (fun _ => False) w (w.drew.alloc (.cells #[] 37)) := (Upd.refl _ w).drew.alloc _
  have hd := hs.1.drop kvenc_length (c := c - k) k (by omega) (by omega)
  have ht := hs.1.take kvenc_length k (by omega)
  obtain ⟨v3, w3, hap1, ho1, hg1, -⟩ := run_append_sl (P := Try.prog) (t := 25) (z := .agg #[.slice none 0 0, .slice none 0 0, .int .i64 0, .int .i64 0, .int .i64 0, .int .i64 0]) under_KVs info_KV3 rfl (by decide) kvenc_length kvenc_one hown0 (hd.grow hua) hua.size (by simp [maxLen]; omega) (by simp; omega)
  rw [List.nil_append] at ho1
  have hx3 : Upd (fun _ => False) w w3 := hua.trans' (Upd.ofGrown hg1) (fun x hx e => by simp [Value.ownBlock] at e; omega)
  obtain ⟨v4, w4, hap2, ho2, hg2, -⟩ := run_append_sl (P := Try.prog) (t := 25) (z := .agg #[.slice none 0 0, .slice none 0 0, .int .i64 0, .int .i64 0, .int .i64 0, .int .i64 0]) under_KVs info_KV3 rfl (by decide) kvenc_length kvenc_one ho1 (ht.grow hx3) hx3.size (by simp [maxLen]; omega) (by simp; omega)
  have hx4 : Upd (fun _ => False) w w4 := hx3.trans' (Upd.ofGrown hg2) (fun x hx e => by have := (ho1.lt x e.symm).1; omega)
  have hs2 := (sl_of_own kvenc_length ho2).1
  have hlen : (ps.drop k ++ ps.take k).length = n := by simp; omega
  rw [hlen] at ho2
  obtain ⟨a4, c4, hv4, hc4⟩ := hs2.shape
  rw [hlen] at hv4
  subst hv4
  exact ⟨v3, w3, a4, c4, w4, hap1, hap2, ⟨hs2, fun p hp => (hs.2 p ((turned_perm ps k).mem_iff.1 hp)).grow hx4⟩, hx4⟩

set_option maxRecDepth 100000 in
set_option maxHeartbeats 2000000 in
theorem turns_ok (ka : Option Addr) (kn kc : Nat) (ea : Option Addr) (en ec : Nat) (q : Qr) (a : Option Addr) (c : Nat) (ps : List KvP) (turn : Int) (w : World) (hs : Kvs w (fun _ => True) (.slice a ps.length c) ps) (hf : fewB ps = true) (hpos : 0 < ps.length) :
    Calls Try.prog 4 #[.agg (qcells (.slice ka kn kc) (.slice ea en ec) q), .slice a ps.length c, .int .i64 turn] w fun e w' => e = .returned (.bool true) ∧ Upd (fun _ => False) w w' := by
  obtain ⟨k, hkl, hk⟩ := turn_range turn ps.length hpos (by have := (fewB_true hf).1; omega)
  obtain ⟨rb, off, cap, hsh, hcap, -⟩ := hs.1.block hpos
  cases hsh
  have Hs := Lib.hid hs
  have Hf := Lib.hid hf
  have Hk := Lib.hid hk
  have hle60 : ps.length ≤ 60 := (fewB_true hf).1
  have Hu0 := Lib.hid (upd_alloc (fun _ => False) w (.cells (qcells (.slice ka kn kc) (.slice ea en ec) q) 24))
  have Hq0 := Lib.hid (heap_alloc w (.cells (qcells (.slice ka kn kc) (.slice ea en ec) q) 24)).1
  have HU := Lib.hid (few_unlike (fewB_true hf))
  clear hs hf hk
  have hzB : ((ps.length : Int) == 0) = false := beq_eq_false_iff_ne.2 (by omega)
  have hk0 : (0 : Int) ≤ (k : Int) := by omega
  have hk1 : (k : Int) ≤ (ps.length : Int) := by omega
  have hk2 : (k : Int) ≤ (c : Int) := by omega
  go_enter Try.func4, Try.ntmps4
  go_upto_region 5 with (first
    | (go_at_call 7; (with_reducible refine (lives_calls (w.alloc (.cells (qcells (.slice ka kn kc) (.slice ea en ec) q) 24))).mono ?_); rintro e1 w1 ⟨rfl, hu1⟩; have U1 := Lib.hid (Hu0.out.trans hu1); have Q1 := Lib.hid (hu1.heap Hq0.out (fun x => x)); clear hu1)
    | (go_at_call 8; (with_reducible refine (few_at Hf.out (some ⟨rb, off, none⟩) c _ w1 (Hs.out.grow U1.out)).mono ?_); rintro e2 w2 ⟨rfl, hu2⟩; have U2 := Lib.hid (U1.out.trans hu2); have Q2 := Lib.hid (hu2.heap Q1.out (fun x => x)); have c3 : w2.cell? ⟨w.heap.size, 3, none⟩ = some (.int .i64 q.lim) := cell_of Q2.out 3; have f3 := free_of Q2.out 3; clear hu2))
  rw [Hk.out]
  have u3 := upd_setCell (fun b => b = w.heap.size) w2 ⟨w.heap.size, 3, none⟩ (.int .i64 0) rfl
  have Q3 := Lib.hid (show (w2.setCell ⟨w.heap.size, 3, none⟩ (.int .i64 0)).heap[w.heap.size]? = some (.cells (qcells (.slice ka kn kc) (.slice ea en ec) (q0 q)) 24 (0, 0)) by rw [heap_setCell_at Q2.out 3 _]; rfl)
  have U3 := Lib.hid (U2.out.trans' u3 (fun x hx h => by omega))
  clear u3 c3 f3 Hu0 Hq0 U1 U2 Q1 Q2
  generalize w2.setCell ⟨w.heap.size, 3, none⟩ (.int .i64 0) = w3 at *
  have HG := Lib.hid (show w.heap.size ≤ w.heap.size from Nat.le_refl _)
  generalize w.heap.size = g at *
  have hslice : ∀ W, (Instr.slice 25 (.slice (some ⟨rb, off, none⟩) ps.length c) (some (.int .i64 (k : Nat))) none none).run Try.prog W = .ok (.slice (some ⟨rb, off + k * 6, none⟩) (ps.length - k) (c - k)) W := by
    intro W
    have := run_slice_from (P := Try.prog) (t := 25) (e := 37) (sz := 6) under_KVs (by kernel_rfl) rb off ps.length c k (by omega) W
    rw [if_neg (by omega)] at this
    exact this
  obtain ⟨v4, w33, a4, c4, w4, hap1, hap2, hkv4, hu4⟩ := rotate_row rb off c ps.length ps k w3 (Hs.out.grow U3.out) hkl hle60 hcap
  have Q4 := Lib.hid (hu4.heap Q3.out (fun x => x))
  have U4 := Lib.hid (U3.out.trans hu4)
  have K4 := Lib.hid hkv4
  clear hkv4 hu4 Q3 U3
  go_region_held3 (fun _ => True) (first | trivial) (first | (refine step_append hap1 (by rfl) (by rfl) (by rfl) (by rfl) ?_) | (refine step_append hap2 (by rfl) (by rfl) (by rfl) (by rfl) ?_))
  clear hap1 hap2 hslice hk0 hk1 hk2
  have d0 : w4.cell? ⟨g, 0, none⟩ = some ((.slice ka kn kc)) := cell_of Q4.out 0
  have d1 : w4.cell? ⟨g, 1, none⟩ = some ((.slice ea en ec)) := cell_of Q4.out 1
  have d2 : w4.cell? ⟨g, 2, none⟩ = some (.int .i64 q.at_) := cell_of Q4.out 2
  have d3 : w4.cell? ⟨g, 3, none⟩ = some (.int .i64 0) := cell_of Q4.out 3
  have d4 : w4.cell? ⟨g, 4, none⟩ = some (.int .i64 q.sort) := cell_of Q4.out 4
  have d5 : w4.cell? ⟨g, 5, none⟩ = some (.bool q.desc) := cell_of Q4.out 5
  have d6 : w4.cell? ⟨g, 6, none⟩ = some (.bool q.keys) := cell_of Q4.out 6
  have d7 : w4.cell? ⟨g, 7, none⟩ = some (.bool q.count) := cell_of Q4.out 7
  have d8 : w4.cell? ⟨g, 8, none⟩ = some (.int .i64 q.mm) := cell_of Q4.out 8
  have d9 : w4.cell? ⟨g, 9, none⟩ = some (.int .i64 q.xm) := cell_of Q4.out 9
  have d10 : w4.cell? ⟨g, 10, none⟩ = some (.int .i64 q.mc) := cell_of Q4.out 10
  have d11 : w4.cell? ⟨g, 11, none⟩ = some (.int .i64 q.xc) := cell_of Q4.out 11
  go_upto_region 7 with fail
  clear d0 d1 d2 d3 d4 d5 d6 d7 d8 d9 d10 d11
  have ua := upd_alloc (fun _ => False) w4 (.cells #[(.slice ka kn kc), (.slice ea en ec), .int .i64 q.at_, .int .i64 0, .int .i64 q.sort, .bool q.desc, .bool q.keys, .bool q.count, .int .i64 q.mm, .int .i64 q.xm, .int .i64 q.mc, .int .i64 q.xc] 24)
  have A5 := Lib.hid (heap_alloc w4 (.cells #[(.slice ka kn kc), (.slice ea en ec), .int .i64 q.at_, .int .i64 0, .int .i64 q.sort, .bool q.desc, .bool q.keys, .bool q.count, .int .i64 q.mm, .int .i64 q.xm, .int .i64 q.mc, .int .i64 q.xc] 24)).1
  have Q5 := Lib.hid (ua.heap Q4.out (fun x => x))
  have U5 := Lib.hid (U4.out.trans ua)
  have K5 := Lib.hid (show ∀ W, Upd (fun b => b = w4.heap.size) (w4.alloc (.cells #[(.slice ka kn kc), (.slice ea en ec), .int .i64 q.at_, .int .i64 0, .int .i64 q.sort, .bool q.desc, .bool q.keys, .bool q.count, .int .i64 q.mm, .int .i64 q.xm, .int .i64 q.mc, .int .i64 q.xc] 24)) W → Kvs W (fun _ => True) (.slice a4 ps.length c4) (ps.drop k ++ ps.take k) from fun W hW => K4.out.grow (ua.trans' hW (fun x hx e => by omega)))
  have G5 := Lib.hid (lt_of_heap Q4.out)
  have hgw := U4.out.size
  clear ua Q4 U4 K4
  generalize w4.alloc (.cells #[(.slice ka kn kc), (.slice ea en ec), .int .i64 q.at_, .int .i64 0, .int .i64 q.sort, .bool q.desc, .bool q.keys, .bool q.count, .int .i64 q.mm, .int .i64 q.xm, .int .i64 q.mc, .int .i64 q.xc] 24) = w5 at *
  generalize w4.heap.size = ga at *
  have c5 : w5.cell? ⟨g, 5, none⟩ = some (.bool q.desc) := cell_of Q5.out 5
  have a5 : w5.cell? ⟨ga, 5, none⟩ = some (.bool q.desc) := cell_of A5.out 5
  have f5 := free_of A5.out 5
  go_upto_region 8 with fail
  have u6 := upd_setCell (fun b => b = ga) w5 ⟨ga, 5, none⟩ (.bool (!q.desc)) rfl
  have A6 := Lib.hid (show (w5.setCell ⟨ga, 5, none⟩ (.bool (!q.desc))).heap[ga]? = some (.cells (qcells (.slice ka kn kc) (.slice ea en ec) (flipQ (q0 q))) 24 (0, 0)) by rw [heap_setCell_at A5.out 5 _]; rfl)
  have Q6 := Lib.hid (u6.heap Q5.out (fun h => by have := G5.out; omega))
  have U6 := Lib.hid (U5.out.trans' u6 (fun x hx h => by omega))
  have K6 := Lib.hid (show Kvs (w5.setCell ⟨ga, 5, none⟩ (.bool (!q.desc))) (fun _ => True) (.slice a4 ps.length c4) (ps.drop k ++ ps.take k) from K5.out _ u6)
  clear u6 c5 a5 f5 A5 Q5 U5 K5
  generalize w5.setCell ⟨ga, 5, none⟩ (.bool (!q.desc)) = w6 at *
  have HA := Lib.hid (show ∀ W, Upd (fun _ => False) w6 W → Calls Try.prog 10 #[.agg (qcells (.slice ka kn kc) (.slice ea en ec) (q0 q)), .slice (some ⟨rb, off, none⟩) ps.length c] W (AnySays (q0 q) ps W) from fun W hW => any_calls _ _ (q0 q) _ c ps W ((Hs.out.grow U6.out).grow hW) (fewB_true Hf.out))
  have HB := Lib.hid (show ∀ W, Upd (fun _ => False) w6 W → Calls Try.prog 10 #[.agg (qcells (.slice ka kn kc) (.slice ea en ec) (q0 q)), .slice a4 ps.length c4] W (AnySays (q0 q) (ps.drop k ++ ps.take k) W) from fun W hW => by
    have hlen : (ps.drop k ++ ps.take k).length = ps.length := (turned_perm ps k).length_eq
    have := any_calls (.slice ka kn kc) (.slice ea en ec) (q0 q) a4 c4 (ps.drop k ++ ps.take k) W (by rw [hlen]; exact K6.out.grow hW) (few_perm (fewB_true Hf.out) (turned_perm ps k))
    rw [hlen] at this
    exact this)
  have HC := Lib.hid (show ∀ W, Upd (fun _ => False) w6 W → Calls Try.prog 10 #[.agg (qcells (.slice ka kn kc) (.slice ea en ec) (flipQ (q0 q))), .slice (some ⟨rb, off, none⟩) ps.length c] W (AnySays (flipQ (q0 q)) ps W) from fun W hW => any_calls _ _ (flipQ (q0 q)) _ c ps W ((Hs.out.grow U6.out).grow hW) (fewB_true Hf.out))
  refine wp_region_inv2 (by kernel_rfl) [50, 51, 52, 53, 54, 55, 56, 57, 58, 10, 11, 12] (TurnJ w6 (.slice ka kn kc) (.slice ea en ec) (.slice (some ⟨rb, off, none⟩) ps.length c) (.slice a4 ps.length c4) (q0 q) ps (ps.drop k ++ ps.take k)) (fun _ => undef) (TurnF (.slice (some ⟨rb, off, none⟩) ps.length c) (.slice a4 ps.length c4) g ga) (by kernel_rfl) (by kernel_rfl) ⟨rfl, rfl, rfl, rfl, rfl⟩ ?_ ?_ ?_
  · exact ⟨fun _ => 99, fun _ _ => rfl, (Upd.refl _ _).drew, by simp, by simp, by simp, by simp, by simp, by simp, by simp, by simp, by simp, by simp, by simp, by simp, by simp, by simp, by simp⟩
  · exact fun a0 Q hF => turn_steps _ (by kernel_rfl) a0 Q _ _ _ _ _ _ _ _ _ _ _ _ hF Q6.out A6.out HA.out HB.out HC.out
  · intro D f wx hJ hall
    obtain ⟨g1, g2, g3, a1, a2, a3, c1, c2, c3, rs1, rs2, rs3, m1, m2, m3, e10, e11, e12, hh1, hh2, hh3, p1, p2, p3, v1, v2, v3, hux⟩ := turn_end hJ (fun i hi => hall i hi)
    have UX := Lib.hid (U6.out.trans hux)
    obtain ⟨h2, h3, rfl, rfl, rfl⟩ := turn_any rfl HU.out (turned_perm ps k) p1 p2 p3
    rw [cnt_perm (turned_perm ps k)] at hh2
    have hl2 : rs2.length = rs1.length := by have := congrArg List.length h2; simpa using this
    have hl3 : rs3.length = rs1.length := by have := congrArg List.length h3; simpa using this
    rw [hl2] at hh2 v2
    rw [hl3] at hh3 v3
    have V1 := Lib.hid v1
    have V3 := Lib.hid v3
    have Hrev := Lib.hid h3
    have H1 := Lib.hid hh1
    have H2 := Lib.hid hh2
    have H3 := Lib.hid hh3
    have hb1 : rs1.length ≤ 60 := by
      have : rs1.length ≤ ps.length := by
        unfold AnyP at p1
        split at p1
        · obtain ⟨S, hp, -, hr, -⟩ := p1
          exact (says_few (fewB_true Hf.out) hp hr).1
        · rw [p1.1]; simp
      omega
    have hsame := same14_calls a1 a2 rs1.length rs1.length c1 c2 (cntQ (q0 q) ps) false rs1 rs2 wx v1 v2 (by omega) h2.symm
    clear h2 h3 v1 v2 v3 hh1 hh2 hh3 hux p1 p2 p3 hJ hall HA HB HC Q6 A6 hl2 hl3
    simp only [fill]
    rw [e10, e11, e12]
    generalize f 50 = y1
    generalize f 51 = y2
    generalize f 52 = y3
    generalize f 53 = y4
    generalize f 54 = y5
    generalize f 55 = y6
    generalize f 56 = y7
    generalize f 57 = y8
    generalize f 58 = y9
    simp only [Act.put, List.setIfInBounds_toArray, List.set]
    generalize cntQ (q0 q) ps = ct at *
    generalize cntQ (flipQ (q0 q)) ps = ct3 at *
    generalize hn : rs1.length = n at *
    have HN := Lib.hid hn
    clear hn
    have b0 : wx.cell? ⟨g1, 0, none⟩ = some (.slice a1 n c1) := cell_of H1.out 0
    have b1 : wx.cell? ⟨g1, 1, none⟩ = some (.int .i64 ct) := cell_of H1.out 1
    have b2 : wx.cell? ⟨g1, 2, none⟩ = some (.bool false) := cell_of H1.out 2
    have d0 : wx.cell? ⟨g2, 0, none⟩ = some (.slice a2 n c2) := cell_of H2.out 0
    have d1 : wx.cell? ⟨g2, 1, none⟩ = some (.int .i64 ct) := cell_of H2.out 1
    have d2 : wx.cell? ⟨g2, 2, none⟩ = some (.bool false) := cell_of H2.out 2
    go_upto_region 11 with (go_at_call 12; (with_reducible refine hsame.mono ?_); rintro e9 w9 ⟨rfl, hu9⟩; have e90 := hu9.cell b0 (fun x => x); have e93 : w9.cell? ⟨g3, 0, none⟩ = some (.slice a3 n c3) := cell_of (hu9.heap H3.out (fun x => x)) 0)
    have HU9 := Lib.hid (UX.out.trans hu9)
    have V1' := Lib.hid (V1.out.grow hu9)
    have V3' := Lib.hid (V3.out.grow hu9)
    have E3 := Lib.hid e93
    clear b0 b1 b2 d0 d1 d2 V1 V3 H1 H2 H3 UX hu9 e93 hsame
    go_wp2
    clear e90
    go_loopw [75] (fun i wr => ∃ j : Nat, j ≤ n ∧ i = .int .i64 j ∧ Upd (fun _ => False) w9 wr) (fun i _ => n - (intOf i).toNat)
    case atStart => exact ⟨0, Nat.zero_le _, rfl, Upd.refl _ _⟩
    case round =>
      obtain ⟨j, hj, rfl, hu⟩ := hrel
      have Hu := Lib.hid hu
      have hln : rs1.length = n := HN.out
      by_cases hlt : j < n
      · have hl3 : rs3.length = n := by have := congrArg List.length Hrev.out; simp at this; omega
        obtain ⟨b1, o1, rfl, q1⟩ := (show Kvs wr (fun _ => True) (.slice a1 n c1) rs1 from V1'.out.grow hu).range j (by omega)
        obtain ⟨b3, o3, rfl, q3⟩ := (show Kvs wr (fun _ => True) (.slice a3 n c3) rs3 from V3'.out.grow hu).range (n - 1 - j) (by omega)
        have k1 := (V1'.out.grow hu).2 _ (List.getElem_mem (show j < rs1.length by omega))
        have k3 := (V3'.out.grow hu).2 _ (List.getElem_mem (show n - 1 - j < rs3.length by omega))
        have hx : (rs3[n - 1 - j]'(by omega)).x = (rs1[j]'(by omega)).x := by
          have h1 : (rs3.map KvP.x)[n - 1 - j]? = (rs1.map KvP.x).reverse[n - 1 - j]? := by rw [Hrev.out]
          rw [List.getElem?_map, List.getElem?_eq_getElem (by omega), List.getElem?_reverse (by simp; omega), List.getElem?_map, List.length_map, hln, show n - 1 - (n - 1 - j) = j by omega, List.getElem?_eq_getElem (by omega)] at h1
          simpa using h1
        have y3 : wr.cell? ⟨g3, 0, none⟩ = some (.slice (some ⟨b3, o3, none⟩) n c3) := hu.cell E3.out (fun x => x)
        have hsm := fun W (hW : Upd (fun _ => False) wr W) => same13_calls rs1[j] rs3[n - 1 - j] _ _ W (k1.grow hW) (k3.grow hW)
        rw [hx, sameKV_refl] at hsm
        have x0 : (0 : Int) ≤ (j : Int) := by omega
        have x1 : (j : Int) < (n : Int) := by omega
        have hw1 : IntKind.i64.wrap ((n : Int) - 1) = ((n - 1 : Nat) : Int) := by rw [IntWalk.i64_in _ (by omega)]; omega
        have hw2 : IntKind.i64.wrap (((n - 1 : Nat) : Int) - (j : Int)) = ((n - 1 - j : Nat) : Int) := by rw [IntWalk.i64_in _ (by omega)]; omega
        have x2 : (0 : Int) ≤ ((n - 1 - j : Nat) : Int) := by omega
        have x3 : ((n - 1 - j : Nat) : Int) < (n : Int) := by omega
        clear hx k1 k3
        generalize rs1[j] = p at *
        generalize rs3[n - 1 - j] = p2 at *
        generalize n - 1 - j = jj at *
        generalize n - 1 = nn at *
        have Hw1 := Lib.hid hw1
        have Hw2 := Lib.hid hw2
        clear hw1 hw2 hu hln hl3
        obtain ⟨⟨key, val, t1, m1, n1, l1⟩, ⟨ka1, kn1, kc1⟩, ⟨va1, vn1, vc1⟩⟩ := p
        obtain ⟨⟨key2, val2, t2, m2, n2, l2⟩, ⟨ka2, kn2, kc2⟩, ⟨va2, vn2, vc2⟩⟩ := p2
        simp only [kvenc, Sv.v] at q1 q3 hsm
        obtain ⟨r0, r1, r2, r3, r4, r5⟩ := range6 q1
        obtain ⟨s0, s1, s2, s3, s4, s5⟩ := range6 q3
        have HSM := Lib.hid hsm
        clear q1 q3 hsm
        go_upto_region 14 with fail
        clear r0 r1 r2 r3 r4 r5
        have hal := upd_alloc (fun _ => False) wr (.cells #[.slice ka1 kn1 kc1, .slice va1 vn1 vc1, .int .i64 t1, .int .i64 m1, .int .i64 n1, .int .i64 l1] 37)
        have z0 := hal.cell y3 (fun x => x)
        have z1 := hal.cell s0 (fun x => x)
        have z2 := hal.cell s1 (fun x => x)
        have z3 := hal.cell s2 (fun x => x)
        have z4 := hal.cell s3 (fun x => x)
        have z5 := hal.cell s4 (fun x => x)
        have z6 := hal.cell s5 (fun x => x)
        have hh := (heap_alloc wr (.cells #[.slice ka1 kn1 kc1, .slice va1 vn1 vc1, .int .i64 t1, .int .i64 m1, .int .i64 n1, .int .i64 l1] 37)).1
        have HU2 := Lib.hid (Hu.out.trans hal)
        have hsm := HSM.out _ hal.drew
        clear hal y3 s0 s1 s2 s3 s4 s5 HSM
        generalize wr.alloc (.cells #[.slice ka1 kn1 kc1, .slice va1 vn1 vc1, .int .i64 t1, .int .i64 m1, .int .i64 n1, .int .i64 l1] 37) = W2 at *
        generalize wr.heap.size = r at *
        have v0 : W2.cell? ⟨r, 0, none⟩ = some (.slice ka1 kn1 kc1) := cell_of hh 0
        have v1 : W2.cell? ⟨r, 1, none⟩ = some (.slice va1 vn1 vc1) := cell_of hh 1
        have v2 : W2.cell? ⟨r, 2, none⟩ = some (.int .i64 t1) := cell_of hh 2
        have v3 : W2.cell? ⟨r, 3, none⟩ = some (.int .i64 m1) := cell_of hh 3
        have v4 : W2.cell? ⟨r, 4, none⟩ = some (.int .i64 n1) := cell_of hh 4
        have v5 : W2.cell? ⟨r, 5, none⟩ = some (.int .i64 l1) := cell_of hh 5
        have hw1 := Hw1.out
        have hw2 := Hw2.out
        clear hh
        go_region_held3 (fun w' => w'.cell? ⟨r, 0, none⟩ = some (.slice ka1 kn1 kc1) ∧ w'.cell? ⟨r, 1, none⟩ = some (.slice va1 vn1 vc1) ∧ w'.cell? ⟨r, 2, none⟩ = some (.int .i64 t1) ∧ w'.cell? ⟨r, 3, none⟩ = some (.int .i64 m1) ∧ w'.cell? ⟨r, 4, none⟩ = some (.int .i64 n1) ∧ w'.cell? ⟨r, 5, none⟩ = some (.int .i64 l1) ∧ w'.cell? ⟨g3, 0, none⟩ = some (.slice (some ⟨b3, o3, none⟩) n c3) ∧ w'.cell? ⟨b3, o3 + jj * 6, none⟩ = some (.slice ka2 kn2 kc2) ∧ w'.cell? ⟨b3, o3 + jj * 6 + 1, none⟩ = some (.slice va2 vn2 vc2) ∧ w'.cell? ⟨b3, o3 + jj * 6 + 2, none⟩ = some (.int .i64 t2) ∧ w'.cell? ⟨b3, o3 + jj * 6 + 3, none⟩ = some (.int .i64 m2) ∧ w'.cell? ⟨b3, o3 + jj * 6 + 4, none⟩ = some (.int .i64 n2) ∧ w'.cell? ⟨b3, o3 + jj * 6 + 5, none⟩ = some (.int .i64 l2))
          (first | exact ⟨v0, v1, v2, v3, v4, v5, z0, z1, z2, z3, z4, z5, z6⟩ | exact ⟨hy.cell v0 (fun x => x), hy.cell v1 (fun x => x), hy.cell v2 (fun x => x), hy.cell v3 (fun x => x), hy.cell v4 (fun x => x), hy.cell v5 (fun x => x), hy.cell z0 (fun x => x), hy.cell z1 (fun x => x), hy.cell z2 (fun x => x), hy.cell z3 (fun x => x), hy.cell z4 (fun x => x), hy.cell z5 (fun x => x), hy.cell z6 (fun x => x)⟩)
          ((go_at_call 13; (with_reducible refine hsm.mono ?_); rintro e1 wy ⟨rfl, hyu⟩; have hy := hyu.undrew))
        clear hw1 hw2 v0 v1 v2 v3 v4 v5 z0 z1 z2 z3 z4 z5 z6
        go_wp2
        go_roundw
        case rel => exact ⟨j + 1, by omega, by go_num, HU2.out.trans hy⟩
        case measure => simp [intOf]; omega
      · obtain rfl : j = n := by omega
        clear hln
        go_wp2
        go_ret
        exact ⟨rfl, HU9.out.trans Hu.out⟩

end Go.Proofs.Ytpbenicglhccmaa
