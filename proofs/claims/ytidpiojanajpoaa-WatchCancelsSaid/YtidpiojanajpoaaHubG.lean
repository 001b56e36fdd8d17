/-
  A hub: Create (of a watcher that isn't cancelled at once).
-/
import Derived.Test.YtidpiojanajpoaaHubF
namespace Go.Proofs.Ytidpiojanajpoaa
open Go.RowKit Go.Tb Go.MapKept Go.ChangeMaps
set_option linter.unusedVariables false

set_option maxRecDepth 100000 in
set_option maxHeartbeats 2000000 in
theorem create_ok (b m : Nat) (own : Nat → Tg) (P : Int → Option WrP) (H : Hub) (kv ev : Value) (x : Wt) (floor : Int) (w : World) (h : IsHub w b m own P H) (hr0 : 0 ≤ H.rev) (hr1 : H.rev ≤ 4611686018427387904) (hl0 : 0 ≤ H.last) (hl1 : H.last ≤ 4611686018427387904) (hx0 : 0 ≤ x.start) (hx1 : x.start ≤ 4611686018427387904) (hn : H.n < 16) (hfl : ¬ nextOf H x ≤ floor)
    (hf : H.f (H.last + 1) = none) (hk : Bytes w kv x.key) (he : Bytes w ev x.end_) (l1 : x.key.length ≤ 140737488355328) (l2 : x.end_.length ≤ 140737488355328) :
    Calls Try.prog 9 #[.pointer (some ⟨b, 0, none⟩), .agg (wcells kv ev x), .int .i64 floor] w fun r w' => r = .returned (.tuple #[.int .i64 (H.last + 1), .int .i64 0]) ∧ (∃ own' P', IsHub w' b m own' P' (H.more x) ∧ ∀ k, k < w.heap.size → own' k = own k) ∧ Upd (fun k => own k ≠ .no) w w' := by
  have hP : P (H.last + 1) = none := by
    cases hp : P (H.last + 1) with
    | none => rfl
    | some p => obtain ⟨y, hy, _⟩ := h.wt _ p hp; rw [hf] at hy; cases hy
  obtain ⟨ka, kn, kc, rfl⟩ := hk.form
  obtain ⟨ea, en, ec, rfl⟩ := he.form
  obtain ⟨key, end_, start, np, nd, pv⟩ := x
  simp only [wcells] at hx0 hx1 hk he l1 l2 ⊢
  have hua := upd_alloc (fun _ => False) w (.cells #[.slice ka kn kc, .slice ea en ec, .int .i64 start, .bool np, .bool nd, .bool pv] 24)
  have hB := (heap_alloc w (.cells #[.slice ka kn kc, .slice ea en ec, .int .i64 start, .bool np, .bool nd, .bool pv] 24)).1
  have hsz : (w.alloc (.cells #[.slice ka kn kc, .slice ea en ec, .int .i64 start, .bool np, .bool nd, .bool pv] 24)).heap.size = w.heap.size + 1 := by simp
  have c0 : (w.alloc (.cells #[.slice ka kn kc, .slice ea en ec, .int .i64 start, .bool np, .bool nd, .bool pv] 24)).cell? ⟨w.heap.size, 0, none⟩ = some (.slice ka kn kc) := cell_of hB 0
  have c1 : (w.alloc (.cells #[.slice ka kn kc, .slice ea en ec, .int .i64 start, .bool np, .bool nd, .bool pv] 24)).cell? ⟨w.heap.size, 1, none⟩ = some (.slice ea en ec) := cell_of hB 1
  have c2 : (w.alloc (.cells #[.slice ka kn kc, .slice ea en ec, .int .i64 start, .bool np, .bool nd, .bool pv] 24)).cell? ⟨w.heap.size, 2, none⟩ = some (.int .i64 start) := cell_of hB 2
  have b4 := hua.cell (show w.cell? ⟨b, 4, none⟩ = some (.map (some m)) from cell_of h.hub 4) (fun x => x)
  have hlen := fun ty => (h.grow hua).map.len (P := Try.prog) Try.underlying66 ty
  have hn' : (H.n : Int) < 16 := by omega
  have hcl := clone_calls (.slice ka kn kc) key _ (hk.upd hua.drew (fun _ _ x => x)) l1
  have hcm := fun (W : World) (hu : Upd (fun _ => False) w W) => clone_calls (.slice ea en ec) end_ W (he.upd hu (fun _ _ x => x)) l2
  have HCM := Lib.hid hcm
  have HB := Lib.hid hB
  have HU := Lib.hid hua
  have HH := Lib.hid h
  have HP := Lib.hid hP
  have HSZ := Lib.hid hsz
  have HN := Lib.hid hn
  clear hcm hB hua h hP hk he hsz hf hn
  go_enter Try.func9, Try.ntmps9
  go_upto_region 5 with (fail)
  generalize w.alloc (.cells #[.slice ka kn kc, .slice ea en ec, .int .i64 start, .bool np, .bool nd, .bool pv] 24) = W at *
  clear hlen hn'
  go_region_law (first
    | (go_simp; go_at_call 26; with_reducible refine hcl.mono ?_; rintro e w1 ⟨v1, rfl, hy1, hg1, hu1, hn1, ho1⟩; obtain ⟨a1, n1, z1, rfl⟩ := Bytes.form (Bytes.of hy1); have c1' := hu1.undrew.cell c1 (fun x => x); have hcm := HCM.out w1 (HU.out.trans hu1.undrew))
    | (go_simp; go_at_call 26; with_reducible refine hcm.mono ?_; rintro e w2 ⟨v2, rfl, hy2, hg2, hu2, hn2, ho2⟩; obtain ⟨a2, n2, z2, rfl⟩ := Bytes.form (Bytes.of hy2); have hq := hu2.heap (hu1.undrew.heap HB.out (fun x => x)) (fun x => x); have e0 := cell_of hq 0; have e1 := cell_of hq 1; have f0 := free_of hq 0; have f1 := free_of hq 1))
  all_goals
    have hu3 : Upd (fun k => k = w.heap.size) w2 ((w2.setCell ⟨w.heap.size, 0, none⟩ (.slice a1 n1 z1)).setCell ⟨w.heap.size, 1, none⟩ (.slice a2 n2 z2)) := (upd_setCell (fun k => k = w.heap.size) w2 ⟨w.heap.size, 0, none⟩ _ rfl).trans (upd_setCell (fun k => k = w.heap.size) _ ⟨w.heap.size, 1, none⟩ _ rfl)
    have hq3 : ((w2.setCell ⟨w.heap.size, 0, none⟩ (.slice a1 n1 z1)).setCell ⟨w.heap.size, 1, none⟩ (.slice a2 n2 z2)).heap[w.heap.size]? = some (.cells #[.slice a1 n1 z1, .slice a2 n2 z2, .int .i64 start, .bool np, .bool nd, .bool pv] 24 (0, 0)) := by
      rw [heap_setCell_at (heap_setCell_at hq 0 _) 1 _]; rfl
    have hWd : W.drew.heap.size = w.heap.size + 1 := HSZ.out
    have s1 := hu1.size
    generalize ((w2.setCell ⟨w.heap.size, 0, none⟩ (.slice a1 n1 z1)).setCell ⟨w.heap.size, 1, none⟩ (.slice a2 n2 z2)) = w3 at *
    have HY1 := Lib.hid ((hy1.upd hu2 (fun _ _ x => x)).upd hu3 (fun k hk e => by have := hg1 k hk; omega))
    have HY2 := Lib.hid (hy2.upd hu3 (fun k hk e => by have := hg2 k hk; omega))
    have HG1 := Lib.hid (show ∀ k, sliceBlock (.slice a1 n1 z1) = some k → w.heap.size ≤ k from fun k hk => by have := hg1 k hk; omega)
    have HG2 := Lib.hid (show ∀ k, sliceBlock (.slice a2 n2 z2) = some k → w.heap.size ≤ k from fun k hk => by have := hg2 k hk; omega)
    have hw3 : Upd (fun _ => False) w w3 := ((HU.out.trans hu1.undrew).trans hu2).trans' hu3 (fun k hk e => by omega)
    have hxs := (heap_alloc w3 (.cells #[.slice a1 n1 z1, .slice a2 n2 z2, .int .i64 start, .bool np, .bool nd, .bool pv, .int .i64 start, .slice none 0 0, .int .u32 0, .int .i32 0, .int .u32 0, .bool false, .int .i64 0] 87)).1
    have huA := upd_alloc (fun _ => False) w3 (.cells #[.slice a1 n1 z1, .slice a2 n2 z2, .int .i64 start, .bool np, .bool nd, .bool pv, .int .i64 start, .slice none 0 0, .int .u32 0, .int .i32 0, .int .u32 0, .bool false, .int .i64 0] 87)
    have hxb0 := hw3.size
    have e2 : w3.cell? ⟨w.heap.size, 2, none⟩ = some (.int .i64 start) := cell_of hq3 2
    have e2' := huA.cell e2 (fun x => x)
    have HXS := Lib.hid hxs
    have HUA := Lib.hid huA
    have HW3 := Lib.hid hw3
    have b0 : (w3.alloc (.cells #[.slice a1 n1 z1, .slice a2 n2 z2, .int .i64 start, .bool np, .bool nd, .bool pv, .int .i64 start, .slice none 0 0, .int .u32 0, .int .i32 0, .int .u32 0, .bool false, .int .i64 0] 87)).cell? ⟨b, 0, none⟩ = some (.int .i64 H.rev) := (hw3.trans huA).cell (cell_of HH.out.hub 0) (fun x => x)
    have g6 : (w3.alloc (.cells #[.slice a1 n1 z1, .slice a2 n2 z2, .int .i64 start, .bool np, .bool nd, .bool pv, .int .i64 start, .slice none 0 0, .int .u32 0, .int .i32 0, .int .u32 0, .bool false, .int .i64 0] 87)).cell? ⟨w3.heap.size, 6, none⟩ = some (.int .i64 start) := cell_of hxs 6
    have g6f := free_of hxs 6
    clear hcl hcm hy1 hy2 hg1 hg2 hn1 hn2 ho1 ho2 hu1 hu2 hu3 hq e0 e1 f0 f1 c0 c1 c2 c1' b4 hxs huA hw3 s1 hWd
    go_upto_region 7 with (first | ((with_reducible refine wpl_load (ty := 24) hq3 Try.underlying24 ?_ ?_ ?_ ?_); rfl; rfl; kernel_rfl))
    by_cases hst : start = 0
    · have k0 : (start == 0) = true := by simp [hst]
      obtain ⟨nx, hnx⟩ : ∃ nx, nx = H.rev + 1 := ⟨_, rfl⟩
      have HNX := Lib.hid (show nextOf H ⟨key, end_, start, np, nd, pv⟩ = nx from by rw [hnx]; exact if_pos hst)
      rw [HNX.out] at hfl
      clear hst
      go_upto_region 9 with (fail)
      generalize hxb : w3.heap.size = xb at *
      have hx6 : (w3.alloc (.cells #[.slice a1 n1 z1, .slice a2 n2 z2, .int .i64 start, .bool np, .bool nd, .bool pv, .int .i64 (H.rev + 1), .slice none 0 0, .int .u32 0, .int .i32 0, .int .u32 0, .bool false, .int .i64 0] 87)).heap[xb]? = some (.cells #[.slice a1 n1 z1, .slice a2 n2 z2, .int .i64 start, .bool np, .bool nd, .bool pv, .int .i64 nx, .slice none 0 0, .int .u32 0, .int .i32 0, .int .u32 0, .bool false, .int .i64 0] 87 (0, 0)) := by rw [hnx, ← hxb]; exact (heap_alloc w3 _).1
      have hu6 := upd_alloc (fun _ => False) w3 (.cells #[.slice a1 n1 z1, .slice a2 n2 z2, .int .i64 start, .bool np, .bool nd, .bool pv, .int .i64 (H.rev + 1), .slice none 0 0, .int .u32 0, .int .i32 0, .int .u32 0, .bool false, .int .i64 0] 87)
      have hw6 := HW3.out.trans hu6
      have HY6 := Lib.hid hu6
      clear hu6 b0 g6 g6f e2 e2' hq3 HXS HW3 HUA
      generalize w3.alloc (.cells #[.slice a1 n1 z1, .slice a2 n2 z2, .int .i64 start, .bool np, .bool nd, .bool pv, .int .i64 (H.rev + 1), .slice none 0 0, .int .u32 0, .int .i32 0, .int .u32 0, .bool false, .int .i64 0] 87) = W6 at *
      have hH6 := HH.out.grow hw6
      have hadd := add_calls b 3 H.last W6 (cell_of hH6.hub 3) (free_of hH6.hub 3) hl0 hl1
      have hu7 : Upd (fun k => k = b) W6 (W6.setCell ⟨b, 3, none⟩ (.int .i64 (H.last + 1))) := upd_setCell _ _ _ _ rfl
      have hb7 := heap_setCell_at hH6.hub 3 (.int .i64 (H.last + 1))
      have hmb : m ≠ b := fun e => by have h1 := hH6.om; rw [e, hH6.ob] at h1; cases h1
      have hm7 := hH6.map.upd hu7 hmb
      have c6 : W6.cell? ⟨xb, 6, none⟩ = some (.int .i64 nx) := cell_of hx6 6
      have b4' : (W6.setCell ⟨b, 3, none⟩ (.int .i64 (H.last + 1))).cell? ⟨b, 4, none⟩ = some (.map (some m)) := cell_of hb7 4
      have hxb : xb ≠ b := fun e => by have := lt_of_heap HH.out.hub; omega
      have hxm : xb ≠ m := fun e => by have := HH.out.map.lt; omega
      have hx7 := hu7.heap hx6 hxb
      obtain ⟨w8, hup, hm8, o, rfl⟩ := hm7.update (P := Try.prog) (keyT_int .i64) Try.underlying66 Try.underlying2 (H.last + 1) (.pointer (some ⟨xb, 0, none⟩))
      have hu8 : Upd (fun k => k = m) (W6.setCell ⟨b, 3, none⟩ (.int .i64 (H.last + 1))) (setBlock (W6.setCell ⟨b, 3, none⟩ (.int .i64 (H.last + 1))) m o) := upd_setBlock _ _ _ _ rfl
      have hu9 : Upd (fun k => k = b ∨ k = m) w (setBlock (W6.setCell ⟨b, 3, none⟩ (.int .i64 (H.last + 1))) m o) := ((hw6.weak _).trans' hu7 (fun k _ e => .inl e)).trans' hu8 (fun k _ e => .inr e)
      have HFIN := Lib.hid (show (∃ own' P', IsHub (setBlock (W6.setCell ⟨b, 3, none⟩ (.int .i64 (H.last + 1))) m o) b m own' P' (H.more ⟨key, end_, start, np, nd, pv⟩) ∧ ∀ k, k < w.heap.size → own' k = own k) ∧ Upd (fun k => own k ≠ .no) w (setBlock (W6.setCell ⟨b, 3, none⟩ (.int .i64 (H.last + 1))) m o) from by
        have em : (fun j => if j = H.last + 1 then some (Value.pointer (some ⟨xb, 0, none⟩)) else mptr P j) = mptr (fun j => if j = H.last + 1 then some (⟨xb, ⟨a1, n1, z1⟩, ⟨a2, n2, z2⟩, ⟨none, 0, 0⟩, []⟩ : WrP) else P j) := by
          funext j
          unfold mptr
          by_cases hj : j = H.last + 1
          · simp only [if_pos hj]; rfl
          · simp only [if_neg hj]
        have en : (if (mptr P (H.last + 1)).isSome then H.n else H.n + 1) = H.n + 1 := by
          unfold mptr; rw [HP.out]; rfl
        have hm9 := hm8
        rw [en] at hm9
        have q1 : ∀ k, sliceBlock (.slice a1 n1 z1) = some k → w.heap.size ≤ k ∧ k ≠ xb := fun k hk => ⟨by have := HG1.out k hk; omega, fun e => by have := HY1.out.lt hk; omega⟩
        have q2 : ∀ k, sliceBlock (.slice a2 n2 z2) = some k → w.heap.size ≤ k ∧ k ≠ xb := fun k hk => ⟨by have := HG2.out k hk; omega, fun e => by have := HY2.out.lt hk; omega⟩
        have hb9 : ∀ k, w.heap.size ≤ k → k ≠ b ∧ k ≠ m := fun k hk => ⟨fun e => by have := lt_of_heap HH.out.hub; omega, fun e => by have := HH.out.map.lt; omega⟩
        obtain ⟨own', h1, h2⟩ := HH.out.insert (i := H.last + 1) (p := ⟨xb, ⟨a1, n1, z1⟩, ⟨a2, n2, z2⟩, ⟨none, 0, 0⟩, []⟩) (x := ⟨⟨key, end_, start, np, nd, pv⟩, nx, [], false, 0⟩) HP.out hu9 (hu8.heap hb7 (Ne.symm hmb)) (by rw [← em]; exact hm9) (hu8.heap hx7 hxm) (by show w.heap.size ≤ xb; omega)
          (((HY1.out.upd HY6.out (fun _ _ x => x)).upd hu7 (fun k hk => (hb9 k (q1 k hk).1).1)).upd hu8 (fun k hk => (hb9 k (q1 k hk).1).2)) (((HY2.out.upd HY6.out (fun _ _ x => x)).upd hu7 (fun k hk => (hb9 k (q2 k hk).1).1)).upd hu8 (fun k hk => (hb9 k (q2 k hk).1).2)) q1 q2 rfl rfl rfl
        have eH : H.more ⟨key, end_, start, np, nd, pv⟩ = { H with last := H.last + 1, f := fun j => if j = H.last + 1 then some ⟨⟨key, end_, start, np, nd, pv⟩, nx, [], false, 0⟩ else H.f j, n := H.n + 1 } := by unfold Hub.more; rw [HNX.out]
        rw [← eH] at h1
        exact ⟨⟨own', _, h1, h2⟩, hu9.mono (fun k _ e => e.elim (fun e => by rw [e, HH.out.ob]; simp) (fun e => by rw [e, HH.out.om]; simp))⟩)
      clear hm7 hm8 hu7 hu8 hu9 hb7 hx7 hH6 hx6 hw6
      go_wp2_with (first | (go_at_call 28; (with_reducible refine hadd.mono ?_); rintro e w9 ⟨rfl, rfl⟩))
      refine bodyPost_ret (v := .tuple #[.int .i64 (H.last + 1), .int .i64 0]) ?_ rfl ?_
      · simp [results, Try.results9, go_sem]
      · exact ⟨rfl, HFIN.out⟩
    · obtain ⟨nx, hnx⟩ : ∃ nx, nx = start := ⟨_, rfl⟩
      have HNX := Lib.hid (show nextOf H ⟨key, end_, start, np, nd, pv⟩ = nx from by rw [hnx]; exact if_neg hst)
      rw [HNX.out] at hfl
      have k0 : (start == 0) = false := by simp [hst]
      go_upto_region 9 with (fail)
      generalize hxb : w3.heap.size = xb at *
      have hx6 : (w3.alloc (.cells #[.slice a1 n1 z1, .slice a2 n2 z2, .int .i64 start, .bool np, .bool nd, .bool pv, .int .i64 start, .slice none 0 0, .int .u32 0, .int .i32 0, .int .u32 0, .bool false, .int .i64 0] 87)).heap[xb]? = some (.cells #[.slice a1 n1 z1, .slice a2 n2 z2, .int .i64 start, .bool np, .bool nd, .bool pv, .int .i64 nx, .slice none 0 0, .int .u32 0, .int .i32 0, .int .u32 0, .bool false, .int .i64 0] 87 (0, 0)) := by rw [hnx]; exact HXS.out
      have hw6 := HW3.out.trans HUA.out
      have HY6 := Lib.hid HUA.out
      clear b0 g6 g6f e2 e2' hq3 HXS HW3 HUA hst
      generalize w3.alloc (.cells #[.slice a1 n1 z1, .slice a2 n2 z2, .int .i64 start, .bool np, .bool nd, .bool pv, .int .i64 start, .slice none 0 0, .int .u32 0, .int .i32 0, .int .u32 0, .bool false, .int .i64 0] 87) = W6 at *
      have hH6 := HH.out.grow hw6
      have hadd := add_calls b 3 H.last W6 (cell_of hH6.hub 3) (free_of hH6.hub 3) hl0 hl1
      have hu7 : Upd (fun k => k = b) W6 (W6.setCell ⟨b, 3, none⟩ (.int .i64 (H.last + 1))) := upd_setCell _ _ _ _ rfl
      have hb7 := heap_setCell_at hH6.hub 3 (.int .i64 (H.last + 1))
      have hmb : m ≠ b := fun e => by have h1 := hH6.om; rw [e, hH6.ob] at h1; cases h1
      have hm7 := hH6.map.upd hu7 hmb
      have c6 : W6.cell? ⟨xb, 6, none⟩ = some (.int .i64 nx) := cell_of hx6 6
      have b4' : (W6.setCell ⟨b, 3, none⟩ (.int .i64 (H.last + 1))).cell? ⟨b, 4, none⟩ = some (.map (some m)) := cell_of hb7 4
      have hxb : xb ≠ b := fun e => by have := lt_of_heap HH.out.hub; omega
      have hxm : xb ≠ m := fun e => by have := HH.out.map.lt; omega
      have hx7 := hu7.heap hx6 hxb
      obtain ⟨w8, hup, hm8, o, rfl⟩ := hm7.update (P := Try.prog) (keyT_int .i64) Try.underlying66 Try.underlying2 (H.last + 1) (.pointer (some ⟨xb, 0, none⟩))
      have hu8 : Upd (fun k => k = m) (W6.setCell ⟨b, 3, none⟩ (.int .i64 (H.last + 1))) (setBlock (W6.setCell ⟨b, 3, none⟩ (.int .i64 (H.last + 1))) m o) := upd_setBlock _ _ _ _ rfl
      have hu9 : Upd (fun k => k = b ∨ k = m) w (setBlock (W6.setCell ⟨b, 3, none⟩ (.int .i64 (H.last + 1))) m o) := ((hw6.weak _).trans' hu7 (fun k _ e => .inl e)).trans' hu8 (fun k _ e => .inr e)
      have HFIN := Lib.hid (show (∃ own' P', IsHub (setBlock (W6.setCell ⟨b, 3, none⟩ (.int .i64 (H.last + 1))) m o) b m own' P' (H.more ⟨key, end_, start, np, nd, pv⟩) ∧ ∀ k, k < w.heap.size → own' k = own k) ∧ Upd (fun k => own k ≠ .no) w (setBlock (W6.setCell ⟨b, 3, none⟩ (.int .i64 (H.last + 1))) m o) from by
        have em : (fun j => if j = H.last + 1 then some (Value.pointer (some ⟨xb, 0, none⟩)) else mptr P j) = mptr (fun j => if j = H.last + 1 then some (⟨xb, ⟨a1, n1, z1⟩, ⟨a2, n2, z2⟩, ⟨none, 0, 0⟩, []⟩ : WrP) else P j) := by
          funext j
          unfold mptr
          by_cases hj : j = H.last + 1
          · simp only [if_pos hj]; rfl
          · simp only [if_neg hj]
        have en : (if (mptr P (H.last + 1)).isSome then H.n else H.n + 1) = H.n + 1 := by
          unfold mptr; rw [HP.out]; rfl
        have hm9 := hm8
        rw [en] at hm9
        have q1 : ∀ k, sliceBlock (.slice a1 n1 z1) = some k → w.heap.size ≤ k ∧ k ≠ xb := fun k hk => ⟨by have := HG1.out k hk; omega, fun e => by have := HY1.out.lt hk; omega⟩
        have q2 : ∀ k, sliceBlock (.slice a2 n2 z2) = some k → w.heap.size ≤ k ∧ k ≠ xb := fun k hk => ⟨by have := HG2.out k hk; omega, fun e => by have := HY2.out.lt hk; omega⟩
        have hb9 : ∀ k, w.heap.size ≤ k → k ≠ b ∧ k ≠ m := fun k hk => ⟨fun e => by have := lt_of_heap HH.out.hub; omega, fun e => by have := HH.out.map.lt; omega⟩
        obtain ⟨own', h1, h2⟩ := HH.out.insert (i := H.last + 1) (p := ⟨xb, ⟨a1, n1, z1⟩, ⟨a2, n2, z2⟩, ⟨none, 0, 0⟩, []⟩) (x := ⟨⟨key, end_, start, np, nd, pv⟩, nx, [], false, 0⟩) HP.out hu9 (hu8.heap hb7 (Ne.symm hmb)) (by rw [← em]; exact hm9) (hu8.heap hx7 hxm) (by show w.heap.size ≤ xb; omega)
          (((HY1.out.upd HY6.out (fun _ _ x => x)).upd hu7 (fun k hk => (hb9 k (q1 k hk).1).1)).upd hu8 (fun k hk => (hb9 k (q1 k hk).1).2)) (((HY2.out.upd HY6.out (fun _ _ x => x)).upd hu7 (fun k hk => (hb9 k (q2 k hk).1).1)).upd hu8 (fun k hk => (hb9 k (q2 k hk).1).2)) q1 q2 rfl rfl rfl
        have eH : H.more ⟨key, end_, start, np, nd, pv⟩ = { H with last := H.last + 1, f := fun j => if j = H.last + 1 then some ⟨⟨key, end_, start, np, nd, pv⟩, nx, [], false, 0⟩ else H.f j, n := H.n + 1 } := by unfold Hub.more; rw [HNX.out]
        rw [← eH] at h1
        exact ⟨⟨own', _, h1, h2⟩, hu9.mono (fun k _ e => e.elim (fun e => by rw [e, HH.out.ob]; simp) (fun e => by rw [e, HH.out.om]; simp))⟩)
      clear hm7 hm8 hu7 hu8 hu9 hb7 hx7 hH6 hx6 hw6
      go_wp2_with (first | (go_at_call 28; (with_reducible refine hadd.mono ?_); rintro e w9 ⟨rfl, rfl⟩))
      refine bodyPost_ret (v := .tuple #[.int .i64 (H.last + 1), .int .i64 0]) ?_ rfl ?_
      · simp [results, Try.results9, go_sem]
      · exact ⟨rfl, HFIN.out⟩

end Go.Proofs.Ytidpiojanajpoaa
