/-
  A lessor: Due.
-/
import Derived.Test.YtcbngjlgcgcljaaGreatLeaseD
import Derived.Test.YtcbngjlgcgcljaaGreatBase
import Derived.Deep.QuietTactic
import Derived.BigQuiet
namespace Go.Proofs.YtcbngjlgcgcljaaGreat
open Go.RowKit Go.Tb Go.MapKept Go.ChangeMaps Go.Lib Go.Sort
set_option linter.unusedVariables false

theorem due_nil (w : World) : Calls Tryz.prog 14 #[.pointer none] w fun e w' => e = .returned (.slice none 0 0) ∧ Upd (fun _ => False) w w' := by
  go_enter Tryz.func14, Tryz.ntmps14
  go_wp2
  go_ret
  exact ⟨rfl, upd_alloc _ _ _⟩

/-! the order is one -/
theorem cmpL_swap (L : LS) (x y : Int) : L.cmp y x = - L.cmp x y := by
  unfold LS.cmp
  rw [compareInt_swap (L.due x) (L.due y), compareInt_swap x y]
  unfold orI
  by_cases h : compareInt (L.due x) (L.due y) = 0
  · rw [h]; simp
  · rw [if_neg h, if_neg (by omega)]
theorem cmpL_neg (L : LS) (x y : Int) : L.cmp x y < 0 ↔ (L.due x < L.due y ∨ (L.due x = L.due y ∧ x < y)) := by
  unfold LS.cmp orI compareInt
  split <;> (repeat' split) <;> omega
theorem swoL (L : LS) : SWO (ltOf L.cmp) where
  irrefl x := by simp only [ltOf, decide_eq_false_iff_not, cmpL_neg]; omega
  trans x y z h1 h2 := by simp only [ltOf, decide_eq_true_eq, cmpL_neg] at *; omega
  ntrans x y z h1 h2 := by simp only [ltOf, decide_eq_false_iff_not, cmpL_neg] at *; omega

/-- What Due says. -/
def DueSays (L : LS) (w : World) (e : Ending) (w' : World) : Prop :=
  ∃ a c l, e = .returned (.slice a (List.length l) c) ∧ (∀ i, i ∈ l ↔ L.isDue i) ∧ l.Nodup ∧ l.Pairwise (fun x y => ¬ L.cmp y x < 0) ∧ Sl nenc w' (.slice a l.length c) l ∧ Upd (fun _ => False) w w' ∧ ∀ g, sliceBlock (.slice a l.length c) = some g → w.heap.size ≤ g

set_option maxRecDepth 100000 in
set_option maxHeartbeats 1000000 in
/-- Due: the leases that are due, by their deadlines and numbers. -/
theorem due_calls (b ml mk : Nat) (L : LS) (w : World) (h : IsLs w b ml mk L) (hok : LOk L) :
    Calls Tryz.prog 14 #[.pointer (some ⟨b, 0, none⟩)] w (DueSays L w) := by
  have hfew := hok.few
  have hua := upd_alloc (fun _ => False) w (.cells #[.pointer (some ⟨b, 0, none⟩)] 25)
  have hB := cell_of (heap_alloc w (.cells #[.pointer (some ⟨b, 0, none⟩)] 25)).1 0
  have h1 := h.grow hua
  obtain ⟨o, todo, hrun, hit, hlen, htodo⟩ := h1.lm.range (P := Tryz.prog) (keyT_int .i64) Tryz.underlying48
  have c2 : w.cell? ⟨b, 2, none⟩ = some (.map (some ml)) := cell_of h.blk 2
  have hbl := lt_of_heap h.blk
  have H := Lib.hid h
  have HIT := Lib.hid hit
  have HL := Lib.hid hlen
  have HT := Lib.hid htodo
  clear h hok hua h1 hit hlen htodo
  go_enter Tryz.func14, Tryz.ntmps14
  go_wp2
  have hWs : w.heap.size + 2 = ((w.alloc (.cells #[.pointer (some ⟨b, 0, none⟩)] 25)).alloc o).heap.size := by simp
  have hs1 : (w.alloc (.cells #[.pointer (some ⟨b, 0, none⟩)] 25)).heap.size = w.heap.size + 1 := by simp
  have hu0 : Upd (fun _ => False) w ((w.alloc (.cells #[.pointer (some ⟨b, 0, none⟩)] 25)).alloc o) := (upd_alloc _ _ _).alloc _
  have hstart : DueRel b ml (w.heap.size + 1) (w.heap.size + 2) L w (.slice none 0 0) ((w.alloc (.cells #[.pointer (some ⟨b, 0, none⟩)] 25)).alloc o) := by
    refine ⟨todo, [], ?_, ⟨rfl, .inl ⟨rfl, rfl⟩⟩, by rw [List.append_nil, HL.out]; exact hfew, List.nodup_nil, fun i => ⟨fun h => (by cases h), fun ⟨h1, x, h2, _⟩ => absurd ((HT.out i).2 (by rw [h2]; rfl)) h1⟩, hu0⟩
    have := HIT.out
    rw [hs1] at this
    exact this
  have HB := Lib.hid (show ((w.alloc (.cells #[.pointer (some ⟨b, 0, none⟩)] 25)).alloc o).cell? ⟨w.heap.size, 0, none⟩ = some (.pointer (some ⟨b, 0, none⟩)) from (upd_alloc (fun _ => False) _ o).cell hB (fun x => x))
  have HST := Lib.hid hstart
  have HWS := Lib.hid hWs
  clear hstart HIT HL HT hs1 hB c2 hrun hWs hu0
  generalize (w.alloc (.cells #[.pointer (some ⟨b, 0, none⟩)] 25)).alloc o = W0 at *
  go_loopw [3] (fun ov wr => ∃ oa on oc, ov = .slice oa on oc ∧ DueRel b ml (w.heap.size + 1) (w.heap.size + 2) L w (.slice oa on oc) wr ∧ Upd (fun k => w.heap.size + 1 ≤ k) W0 wr) (fun _ wr => wr.rangeLeft ml (w.heap.size + 1))
  case atStart => exact ⟨none, 0, 0, rfl, HST.out, Upd.refl _ _⟩
  case round =>
    clear HST
    obtain ⟨oa, on, oc, rfl, ⟨todo', xs, hit, hown, hlen, hnd, hmem, hu⟩, hv⟩ := hrel
    have hBr := hv.cell HB.out (by simp)
    rcases hit.next (P := Tryz.prog) (keyT_int .i64) with ⟨rfl, hnx⟩ | ⟨k, v, t2, w1, hperm, hf, hnx, hit1, hu1, hsz, hlt, hen⟩
    · have hcmp : CmpOk 35 #[.pointer (some ⟨w.heap.size, 0, none⟩)] L.cmp (fun g => sliceBlock (.slice oa on oc) = some g) wr := by
        intro W hW x y
        have hge := own_ge hown
        have hh := H.out
        exact clos_calls w.heap.size b ml mk L x y W ((hh.grow hu).upd hW (fun e => by have := hge _ e; omega) (fun e => by have := hge _ e; have := hh.lm.lt; omega) (fun e => by have := hge _ e; have := hh.km.lt; omega)) (hW.cell hBr (fun e => by have := (hge _ e).1; simp at this; omega))
      have hsort := sortf_calls (w.heap.size + 2) 35 #[.pointer (some ⟨w.heap.size, 0, none⟩)] (enters_of Tryz.func35 (by kernel_rfl) rfl) L.cmp (swoL L) (.slice oa on oc) xs wr hown hcmp (by simp at hlen; omega)
      have HM := Lib.hid hmem
      have HN := Lib.hid hnd
      have HU := Lib.hid hu
      have HO := Lib.hid (own_ge hown)
      clear hmem hnd hu hlen hown hcmp hit
      go_wp2_with (go_at_call 34; (with_reducible refine hsort.mono ?_); rintro e9 w9 ⟨rfl, qs, hqp, hqs, hqo, hqu⟩; have HQ := Lib.hid hqs; clear hqs)
      obtain ⟨hsl, hge⟩ := sl_of_own nenc_length hqo
      obtain rfl : qs.length = on := hsl.size
      go_ret
      refine ⟨oa, oc, qs, rfl, fun i => ?_, hqp.nodup_iff.2 HN.out, HQ.out.imp (fun h => by omega), hsl, HU.out.trans' hqu (fun x hx e => ?_), fun g hg => by have := hge g hg; omega⟩
      · rw [hqp.mem_iff, HM.out i]
        exact ⟨fun h => h.2, fun h => ⟨(by simp), h⟩⟩
      · have := (HO.out x e).1
        omega
    · obtain ⟨x, hLx, hvx⟩ : ∃ x, L.l k = some x ∧ v = heldV x := by
        cases hl : L.l k with
        | none => rw [hl] at hf; cases hf
        | some x => rw [hl] at hf; exact ⟨x, rfl, (Option.some.inj hf).symm⟩
      obtain ⟨tt, dd⟩ := x
      rw [show v = .agg #[.int .i64 tt, .int .i64 dd] from hvx] at hnx hen
      have hnd1 := hperm.nodup_iff.1 hit.nodup
      have hk2 := (List.nodup_cons.1 hnd1).1
      have hkx : k ∉ xs := fun hm => ((hmem k).1 hm).1 (hperm.mem_iff.2 (.head _))
      have hlen2 : (t2 ++ xs).length + 1 ≤ 64 := by have := hperm.length_eq; simp at this hlen ⊢; omega
      have hmem2 : ∀ i, i ∈ t2 ∨ i = k ↔ i ∈ todo' := fun i => by rw [hperm.mem_iff, List.mem_cons]; exact or_comm
      have hB1 := hu1.cell hBr (by simp)
      have c0 : w1.cell? ⟨b, 0, none⟩ = some (.int .i64 L.now) := hu1.cell (cell_of (H.out.grow hu).blk 0) (by simp; omega)
      have hml := H.out.lm.lt
      have hge := own_ge hown
      have hown1 := own_upd' hown hu1 (fun g hg e => by have := (hge g hg).1; omega)
      have hmeas := hlt
      have hBlt := World.block_lt_of_cell? w1 _ hB1
      have hblt := World.block_lt_of_cell? w1 _ c0
      simp only at hBlt hblt
      have hszw : W0.heap.size ≤ wr.heap.size := hv.size
      clear hf hvx v hit hsz
      by_cases hdue : dd ≤ L.now
      · have HREL := Lib.hid (show ∀ o, DueRel2 b ml (w.heap.size + 1) (w.heap.size + 2) L w (.slice oa on oc) k (w1.alloc o) from fun o =>
          ⟨t2, xs, hit1.upd (upd_alloc (fun _ => False) w1 o) (fun x => x) (fun x => x), own_grow hown1 (upd_alloc _ w1 o), by omega, List.nodup_append.2 ⟨hnd, (by simp), fun a ha c hc e => by rw [List.mem_singleton.1 hc] at e; exact hkx (e ▸ ha)⟩, fun i => by
            rw [List.mem_append, List.mem_singleton, hmem i, ← hmem2 i]
            constructor
            · rintro (⟨h1, h2⟩ | rfl)
              · exact ⟨fun h => h1 (.inl h), h2⟩
              · exact ⟨hk2, _, hLx, hdue⟩
            · rintro ⟨h1, h2⟩
              by_cases e : i = k
              · exact .inr e
              · exact .inl ⟨fun h => h.elim h1 e, h2⟩, (hu.trans' hu1 (fun x hx e => by omega)).alloc o⟩)
        have HV := Lib.hid (show ∀ o, Upd (fun k => w.heap.size + 1 ≤ k) W0 (w1.alloc o) from fun o => (hv.trans' hu1 (fun x _ e => by omega)).alloc o)
        have HME := Lib.hid (show ∀ o, Iter (Value.int .i64) (w1.alloc o) (w.heap.size + 1) ml (fun i => (L.l i).map heldV) t2 ∧ (w1.alloc o).rangeLeft ml (w.heap.size + 1) < wr.rangeLeft ml (w.heap.size + 1) from fun o => ⟨hit1.upd (upd_alloc (fun _ => False) w1 o) (fun x => x) (fun x => x), by rw [rangeLeft_upd hit1 (upd_alloc (fun _ => False) w1 o) (fun x => x) (fun x => x)]; exact hlt⟩)
        clear hit1 hown hown1 hmem hmem2 hnd hperm hnd1 hk2 hkx hlen hlen2 hge hu hu1 hlt hmeas hv hLx
        generalize L.now = now at *
        go_upto_region 7 with fail
        have hal := upd_alloc (fun _ => False) w1 (.cells #[.int .i64 tt, .int .i64 dd] 67)
        have cB := hal.cell hB1 (fun x => x)
        have cN := hal.cell c0 (fun x => x)
        have cD : (w1.alloc (.cells #[.int .i64 tt, .int .i64 dd] 67)).cell? ⟨w1.heap.size, 1, none⟩ = some (.int .i64 dd) := cell_of (heap_alloc w1 (.cells #[.int .i64 tt, .int .i64 dd] 67)).1 1
        have HR2 := Lib.hid (HREL.out (.cells #[.int .i64 tt, .int .i64 dd] 67))
        have HV2 := Lib.hid (HV.out (.cells #[.int .i64 tt, .int .i64 dd] 67))
        have HM2 := Lib.hid (HME.out (.cells #[.int .i64 tt, .int .i64 dd] 67))
        clear hal HREL HV HME
        generalize w1.alloc (.cells #[.int .i64 tt, .int .i64 dd] 67) = W2 at *
        generalize w1.heap.size = r2 at *
        go_region_held3 (fun w' => w'.cell? ⟨w.heap.size, 0, none⟩ = some (.pointer (some ⟨b, 0, none⟩)) ∧ w'.cell? ⟨b, 0, none⟩ = some (.int .i64 now) ∧ w'.cell? ⟨r2, 1, none⟩ = some (.int .i64 dd)) (exact ⟨cB, cN, cD⟩) (fail)
        have HR3 := Lib.hid (HR2.out.drew)
        have HV3 := Lib.hid HV2.out.drew
        have HM3 := Lib.hid (show Iter (Value.int .i64) W2.drew (w.heap.size + 1) ml (fun i => (L.l i).map heldV) t2 ∧ W2.drew.rangeLeft ml (w.heap.size + 1) < wr.rangeLeft ml (w.heap.size + 1) from ⟨HM2.out.1.upd ((Upd.refl (fun _ => False) _).drew) (fun x => x) (fun x => x), HM2.out.2⟩)
        clear cB cN cD HR2 HV2 HM2
        generalize W2.drew = W3 at *
        have h2 := HV3.out.size
        have hws := HWS.out
        obtain ⟨oa2, oc2, W4, hap, hrel4, hu4⟩ := HR3.out.app (by omega)
        clear hws h2
        have HR4 := Lib.hid hrel4
        have HU4 := Lib.hid hu4
        clear HR3 hrel4 hu4
        go_wp2_with (at_builtin; refine wpList_append hap rfl rfl rfl rfl ?_)
        go_roundw
        case rel => exact ⟨oa2, on + 1, oc2, rfl, HR4.out, HV3.out.trans' HU4.out (fun x _ e => by omega)⟩
        case measure => rw [rangeLeft_upd HM3.out.1 HU4.out (by omega) (by omega)]; exact HM3.out.2
      · have hd2 : L.now < dd := by omega
        have hnow : L.isDue k → False := fun ⟨x, h1, h2⟩ => by rw [hLx] at h1; cases h1; exact hdue h2
        have HREL := Lib.hid (show ∀ o, DueRel b ml (w.heap.size + 1) (w.heap.size + 2) L w (.slice oa on oc) (w1.alloc o) from fun o =>
          ⟨t2, xs, hit1.upd (upd_alloc (fun _ => False) w1 o) (fun x => x) (fun x => x), own_grow hown1 (upd_alloc _ w1 o), by omega, hnd, fun i => (hmem i).trans (by
            rw [← hmem2 i]
            exact ⟨fun ⟨h1, h2⟩ => ⟨fun h => h1 (.inl h), h2⟩, fun ⟨h1, h2⟩ => ⟨fun h => h.elim h1 (fun e => hnow (e ▸ h2)), h2⟩⟩), (hu.trans' hu1 (fun x hx e => by omega)).alloc o⟩)
        have HV := Lib.hid (show ∀ o, Upd (fun k => w.heap.size + 1 ≤ k) W0 (w1.alloc o) from fun o => (hv.trans' hu1 (fun x _ e => by omega)).alloc o)
        have HME := Lib.hid (show ∀ o, (w1.alloc o).rangeLeft ml (w.heap.size + 1) < wr.rangeLeft ml (w.heap.size + 1) from fun o => by rw [rangeLeft_upd hit1 (upd_alloc (fun _ => False) w1 o) (fun x => x) (fun x => x)]; exact hlt)
        clear hit1 hown hown1 hmem hmem2 hnd hperm hnd1 hk2 hkx hlen hlen2 hge hu hu1 hlt hmeas hv hdue hnow hLx
        generalize L.now = now at *
        go_upto_region 7 with fail
        have hal := upd_alloc (fun _ => False) w1 (.cells #[.int .i64 tt, .int .i64 dd] 67)
        have cB := hal.cell hB1 (fun x => x)
        have cN := hal.cell c0 (fun x => x)
        have cD : (w1.alloc (.cells #[.int .i64 tt, .int .i64 dd] 67)).cell? ⟨w1.heap.size, 1, none⟩ = some (.int .i64 dd) := cell_of (heap_alloc w1 (.cells #[.int .i64 tt, .int .i64 dd] 67)).1 1
        have HR2 := Lib.hid (HREL.out (.cells #[.int .i64 tt, .int .i64 dd] 67))
        have HV2 := Lib.hid (HV.out (.cells #[.int .i64 tt, .int .i64 dd] 67))
        have HM2 := Lib.hid (HME.out (.cells #[.int .i64 tt, .int .i64 dd] 67))
        clear hal HREL HV HME
        generalize w1.alloc (.cells #[.int .i64 tt, .int .i64 dd] 67) = W2 at *
        generalize w1.heap.size = r2 at *
        go_region_held3 (fun w' => w'.cell? ⟨w.heap.size, 0, none⟩ = some (.pointer (some ⟨b, 0, none⟩)) ∧ w'.cell? ⟨b, 0, none⟩ = some (.int .i64 now) ∧ w'.cell? ⟨r2, 1, none⟩ = some (.int .i64 dd)) (exact ⟨cB, cN, cD⟩) (fail)
        go_wp2
        go_roundw
        case rel => exact ⟨oa, on, oc, rfl, HR2.out.drew, HV2.out.drew⟩
        case measure => exact HM2.out

end Go.Proofs.YtcbngjlgcgcljaaGreat
