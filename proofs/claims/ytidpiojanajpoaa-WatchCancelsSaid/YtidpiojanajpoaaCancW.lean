/-
  WatchCancels: the walk where the arguments are in their bounds.
-/
import Derived.Deep.CutRange
import Derived.IntWalk
import Derived.Test.YtidpiojanajpoaaCancS
namespace Go.Proofs.Ytidpiojanajpoaa
open Go.RowKit Go.Tb Go.MapKept Go.ChangeMaps
set_option linter.unusedVariables false

theorem umod (x m : Int) (hm : 0 < m) (hm2 : m ≤ 1000) : ∃ n : Nat, (n : Int) < m ∧ wrap64 ((IntKind.u64.wrap x).tmod m) = (n : Int) := by
  have h0 : 0 ≤ IntKind.u64.wrap x := by rw [IntKind.wrap_u64]; omega
  rw [Int.tmod_eq_emod_of_nonneg h0]
  have h1 := Int.emod_nonneg (IntKind.u64.wrap x) (show m ≠ 0 by omega)
  have h2 := Int.emod_lt_of_pos (IntKind.u64.wrap x) hm
  exact ⟨(IntKind.u64.wrap x % m).toNat, by omega, by unfold wrap64; omega⟩

set_option maxRecDepth 100000 in
set_option maxHeartbeats 8000000 in
theorem cancels_good (start floor writes late : Int) (w : World) (s0 : 1 ≤ start) (s1 : start ≤ 1000) (f0 : 0 ≤ floor) (f1 : floor ≤ 1000) :
    Calls Try.prog 6 #[.int .i64 start, .int .i64 floor, .int .i64 writes, .int .i64 late] w fun e w' => e = .returned (.bool true) ∧ Upd (fun _ => False) w w' := by
  obtain ⟨nn, hn1, hn2⟩ := umod writes 20 (by decide) (by decide)
  obtain ⟨ll, hl1, hl2⟩ := umod late 300 (by decide) (by decide)
  have HN := Lib.hid hn2
  have HL := Lib.hid hl2
  clear hn2 hl2
  have b1 : ¬ start < 1 := by omega
  have b2 : ¬ 1000 < start := by omega
  have b3 : ¬ floor < 0 := by omega
  have b4 : ¬ 1000 < floor := by omega
  have hnew1 := fun W => new_ok 500 1 1 W (by decide) (by decide) (by decide) (by decide) (by decide) (by decide)
  have HNEW := Lib.hid hnew1
  clear hnew1
  go_enter Try.func6, Try.ntmps6
  go_upto_region 3 with (first | (go_at_call 7; (with_reducible refine (lives_calls w).mono ?_); rintro e w' ⟨rfl, hux⟩; have HUX := Lib.hid hux; have hnew := HNEW.out w'; clear hux))
  clear b1 b2 b3 b4
  generalize decide (start < 1) = d1 at *
  generalize decide (1000 < start) = d2 at *
  generalize decide (floor < 0) = d3 at *
  generalize decide (1000 < floor) = d4 at *
  go_upto_region 4 with (fail)
  rw [HN.out]
  go_upto_region 5 with (first
    | (go_at_call 8; (with_reducible refine hnew.mono ?_); rintro e w1 ⟨ba, ma, oa, rfl, hha, hga, hua⟩; have HHA := Lib.hid hha; have HGA := Lib.hid hga; have HUA := Lib.hid hua; clear hha hga hua hnew))
  have k1 := conv_at w1 w1.heap.size rfl 107
  have ha := (heap_alloc w1 (.cells #[.int .u8 107] 5 (1, 2))).1
  have hua := upd_alloc (fun _ => False) w1 (.cells #[.int .u8 107] 5 (1, 2))
  have hz := (heap_alloc (w1.alloc (.cells #[.int .u8 107] 5 (1, 2))) (.cells #[.int .i64 0, .slice none 0 0, .slice none 0 0, .int .i64 0, .int .i64 0, .int .i64 0, .int .i64 0, .bool false, .slice none 0 0, .slice none 0 0, .int .i64 0, .int .i64 0, .int .i64 0, .int .i64 0] 59)).1
  have huz := upd_alloc (fun _ => False) (w1.alloc (.cells #[.int .u8 107] 5 (1, 2))) (.cells #[.int .i64 0, .slice none 0 0, .slice none 0 0, .int .i64 0, .int .i64 0, .int .i64 0, .int .i64 0, .bool false, .slice none 0 0, .slice none 0 0, .int .i64 0, .int .i64 0, .int .i64 0, .int .i64 0] 59)
  have sz1 : (w1.alloc (.cells #[.int .u8 107] 5 (1, 2))).heap.size = w1.heap.size + 1 := by simp
  rw [sz1] at hz
  go_upto_region 6 with (first
    | ((with_reducible refine wpl_store (ty := 59) (cs := evx (eP w1.heap.size)) hz ?_ ?_ ?_ ?_ ?_ ?_); rfl; rfl; rfl; kernel_rfl; rfl; intro w4 hq5 hu5 hs5 hd5))
  have hu14 : Upd (fun _ => False) w1 w4 := (hua.trans huz).trans' hu5 (fun x hx e => by omega)
  have hg4 : w4.heap[w1.heap.size]? = some (.cells #[.int .u8 107] 5 (1, 2)) := hu5.heap (huz.heap ha (fun x => x)) (by omega)
  have k2 := conv_at w4 w4.heap.size rfl 107
  have ha2 := (heap_alloc w4 (.cells #[.int .u8 107] 5 (1, 2))).1
  have hua2 := upd_alloc (fun _ => False) w4 (.cells #[.int .u8 107] 5 (1, 2))
  have hno : ∀ q, w1.heap.size ≤ q → oa q = .no := fun q hq => by
    cases e : oa q with
    | no => rfl
    | _ => exact absurd (HHA.out.lt q (by rw [e]; simp)) (by omega)
  have hcr := cs_create (w := w) (eb := w1.heap.size + 1) (g := w1.heap.size) (o := oa) ((HHA.out.grow hu14).grow hua2) (fun q hq => by have h1 := HGA.out q hq; have h2 := HUX.out.size; omega) (hno _ (by omega)) (hno _ (Nat.le_refl _)) (hua2.heap hq5 (fun x => x)) (hua2.heap hg4 (fun x => x)) (((HUX.out.trans HUA.out).trans hu14).trans hua2) (.slice (some ⟨w4.heap.size, 0, none⟩) 1 1) (.inl (.inr ⟨w4.heap.size, 0, 1, rfl, Nat.le_refl _, lt_of_heap ha2, fun i hi => by
    obtain rfl : i = 0 := by simp at hi; omega
    rw [cell_of ha2]; rfl⟩)) start floor s0 s1 f0 f1
  simp only [wcells, kW] at hcr
  clear hu14 hg4 ha2 hua2 hno ha hua hz huz hu5 hs5 hd5 hq5 sz1 k1 HHA HGA HUA HUX HNEW
  go_upto_region 9 with (go_at_call 9; (with_reducible refine hcr.mono ?_); rintro e w6 ⟨rfl, y, hC, hI⟩; have HC := Lib.hid hC; have HI := Lib.hid hI; clear hC hI)
  clear k2 hcr
  generalize w1.heap.size + 1 = eb at *
  generalize w1.heap.size = g at *
  have HCI := Lib.hid (show ∃ y, CS w w6 ba ma eb g 500 (some y) ∧ CI start floor 0 y from ⟨y, HC.out, HI.out⟩)
  clear HC HI
  go_wp2
  go_loopw [68] (fun i wr => ∃ k : Nat, i = .int .i64 k ∧ k ≤ nn ∧ ∃ y, CS w wr ba ma eb g (500 + (k : Int)) (some y) ∧ CI start floor k y) (fun i _ => nn - (intOf i).toNat)
  case atStart => exact ⟨0, rfl, Nat.zero_le _, HCI.out⟩
  case round =>
    clear HCI
    obtain ⟨k, rfl, hk, y, hC, hI⟩ := hrel
    have HC := Lib.hid hC
    have HI := Lib.hid hI
    by_cases hlt : k < nn
    · have heb := hC.ebox
      have hwr := cs_write hC (501 + (k : Int)) (by omega) (by omega) (by omega) hI.len
      obtain ⟨p, hp⟩ : ∃ p, p = eP g := ⟨_, rfl⟩
      rw [← hp] at heb hwr
      have x1 : (k : Int) < (nn : Int) := by omega
      have HP := Lib.hid hp
      have HLT := Lib.hid hlt
      clear hp hC hI hk hlt
      go_wp2_with (first
        | ((with_reducible refine wpl_load (ty := 59) heb Try.underlying59 ?_ ?_ ?_ ?_); rfl; rfl; kernel_rfl)
        | (go_at_call 12; (with_reducible refine hwr.mono ?_); rintro e w7 ⟨a5, c5, rfl, hnt⟩)
        | (go_at_call 11; (with_reducible refine hnt.mono ?_); rintro e w8 ⟨rfl, hC8⟩; have HC8 := Lib.hid hC8; clear hC8))
      have he : (500 + ((k + 1 : Nat) : Int)) = 501 + (k : Int) := by omega
      have HE := Lib.hid he
      clear he
      go_roundw
      case rel => exact ⟨k + 1, by go_num, by have := HLT.out; omega, _, by rw [HE.out]; exact HC8.out, HI.out.step⟩
      case measure => have := HLT.out; simp [intOf]; omega
    · obtain rfl : k = nn := by omega
      have hcp := cs_compact hC (floor + (ll : Int)) (by omega) (by omega)
      obtain ⟨x, hx⟩ : ∃ x, x = compR (500 + (k : Int)) (floor + (ll : Int)) y := ⟨_, rfl⟩
      obtain ⟨hb1, hsc⟩ := hI.scene (floor + (ll : Int)) (by omega) x hx
      rw [Option.map_some, ← hx] at hcp
      have HSC := Lib.hid hsc
      clear hx hC hI HC HI hsc hlt hk
      go_upto_region 17 with (fail)
      rw [HL.out, show wrap64 (floor + (ll : Int)) = floor + (ll : Int) from by unfold wrap64; omega]
      go_upto_region 18 with (go_at_call 23; (with_reducible refine hcp.mono ?_); rintro e w7 ⟨rfl, hC7⟩; have hsy := cs_synced hC7; have HC7 := Lib.hid hC7; clear hC7)
      have HC7' := HC7
      go_upto_region 19 with (first
        | (go_at_call 15; (with_reducible refine hsy.mono ?_); rintro e w8 ⟨rfl, hC8⟩; have hpe := cs_pending hC8; have HC8 := Lib.hid hC8; clear hC8)
        | (go_at_call 16; (with_reducible refine hpe.mono ?_); rintro e w9 ⟨rfl, rfl⟩))
      clear HC7 HC7' hcp hsy hpe
      obtain ⟨pd, hpd⟩ : ∃ pd, pd = x.buf.length := ⟨_, rfl⟩
      obtain ⟨sy, hsy⟩ : ∃ sy, sy = decide (500 + (k : Int) < x.next) := ⟨_, rfl⟩
      rw [← hpd, ← hsy] at HSC ⊢
      rw [← hpd] at hb1
      have HPD := Lib.hid hpd
      clear hpd hsy
      go_upto_region 20 with (fail)
      generalize hca : decide (start ≤ floor) = ca at *
      have HCA := Lib.hid hca
      clear hca
      have HLP := Lib.hid (show ∃ x', CS w w8 ba ma eb g (500 + (k : Int)) (some x') ∧ x'.buf.length = pd ∧ x'.ended = x.ended ∧ x'.floor = x.floor from ⟨x, HC8.out, HPD.out.symm, rfl, rfl⟩)
      clear HC8 HPD
      go_wp2
      go_loopw [103] (fun i wr => ∃ j : Nat, i = .int .i64 j ∧ j ≤ pd ∧ ∃ x', CS w wr ba ma eb g (500 + (k : Int)) (some x') ∧ x'.buf.length = pd - j ∧ x'.ended = x.ended ∧ x'.floor = x.floor) (fun i _ => pd - (intOf i).toNat)
      case atStart => exact ⟨0, rfl, Nat.zero_le _, HLP.out⟩
      case round =>
        clear HLP
        obtain ⟨j, rfl, hj, x', hC, hq1, hq2, hq3⟩ := hrel
        by_cases hlt : j < pd
        · obtain rfl : j = 0 := by omega
          have hdr := cs_drain hC (by omega)
          have x1 : ((0 : Nat) : Int) < (pd : Int) := by omega
          have HQ := Lib.hid (And.intro hq2 hq3)
          have HP1 := Lib.hid (show pd = 1 from by omega)
          clear hC hq1 hq2 hq3 hj hlt
          go_wp2_with (first
            | (go_at_call 13; (with_reducible refine hdr.mono ?_); rintro e w9 ⟨a9, c9, rfl, hC9⟩; have HC9 := Lib.hid hC9; clear hC9; have hz := (heap_alloc w9 (.cells zbatch 40)).1; have huz := upd_alloc (fun _ => False) w9 (.cells zbatch 40))
            | ((with_reducible refine wpl_store (ty := 40) (cs := #[.int .i64 1, .slice a9 1 c9, .bool false, .int .i64 0, .bool false, .int .i64 0]) hz ?_ ?_ ?_ ?_ ?_ ?_); rfl; rfl; rfl; kernel_rfl; rfl; intro w10 hq5 hu5 hs5 hd5; have e1 := cell_of hq5 1; have e2 := cell_of hq5 2))
          have HU10 := Lib.hid (huz.trans' hu5 (fun x hx e => by omega))
          go_roundw
          case rel => exact ⟨1, rfl, by have := HP1.out; omega, _, HC9.out.grow HU10.out, by have := HP1.out; simp; omega, HQ.out.1, HQ.out.2⟩
          case measure => have := HP1.out; simp [intOf]; omega
        · obtain rfl : j = pd := by omega
          have hbe : x'.buf = [] := List.eq_nil_of_length_eq_zero (by omega)
          clear hlt hj hq1
          rcases HSC.out with ⟨h1, hen, hfl⟩ | ⟨h1, h2, hen⟩ | ⟨h1, h2, hen, hfl, h5, h6, h7⟩ | ⟨h1, h2, hen, hfl, h5, h6, h7⟩ | ⟨h1, h2, hen, h5, h6⟩ | ⟨h1, h2, hen, h5, h6⟩
          · obtain rfl : ca = true := by rw [← HCA.out]; exact decide_eq_true (by omega)
            obtain ⟨fl, hfl2⟩ : ∃ fl, fl = floor + 1 := ⟨_, rfl⟩
            rw [← hfl2] at hfl
            have k5 : (fl == floor + 1) = true := by rw [hfl2]; simp
            clear h1 hfl2
            have hde := cs_end hC hbe (hq2.trans hen)
            rw [hq3, hfl] at hde
            have HDN := Lib.hid (fun (W : World) (h : CS w W ba ma eb g (500 + (k : Int)) none) => cs_none h nofun)
            have HWT := Lib.hid (fun (W : World) (h : CS w W ba ma eb g (500 + (k : Int)) none) => cs_watch0 h)
            clear hC hbe hq2 hq3 hen hfl HSC
            go_wp2_with (first
              | (go_at_call 13; (with_reducible refine hde.mono ?_); rintro e w9 ⟨rfl, hC9⟩; have HC9 := Lib.hid hC9; clear hC9; have hz := (heap_alloc w9 (.cells zbatch 40)).1; have huz := upd_alloc (fun _ => False) w9 (.cells zbatch 40))
              | ((with_reducible refine wpl_store (ty := 40) (cs := #[.int .i64 1, .slice none 0 0, .bool true, .int .i64 fl, .bool false, .int .i64 0]) hz ?_ ?_ ?_ ?_ ?_ ?_); rfl; rfl; rfl; kernel_rfl; rfl; intro w10 hq5 hu5 hs5 hd5; have hu10 : Upd (fun _ => False) w9 w10 := huz.trans' hu5 (fun x hx e => by omega); have HC10 := Lib.hid (HC9.out.grow hu10); have hdn := HDN.out w10 HC10.out; have HQ5 := Lib.hid hq5; clear hu10 hu5 hs5 hd5 hz huz hde)
              | (go_at_call 13; (with_reducible refine hdn.mono ?_); rintro e w11 ⟨rfl, hC11, hu11⟩; have HC11 := Lib.hid hC11; have HU11 := Lib.hid hu11; clear hC11 hu11; have hz2 := (heap_alloc w11 (.cells zbatch 40)).1; have huz2 := upd_alloc (fun _ => False) w11 (.cells zbatch 40))
              | ((with_reducible refine wpl_store (ty := 40) (cs := zbatch) hz2 ?_ ?_ ?_ ?_ ?_ ?_); rfl; rfl; rfl; kernel_rfl; rfl; intro w12 hq6 hu6 hs6 hd6; have hu12 : Upd (fun _ => False) w11 w12 := huz2.trans' hu6 (fun x hx e => by omega); have hq7 := hu12.heap (HU11.out.heap HQ5.out (fun x => x)) (fun x => x); have e2 := cell_of hq7 2; have e3 := cell_of hq7 3; have hwt := HWT.out w12 (HC11.out.grow hu12); clear hq6 hu6 hs6 hd6)
              | (go_at_call 24; (with_reducible refine hwt.mono ?_); rintro e w13 ⟨a13, c13, rfl, hu13⟩))
            go_ret
            exact ⟨rfl, hu13⟩
          · obtain rfl : ca = false := by rw [← HCA.out]; exact decide_eq_false (by omega)
            subst h2
            clear h1
            have hde := cs_none hC (fun z hz => by cases hz; exact ⟨hbe, hq2.trans hen⟩)
            have HDN := Lib.hid (fun (W : World) (h : CS w W ba ma eb g (500 + (k : Int)) (some x')) => cs_none h (fun z hz => by cases hz; exact ⟨hbe, hq2.trans hen⟩))
            have HWT := Lib.hid (fun (W : World) (h : CS w W ba ma eb g (500 + (k : Int)) (some x')) => cs_watch1 h)
            clear hC HSC
            clear hbe hq2 hq3 hen
            go_wp2_with (first
              | (go_at_call 13; (with_reducible refine hde.mono ?_); rintro e w9 ⟨rfl, hC9, -⟩; have HC9 := Lib.hid hC9; clear hC9; have hz := (heap_alloc w9 (.cells zbatch 40)).1; have huz := upd_alloc (fun _ => False) w9 (.cells zbatch 40))
              | ((with_reducible refine wpl_store (ty := 40) (cs := zbatch) hz ?_ ?_ ?_ ?_ ?_ ?_); rfl; rfl; rfl; kernel_rfl; rfl; intro w10 hq5 hu5 hs5 hd5; have hu10 : Upd (fun _ => False) w9 w10 := huz.trans' hu5 (fun x hx e => by omega); have HC10 := Lib.hid (HC9.out.grow hu10); have hdn := HDN.out w10 HC10.out; clear hu10 hu5 hs5 hd5 hz huz hde hq5)
              | (go_at_call 13; (with_reducible refine hdn.mono ?_); rintro e w11 ⟨rfl, hC11, -⟩; have HC11 := Lib.hid hC11; clear hC11; have hz2 := (heap_alloc w11 (.cells zbatch 40)).1; have huz2 := upd_alloc (fun _ => False) w11 (.cells zbatch 40))
              | ((with_reducible refine wpl_store (ty := 40) (cs := zbatch) hz2 ?_ ?_ ?_ ?_ ?_ ?_); rfl; rfl; rfl; kernel_rfl; rfl; intro w12 hq6 hu6 hs6 hd6; have hu12 : Upd (fun _ => False) w11 w12 := huz2.trans' hu6 (fun x hx e => by omega); have hwt := HWT.out w12 (HC11.out.grow hu12); clear hq6 hu6 hs6 hd6)
              | (go_at_call 24; (with_reducible refine hwt.mono ?_); rintro e w13 ⟨a13, c13, rfl, hu13⟩))
            go_ret
            exact ⟨rfl, hu13⟩
          · obtain rfl : ca = false := by rw [← HCA.out]; exact decide_eq_false (by omega)
            subst h2
            obtain ⟨fl, hfl2⟩ : ∃ fl, fl = floor + (ll : Int) + 1 := ⟨_, rfl⟩
            rw [← hfl2] at hfl
            have k5 : (fl == floor + (ll : Int) + 1) = true := by rw [hfl2]; simp
            clear h1 hfl2
            have hde := cs_end hC hbe (hq2.trans hen)
            rw [hq3, hfl] at hde
            have HDN := Lib.hid (fun (W : World) (h : CS w W ba ma eb g (500 + (k : Int)) none) => cs_none h nofun)
            have HWT := Lib.hid (fun (W : World) (h : CS w W ba ma eb g (500 + (k : Int)) none) => cs_watch0 h)
            clear hC hbe hq2 hq3 hen hfl HSC
            go_wp2_with (first
              | (go_at_call 13; (with_reducible refine hde.mono ?_); rintro e w9 ⟨rfl, hC9⟩; have HC9 := Lib.hid hC9; clear hC9; have hz := (heap_alloc w9 (.cells zbatch 40)).1; have huz := upd_alloc (fun _ => False) w9 (.cells zbatch 40))
              | ((with_reducible refine wpl_store (ty := 40) (cs := #[.int .i64 1, .slice none 0 0, .bool true, .int .i64 fl, .bool false, .int .i64 0]) hz ?_ ?_ ?_ ?_ ?_ ?_); rfl; rfl; rfl; kernel_rfl; rfl; intro w10 hq5 hu5 hs5 hd5; have hu10 : Upd (fun _ => False) w9 w10 := huz.trans' hu5 (fun x hx e => by omega); have HC10 := Lib.hid (HC9.out.grow hu10); have hdn := HDN.out w10 HC10.out; have HQ5 := Lib.hid hq5; clear hu10 hu5 hs5 hd5 hz huz hde)
              | (go_at_call 13; (with_reducible refine hdn.mono ?_); rintro e w11 ⟨rfl, hC11, hu11⟩; have HC11 := Lib.hid hC11; have HU11 := Lib.hid hu11; clear hC11 hu11; have hz2 := (heap_alloc w11 (.cells zbatch 40)).1; have huz2 := upd_alloc (fun _ => False) w11 (.cells zbatch 40))
              | ((with_reducible refine wpl_store (ty := 40) (cs := zbatch) hz2 ?_ ?_ ?_ ?_ ?_ ?_); rfl; rfl; rfl; kernel_rfl; rfl; intro w12 hq6 hu6 hs6 hd6; have hu12 : Upd (fun _ => False) w11 w12 := huz2.trans' hu6 (fun x hx e => by omega); have hq7 := hu12.heap (HU11.out.heap HQ5.out (fun x => x)) (fun x => x); have e2 := cell_of hq7 2; have e3 := cell_of hq7 3; have hwt := HWT.out w12 (HC11.out.grow hu12); clear hq6 hu6 hs6 hd6)
              | (go_at_call 24; (with_reducible refine hwt.mono ?_); rintro e w13 ⟨a13, c13, rfl, hu13⟩))
            go_ret
            exact ⟨rfl, hu13⟩
          · obtain rfl : ca = false := by rw [← HCA.out]; exact decide_eq_false (by omega)
            subst h2
            obtain ⟨fl, hfl2⟩ : ∃ fl, fl = floor + (ll : Int) + 1 := ⟨_, rfl⟩
            rw [← hfl2] at hfl
            have k5 : (fl == floor + (ll : Int) + 1) = true := by rw [hfl2]; simp
            clear h1 hfl2
            have hde := cs_end hC hbe (hq2.trans hen)
            rw [hq3, hfl] at hde
            have HDN := Lib.hid (fun (W : World) (h : CS w W ba ma eb g (500 + (k : Int)) none) => cs_none h nofun)
            have HWT := Lib.hid (fun (W : World) (h : CS w W ba ma eb g (500 + (k : Int)) none) => cs_watch0 h)
            clear hC hbe hq2 hq3 hen hfl HSC
            go_wp2_with (first
              | (go_at_call 13; (with_reducible refine hde.mono ?_); rintro e w9 ⟨rfl, hC9⟩; have HC9 := Lib.hid hC9; clear hC9; have hz := (heap_alloc w9 (.cells zbatch 40)).1; have huz := upd_alloc (fun _ => False) w9 (.cells zbatch 40))
              | ((with_reducible refine wpl_store (ty := 40) (cs := #[.int .i64 1, .slice none 0 0, .bool true, .int .i64 fl, .bool false, .int .i64 0]) hz ?_ ?_ ?_ ?_ ?_ ?_); rfl; rfl; rfl; kernel_rfl; rfl; intro w10 hq5 hu5 hs5 hd5; have hu10 : Upd (fun _ => False) w9 w10 := huz.trans' hu5 (fun x hx e => by omega); have HC10 := Lib.hid (HC9.out.grow hu10); have hdn := HDN.out w10 HC10.out; have HQ5 := Lib.hid hq5; clear hu10 hu5 hs5 hd5 hz huz hde)
              | (go_at_call 13; (with_reducible refine hdn.mono ?_); rintro e w11 ⟨rfl, hC11, hu11⟩; have HC11 := Lib.hid hC11; have HU11 := Lib.hid hu11; clear hC11 hu11; have hz2 := (heap_alloc w11 (.cells zbatch 40)).1; have huz2 := upd_alloc (fun _ => False) w11 (.cells zbatch 40))
              | ((with_reducible refine wpl_store (ty := 40) (cs := zbatch) hz2 ?_ ?_ ?_ ?_ ?_ ?_); rfl; rfl; rfl; kernel_rfl; rfl; intro w12 hq6 hu6 hs6 hd6; have hu12 : Upd (fun _ => False) w11 w12 := huz2.trans' hu6 (fun x hx e => by omega); have hq7 := hu12.heap (HU11.out.heap HQ5.out (fun x => x)) (fun x => x); have e2 := cell_of hq7 2; have e3 := cell_of hq7 3; have hwt := HWT.out w12 (HC11.out.grow hu12); clear hq6 hu6 hs6 hd6)
              | (go_at_call 24; (with_reducible refine hwt.mono ?_); rintro e w13 ⟨a13, c13, rfl, hu13⟩))
            go_ret
            exact ⟨rfl, hu13⟩
          · obtain rfl : ca = false := by rw [← HCA.out]; exact decide_eq_false (by omega)
            subst h2
            clear h1
            have hde := cs_none hC (fun z hz => by cases hz; exact ⟨hbe, hq2.trans hen⟩)
            have HDN := Lib.hid (fun (W : World) (h : CS w W ba ma eb g (500 + (k : Int)) (some x')) => cs_none h (fun z hz => by cases hz; exact ⟨hbe, hq2.trans hen⟩))
            have HWT := Lib.hid (fun (W : World) (h : CS w W ba ma eb g (500 + (k : Int)) (some x')) => cs_watch1 h)
            clear hC HSC
            clear hbe hq2 hq3 hen
            go_wp2_with (first
              | (go_at_call 13; (with_reducible refine hde.mono ?_); rintro e w9 ⟨rfl, hC9, -⟩; have HC9 := Lib.hid hC9; clear hC9; have hz := (heap_alloc w9 (.cells zbatch 40)).1; have huz := upd_alloc (fun _ => False) w9 (.cells zbatch 40))
              | ((with_reducible refine wpl_store (ty := 40) (cs := zbatch) hz ?_ ?_ ?_ ?_ ?_ ?_); rfl; rfl; rfl; kernel_rfl; rfl; intro w10 hq5 hu5 hs5 hd5; have hu10 : Upd (fun _ => False) w9 w10 := huz.trans' hu5 (fun x hx e => by omega); have HC10 := Lib.hid (HC9.out.grow hu10); have hdn := HDN.out w10 HC10.out; clear hu10 hu5 hs5 hd5 hz huz hde hq5)
              | (go_at_call 13; (with_reducible refine hdn.mono ?_); rintro e w11 ⟨rfl, hC11, -⟩; have HC11 := Lib.hid hC11; clear hC11; have hz2 := (heap_alloc w11 (.cells zbatch 40)).1; have huz2 := upd_alloc (fun _ => False) w11 (.cells zbatch 40))
              | ((with_reducible refine wpl_store (ty := 40) (cs := zbatch) hz2 ?_ ?_ ?_ ?_ ?_ ?_); rfl; rfl; rfl; kernel_rfl; rfl; intro w12 hq6 hu6 hs6 hd6; have hu12 : Upd (fun _ => False) w11 w12 := huz2.trans' hu6 (fun x hx e => by omega); have hwt := HWT.out w12 (HC11.out.grow hu12); clear hq6 hu6 hs6 hd6)
              | (go_at_call 24; (with_reducible refine hwt.mono ?_); rintro e w13 ⟨a13, c13, rfl, hu13⟩))
            go_ret
            exact ⟨rfl, hu13⟩
          · obtain rfl : ca = false := by rw [← HCA.out]; exact decide_eq_false (by omega)
            subst h2
            clear h1
            have hde := cs_none hC (fun z hz => by cases hz; exact ⟨hbe, hq2.trans hen⟩)
            have HDN := Lib.hid (fun (W : World) (h : CS w W ba ma eb g (500 + (k : Int)) (some x')) => cs_none h (fun z hz => by cases hz; exact ⟨hbe, hq2.trans hen⟩))
            have HWT := Lib.hid (fun (W : World) (h : CS w W ba ma eb g (500 + (k : Int)) (some x')) => cs_watch1 h)
            clear hC HSC
            clear hbe hq2 hq3 hen
            go_wp2_with (first
              | (go_at_call 13; (with_reducible refine hde.mono ?_); rintro e w9 ⟨rfl, hC9, -⟩; have HC9 := Lib.hid hC9; clear hC9; have hz := (heap_alloc w9 (.cells zbatch 40)).1; have huz := upd_alloc (fun _ => False) w9 (.cells zbatch 40))
              | ((with_reducible refine wpl_store (ty := 40) (cs := zbatch) hz ?_ ?_ ?_ ?_ ?_ ?_); rfl; rfl; rfl; kernel_rfl; rfl; intro w10 hq5 hu5 hs5 hd5; have hu10 : Upd (fun _ => False) w9 w10 := huz.trans' hu5 (fun x hx e => by omega); have HC10 := Lib.hid (HC9.out.grow hu10); have hdn := HDN.out w10 HC10.out; clear hu10 hu5 hs5 hd5 hz huz hde hq5)
              | (go_at_call 13; (with_reducible refine hdn.mono ?_); rintro e w11 ⟨rfl, hC11, -⟩; have HC11 := Lib.hid hC11; clear hC11; have hz2 := (heap_alloc w11 (.cells zbatch 40)).1; have huz2 := upd_alloc (fun _ => False) w11 (.cells zbatch 40))
              | ((with_reducible refine wpl_store (ty := 40) (cs := zbatch) hz2 ?_ ?_ ?_ ?_ ?_ ?_); rfl; rfl; rfl; kernel_rfl; rfl; intro w12 hq6 hu6 hs6 hd6; have hu12 : Upd (fun _ => False) w11 w12 := huz2.trans' hu6 (fun x hx e => by omega); have hwt := HWT.out w12 (HC11.out.grow hu12); clear hq6 hu6 hs6 hd6)
              | (go_at_call 24; (with_reducible refine hwt.mono ?_); rintro e w13 ⟨a13, c13, rfl, hu13⟩))
            go_ret
            exact ⟨rfl, hu13⟩

end Go.Proofs.Ytidpiojanajpoaa
