/-
  LeaseDue: the walk.
-/
import Derived.Test.YtcbngjlgcgcljaaDueP
import Derived.Deep.CutRange
namespace Go.Proofs.Ytcbngjlgcgcljaa
open Go.RowKit Go.Tb Go.MapKept Go.ChangeMaps Go.Lib
set_option linter.unusedVariables false

theorem nodup_le : ∀ (l m : List Int), l.Nodup → (∀ x ∈ l, x ∈ m) → l.length ≤ m.length
  | [], _, _, _ => Nat.zero_le _
  | a :: r, m, hn, hs => by
    obtain ⟨h1, h2⟩ := List.nodup_cons.1 hn
    have ha := hs a (.head _)
    have := nodup_le r (m.erase a) h2 (fun x hx => (List.mem_erase_of_ne (fun e => by subst e; exact h1 hx)).2 (hs x (.tail _ hx)))
    rw [List.length_erase_of_mem ha] at this
    have := List.length_pos_of_mem ha
    rw [List.length_cons]; omega

/-- What stands while due leases are taken away. -/
def DueAt (b ml mk : Nat) (L : LS) (ds : List Int) (W : World) (j : Nat) (lv : Int) (wr : World) : Prop :=
  (∀ jj (h : jj < ds.length), j ≤ jj → lv ≤ L.due ds[jj]) ∧ IsLs wr b ml mk (L.without (ds.take j)) ∧ Upd (fun k => k = ml) W wr

set_option maxRecDepth 100000 in
set_option maxHeartbeats 4000000 in
theorem due_ok (a : Option Addr) (c : Nat) (ls : List (Int × Int)) (ticks : Int) (w : World) (hs : Sl lenc w (.slice a ls.length c) ls) (h0 : newOk 0 ls) (hg : (grants (LS.start 0) ls).2 = 0) (h1 : ls.length ≤ 64) (h2 : 0 ≤ ticks) :
    Calls Try.prog 5 #[.slice a ls.length c, .int .i64 ticks] w fun e w' => e = .returned (.bool true) ∧ Upd (fun _ => False) w w' := by
  have hnew := fun W (hu : Upd (fun _ => False) w W) => new_calls 0 a c ls W (hs.grow hu)
  obtain ⟨hz, hk, hn0⟩ := grants_keep ls (LS.start 0) rfl (fun i x hx => by cases hx) ⟨rfl, fun _ => rfl⟩ h0.2.2.2
  have HN := Lib.hid hnew
  have H0 := Lib.hid h0
  have HG := Lib.hid hg
  have h64 : ¬ ((64 : Int) < (ls.length : Int)) := by omega
  generalize hL0 : (grants (LS.start 0) ls).1 = L0 at *
  have HL0 := Lib.hid hL0
  have HZ := Lib.hid hz
  have HK := Lib.hid hk
  have HN0 := Lib.hid hn0
  clear hs hnew h0 hg hL0 hz hk hn0
  generalize ls.length = n0 at *
  go_enter Try.func5, Try.ntmps5
  go_upto_region 7 with (first
    | (go_at_call 8; (with_reducible refine (lives_calls w).mono ?_); rintro e0 w0 ⟨rfl, hu0⟩; have hn := HN.out w0 hu0; have HU0 := Lib.hid hu0; clear hu0)
    | (go_at_call 9; (with_reducible refine hn.mono ?_); intro e1 w1 hsay; obtain ⟨hu1, hsay⟩ := hsay; rw [if_pos H0.out, if_pos HG.out, HL0.out] at hsay; obtain ⟨b, ml, mk, rfl, hL1, hO1, hb, hml, hmk⟩ := hsay; have HU1 := Lib.hid (HU0.out.trans hu1); have ht := tick_calls b ml mk L0 ticks w1 hL1 hO1 h2; have HO1 := Lib.hid (hO1.ticked h2); have HLT := Lib.hid (show w.heap.size ≤ b ∧ w.heap.size ≤ ml ∧ w.heap.size ≤ mk from ⟨Nat.le_trans HU0.out.size hb, Nat.le_trans HU0.out.size hml, Nat.le_trans HU0.out.size hmk⟩); clear hL1 hO1 hu1 hn hb hml hmk)
    | (go_at_call 11; (with_reducible refine ht.mono ?_); rintro e2 w2 ⟨rfl, hL2, hu2⟩; have HL2 := Lib.hid hL2; have HU2 := Lib.hid (HU1.out.trans' hu2 (fun x hx e => by have := HLT.out.1; omega)); clear hL2 hu2 ht))
  have HZ1 := Lib.hid (show AtZero (L0.ticked ticks) from HZ.out)
  have HK1 := Lib.hid (show NoKeys (L0.ticked ticks) from HK.out)
  clear HZ HK HN0 HL0 HG H0 HN
  generalize L0.ticked ticks = L1 at *
  have hdue := due_calls b ml mk L1 w2 HL2.out HO1.out
  go_upto_region 9 with (first
    | (go_at_call 12; (with_reducible refine hdue.mono ?_); intro e3 w3 hd3; obtain ⟨da, dc, ds, rfl, hm3, hnd3, hpw3, hsl3, hu3, hge3⟩ := hd3; have HGE := Lib.hid (show ∀ g, sliceBlock (.slice da (List.length ds) dc) = some g → ¬ g = ml from fun g hg e => by have := hge3 g hg; have := HL2.out.lm.lt; omega); have HM := Lib.hid hm3; have HND := Lib.hid hnd3; have HPW := Lib.hid hpw3; have HSL := Lib.hid hsl3; have HU3 := Lib.hid hu3; have hlv := leases_calls b ml mk L1 w3 (HL2.out.grow hu3) HO1.out; clear hm3 hnd3 hpw3 hsl3 hu3 hge3)
    | (go_at_call 16; (with_reducible refine hlv.mono ?_); intro e4 w4 hd4; obtain ⟨la, lc, ids, rfl, hl4, -, hm4, -, hu4⟩ := hd4; have HCNT := Lib.hid (show List.length ds ≤ L1.n by rw [← hl4]; exact nodup_le ds ids HND.out (fun x hx => by obtain ⟨y, hy, _⟩ := (HM.out x).1 hx; rw [hm4 x, hy]; rfl)); have HU4 := Lib.hid (HU3.out.trans hu4); have HU4W := Lib.hid (HU2.out.trans (HU3.out.trans hu4)); have HL4 := Lib.hid ((HL2.out.grow HU3.out).grow hu4); have HSL4 := Lib.hid (HSL.out.grow hu4); clear hl4 hm4 hu4 hlv))
  clear hdue
  go_wp2
  generalize hdl : ds.length = dn at *
  have HDL := Lib.hid hdl
  generalize hn1 : L1.n = n1 at *
  have HN1 := Lib.hid hn1
  clear hdl hn1
  have hdn64 : dn ≤ 64 := by have h1 := HCNT.out; have h2 := HO1.out.few; rw [HN1.out] at h2; omega
  have hst : DueAt b ml mk L1 ds w4 0 0 w4 := ⟨fun jj h _ => by
    obtain ⟨x, hx, _⟩ := (HM.out _).1 (List.getElem_mem h)
    have := (HO1.out.ids _ x hx).2.2.2.2.1
    show 0 ≤ ((L1.l ds[jj]).map (·.2)).getD 0
    rw [hx]; exact this, by rw [List.take_zero, without_nil]; exact HL4.out, Upd.refl _ _⟩
  have HST := Lib.hid hst
  clear hst
  go_loopw [8, 55] (fun la i wr => ∃ j : Nat, j ≤ dn ∧ i = .int .i64 j ∧ ∃ lv : Int, la = .int .i64 lv ∧ DueAt b ml mk L1 ds w4 j lv wr) (fun _ i _ => dn - (intOf i).toNat)
  case atStart => exact ⟨0, Nat.zero_le _, rfl, 0, rfl, HST.out⟩
  case round =>
    clear HST
    obtain ⟨j, hj, rfl, lv, rfl, hlv, hL, hu⟩ := hrel
    have HLV := Lib.hid hlv
    have HL := Lib.hid hL
    have HU := Lib.hid hu
    clear hlv hL hu
    by_cases hlt : j < dn
    · have hlt' : j < ds.length := by rw [HDL.out]; exact hlt
      obtain ⟨bk, off, cap, hee, hcap, hbk, -⟩ := (show Sl nenc wr (.slice da ds.length dc) ds by rw [HDL.out]; exact HSL4.out.upd HU.out HGE.out).block (by omega)
      cases hee
      have q0 := (show Sl nenc wr (.slice (some ⟨bk, off, none⟩) dn dc) ds from HSL4.out.upd HU.out HGE.out).at nenc_length j hlt' 0 (by decide) _ rfl
      rw [Nat.mul_one, Nat.add_zero] at q0
      obtain ⟨x, hx, hle⟩ := (HM.out _).1 (List.getElem_mem hlt')
      have hxz := HZ1.out _ x hx
      obtain ⟨t, d⟩ := x
      simp only at hxz hle
      subst hxz
      have hni : ds[j] ∉ ds.take j := fun hm => by
        obtain ⟨i, hi, he⟩ := List.getElem_of_mem hm
        rw [List.getElem_take] at he
        simp at hi
        exact absurd ((List.getElem_inj HND.out).1 he) (by omega)
      have hgt : (L1.without (ds.take j)).l ds[j] = some (d, d) := by rw [without_get hni]; exact hx
      have hdd : L1.due ds[j] = d := by unfold LS.due; rw [hx]; rfl
      have hlvd : lv ≤ d := by rw [← hdd]; exact HLV.out j hlt' (Nat.le_refl _)
      have hids := HO1.out.ids _ _ hx
      have hleft := left_yes b ml mk (L1.without (ds.take j)) ds[j] (d, d) wr HL.out (HO1.out.without _) (show NoKeys (L1.without _) from HK1.out) hgt
      rw [show max (0 : Int) ((d, d).2 - (L1.without (ds.take j)).now) = 0 by show max (0 : Int) (d - L1.now) = 0; omega] at hleft
      have hrev := fun W (hW : Upd (fun _ => False) wr W) => revoke_yes b ml mk (L1.without (ds.take j)) ds[j] (d, d) W (HL.out.grow hW) (show NoKeys (L1.without _) from HK1.out) hgt
      rw [without_step, show ds.take j ++ [ds[j]] = ds.take (j + 1) from (List.take_succ_eq_append_getElem hlt').symm] at hrev
      have hnow := fun W (hW : Upd (fun _ => False) wr W) => now_calls b ml mk (L1.without (ds.take j)) W (HL.out.grow hW)
      have hnext := Lib.hid (show ∀ jj (h : jj < ds.length), j + 1 ≤ jj → d ≤ L1.due ds[jj] from fun jj h hjj => by rw [← hdd]; exact due_rises (HPW.out.imp (fun h => by omega)) (by omega) h)
      have HREV := Lib.hid hrev
      have HNOW := Lib.hid hnow
      clear hni hgt hdd hx hids hrev hnow
      have hle' : d ≤ (L1.without (ds.take j)).now := hle
      generalize hnw : (L1.without (ds.take j)).now = nw at *
      clear hle hnw
      generalize ds[j] = id at *
      clear hlt'
      go_wp2_with (first
        | (go_at_call 15; (with_reducible refine hleft.mono ?_); rintro e5 w5 ⟨rfl, hu5⟩; have H5 := Lib.hid hu5; have hnow5 := HNOW.out w5 hu5; clear hu5 hleft)
        | (go_at_call 14; (with_reducible refine hnow5.mono ?_); rintro e6 w6 ⟨rfl, rfl⟩; have hrev6 := HREV.out w5 H5.out; clear hnow5)
        | (go_at_call 17; (with_reducible refine hrev6.mono ?_); rintro e7 w7 ⟨rfl, hL7, hu7⟩; have HL7 := Lib.hid hL7; have HU7 := Lib.hid ((HU.out.trans (H5.out.weak _)).trans hu7); clear hL7 hu7 hrev6))
      go_roundw
      case rel => exact ⟨j + 1, by omega, by go_num, d, rfl, hnext.out, HL7.out, HU7.out⟩
      case measure => simp [intOf]; omega
    · obtain rfl : j = dn := by omega
      have htk : ds.take j = ds := List.take_of_length_le (by rw [HDL.out]; exact Nat.le_refl _)
      have HL2' := Lib.hid (show IsLs wr b ml mk (L1.without ds) by have := HL.out; rw [htk] at this; exact this)
      clear HL htk
      have hO2 := HO1.out.without ds
      have hls := leases_calls b ml mk (L1.without ds) wr HL2'.out hO2
      have HO2 := Lib.hid hO2
      have hcnt2 : (L1.without ds).n = n1 - j := by show L1.n - ds.length = _; rw [HN1.out, HDL.out]
      have HC2 := Lib.hid hcnt2
      have HND2 := Lib.hid (show ∀ i x, (L1.without ds).l i = some x → L1.now < x.2 from fun i x hx => by
        have hx' : (if i ∈ ds then none else L1.l i) = some x := hx
        by_cases e : i ∈ ds
        · rw [if_pos e] at hx'; cases hx'
        · rw [if_neg e] at hx'
          by_cases h : L1.now < x.2
          · exact h
          · exact absurd ((HM.out i).2 ⟨x, hx', by omega⟩) e)
      have HNW := Lib.hid (show (L1.without ds).now = L1.now from rfl)
      have HNK := Lib.hid (show NoKeys (L1.without ds) from HK1.out)
      have HUW := Lib.hid (show Upd (fun _ => False) w wr from HU4W.out.trans' HU.out (fun x hx e => by have := HLT.out.2.1; omega))
      clear hO2 hcnt2 HLV HU HSL4 HPW HND HM HZ1
      rename World => W1
      generalize hL2 : L1.without ds = L2 at *
      clear hL2
      have HI2 := Lib.hid (show ((L2.n : Nat) : Int) = (n1 : Int) - (j : Int) by rw [HC2.out]; have := HCNT.out; omega)
      generalize hn2 : L2.n = n2 at *
      have HN2 := Lib.hid hn2
      have hcj : j ≤ n1 := HCNT.out
      have hn1b : n1 ≤ 64 := by have h2 := HO1.out.few; rw [HN1.out] at h2; exact h2
      have hn2b : n2 ≤ 64 := by rw [HC2.out]; omega
      clear hn2
      go_wp2_with (go_at_call 16; (with_reducible refine hls.mono ?_); intro e5 w5 hd5; obtain ⟨lb, lcc, ids2, he5, hl5, -, hm5, hsl5, hu5⟩ := hd5; rw [HN2.out] at he5 hl5 hsl5; subst he5; have HL5 := Lib.hid hl5; have HM5 := Lib.hid hm5; have HSL5 := Lib.hid hsl5; have HU5 := Lib.hid (HUW.out.trans hu5); have HLL5 := Lib.hid (HL2'.out.grow hu5); clear hl5 hm5 hsl5 hu5 hls)
      go_loopw [97] (fun i wr => ∃ j2 : Nat, j2 ≤ n2 ∧ i = .int .i64 j2 ∧ Upd (fun _ => False) w5 wr) (fun i _ => n2 - (intOf i).toNat)
      case atStart => exact ⟨0, Nat.zero_le _, rfl, Upd.refl _ _⟩
      case round =>
        obtain ⟨j2, hj2, rfl, hu⟩ := hrel
        have HU := Lib.hid hu
        clear hu
        by_cases hlt2 : j2 < n2
        · have hlm : (ids2.map fun i => (i, L2.ttlOf i)).length = n2 := by rw [List.length_map, HL5.out]
          obtain ⟨bb, off, hbb, q0, q1⟩ := lease_at (w := wr) (a := lb) (c := lcc) (ls := ids2.map fun i => (i, L2.ttlOf i)) (by rw [hlm]; exact HSL5.out.grow HU.out) (k := j2) (by rw [hlm]; exact hlt2)
          subst hbb
          have hj3 : j2 < ids2.length := by rw [HL5.out]; exact hlt2
          simp only [List.getElem_map] at q0 q1
          obtain ⟨x, hx⟩ := Option.isSome_iff_exists.1 ((HM5.out _).1 (List.getElem_mem hj3))
          have hgt := HND2.out _ x hx
          have hleft := fun W (hW : Upd (fun _ => False) wr W) => left_yes b ml mk L2 ids2[j2] x W ((HLL5.out.grow HU.out).grow hW) HO2.out HNK.out hx
          rw [HNW.out] at hleft
          have hmx : 1 ≤ max (0 : Int) (x.2 - L1.now) := by omega
          generalize max (0 : Int) (x.2 - L1.now) = mx at *
          have HLEFT := Lib.hid (hleft _ (upd_alloc _ wr (.cells #[.int .i64 ids2[j2], .int .i64 (L2.ttlOf ids2[j2])] 28)))
          clear hleft hx hgt
          generalize L2.ttlOf ids2[j2] = ty at *
          generalize ids2[j2] = id at *
          clear hj3 hlm
          go_wp2_with (go_at_call 15; (with_reducible refine HLEFT.out.mono ?_); rintro e6 w6 ⟨rfl, hu6⟩; have HU6 := Lib.hid ((HU.out.alloc _).trans hu6); clear hu6)
          go_roundw
          case rel => exact ⟨j2 + 1, by omega, by go_num, HU6.out⟩
          case measure => simp [intOf]; omega
        · obtain rfl : j2 = n2 := by omega
          have hLw := HLL5.out.grow HU.out
          have hdue2 := due_calls b ml mk L2 wr hLw HO2.out
          have HLW := Lib.hid hLw
          clear hLw
          go_wp2_with (first
            | (go_at_call 12; (with_reducible refine hdue2.mono ?_); intro e6 w6 hd6; obtain ⟨dx, dy, l6, rfl, hm6, -, -, -, hu6, -⟩ := hd6; have hl6 : l6 = [] := List.eq_nil_iff_forall_not_mem.2 (fun i hi => by obtain ⟨x, hx, hle⟩ := (hm6 i).1 hi; have := HND2.out i x hx; rw [HNW.out] at hle; omega); subst hl6; have HU6 := Lib.hid hu6; have hls6 := leases_calls b ml mk L2 w6 (HLW.out.grow hu6) HO2.out; clear hm6 hu6 hdue2)
            | (go_at_call 16; (with_reducible refine hls6.mono ?_); intro e7 w7 hd7; obtain ⟨ly, lz, ids7, he7, -, -, -, -, hu7⟩ := hd7; rw [HN2.out] at he7; subst he7; have HU7 := Lib.hid hu7; clear hu7 hls6))
          go_ret
          exact ⟨by simp [HI2.out], (HU5.out.trans HU.out).trans (HU6.out.trans HU7.out)⟩

set_option maxRecDepth 100000 in
set_option maxHeartbeats 2000000 in
theorem due_walk (a : Option Addr) (c : Nat) (ls : List (Int × Int)) (ticks : Int) (w : World) (hs : Sl lenc w (.slice a ls.length c) ls) (hbig : ls.length ≤ 9223372036854775807) :
    Calls Try.prog 5 #[.slice a ls.length c, .int .i64 ticks] w fun e w' => e = .returned (.bool true) ∧ Upd (fun _ => False) w w' := by
  by_cases h1 : ls.length ≤ 64
  · by_cases h2 : 0 ≤ ticks
    · by_cases hok : newOk 0 ls ∧ (grants (LS.start 0) ls).2 = 0
      · exact due_ok a c ls ticks w hs hok.1 hok.2 h1 h2
      · have hnew := fun W (hu : Upd (fun _ => False) w W) => (new_calls 0 a c ls W (hs.grow hu)).mono (R' := fun e w' => ∃ er : Int, er ≠ 0 ∧ e = .returned (.tuple #[.pointer none, .int .i64 er]) ∧ Upd (fun _ => False) W w') (fun e w' h => by
          obtain ⟨hu1, h⟩ := h
          by_cases h0 : newOk 0 ls
          · rw [if_pos h0, if_neg (fun k => hok ⟨h0, k⟩)] at h
            exact ⟨_, fun k => hok ⟨h0, k⟩, h, hu1⟩
          · rw [if_neg h0] at h
            exact ⟨1, by decide, h, hu1⟩)
        have HN := Lib.hid hnew
        have h64 : ¬ ((64 : Int) < (ls.length : Int)) := by omega
        clear hs hnew hok
        generalize ls.length = n0 at *
        go_enter Try.func5, Try.ntmps5
        go_wp2_with (first
          | (go_at_call 8; (with_reducible refine (lives_calls w).mono ?_); rintro e0 w0 ⟨rfl, hu0⟩; have hn := HN.out w0 hu0; have HU0 := Lib.hid hu0; clear hu0)
          | (go_at_call 9; (with_reducible refine hn.mono ?_); rintro e1 w1 ⟨er, hne, rfl, hu1⟩; have hneB : (er != 0) = true := (by simpa using hne); clear hne hn))
        go_ret
        exact ⟨rfl, HU0.out.trans hu1⟩
    · clear hs
      have h3 : ticks < 0 := by omega
      have h64 : ¬ ((64 : Int) < (ls.length : Int)) := by omega
      generalize ls.length = n0 at *
      clear h2
      go_enter Try.func5, Try.ntmps5
      go_wp2_with (first
        | (go_at_call 8; (with_reducible refine (lives_calls w).mono ?_); rintro e0 w0 ⟨rfl, hu0⟩)
        | (go_at_call 8; (with_reducible refine (lives_calls w0).mono ?_); rintro e1 w1 ⟨rfl, hu1⟩))
      go_ret
      exact ⟨rfl, hu0.trans hu1⟩
  · clear hs
    have h64 : (64 : Int) < (ls.length : Int) := by omega
    generalize ls.length = n0 at *
    go_enter Try.func5, Try.ntmps5
    go_wp2_with (first
      | (go_at_call 8; (with_reducible refine (lives_calls w).mono ?_); rintro e0 w0 ⟨rfl, hu0⟩)
      | (go_at_call 8; (with_reducible refine (lives_calls w0).mono ?_); rintro e1 w1 ⟨rfl, hu1⟩))
    go_ret
    exact ⟨rfl, hu0.trans hu1⟩

end Go.Proofs.Ytcbngjlgcgcljaa
