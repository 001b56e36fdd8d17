/-
  FreeOrders: the walk.
-/
import Derived.Test.YtdobijomdgepjaaSameI
namespace Go.Proofs.Ytdobijomdgepjaa
open Go.RowKit Go.Tb Go.MapKept Go.ChangeMaps
set_option linter.unusedVariables false

theorem turn_range (turn : Int) (n : Nat) (hn : 0 < n) (hm : n ≤ 9223372036854775807) : ∃ k : Nat, k < n ∧ wrap64 ((IntKind.u64.wrap turn).tmod (n : Int)) = (k : Int) := by
  have h1 : 0 ≤ IntKind.u64.wrap turn := by rw [IntKind.wrap_u64]; omega
  rw [Int.tmod_eq_emod_of_nonneg h1]
  have h2 := Int.emod_nonneg (IntKind.u64.wrap turn) (show (n : Int) ≠ 0 by omega)
  have h3 := Int.emod_lt_of_pos (IntKind.u64.wrap turn) (show (0 : Int) < n by omega)
  rw [IntWalk.wrap64_in _ (by omega)]
  exact ⟨(IntKind.u64.wrap turn % (n : Int)).toNat, by omega, by omega⟩

theorem ints_sl {w : World} {a : Option Addr} {cap : Nat} {l : List Int} (h : IntsOf w a l) (hl : 0 < l.length) (hc : l.length ≤ cap) : ∃ b off, a = some ⟨b, off, none⟩ ∧ Sl ienc w (.slice (some ⟨b, off, none⟩) l.length cap) l := by
  obtain ⟨b, off, rfl, h0⟩ := h 0 hl
  refine ⟨b, off, rfl, .inr ⟨b, off, cap, rfl, hc, World.block_lt_of_cell? w _ h0, fun j v hj => ?_⟩⟩
  have hjl := (List.getElem?_eq_some_iff.1 hj).1
  rw [flat_length ienc_length, Nat.mul_one] at hjl
  obtain ⟨b', off', e, hjc⟩ := h j hjl
  cases e
  have hf := flat_get ienc_length l j hjl 0 (by decide)
  rw [Nat.mul_one, Nat.add_zero] at hf
  rw [hf] at hj
  rw [hjc]
  exact hj
theorem sl_ints {w : World} {a : Option Addr} {n cap : Nat} {l : List Int} (h : Sl ienc w (.slice a n cap) l) : IntsOf w a l := fun i hi => ints_at h i hi

theorem rot_perm (l : List Int) (k : Nat) : (l.drop k ++ l.take k).Perm l := by
  refine List.perm_append_comm.trans ?_
  rw [List.take_append_drop]
theorem newNo_perm {size : Int} {l1 l2 : List Int} (h : l1.Perm l2) : newNo size l1 = newNo size l2 := by
  unfold newNo
  have : (∀ x ∈ l1, 2 ≤ x ∧ x < size) ↔ (∀ x ∈ l2, 2 ≤ x ∧ x < size) := ⟨fun q x hx => q x (h.mem_iff.2 hx), fun q x hx => q x (h.mem_iff.1 hx)⟩
  by_cases hc : ∀ x ∈ l1, 2 ≤ x ∧ x < size
  · rw [if_pos hc, if_pos (this.1 hc)]
  · rw [if_neg hc, if_neg (fun h => hc (this.2 h))]

def OrdRel (l : List Int) (bx byy bz : Nat) (S : List Int) (k : Nat) (w wr : World) : Prop :=
  (∃ vs vh L J, IsList wr bx vs vh L J ∧ L.spare = S ∧ ¬ J bz) ∧ (∃ vs vh L J, IsList wr byy vs vh L J ∧ L.spare = S ∧ ¬ J bz) ∧
  (∃ vs vh L J, IsList wr bz vs vh L J ∧ L.size = 1024 ∧ L.held = [] ∧ L.spare.Perm (l.take k)) ∧ Upd (fun _ => False) w wr

set_option maxRecDepth 100000 in
set_option maxHeartbeats 2000000 in
theorem orders_ok (a : Option Addr) (cap : Nat) (l : List Int) (turn : Int) (w : World) (hl : IntsOf w a l) (hpos : 0 < l.length) (hbig : l.length ≤ 1100) (hcap : l.length ≤ cap) (hok : (∀ x ∈ l, 2 ≤ x ∧ x < 1024) ∧ l.Nodup) :
    Calls Try.prog 4 #[.slice a l.length cap, .int .i64 turn] w fun e w' => e = .returned (.bool true) ∧ Upd (fun _ => False) w w' := by
    obtain ⟨k, hkl, hk⟩ := turn_range turn l.length hpos (by omega)
    obtain ⟨rb, off, rfl, hsl0⟩ := ints_sl (cap := cap) hl hpos hcap
    have Hsl := Lib.hid hsl0
    obtain ⟨o1, n1, c1, hslice, hfrom⟩ := Sl.slice_from (P := Try.prog) (t := 22) (e := 3) under_ints (by obtain ⟨i0, hi0, h0, h1, h2⟩ := info_parts info_int; rw [hi0]; simp [h1]) hsl0 ienc_length hcap k (by omega)
    have Hfrom := Lib.hid hfrom
    have hz : ¬ ((l.length : Int) = 0) := by omega
    have hzB : ((l.length : Int) == 0) = false := beq_eq_false_iff_ne.2 hz
    have Hk := Lib.hid hk; clear hk
    have hk0 : (0 : Int) ≤ (k : Int) := by omega
    have hk1 : (k : Int) ≤ (l.length : Int) := by omega
    have hk2 : (k : Int) ≤ (cap : Int) := by omega
    have hbB : decide ((1100 : Int) < (l.length : Int)) = false := decide_eq_false (by omega)
    clear hz
    clear hfrom hsl0
    have hnewz := fun w1 => (show Calls Try.prog 9 #[.int .i64 1024, .slice none 0 0] w1 _ from new_ok 1024 none 0 [] w1 (fun i hi => absurd hi (Nat.not_lt_zero _)) (by decide) (by decide) (by decide) (by decide) (by decide))
    have hnew := fun w1 (hu : Upd (fun _ => False) w w1) => new_ok 1024 (some ⟨rb, off, none⟩) cap l w1 (sl_ints (Hsl.out.grow hu)) (by omega) (by decide) (by decide) hok.1 hok.2
    have Hok := Lib.hid hok
    clear hok hl
    go_enter Try.func4, Try.ntmps4
    go_wp2_with (first
      | (go_at_call 8; refine (lives_calls w).mono ?_; rintro e w1 ⟨rfl, hu1⟩)
      | (go_at_call 9; refine (hnew w1 hu1).mono ?_; rintro e w2 ⟨hu2, b, vs, vh, L, J, rfl, hd, hsz, hhe, hpm, hb, hJ⟩))
    rw [Hk.out]
    have hu2' : Upd (fun _ => False) w w2 := hu1.trans hu2
    have hown0 : (w2.drew.alloc (.cells #[] 3)).ownsRow w2.heap.size 3 1 (.slice (some ⟨w2.heap.size, 0, none⟩) 0 0) ([] : List Int).length (([] : List Int).flatMap ienc) := World.ownsRow_made w2.drew #[] 0 (Nat.le_refl _) (Nat.zero_le _) (by simp)
    have hua : Upd (fun _ => False) w2 (w2.drew.alloc (.cells #[] 3)) := (Upd.refl _ w2).drew.alloc _
    obtain ⟨v3, w3, hap1, ho1, hg1, -⟩ := run_append_sl (P := Try.prog) (t := 22) (z := .int .i64 0) under_ints info_int rfl (by decide) ienc_length ienc_one hown0 ((Hfrom.out.grow hu2').grow hua) hua.size (by simp [maxLen]; omega) (by simp; omega)
    rw [List.nil_append] at ho1
    have hu3 : Upd (fun _ => False) w w3 := (hu2'.trans hua).trans' (Upd.ofGrown hg1) (fun x hx e => by have := hu2'.size; simp [Value.ownBlock] at e; omega)
    have hw23 : w2.heap.size ≤ w3.heap.size := Nat.le_trans hua.size (Upd.ofGrown hg1).size
    have hx3 : Upd (fun _ => False) w2 w3 := hua.trans' (Upd.ofGrown hg1) (fun x hx e => by simp [Value.ownBlock] at e; omega)
    obtain ⟨v4, w4, hap2, ho2, hg2, -⟩ := run_append_sl (P := Try.prog) (t := 22) (z := .int .i64 0) under_ints info_int rfl (by decide) ienc_length ienc_one ho1 ((Hsl.out.take ienc_length k (by omega)).grow hu3) hw23 (by simp [maxLen]; omega) (by simp; omega)
    have hg2' := Upd.ofGrown hg2
    have hx4 : Upd (fun _ => False) w2 w4 := hx3.trans' hg2' (fun x hx e => by have := (ho1.lt x e.symm).1; omega)
    have hs2 := (sl_of_own ienc_length ho2).1
    obtain ⟨a4, c4, rfl, hc4⟩ := hs2.shape
    have hnew2 := new_ok 1024 a4 c4 _ w4 (sl_ints hs2) (by simp; omega) (by decide) (by decide) (fun x hx => Hok.out.1 x ((rot_perm l k).mem_iff.1 hx)) ((rot_perm l k).nodup_iff.2 Hok.out.2)
    clear hs2 ho1 ho2 hg1 hg2
    generalize hr : l.drop k ++ l.take k = l' at *
    have Hr := Lib.hid (show l'.Perm l by rw [← hr]; exact rot_perm l k)
    clear hr
    go_region_held3 (fun _ => True) (first | trivial) (first | (refine step_append hap1 (by rfl) (by rfl) (by rfl) (by rfl) ?_) | (refine step_append hap2 (by rfl) (by rfl) (by rfl) (by rfl) ?_) | (go_at_call 9; refine hnew2.mono ?_; rintro e w5 ⟨hu5, b5, vs5, vh5, L5, J5, rfl, hd5, hsz5, hhe5, hpm5, hb5, hJ5⟩))
    go_wp2_with (go_at_call 9; refine (hnewz w5).mono ?_; rintro e w6 ⟨hu6, b6, vs6, vh6, L6, J6, rfl, hd6, hsz6, hhe6, hpm6, hb6, hJ6⟩)
    have hSS : L5.spare = L.spare := sorted_unique hd5.ok.ss hd.ok.ss (fun x => by rw [hpm5.mem_iff, Hr.out.mem_iff, hpm.mem_iff])
    obtain ⟨S, hS⟩ : ∃ S, S = L.spare := ⟨_, rfl⟩
    have HS := Lib.hid (show S.Perm l by rw [hS]; exact hpm)
    have HSs := Lib.hid (show S.Pairwise (· < ·) by rw [hS]; exact hd.ok.ss)
    have hux : Upd (fun _ => False) w2 w6 := (hx4.trans hu5).trans hu6
    have s25 : w2.heap.size ≤ w5.heap.size := Nat.le_trans hx4.size hu5.size
    have hl1 := lt_of_heap hd.blk
    have hl5 := lt_of_heap hd5.blk
    have n1 : b ≠ b6 := by omega
    have n2 : b5 ≠ b6 := by omega
    have n3 : w.heap.size ≤ b6 := by have := hu2'.size; omega
    have hstart := Lib.hid (show OrdRel l b b5 b6 S 0 w w6 from
      ⟨⟨vs, vh, L, J, hd.grow hux, hS.symm, fun h => by have := hd.bd _ h; omega⟩, ⟨vs5, vh5, L5, J5, hd5.grow hu6, by rw [hSS, hS], fun h => by have := hd5.bd _ h; omega⟩,
        ⟨vs6, vh6, L6, J6, hd6, hsz6, hhe6, by simpa using hpm6⟩, hu2'.trans hux⟩)
    clear hd hsz hhe hpm hb hJ hd5 hsz5 hhe5 hpm5 hb5 hJ5 hd6 hsz6 hhe6 hpm6 hb6 hJ6 hSS hS hux s25 hl1 hl5 hu1 hu2 hu2' hx4 hu5 hu6 hnew hnewz hnew2 hap1 hap2
    go_loopw [73] (fun i wr => ∃ k : Nat, k ≤ l.length ∧ i = .int .i64 k ∧ OrdRel l b b5 b6 S k w wr) (fun i _ => l.length - (intOf i).toNat)
    case atStart => exact ⟨0, Nat.zero_le _, rfl, hstart.out⟩
    case round =>
      clear hstart
      obtain ⟨k, hk, rfl, hX, hY, ⟨vs, vh, L, J, hd, hsz, hhe, hpm⟩, hu⟩ := hrel
      have HX := Lib.hid hX
      have HY := Lib.hid hY
      clear hX hY
      by_cases hlt : k < l.length
      · have hcell := (Hsl.out.grow hu).at ienc_length k hlt 0 (by decide) (.int .i64 l[k]) rfl
        rw [Nat.mul_one, Nat.add_zero] at hcell
        have hgv := give_calls b6 vs vh L J l[k] wr hd
        have Tk := Lib.hid (take_one_perm l k hlt)
        have hr := Hok.out.1 _ (List.getElem_mem hlt)
        have hin : l[k] ∉ l.take k := (List.nodup_cons.1 (Tk.out.nodup_iff.1 (Hok.out.2.sublist (List.take_sublist _ _)))).1
        generalize l[k] = x at *
        have hch : L.check x = 0 := by
          unfold LS.check
          rw [hsz, if_pos hr, if_neg]
          rintro (h | h)
          · exact hin (hpm.mem_iff.1 h)
          · rw [hhe] at h; cases h
        have hgi : L.give x = { L with spare := insl x L.spare } := if_pos hch
        rw [hch, hgi] at hgv
        have Hp := Lib.hid (show (insl x L.spare).Perm (l.take (k + 1)) from (insl_perm x _).trans ((hpm.cons x).trans Tk.out.symm))
        have Hh := Lib.hid hhe
        have Hz := Lib.hid hsz
        clear hd hsz hhe hpm hr hin hch hgi
        go_wp2_with (go_at_call 12; refine hgv.mono ?_; rintro e w7 ⟨rfl, ⟨vs2, vh2, J2, hd2, hJ2⟩, hu2⟩)
        go_roundw
        case rel =>
          obtain ⟨xs, xh, LX, JX, hdX, hsX, hnX⟩ := HX.out
          obtain ⟨ys, yh, LY, JY, hdY, hsY, hnY⟩ := HY.out
          exact ⟨k + 1, by omega, by go_num, ⟨xs, xh, LX, JX, hdX.upd hu2 n1 (fun y hy e => hnX (e ▸ hy)), hsX, hnX⟩, ⟨ys, yh, LY, JY, hdY.upd hu2 n2 (fun y hy e => hnY (e ▸ hy)), hsY, hnY⟩, ⟨vs2, vh2, _, J2, hd2, Hz.out, Hh.out, Hp.out⟩, hu.trans' hu2 (fun y hy e => by omega)⟩
        case measure => simp [intOf]; omega
      · obtain rfl : k = l.length := by omega
        rw [List.take_length] at hpm
        have hzS : L.spare = S := sorted_unique hd.ok.ss HSs.out (fun x => by rw [hpm.mem_iff, HS.out.mem_iff])
        obtain ⟨xs, xh, LX, JX, hdX, hsX, hnX⟩ := HX.out
        obtain ⟨ys, yh, LY, JY, hdY, hsY, hnY⟩ := HY.out
        have hSl : S.length = l.length := HS.out.length_eq
        have sx := fun w' (q : Upd (fun _ => False) wr w') => hsX ▸ spare_calls b xs xh LX JX w' (hdX.grow q)
        have sy := fun w' (q : Upd (fun _ => False) wr w') => hsY ▸ spare_calls b5 ys yh LY JY w' (hdY.grow q)
        have sz := fun w' (q : Upd (fun _ => False) wr w') => hzS ▸ spare_calls b6 vs vh L J w' (hd.grow q)
        have rx := fun w' (q : Upd (fun _ => False) wr w') => (hsX ▸ room_calls b xs xh LX JX w' (hdX.grow q) : Calls Try.prog 11 #[.pointer (some ⟨b, 0, none⟩)] w' fun e w'' => e = .returned (.int .i64 (S.length : Nat)) ∧ w'' = w')
        rw [hSl] at rx
        have HSl := Lib.hid hSl
        clear hSl
        clear hd hsz hhe hpm hzS hdX hsX hnX hdY hsY hnY
        go_wp2_with (first
          | (go_at_call 14; with_reducible refine (sx wr (Upd.refl _ _)).mono ?_; rintro e s1 ⟨p1, rfl, hp1, -, hv1⟩; obtain ⟨pa1, pc1, rfl, -⟩ := hp1.shape)
          | (go_at_call 14; with_reducible refine (sy s1 hv1).mono ?_; rintro e s2 ⟨p2, rfl, hp2, -, hv2⟩; obtain ⟨pa2, pc2, rfl, -⟩ := hp2.shape)
          | (go_at_call 13; with_reducible refine (same_calls _ _ S s2 (hp1.grow hv2) hp2 (by have := HSl.out; omega)).mono ?_; rintro e s3 ⟨rfl, hv3⟩)
          | (go_at_call 14; with_reducible refine (sx s3 ((hv1.trans hv2).trans hv3)).mono ?_; rintro e s4 ⟨p4, rfl, hp4, -, hv4⟩; obtain ⟨pa4, pc4, rfl, -⟩ := hp4.shape)
          | (go_at_call 14; with_reducible refine (sz s4 (((hv1.trans hv2).trans hv3).trans hv4)).mono ?_; rintro e s5 ⟨p5, rfl, hp5, -, hv5⟩; obtain ⟨pa5, pc5, rfl, -⟩ := hp5.shape)
          | (go_at_call 13; with_reducible refine (same_calls _ _ S s5 (hp4.grow hv5) hp5 (by have := HSl.out; omega)).mono ?_; rintro e s6 ⟨rfl, hv6⟩)
          | (go_at_call 11; with_reducible refine (rx s6 (((((hv1.trans hv2).trans hv3).trans hv4).trans hv5).trans hv6)).mono ?_; rintro e s7 ⟨rfl, rfl⟩))
        go_ret
        exact ⟨rfl, hu.trans (((((hv1.trans hv2).trans hv3).trans hv4).trans hv5).trans hv6)⟩

set_option maxRecDepth 100000 in
set_option maxHeartbeats 2000000 in
theorem orders_no (a : Option Addr) (cap : Nat) (l : List Int) (turn : Int) (w : World) (hl : IntsOf w a l) (hpos : 0 < l.length) (hbig : l.length ≤ 1100) (hcap : l.length ≤ cap) (hok : ¬ ((∀ x ∈ l, 2 ≤ x ∧ x < 1024) ∧ l.Nodup)) :
    Calls Try.prog 4 #[.slice a l.length cap, .int .i64 turn] w fun e w' => e = .returned (.bool true) ∧ Upd (fun _ => False) w w' := by
    obtain ⟨k, hkl, hk⟩ := turn_range turn l.length hpos (by omega)
    obtain ⟨rb, off, rfl, hsl0⟩ := ints_sl (cap := cap) hl hpos hcap
    have Hsl := Lib.hid hsl0
    obtain ⟨o1, n1, c1, hslice, hfrom⟩ := Sl.slice_from (P := Try.prog) (t := 22) (e := 3) under_ints (by obtain ⟨i0, hi0, h0, h1, h2⟩ := info_parts info_int; rw [hi0]; simp [h1]) hsl0 ienc_length hcap k (by omega)
    have Hfrom := Lib.hid hfrom
    have hz : ¬ ((l.length : Int) = 0) := by omega
    have hzB : ((l.length : Int) == 0) = false := beq_eq_false_iff_ne.2 hz
    have Hk := Lib.hid hk; clear hk
    have hk0 : (0 : Int) ≤ (k : Int) := by omega
    have hk1 : (k : Int) ≤ (l.length : Int) := by omega
    have hk2 : (k : Int) ≤ (cap : Int) := by omega
    have hbB : decide ((1100 : Int) < (l.length : Int)) = false := decide_eq_false (by omega)
    clear hz
    clear hfrom hsl0
    have hnewz := fun w1 => (show Calls Try.prog 9 #[.int .i64 1024, .slice none 0 0] w1 _ from new_ok 1024 none 0 [] w1 (fun i hi => absurd hi (Nat.not_lt_zero _)) (by decide) (by decide) (by decide) (by decide) (by decide))
    have hnew := fun w1 (hu : Upd (fun _ => False) w w1) => new_no 1024 (some ⟨rb, off, none⟩) cap l w1 (sl_ints (Hsl.out.grow hu)) (by omega) (by decide) (by decide) hok
    have Hok := Lib.hid hok
    clear hok hl
    go_enter Try.func4, Try.ntmps4
    go_wp2_with (first
      | (go_at_call 8; refine (lives_calls w).mono ?_; rintro e w1 ⟨rfl, hu1⟩)
      | (go_at_call 9; refine (hnew w1 hu1).mono ?_; rintro e w2 ⟨rfl, hu2⟩))
    rw [Hk.out]
    have hu2' : Upd (fun _ => False) w w2 := hu1.trans hu2
    have hown0 : (w2.drew.alloc (.cells #[] 3)).ownsRow w2.heap.size 3 1 (.slice (some ⟨w2.heap.size, 0, none⟩) 0 0) ([] : List Int).length (([] : List Int).flatMap ienc) := World.ownsRow_made w2.drew #[] 0 (Nat.le_refl _) (Nat.zero_le _) (by simp)
    have hua : Upd (fun _ => False) w2 (w2.drew.alloc (.cells #[] 3)) := (Upd.refl _ w2).drew.alloc _
    obtain ⟨v3, w3, hap1, ho1, hg1, -⟩ := run_append_sl (P := Try.prog) (t := 22) (z := .int .i64 0) under_ints info_int rfl (by decide) ienc_length ienc_one hown0 ((Hfrom.out.grow hu2').grow hua) hua.size (by simp [maxLen]; omega) (by simp; omega)
    rw [List.nil_append] at ho1
    have hu3 : Upd (fun _ => False) w w3 := (hu2'.trans hua).trans' (Upd.ofGrown hg1) (fun x hx e => by have := hu2'.size; simp [Value.ownBlock] at e; omega)
    have hw23 : w2.heap.size ≤ w3.heap.size := Nat.le_trans hua.size (Upd.ofGrown hg1).size
    have hx3 : Upd (fun _ => False) w2 w3 := hua.trans' (Upd.ofGrown hg1) (fun x hx e => by simp [Value.ownBlock] at e; omega)
    obtain ⟨v4, w4, hap2, ho2, hg2, -⟩ := run_append_sl (P := Try.prog) (t := 22) (z := .int .i64 0) under_ints info_int rfl (by decide) ienc_length ienc_one ho1 ((Hsl.out.take ienc_length k (by omega)).grow hu3) hw23 (by simp [maxLen]; omega) (by simp; omega)
    have hg2' := Upd.ofGrown hg2
    have hx4 : Upd (fun _ => False) w2 w4 := hx3.trans' hg2' (fun x hx e => by have := (ho1.lt x e.symm).1; omega)
    have hs2 := (sl_of_own ienc_length ho2).1
    obtain ⟨a4, c4, rfl, hc4⟩ := hs2.shape
    have hnew2 := new_no 1024 a4 c4 _ w4 (sl_ints hs2) (by simp; omega) (by decide) (by decide) (fun h => Hok.out ⟨fun x hx => h.1 x ((rot_perm l k).mem_iff.2 hx), (rot_perm l k).nodup_iff.1 h.2⟩)
    rw [newNo_perm (rot_perm l k)] at hnew2
    have hne := newNo_ne 1024 l
    clear hs2 ho1 ho2 hg1 hg2 hnew
    generalize newNo 1024 l = n at *
    generalize l.drop k ++ l.take k = l' at *
    go_region_held3 (fun _ => True) (first | trivial) (first | (refine step_append hap1 (by rfl) (by rfl) (by rfl) (by rfl) ?_) | (refine step_append hap2 (by rfl) (by rfl) (by rfl) (by rfl) ?_) | (go_at_call 9; refine hnew2.mono ?_; rintro e w5 ⟨rfl, hu5⟩))
    go_wp2_with (go_at_call 9; refine (hnewz w5).mono ?_; rintro e w6 ⟨hu6, b6, vs6, vh6, L6, J6, rfl, hd6, hsz6, hhe6, hpm6, hb6, hJ6⟩)
    go_ret
    exact ⟨rfl, ((hu2'.trans hx4).trans hu5).trans hu6⟩

set_option maxRecDepth 100000 in
set_option maxHeartbeats 1000000 in
theorem orders_walk (a : Option Addr) (cap : Nat) (l : List Int) (turn : Int) (w : World) (hl : IntsOf w a l) (hlen : l.length ≤ 9223372036854775807) (hcap : l.length ≤ cap) :
    Calls Try.prog 4 #[.slice a l.length cap, .int .i64 turn] w fun e w' => e = .returned (.bool true) ∧ Upd (fun _ => False) w w' := by
  by_cases hbig : 0 < l.length ∧ l.length ≤ 1100
  · by_cases hok : (∀ x ∈ l, 2 ≤ x ∧ x < 1024) ∧ l.Nodup
    · exact orders_ok a cap l turn w hl hbig.1 hbig.2 hcap hok
    · exact orders_no a cap l turn w hl hbig.1 hbig.2 hcap hok
  · clear hl
    by_cases h0 : l.length = 0
    · have hz : ((l.length : Nat) : Int) = 0 := by omega
      go_enter Try.func4, Try.ntmps4
      go_wp2_with (first
        | (go_at_call 8; with_reducible refine (lives_calls w).mono ?_; rintro e w1 ⟨rfl, hu1⟩)
        | (go_at_call 8; with_reducible refine (lives_calls w1).mono ?_; rintro e w2 ⟨rfl, hu2⟩))
      go_ret
      exact ⟨rfl, hu1.trans hu2⟩
    · have hz : ¬ ((l.length : Nat) : Int) = 0 := by omega
      have hz2 : (1100 : Int) < (l.length : Nat) := by omega
      go_enter Try.func4, Try.ntmps4
      go_wp2_with (first
        | (go_at_call 8; with_reducible refine (lives_calls w).mono ?_; rintro e w1 ⟨rfl, hu1⟩)
        | (go_at_call 8; with_reducible refine (lives_calls w1).mono ?_; rintro e w2 ⟨rfl, hu2⟩))
      go_ret
      exact ⟨rfl, hu1.trans hu2⟩

end Go.Proofs.Ytdobijomdgepjaa
