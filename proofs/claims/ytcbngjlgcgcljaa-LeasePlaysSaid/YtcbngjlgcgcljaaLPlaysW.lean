/-
  What a lessor that isn't there tells.
-/
import Derived.Test.YtcbngjlgcgcljaaRelV
import Derived.Test.YtcbngjlgcgcljaaRelW
import Derived.Test.YtcbngjlgcgcljaaRelX
import Derived.Test.YtcbngjlgcgcljaaPlayJ
namespace Go.Proofs.Ytcbngjlgcgcljaa
open Go.RowKit Go.Tb Go.MapKept Go.ChangeMaps Go.Lib
set_option linter.unusedVariables false

theorem keep_nil (id : Int) (w : World) : Calls Try.prog 13 #[.pointer none, .int .i64 id] w fun e w' => e = .returned (.tuple #[.int .i64 0, .int .i64 1]) ∧ Upd (fun _ => False) w w' := by
  have hf := find_nil id w
  go_enter Try.func13, Try.ntmps13
  go_wp2_with (go_at_call 30; (with_reducible refine hf.mono ?_); rintro e1 w1 ⟨rfl, hu1⟩)
  go_ret2
  exact ⟨rfl, hu1.alloc _⟩
theorem has_nil (id : Int) (w : World) : Calls Try.prog 21 #[.pointer none, .int .i64 id] w fun e w' => e = .returned (.bool false) ∧ Upd (fun _ => False) w w' := by
  have hf := find_nil id w
  go_enter Try.func21, Try.ntmps21
  go_wp2_with (go_at_call 30; (with_reducible refine hf.mono ?_); rintro e1 w1 ⟨rfl, hu1⟩)
  go_ret
  exact ⟨rfl, hu1.alloc _⟩
theorem tick_nil (n : Int) (w : World) : Calls Try.prog 11 #[.pointer none, .int .i64 n] w fun e w' => e = .returned (.int .i64 1) ∧ w = w' := by
  go_enter Try.func11, Try.ntmps11
  go_wp2
  go_ret
  exact ⟨rfl, rfl⟩
theorem now_nil (w : World) : Calls Try.prog 14 #[.pointer none] w fun e w' => e = .returned (.int .i64 0) ∧ w = w' := by
  go_enter Try.func14, Try.ntmps14
  go_wp2
  go_ret
  exact ⟨rfl, rfl⟩
theorem attach_nil (v : Value) (id : Int) (w : World) : Calls Try.prog 19 #[.pointer none, v, .int .i64 id] w fun e w' => e = .returned (.int .i64 1) ∧ w = w' := by
  go_enter Try.func19, Try.ntmps19
  go_wp2
  go_ret
  exact ⟨rfl, rfl⟩
theorem leases_nil (w : World) : Calls Try.prog 16 #[.pointer none] w fun e w' => e = .returned (.slice none 0 0) ∧ w = w' := by
  go_enter Try.func16, Try.ntmps16
  go_wp2
  go_ret
  exact ⟨rfl, rfl⟩
theorem copy_nil (w : World) : Calls Try.prog 22 #[.pointer none] w fun e w' => e = .returned (.pointer none) ∧ w = w' := by
  go_enter Try.func22, Try.ntmps22
  go_wp2
  go_ret
  exact ⟨rfl, rfl⟩

/-- The two lists that the law puts together. -/
structure PK (B : Nat) (W1 : World) (r1 r2 : Value) (m1 m2 : List Int) (w : World) : Prop where
  o1 : w.ownsRow B 2 1 r1 m1.length (m1.flatMap nenc)
  o2 : w.ownsRow B 2 1 r2 m2.length (m2.flatMap nenc)
  sep : ∀ b, sliceBlock r1 = some b → sliceBlock r2 ≠ some b
  hB : B ≤ W1.heap.size
  hu : Upd (fun k => B ≤ k) W1 w

theorem PK.start (W1 : World) : PK W1.heap.size W1 (.slice none 0 0) (.slice none 0 0) [] [] W1 :=
  { o1 := ⟨rfl, .inl ⟨rfl, rfl⟩⟩, o2 := ⟨rfl, .inl ⟨rfl, rfl⟩⟩, sep := fun b h => (by cases h), hB := Nat.le_refl _, hu := Upd.refl _ _ }

/-- A lease is read: its block is new. -/
theorem PK.into {B : Nat} {W1 : World} {r1 r2 : Value} {m1 m2 : List Int} {w : World} (h : PK B W1 r1 r2 m1 m2 w) (x y : Int) : PW B w.heap.size (w.alloc (.cells #[.int .i64 x, .int .i64 y] 28)) x y r1 r2 m1 m2 [] (w.alloc (.cells #[.int .i64 x, .int .i64 y] 28)).drew := by
  have hu := (upd_alloc (fun _ => False) w (.cells #[.int .i64 x, .int .i64 y] 28)).drew
  exact ⟨own_grow h.o1 hu, own_grow h.o2 hu, h.sep, fun e => absurd (own_ge h.o1 _ e).2 (Nat.lt_irrefl _), fun e => absurd (own_ge h.o2 _ e).2 (Nat.lt_irrefl _), (heap_alloc w _).1, fun p hp => (by cases hp), Nat.le_trans h.hB (Nat.le_trans h.hu.size (by simp)), (Upd.refl _ _).drew⟩
theorem PK.back {B g : Nat} {W1 : World} {r1 r2 q1 q2 : Value} {m1 m2 : List Int} {w w2 : World} {x y : Int} {ys : List (Nat × Int)} {m3 m4 : List Int} (h : PK B W1 r1 r2 m1 m2 w) (h2 : PW B g (w.alloc (.cells #[.int .i64 x, .int .i64 y] 28)) x y q1 q2 m3 m4 ys w2) : PK B W1 q1 q2 m3 m4 w2 :=
  { o1 := h2.o1, o2 := h2.o2, sep := h2.sep, hB := h.hB, hu := (h.hu.alloc _).trans h2.hu }

end Go.Proofs.Ytcbngjlgcgcljaa

/-
  LeasePlays: the walk.
-/
namespace Go.Proofs.Ytcbngjlgcgcljaa
open Go.RowKit Go.Tb Go.MapKept Go.ChangeMaps Go.Lib
set_option linter.unusedVariables false

set_option maxRecDepth 100000 in
set_option maxHeartbeats 4000000 in
theorem plays_ok (now : Int) (fa : Option Addr) (fc : Nat) (ls : List (Int × Int)) (a : Option Addr) (c : Nat) (l : List AP) (w : World) (hs : Sl lenc w (.slice fa ls.length fc) ls) (h : Acts w (.slice a l.length c) l) (hb : l.length ≤ 9223372036854775807) (hf : FewOk l) (hls : ls.length ≤ 100) :
    Calls Try.prog 7 #[.int .i64 now, .slice fa ls.length fc, .slice a l.length c] w fun e w' => e = .returned (.bool true) ∧ Upd (fun _ => False) w w' := by
  have hfew := fun W (hu : Upd (fun _ => False) w W) => few_calls a c l W (h.grow hu) hb
  rw [decide_eq_true hf] at hfew
  have HFEW := Lib.hid hfew
  have HS := Lib.hid hs
  have HA := Lib.hid h
  have h80 := hf.1
  have HF := Lib.hid hf.2
  have HNEW := Lib.hid (fun W (hu : Upd (fun _ => False) w W) => new_calls now fa fc ls W (hs.grow hu))
  clear h hs hb hf hfew
  generalize hn : l.length = n at *
  have HN := Lib.hid hn
  clear hn
  generalize hm : ls.length = m at *
  have HM := Lib.hid hm
  clear hm
  have hm100 : ¬ ((100 : Int) < (m : Int)) := by omega
  go_enter Try.func7, Try.ntmps7
  go_upto_region 5 with (first
    | (go_at_call 8; (with_reducible refine (lives_calls w).mono ?_); rintro e0 w0 ⟨rfl, hu0⟩; have hfw := HFEW.out w0 hu0; have HU0 := Lib.hid hu0; clear hu0)
    | (go_at_call 18; (with_reducible refine hfw.mono ?_); rintro e1 w1 ⟨rfl, hu1⟩; have HU1 := Lib.hid (HU0.out.trans hu1); clear hu1 hfw))
  generalize hB : w1.heap.size = B
  have HB := Lib.hid hB
  have hpk0 := PK.start w1
  rw [hB] at hpk0
  have HPK0 := Lib.hid hpk0
  clear hpk0 hB
  go_loopw [7, 8, 36] (fun v1 v2 i wr => ∃ k : Nat, k ≤ m ∧ i = .int .i64 k ∧ ∃ pa pc qa qc, v1 = .slice pa k pc ∧ v2 = .slice qa k qc ∧ PK B w1 (.slice pa k pc) (.slice qa k qc) ((ls.take k).map Prod.fst) ((ls.take k).map Prod.snd) wr) (fun _ _ i _ => m - (intOf i).toNat)
  case atStart => exact ⟨0, Nat.zero_le _, rfl, none, 0, none, 0, rfl, rfl, HPK0.out⟩
  case round =>
    clear HPK0
    obtain ⟨k, hk, rfl, pa, pc, qa, qc, rfl, rfl, hpk⟩ := hrel
    have HPK := Lib.hid hpk
    have hwr : Upd (fun _ => False) w wr := HU1.out.trans' hpk.hu (fun x hx e => by have := HB.out; have := HU1.out.size; omega)
    have HWR := Lib.hid hwr
    clear hpk
    by_cases hlt : k < m
    · have hlt' : k < ls.length := by rw [HM.out]; exact hlt
      obtain ⟨bl, ol, capl, heel, -, -, -⟩ := (show Sl lenc wr (.slice fa ls.length fc) ls by rw [HM.out]; exact HS.out.grow hwr).block (by omega)
      cases heel
      have hsr : Sl lenc wr (.slice (some ⟨bl, ol, none⟩) m fc) ls := HS.out.grow hwr
      have q0 := hsr.at lenc_length k hlt' 0 (by decide) _ rfl
      have q1 := hsr.at lenc_length k hlt' 1 (by decide) _ rfl
      rw [Nat.add_zero] at q0
      have HT1 := Lib.hid (show (ls.take (k + 1)).map Prod.fst = (ls.take k).map Prod.fst ++ [ls[k].1] by rw [List.take_succ_eq_append_getElem hlt', List.map_append]; rfl)
      have HT2 := Lib.hid (show (ls.take (k + 1)).map Prod.snd = (ls.take k).map Prod.snd ++ [ls[k].2] by rw [List.take_succ_eq_append_getElem hlt', List.map_append]; rfl)
      have hl1 : ((ls.take k).map Prod.fst).length ≤ 1000 := by simp; omega
      have hl2 : ((ls.take k).map Prod.snd).length ≤ 1000 := by simp; omega
      have HL12 := Lib.hid (And.intro hl1 hl2)
      have HLL := Lib.hid (show ((ls.take k).map Prod.fst ++ [ls[k].1]).length = k + 1 ∧ ((ls.take k).map Prod.snd ++ [ls[k].2]).length = k + 1 by simp; omega)
      clear hsr hwr hl1 hl2
      generalize ls[k].1 = x at *
      generalize ls[k].2 = y at *
      clear hlt'
      go_upto_region 7 with (fail)
      have hpw := HPK.out.into x y
      refine wp_region_inv3 (by kernel_rfl) [40, 41, 42, 43, 44, 45, 46, 47, 48, 49, 7, 8] (PairJ B wr.heap.size (wr.alloc (.cells #[.int .i64 x, .int .i64 y] 28)) x y (.slice pa k pc) (.slice qa k qc) ((ls.take k).map Prod.fst) ((ls.take k).map Prod.snd)) (PairF wr.heap.size (.slice pa k pc) (.slice qa k qc)) (by kernel_rfl) (by kernel_rfl) ⟨rfl, rfl⟩ ?_ ?_ ?_
      · exact ⟨_, _, _, _, [], hpw, by simp, by simp, by simp, by simp, by simp, by simp, by simp, by simp, by simp, by simp, by simp, by simp, fun _ => ⟨rfl, rfl⟩, fun _ => ⟨rfl, rfl⟩, by simp, by simp, by simp, by simp, fun _ => rfl, fun _ => rfl, by simp, by simp⟩
      · exact fun a0 Q hF => pair_steps _ (by kernel_rfl) a0 Q _ _ _ _ _ _ _ _ _ hF HL12.out.1 HL12.out.2
      · intro D f wx hJ hall
        obtain ⟨r1, r2, m1, m2, ys, hpw2, -, -, -, -, f44, -, -, -, -, f49, f7, f8, -, -, n4, n9, -⟩ := hJ
        have f7' := f7 (hall 10 (by decide))
        have f8' := f8 (hall 11 (by decide))
        obtain rfl := n4 (hall 4 (by decide))
        obtain rfl := n9 (hall 9 (by decide))
        obtain ⟨a7, c7, e7, -⟩ := own_shape hpw2.o1
        obtain ⟨a8, c8, e8, -⟩ := own_shape hpw2.o2
        rw [HLL.out.1] at e7
        rw [HLL.out.2] at e8
        subst e7 e8
        have hpk2 := HPK.out.back hpw2
        rw [← HT1.out, ← HT2.out] at hpk2
        have HPK2 := Lib.hid hpk2
        clear hpw hpw2 hpk2 n4 n9 f7 f8 f44 f49 hall
        simp only [fill]
        rw [f7', f8']
        clear f7' f8'
        go_wp2
        go_roundw
        case rel => exact ⟨k + 1, by omega, by go_num, a7, c7, a8, c8, rfl, rfl, HPK2.out⟩
        case measure => simp [intOf]; omega
    · obtain rfl : k = m := by omega
      have htk : ls.take k = ls := List.take_of_length_le (by rw [HM.out]; exact Nat.le_refl _)
      have hsl1 := (sl_of_own nenc_length HPK.out.o1).1
      have hsl2 := (sl_of_own nenc_length HPK.out.o2).1
      rw [htk] at hsl1 hsl2
      have HSL := Lib.hid (And.intro hsl1 hsl2)
      have hnw := HNEW.out wr hwr
      clear htk hsl1 hsl2 hwr
      have HRN := Lib.hid (fun (W : World) (hu : Upd (fun _ => False) wr W) F0 hF0 => (show Calls Try.prog 20 #[.int .i64 now, .slice pa k pc, .slice qa k qc] W (RNewSays F0 now ls W) from by
        have := rnew_calls F0 now pa qa pc qc ls W hF0 (by rw [HM.out]; exact HSL.out.1.grow hu) (by rw [HM.out]; exact HSL.out.2.grow hu)
        rw [HM.out] at this
        exact this))
      by_cases hg : newOk now ls ∧ (grants (LS.start now) ls).2 = 0
      · have HG := Lib.hid hg
        clear hg
        go_upto_region 11 with (first
          | (go_at_call 9; (with_reducible refine hnw.mono ?_); intro e2 w2 h2; obtain ⟨hu2, hs2⟩ := h2; rw [if_pos HG.out.1, if_pos HG.out.2] at hs2; obtain ⟨b, ml, mk, rfl, hL, hO, hb, hml, hmk⟩ := hs2; have HU2 := Lib.hid hu2; have HL2 := Lib.hid hL; have HO2 := Lib.hid hO; have HB2 := Lib.hid (show wr.heap.size ≤ b ∧ wr.heap.size ≤ ml ∧ wr.heap.size ≤ mk from ⟨hb, hml, hmk⟩); have hlt := (show b < w2.heap.size ∧ ml < w2.heap.size ∧ mk < w2.heap.size from ⟨lt_of_heap hL.blk, hL.lm.lt, hL.km.lt⟩); have HLT := Lib.hid hlt; have hrn := HRN.out w2 hu2 (fun k => k = b ∨ k = ml ∨ k = mk) (fun k hk => (by rcases hk with rfl | rfl | rfl; exact hlt.1; exact hlt.2.1; exact hlt.2.2)); clear hu2 hL hO hb hml hmk hnw hlt)
          | (go_at_call 20; (with_reducible refine hrn.mono ?_); intro e3 w3 h3; obtain ⟨hu3, hs3⟩ := h3; rw [if_pos HG.out.1, if_pos HG.out.2] at hs3; obtain ⟨R, rfl, href, hrel⟩ := hs3; have HU3 := Lib.hid hu3; have HREF := Lib.hid href; have HREL := Lib.hid hrel; clear hu3 href hrel hrn))
        have hbo : Both (fun k => (k = b ∨ k = ml ∨ k = mk) ∨ k = w2.heap.size) w3 b ml mk w2.heap.size (grants (LS.start now) ls).1 R 0 := by
          have hlt := HLT.out
          have hlt3 : w2.heap.size < w3.heap.size := by obtain ⟨v, h1, _⟩ := HREF.out.blk; exact lt_of_heap h1
          have hgk := grants_keys (LS.start now) ls
          refine { ls := HL2.out.grow HU3.out, ref := HREF.out, ok := HO2.out, kok := ⟨fun s i hi => ?_, fun s i hi => ?_⟩, nk := by rw [hgk.2]; exact Nat.le_refl _, rel := HREL.out, fb := .inl (.inl rfl), fl := .inl (.inr (.inl rfl)), fk := .inl (.inr (.inr rfl)), nb := by omega, nl := by omega, nm := by omega, hF := fun k hk => by rcases hk with (rfl | rfl | rfl) | rfl <;> omega }
          · rw [hgk.1] at hi; cases hi
          · rw [hgk.1] at hi; cases hi
        have HBO := Lib.hid hbo
        have HFR := Lib.hid (show w.heap.size ≤ b ∧ w.heap.size ≤ ml ∧ w.heap.size ≤ mk ∧ w.heap.size ≤ w2.heap.size by
          have h1 := HWR.out.size; have h2 := HB2.out; have h3 := HU2.out.size; omega)
        have HU3W := Lib.hid ((HWR.out.trans HU2.out).trans HU3.out)
        clear hbo HREF HREL HL2 HO2 HLT HB2
        go_upto_region 18 with (fail)
        generalize w2.heap.size = rb at *
        have hst : (∃ L R, Both (fun k => (k = b ∨ k = ml ∨ k = mk) ∨ k = rb) w3 b ml mk rb L R 0) := ⟨_, _, HBO.out⟩
        have HST := Lib.hid hst
        clear hst HBO
        go_loopw [129] (fun i wr => ∃ j : Nat, j ≤ n ∧ i = .int .i64 j ∧ (∃ L R, Both (fun k => (k = b ∨ k = ml ∨ k = mk) ∨ k = rb) wr b ml mk rb L R j) ∧ Upd (fun k => w.heap.size ≤ k) w wr) (fun i _ => n - (intOf i).toNat)
        case atStart => exact ⟨0, Nat.zero_le _, rfl, HST.out, HU3W.out.weak _⟩
        case round =>
          clear HST
          obtain ⟨j, hj, rfl, hst, hu⟩ := hrel
          have HU := Lib.hid hu
          by_cases hlt : j < n
          · have hlt' : j < l.length := by rw [HN.out]; exact hlt
            have hacts : Acts wr (.slice a l.length c) l := by rw [HN.out]; exact HA.out.low hu (fun k hk e => by omega)
            obtain ⟨bl, ol, rfl, q0, q1, q2, q3⟩ := hacts.at hlt'
            have hby := HA.out.by_ _ (List.getElem_mem hlt')
            have hkl := HF.out _ (List.getElem_mem hlt')
            unfold AP.kv at hby
            have hst4 := hst.imp fun L hL => hL.imp fun R hR => hR.grow (upd_alloc (fun _ => False) wr (.cells #[.int .i64 l[j].kind, .int .i64 l[j].id, .int .i64 l[j].n, .slice l[j].ka l[j].key.length l[j].kc] 52))
            have hu4 := hu.alloc (.cells #[.int .i64 l[j].kind, .int .i64 l[j].id, .int .i64 l[j].n, .slice l[j].ka l[j].key.length l[j].kc] 52)
            have hdo := do_any (fun k => (k = b ∨ k = ml ∨ k = mk) ∨ k = rb) b ml mk rb j l[j] _ hst4 (by omega) (by omega) (fun w' hu' => hby.low (hu4.trans' hu' (fun x hx e => by have := HFR.out; omega)) (fun k hk e => by omega))
            have ha4 := heap_alloc wr (.cells #[.int .i64 l[j].kind, .int .i64 l[j].id, .int .i64 l[j].n, .slice l[j].ka l[j].key.length l[j].kc] 52)
            have HU4 := Lib.hid hu4
            clear hacts hby hkl hst hst4 hu hu4
            generalize l[j].kind = kind at *
            generalize l[j].id = id at *
            generalize l[j].n = nn at *
            generalize l[j].ka = ka at *
            generalize l[j].kc = kc at *
            generalize l[j].key.length = kn at *
            clear hlt'
            go_upto_region 20 with (fail)
            have e0 := cell_of ha4.1 0
            have e1 := cell_of ha4.1 1
            have e2 := cell_of ha4.1 2
            have e3 := cell_of ha4.1 3
            clear ha4 q0 q1 q2 q3
            generalize wr.alloc (.cells #[.int .i64 kind, .int .i64 id, .int .i64 nn, .slice ka kn kc] 52) = W4 at *
            generalize wr.heap.size = g at *
            go_wp2_with (first
              | (go_at_call 23; (with_reducible refine hdo.mono ?_); intro e5 w5 h5; obtain ⟨rfl, ⟨L5, R5, hb5⟩, hu5⟩ := h5; have hsm := same_calls _ b ml mk rb (j + 1) L5 R5 w5 hb5 (by omega); have HB5 := Lib.hid hb5; have HU5 := Lib.hid hu5; clear hb5 hu5 hdo)
              | (go_at_call 24; (with_reducible refine hsm.mono ?_); rintro e6 w6 ⟨rfl, hu6⟩; have HU6 := Lib.hid hu6; clear hu6))
            go_roundw
            case rel => exact ⟨j + 1, by omega, by go_num, ⟨L5, R5, HB5.out.grow HU6.out⟩, (HU4.out.trans' HU5.out (fun x hx e => by have := HFR.out; omega)).trans (HU6.out.weak _)⟩
            case measure => simp [intOf]; omega
          · obtain rfl : j = n := by omega
            clear hst hu
            go_wp2
            go_ret
            exact ⟨rfl, HU.out.mono (fun k hk e => by omega)⟩
      · have hbad : ∃ eE : Int, eE ≠ 0 ∧ (∀ W e W', NewSays now ls W e W' → e = .returned (.tuple #[.pointer none, .int .i64 eE]) ∧ Upd (fun _ => False) W W') ∧ (∀ F0 W e W', RNewSays F0 now ls W e W' → e = .returned (.tuple #[.pointer none, .int .i64 eE]) ∧ Upd (fun _ => False) W W') := by
          by_cases hok : newOk now ls
          · have hz : (grants (LS.start now) ls).2 ≠ 0 := fun e => hg ⟨hok, e⟩
            refine ⟨_, hz, fun W e W' h => ?_, fun F0 W e W' h => ?_⟩
            · obtain ⟨h1, h2⟩ := h
              rw [if_pos hok, if_neg hz] at h2
              exact ⟨h2, h1⟩
            · obtain ⟨h1, h2⟩ := h
              rw [if_pos hok, if_neg hz] at h2
              exact ⟨h2, h1⟩
          · refine ⟨1, by decide, fun W e W' h => ?_, fun F0 W e W' h => ?_⟩
            · obtain ⟨h1, h2⟩ := h
              rw [if_neg hok] at h2
              exact ⟨h2, h1⟩
            · obtain ⟨h1, h2⟩ := h
              rw [if_neg hok] at h2
              exact ⟨h2, h1⟩
        obtain ⟨eE, hE, hb1, hb2⟩ := hbad
        have hnw := hnw.mono fun e W' h => hb1 _ e W' h
        have HRN2 := Lib.hid (fun (W : World) (hu : Upd (fun _ => False) wr W) => (HRN.out W hu (fun _ => False) (fun k hk => hk.elim)).mono fun e W' h => hb2 _ _ e W' h)
        have hne : (eE != 0) = true := by simpa using hE
        have hne2 : (eE == 0) = false := by simpa using hE
        clear hg hE hb1 hb2 HRN
        go_upto_region 11 with (first
          | (go_at_call 9; (with_reducible refine hnw.mono ?_); rintro e2 w2 ⟨rfl, hu2⟩; have HU2 := Lib.hid hu2; have hrn := HRN2.out w2 hu2; clear hu2 hnw)
          | (go_at_call 20; (with_reducible refine hrn.mono ?_); rintro e3 w3 ⟨rfl, hu3⟩; have HU3 := Lib.hid (HU2.out.trans hu3); clear hu3 hrn))
        have hgn := fun W => grant_nil 1 1 W
        go_upto_region 15 with (go_at_call 10; (with_reducible refine (hgn _).mono ?_); rintro e4 w4 ⟨rfl, hu4⟩; have HU4 := Lib.hid (HU3.out.trans hu4); clear hu4)
        have HU5 := Lib.hid (HU4.out.alloc (.cells #[.int .i64 0, .int .i64 0] 28))
        generalize w4.alloc (.cells #[.int .i64 0, .int .i64 0] 28) = w5 at *
        generalize w4.heap.size = g at *
        have hkn := fun W => keep_nil 1 W
        go_upto_region 16 with (go_at_call 13; (with_reducible refine (hkn _).mono ?_); rintro e6 w6 ⟨rfl, hu6⟩; have HU6 := Lib.hid (HU5.out.trans hu6); clear hu6)
        have htn := fun W => tick_nil 1 W
        have han := fun W => attach_nil (.slice none 0 0) 0 W
        have hnn := fun W => now_nil W
        have hdn := fun W => due_nil W
        have hln := fun W => leases_nil W
        have hhn := fun W => has_nil 1 W
        have hcn := fun W => copy_nil W
        go_wp2_with (first
          | (go_at_call 11; (with_reducible refine (htn _).mono ?_); rintro e7 w7 ⟨rfl, rfl⟩)
          | (go_at_call 19; (with_reducible refine (han _).mono ?_); rintro e8 w8 ⟨rfl, rfl⟩)
          | (go_at_call 14; (with_reducible refine (hnn _).mono ?_); rintro e9 w9 ⟨rfl, rfl⟩)
          | (go_at_call 12; (with_reducible refine (hdn _).mono ?_); rintro e10 w10 ⟨rfl, hu10⟩; have HU10 := Lib.hid (HU6.out.trans hu10); clear hu10)
          | (go_at_call 16; (with_reducible refine (hln _).mono ?_); rintro e11 w11 ⟨rfl, rfl⟩)
          | (go_at_call 21; (with_reducible refine (hhn _).mono ?_); rintro e12 w12 ⟨rfl, hu12⟩; have HU12 := Lib.hid (HU10.out.trans hu12); clear hu12)
          | (go_at_call 22; (with_reducible refine (hcn _).mono ?_); rintro e13 w13 ⟨rfl, rfl⟩))
        go_ret
        exact ⟨rfl, HWR.out.trans HU12.out⟩

end Go.Proofs.Ytcbngjlgcgcljaa

/-
  LeasePlays: whatever it is handed.
-/
namespace Go.Proofs.Ytcbngjlgcgcljaa
open Go.RowKit Go.Tb Go.MapKept Go.ChangeMaps Go.Lib
set_option linter.unusedVariables false

set_option maxRecDepth 100000 in
theorem plays_walk (now : Int) (fa : Option Addr) (fc : Nat) (ls : List (Int × Int)) (a : Option Addr) (c : Nat) (l : List AP) (w : World) (hs : Sl lenc w (.slice fa ls.length fc) ls) (hsb : ls.length ≤ 9223372036854775807) (h : Acts w (.slice a l.length c) l) (hb : l.length ≤ 9223372036854775807) :
    Calls Try.prog 7 #[.int .i64 now, .slice fa ls.length fc, .slice a l.length c] w fun e w' => e = .returned (.bool true) ∧ Upd (fun _ => False) w w' := by
  by_cases hf : FewOk l
  · by_cases hls : ls.length ≤ 100
    · exact plays_ok now fa fc ls a c l w hs h hb hf hls
    · have hfew := fun W (hu : Upd (fun _ => False) w W) => few_calls a c l W (h.grow hu) hb
      rw [decide_eq_true hf] at hfew
      have HFEW := Lib.hid hfew
      clear h hb hf hfew hs
      generalize l.length = n at *
      generalize ls.length = m at *
      have hm : (100 : Int) < (m : Int) := by omega
      go_enter Try.func7, Try.ntmps7
      go_upto_region 2 with (first
        | (go_at_call 8; (with_reducible refine (lives_calls w).mono ?_); rintro e0 w0 ⟨rfl, hu0⟩; have hfw := HFEW.out w0 hu0; have HU0 := Lib.hid hu0; clear hu0)
        | (go_at_call 18; (with_reducible refine hfw.mono ?_); rintro e1 w1 ⟨rfl, hu1⟩; have HU1 := Lib.hid (HU0.out.trans hu1); clear hu1 hfw))
      go_wp2_with (go_at_call 8; (with_reducible refine (lives_calls w1).mono ?_); rintro e2 w2 ⟨rfl, hu2⟩)
      go_ret
      exact ⟨rfl, HU1.out.trans hu2⟩
  · have hfew := fun W (hu : Upd (fun _ => False) w W) => few_calls a c l W (h.grow hu) hb
    rw [decide_eq_false hf] at hfew
    have HFEW := Lib.hid hfew
    clear h hb hf hfew hs hsb
    generalize l.length = n at *
    generalize ls.length = m at *
    go_enter Try.func7, Try.ntmps7
    go_upto_region 2 with (first
      | (go_at_call 8; (with_reducible refine (lives_calls w).mono ?_); rintro e0 w0 ⟨rfl, hu0⟩; have hfw := HFEW.out w0 hu0; have HU0 := Lib.hid hu0; clear hu0)
      | (go_at_call 18; (with_reducible refine hfw.mono ?_); rintro e1 w1 ⟨rfl, hu1⟩; have HU1 := Lib.hid (HU0.out.trans hu1); clear hu1 hfw))
    go_wp2_with (go_at_call 8; (with_reducible refine (lives_calls w1).mono ?_); rintro e2 w2 ⟨rfl, hu2⟩)
    go_ret
    exact ⟨rfl, HU1.out.trans hu2⟩

end Go.Proofs.Ytcbngjlgcgcljaa
