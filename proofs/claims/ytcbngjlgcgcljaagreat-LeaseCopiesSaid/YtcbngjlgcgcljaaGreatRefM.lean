/-
  The document's lessor: Revoke, Keep.
-/
import Derived.Test.YtcbngjlgcgcljaaGreatRefJ
import Derived.Deep.RegionHeld3
namespace Go.Proofs.YtcbngjlgcgcljaaGreat
open Go.RowKit Go.Tb Go.MapKept Go.ChangeMaps Go.Lib
set_option linter.unusedVariables false

set_option maxRecDepth 100000 in
theorem rrevoke_no (F : Nat → Prop) (b : Nat) (R : RS) (id : Int) (w : World) (h : IsRef F w b R) (hlen : R.l.length ≤ 1000) (hno : ∀ r ∈ R.l, r.id ≠ id) :
    Calls Tryz.prog 18 #[.pointer (some ⟨b, 0, none⟩), .int .i64 id] w fun e w' => e = .returned (.tuple #[.slice none 0 0, .int .i64 17]) ∧ w = w' := by
  have ha := rat_no F b R id w h hlen hno
  clear h hno
  go_enter Tryz.func18, Tryz.ntmps18
  go_wp2_with (go_at_call 38; (with_reducible refine ha.mono ?_); rintro e1 w1 ⟨rfl, rfl⟩)
  go_ret2
  exact ⟨rfl, rfl⟩

theorem load_sl (W : World) (b : Nat) (a : Option Addr) (n c : Nat) (hW : W.cell? ⟨b, 2, none⟩ = some (.slice a n c)) : (Instr.loadAt 52 (.pointer (some ⟨b, 2, none⟩))).run Tryz.prog W = .ok (.slice a n c) W := by
  have hu := Tryz.underlying52
  go_simp
theorem store_sl (W : World) (b : Nat) (a a' : Option Addr) (n c n' c' : Nat) (hW : W.cell? ⟨b, 2, none⟩ = some (.slice a' n' c')) (hf : W.frozen? ⟨b, 2, none⟩ = false) : (Instr.storeAt 52 (.pointer (some ⟨b, 2, none⟩)) (.slice a n c)).run Tryz.prog W = .ok () (W.setCell ⟨b, 2, none⟩ (.slice a n c)) := by
  have hu := Tryz.underlying52
  go_simp
theorem sliceAt_sl (w : World) (x : Value) (lo hi : Option Value) (a : Option Addr) (n c : Nat) (h : (Instr.slice 52 x lo hi none).run Tryz.prog w = .ok (.slice a n c) w) : (Instr.sliceAt 52 x lo hi none).run Tryz.prog w = .ok (.slice a n c) w := by
  have he : Tryz.prog.elem 52 = 73 := by simp [Program.elem, Tryz.underlying52]
  rw [run_sliceAt_slice _ _ _ _ _ _ (by rw [he]; exact Tryz.underlying52)]
  exact h
theorem add_one (w : World) (j : Nat) (hj : j ≤ 1000) : (do eqGuard .add 3 (.tmp 34) (.const (.int .i64 1)) (.int .i64 (j : Nat)) (.int .i64 1); binOp .add 3 (.int .i64 (j : Nat)) (.int .i64 1) : Sem Value).run Tryz.prog w = .ok (.int .i64 ((j + 1 : Nat) : Int)) w := by
  have hwr : IntKind.i64.wrap ((j : Int) + 1) = (j : Int) + 1 := IntWalk.i64_in _ (by omega)
  have hj1 : ((j + 1 : Nat) : Int) = (j : Int) + 1 := by omega
  rw [hj1]
  go_simp

set_option maxRecDepth 100000 in
set_option maxHeartbeats 1000000 in
theorem rrevoke_yes (F : Nat → Prop) (b : Nat) (R : RS) (id : Int) (w : World) (h : IsRef F w b R) (hF : ∀ k, F k → k < w.heap.size) (hlen : R.l.length ≤ 1000) (hp : (R.l.map (·.id)).Pairwise (· < ·)) (j : Nat) (hj : j < R.l.length) (hid : R.l[j].id = id) :
    Calls Tryz.prog 18 #[.pointer (some ⟨b, 0, none⟩), .int .i64 id] w fun e w' => e = .returned (.tuple #[R.l[j].kv, .int .i64 0]) ∧ IsRef F w' b { R with l := R.l.take j ++ R.l.drop (j + 1) } ∧ Upd (fun k => k = b) w w' := by
  have ha := rat_yes F b R id w h hlen hp j hj hid
  obtain ⟨v, hblk, hsl, hvF⟩ := h.blk
  have H := Lib.hid h
  have HF := Lib.hid hF
  obtain ⟨bk, off, cap, rfl, hcap, hbk, -⟩ := hsl.block (by omega)
  have c2 : w.cell? ⟨b, 2, none⟩ = some (.slice (some ⟨bk, off, none⟩) R.l.length cap) := cell_of hblk 2
  have q3 := hsl.at rlenc_length j hj 3 (by decide) _ rfl
  obtain ⟨a1, n1, hs1, s1⟩ := hsl.upto (P := Tryz.prog) Tryz.underlying52 size_RLease rlenc_length j (by omega)
  have hdr : Upd (fun _ => False) w w.drew := (Upd.refl _ _).drew
  have hu1 : Upd (fun _ => False) w (w.drew.alloc (.cells #[] 73)) := hdr.alloc _
  have hown0 := own_empty (enc := rlenc) (k := 4) rlenc_length (heap_alloc w.drew (.cells #[] 73)).1 (Nat.le_refl _)
  obtain ⟨a2, n2, w2, hap1, hown1, hu2, hbl2⟩ := run_append_any (P := Tryz.prog) (t := 52) Tryz.underlying52 info_RLease rfl (by decide) rlenc_length rlenc_one hown0 (s1.1.grow hu1) (by simp) (by simp [maxLen]; omega) (by simp; omega)
  have hu2' : Upd (fun _ => False) w w2 := hu1.trans' hu2 (fun x hx e => by cases e; simp at hx)
  obtain ⟨a3, n3, s3⟩ := hsl.from_ (P := Tryz.prog) Tryz.underlying52 size_RLease rlenc_length (j + 1) (by omega)
  obtain ⟨a4, n4, w4, hap2, hown4, hu4, hbl4⟩ := run_append_any (P := Tryz.prog) (t := 52) Tryz.underlying52 info_RLease rfl (by decide) rlenc_length rlenc_one hown1 (s3.2.1.grow hu2') (Nat.le_trans hu2'.size (Nat.le_refl _)) (by simp [maxLen]; omega) (by simp; omega)
  have hu4' : Upd (fun _ => False) w w4 := hu2'.trans' hu4 (fun x hx e => by
    rcases hbl2 with q | q
    · rw [q] at e; cases e; simp at hx
    · rw [q] at e; cases e; simp at hx; omega)
  have hl1 : ([] ++ R.l.take j : List RL).length = j := by simp; omega
  have hl2 : ([] ++ R.l.take j ++ R.l.drop (j + 1) : List RL).length = R.l.length - 1 := by simp; omega
  have hfin : [] ++ R.l.take j ++ R.l.drop (j + 1) = R.l.take j ++ R.l.drop (j + 1) := by simp
  rw [hl1] at hap1 hap2
  rw [hl2] at hap2
  have hsl4 := sl_of_own rlenc_length hown4
  rw [hl2, hfin] at hsl4
  have HSL4 := Lib.hid hsl4
  have HU4 := Lib.hid hu4'
  have cb0 : w.drew.cell? ⟨b, 2, none⟩ = some (.slice (some ⟨bk, off, none⟩) R.l.length cap) := c2
  have cb1 := hu1.cell c2 (fun x => x)
  have cb2 := hu2'.cell c2 (fun x => x)
  have cb4 := hu4'.cell c2 (fun x => x)
  have fb := free_of (hu4'.heap hblk (fun x => x)) 2
  have hs3 := s3.1
  have HBLK := Lib.hid (hu4'.heap hblk (fun x => x))
  have HJ := Lib.hid (show RL.kv R.l[j] = .slice R.l[j].ka R.l[j].rows.length R.l[j].kc from rfl)
  rw [HJ.out]
  have hbS : ∀ v, (w4.setCell ⟨b, 2, none⟩ v).cell? ⟨b, 2, none⟩ = some v := fun v => by have := cell_of (heap_setCell_at HBLK.out 2 v) 2; simpa using this
  have hj1 : ((j + 1 : Nat) : Int) = (j : Int) + 1 := by omega
  rw [hj1] at hs3
  have hjb : j + 1 ≤ 1000 := by omega
  have hwr : IntKind.i64.wrap ((j : Int) + 1) = (j : Int) + 1 := IntWalk.i64_in _ (by omega)
  have hfld : ∀ w, (Instr.fieldAt 54 (.pointer (some ⟨b, 0, none⟩)) 2).run Tryz.prog w = .ok (.pointer (some ⟨b, 2, none⟩)) w := fun w => by kernel_rfl
  have hmk : (Instr.buildSlice 52 0 #[]).run Tryz.prog w.drew = .ok (.slice (some ⟨w.drew.heap.size, 0, none⟩) 0 0) (w.drew.alloc (.cells #[] 73)) := by kernel_rfl
  have hld : ∀ W : World, W.cell? ⟨b, 2, none⟩ = some (.slice (some ⟨bk, off, none⟩) R.l.length cap) → (Instr.loadAt 52 (.pointer (some ⟨b, 2, none⟩))).run Tryz.prog W = .ok (.slice (some ⟨bk, off, none⟩) R.l.length cap) W := fun W hW => load_sl W b _ _ _ hW
  have hsA : ∀ w, (Instr.sliceAt 52 (.slice (some ⟨bk, off, none⟩) R.l.length cap) none (some (.int .i64 (j : Nat))) none).run Tryz.prog w = .ok (.slice a1 j n1) w := fun w => sliceAt_sl w _ _ _ _ _ _ (hs1 w)
  have hsB : ∀ w, (Instr.sliceAt 52 (.slice (some ⟨bk, off, none⟩) R.l.length cap) (some (.int .i64 ((j + 1 : Nat) : Int))) none none).run Tryz.prog w = .ok (.slice a3 (R.l.length - (j + 1)) n3) w := fun w => sliceAt_sl w _ _ _ _ _ _ (s3.1 w)
  have hadd : ∀ w, (do eqGuard .add 3 (.tmp 34) (.const (.int .i64 1)) (.int .i64 (j : Nat)) (.int .i64 1); binOp .add 3 (.int .i64 (j : Nat)) (.int .i64 1) : Sem Value).run Tryz.prog w = .ok (.int .i64 ((j + 1 : Nat) : Int)) w := fun w => add_one w j (by omega)
  have hst : (Instr.storeAt 52 (.pointer (some ⟨b, 2, none⟩)) (.slice a4 (R.l.length - 1) n4)).run Tryz.prog w4 = .ok () (w4.setCell ⟨b, 2, none⟩ (.slice a4 (R.l.length - 1) n4)) := store_sl w4 b _ _ _ _ _ _ cb4 fb
  clear hl1 hl2 hfin hsl4 hown0 hown1 hown4 hu1 hu2 hu2' hu4 hu4' hbl2 hbl4 s1 s3 hblk hsl hvF h hid hp
  go_enter Tryz.func18, Tryz.ntmps18
  go_upto_region 5 with (go_at_call 38; (with_reducible refine ha.mono ?_); rintro e1 w1 ⟨rfl, rfl⟩)
  refine wp_region_inv2 (by kernel_rfl) [21, 22, 23, 24, 25, 26, 27, 28, 29, 30, 31, 32, 33, 34, 35, 36, 37, 38, 39] (RevJ w.drew (w.drew.alloc (.cells #[] 73)) w2 w4 (w4.setCell ⟨b, 2, none⟩ (.slice a4 (R.l.length - 1) n4)) b j (.slice (some ⟨w.drew.heap.size, 0, none⟩) 0 0) (.slice (some ⟨bk, off, none⟩) R.l.length cap) (.slice a1 j n1) (.slice a2 j n2) (.slice a3 (R.l.length - (j + 1)) n3) (.slice a4 (R.l.length - 1) n4)) (fun _ => undef) (RevF b j) (by kernel_rfl) (by kernel_rfl) ⟨rfl, rfl, rfl⟩ ?_ ?_ ?_
  · unfold RevJ
    simp [revW]
  · exact fun a0 Q hF => rev_steps _ (by kernel_rfl) a0 Q _ _ _ _ _ _ _ _ _ _ _ _ _ hF hfld hmk (hld _ cb0) (hld _ cb1) (hld _ cb2) hsA hsB hadd hap1 hap2 hst
  · intro D f wx hJ hall
    have hw : wx = w4.setCell ⟨b, 2, none⟩ (.slice a4 (R.l.length - 1) n4) := by
      obtain ⟨_, _, _, _, _, _, _, _, _, _, _, _, _, _, _, _, _, _, _, _, _, _, _, _, jw⟩ := hJ
      rw [jw]; unfold revW
      rw [if_pos (hall 19 (by decide))]
    subst hw
    clear hJ hall
    simp only [fill]
    have hu5 : Upd (fun k => k = b) w (w4.setCell ⟨b, 2, none⟩ (.slice a4 (R.l.length - 1) n4)) := Upd.setCell (p := ⟨b, 2, none⟩) (S := fun k => k = b) (HU4.out.weak _) (fun _ => rfl) _
    have HPOST := Lib.hid (show IsRef F (w4.setCell ⟨b, 2, none⟩ (.slice a4 (R.l.length - 1) n4)) b { R with l := R.l.take j ++ R.l.drop (j + 1) } from {
      blk := ⟨.slice a4 (R.l.length - 1) n4, by rw [heap_setCell_at HBLK.out 2 _]; rfl, by
        have hl : (R.l.take j ++ R.l.drop (j + 1)).length = R.l.length - 1 := by simp; omega
        exact HSL4.out.1.upd (upd_setCell (fun k => k = b) w4 ⟨b, 2, none⟩ _ rfl) (fun g hg e => by have h1 := HSL4.out.2 g hg; have h2 : b < w.heap.size := HF.out b H.out.self; simp at h1; omega), fun g hg hFg => by
          have h1 := HSL4.out.2 g hg
          have h2 := HF.out g hFg
          simp at h1
          omega⟩
      ok := fun r hr => by
        have hr' : r ∈ R.l.take j ++ R.l.drop (j + 1) := hr
        refine (H.out.ok r ?_).upd hu5 (fun k _ e => e ▸ H.out.self)
        rcases List.mem_append.1 hr' with q | q
        · exact List.mem_of_mem_take q
        · exact List.mem_of_mem_drop q
      self := H.out.self })
    have HU5 := Lib.hid hu5
    clear hu5
    go_wp2
    refine bodyPost_ret (v := .tuple #[.slice R.l[j].ka R.l[j].rows.length R.l[j].kc, .int .i64 0]) (by simp [results, Tryz.results18, go_sem]) rfl ⟨rfl, HPOST.out, HU5.out⟩

end Go.Proofs.YtcbngjlgcgcljaaGreat
