/-
  What is no disk answers; both read; a page that is none.
-/
import Derived.Test.YteokbokgiejmpaaPDiskJ
namespace Go.Proofs.Yteokbokgiejmpaa
open Go.RowKit Go.Tb Go.MapKept Go.ChangeMaps
set_option linter.unusedVariables false

theorem read_nil (page : Int) (w : World) : Calls Try.prog 17 #[.pointer none, .int .i64 page] w fun e w' => e = .returned (.tuple #[.slice none 0 0, .int .i64 1]) ∧ w = w' := by
  have hcheck := check_nil page w
  go_enter Try.func17, Try.ntmps17
  go_wp2_with (go_at_call 32; refine hcheck.mono ?_; rintro e w' ⟨rfl, rfl⟩)
  go_ret2
  exact ⟨rfl, rfl⟩
theorem sync_nil (w : World) : Calls Try.prog 14 #[.pointer none] w fun e w' => e = .returned (.int .i64 1) ∧ w = w' := by
  have hcheck := check_nil 0 w
  go_enter Try.func14, Try.ntmps14
  go_wp2_with (go_at_call 32; refine hcheck.mono ?_; rintro e w' ⟨rfl, rfl⟩)
  go_ret
  exact ⟨rfl, rfl⟩
theorem fuse_nil (n : Int) (w : World) : Calls Try.prog 19 #[.pointer none, .int .i64 n] w fun e w' => e = .returned (.tuple #[]) ∧ w = w' := by
  go_enter Try.func19, Try.ntmps19
  go_wp2
  go_returns
  exact ⟨rfl, rfl⟩
theorem crash_nil (v : Value) (w : World) : Calls Try.prog 16 #[.pointer none, v] w fun e w' => e = .returned (.tuple #[]) ∧ w = w' := by
  go_enter Try.func16, Try.ntmps16
  go_wp2
  go_returns
  exact ⟨rfl, rfl⟩
theorem size_nil (w : World) : Calls Try.prog 24 #[.pointer none] w fun e w' => e = .returned (.int .i64 0) ∧ w = w' := by
  go_enter Try.func24, Try.ntmps24
  go_wp2
  go_ret
  exact ⟨rfl, rfl⟩
theorem done_nil (w : World) : Calls Try.prog 20 #[.pointer none] w fun e w' => e = .returned (.int .i64 0) ∧ w = w' := by
  go_enter Try.func20, Try.ntmps20
  go_wp2
  go_ret
  exact ⟨rfl, rfl⟩
theorem copy_nil (w : World) : Calls Try.prog 22 #[.pointer none] w fun e w' => e = .returned (.pointer none) ∧ w = w' := by
  go_enter Try.func22, Try.ntmps22
  go_wp2
  go_ret
  exact ⟨rfl, rfl⟩

/-- Read, of both. -/
theorem rread_pair {P : Nat → Prop} {rb : Nat} {D : DS} {E : RD} {j : Nat} {w : World} (h : IsRD P w rb E) (hr : RelD D E j) (hj : j ≤ 1000) (page : Int) (hc : D.check page = 0) :
    Calls Try.prog 27 #[.pointer (some ⟨rb, 0, none⟩), .int .i64 page] w fun e w' => ∃ v, e = .returned (.tuple #[v, .int .i64 0]) ∧ Bytes w' v (D.read page) ∧ (∀ x, sliceBlock v = some x → w.heap.size ≤ x) ∧ Upd (fun _ => False) w w' := by
  have hcl := hr.cl
  have he := (hr.check page).trans hc
  obtain ⟨-, h0, h1⟩ := check_zero he
  rw [← hr.look h0 h1]
  refine (rread_ok P rb E page w h he (by omega) hr.nd).mono fun e w' ⟨g, c, he, ho, hu⟩ => ⟨_, he, (bytes_of_own ho).1, (bytes_of_own ho).2, hu⟩
theorem rread_bad {P : Nat → Prop} {rb : Nat} {D : DS} {E : RD} {j : Nat} {w : World} (h : IsRD P w rb E) (hr : RelD D E j) (page : Int) (hc : D.check page ≠ 0) :
    Calls Try.prog 27 #[.pointer (some ⟨rb, 0, none⟩), .int .i64 page] w fun e w' => e = .returned (.tuple #[.slice none 0 0, .int .i64 (D.check page)]) ∧ w = w' := by
  rw [← hr.check page] at hc ⊢
  exact rread_no P rb E page w h hc

/-- A write of n zeros. -/
theorem rwrite_any {P : Nat → Prop} {rb : Nat} {D : DS} {E : RD} {j : Nat} {w : World} (h : IsRD P w rb E) (hr : RelD D E j) (hj : j ≤ 1000) (page : Int) (a : Option Addr) (n c : Nat) (hv : Bytes w (.slice a n c) (List.replicate n 0)) :
    Calls Try.prog 26 #[.pointer (some ⟨rb, 0, none⟩), .int .i64 page, .slice a n c] w fun e w' => e = .returned (.int .i64 (if D.check page = 0 ∧ n ≠ 256 then 4 else D.check page)) ∧ RDid P rb (if D.check page = 0 ∧ n = 256 then D.write page zeros else D) (j + 1) w w' := by
  by_cases hn : n = 256
  · subst hn
    have := rwrite_pair h hr hj page a c zeros hv zeros_length
    simpa using this
  · by_cases hc : D.check page = 0
    · rw [if_pos ⟨hc, hn⟩, if_neg (fun x => hn x.2)]
      refine (rwrite_form P rb E page a n c w h ((hr.check page).trans hc) hn).mono fun e w' ⟨he, hw⟩ => ?_
      subst hw
      exact ⟨he, RDid.same h (hr.more (Nat.le_succ _))⟩
    · rw [if_neg (fun x => hc x.1), if_neg (fun x => hc x.1)]
      refine (rwrite_no P rb E page _ w h (by rw [hr.check page]; exact hc)).mono fun e w' ⟨he, hw⟩ => ?_
      subst hw
      rw [hr.check page] at he
      exact ⟨he, RDid.same h (hr.more (Nat.le_succ _))⟩
/-- The same, of the program's disk. -/
theorem write_any (b mp mc : Nat) (D : DS) (I : Nat → Prop) (page : Int) (a : Option Addr) (n c : Nat) (w : World) (h : IsDisk w b mp mc D I) (hv : Bytes w (.slice a n c) (List.replicate n 0)) :
    Calls Try.prog 12 #[.pointer (some ⟨b, 0, none⟩), .int .i64 page, .slice a n c] w fun e w' => e = .returned (.int .i64 (if D.check page = 0 ∧ n ≠ 256 then 4 else D.check page)) ∧ DiskStep w w' b mp mc (if D.check page = 0 ∧ n = 256 then D.write page zeros else D) I := by
  by_cases hn : n = 256
  · subst hn
    have := write_step b mp mc D I page _ zeros w h hv zeros_length
    simpa using this
  · by_cases hc : D.check page = 0
    · rw [if_pos ⟨hc, hn⟩, if_neg (fun x => hn x.2)]
      refine (write_form b mp mc D I page a n c w h hn hc).mono fun e w' ⟨he, hw⟩ => ?_
      subst hw
      exact ⟨he, ⟨_, h, fun x hx => .inl hx⟩, Upd.refl _ _⟩
    · rw [if_neg (fun x => hc x.1), if_neg (fun x => hc x.1)]
      refine (write_no b mp mc D I page _ w h hc).mono fun e w' ⟨he, hw⟩ => ?_
      subst hw
      exact ⟨he, ⟨_, h, fun x hx => .inl hx⟩, Upd.refl _ _⟩
/-- What n zeros are. -/
theorem bytes_zeros (w : World) (n : Nat) (hn : n < 1000) : Bytes (w.alloc (.cells (madeCells #[.int .u8 0] n) 5)) (.slice (some ⟨w.heap.size, 0, none⟩) n n) (List.replicate n 0) := by
  refine .inr ⟨w.heap.size, 0, n, by rw [List.length_replicate], by rw [List.length_replicate]; exact Nat.le_refl _, by simp, fun i hi => ?_⟩
  have hi' := hi
  rw [List.length_replicate] at hi'
  rw [cell_of (MapKept.heap_alloc w _).1, cell_made _ _ _ (by omega), List.getElem_replicate]
  rfl
theorem run_make_zeros (w : World) (n : Nat) (hn : n < 1000) : (Instr.makeSlice 29 (.int .i64 n) (.int .i64 n)).run Try.prog w = .ok (.slice (some ⟨w.heap.size, 0, none⟩) n n) (w.alloc (.cells (madeCells #[.int .u8 0] n) 5)) := by
  obtain ⟨i0, hi, hz0, hz1, hz2⟩ := info_parts info_u8
  have h := run_make (P := Try.prog) w 29 5 i0 (.int .u8 0) Try.underlying29 hi hz0 .i64 .i64 n n (by omega) (Int.le_refl _) (by rw [hz2]; omega) (by omega)
  rw [hz1, Int.toNat_natCast, Nat.mul_one] at h
  exact h

theorem pages_len {P : Nat → Prop} {w : World} {b mp mc rb : Nat} {D : DS} {E : RD} {I : Nat → Prop} {j : Nat} (h : Two P w b mp mc rb D E I j) : (∀ k : Nat, k < E.pages.length → ((D.pages k).getD zeros).length = 256) ∧ ∀ k l, D.cache k = some l → l.length = 256 :=
  ⟨fun k _ => h.dk.pg.len k, fun k l e => by have := h.dk.ch.len k; rw [e] at this; exact this⟩

end Go.Proofs.Yteokbokgiejmpaa
