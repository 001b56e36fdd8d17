/-
  image: all that a disk shows.
-/
import Derived.Test.YteokbokgiejmpaaDiskG
namespace Go.Proofs.Yteokbokgiejmpaa
open Go.RowKit Go.Tb Go.MapKept Go.ChangeMaps
set_option linter.unusedVariables false

theorem size_calls (b mp mc : Nat) (D : DS) (I : Nat → Prop) (w : World) (h : IsDisk w b mp mc D I) :
    Calls Try.prog 24 #[.pointer (some ⟨b, 0, none⟩)] w fun e w' => e = .returned (.int .i64 D.size) ∧ w = w' := by
  have h0 : w.cell? ⟨b, 0, none⟩ = some (.int .i64 D.size) := cell_of h.blk 0
  go_enter Try.func24, Try.ntmps24
  go_wp2
  go_ret
  exact ⟨rfl, rfl⟩

/-- The first k pages, one behind the other. -/
def DS.firsts (D : DS) (k : Nat) : List UInt8 := (List.range k).flatMap fun i : Nat => D.read (i : Int)
theorem firsts_succ (D : DS) (k : Nat) : D.firsts (k + 1) = D.firsts k ++ D.read (k : Int) := by
  simp [DS.firsts, List.range_succ, List.flatMap_append]

/-- What image tells. -/
def DS.image (D : DS) : List UInt8 := if D.dead = true then [] else D.firsts D.size.toNat

theorem firsts_length (w : World) (b mp mc : Nat) (D : DS) (I : Nat → Prop) (h : IsDisk w b mp mc D I) (k : Nat) : (D.firsts k).length = k * 256 := by
  induction k with
  | zero => simp [DS.firsts]
  | succ n ih => rw [firsts_succ, List.length_append, ih, h.read_length, Nat.succ_mul]

set_option maxRecDepth 100000 in
theorem image_dead (b mp mc : Nat) (D : DS) (I : Nat → Prop) (w : World) (h : IsDisk w b mp mc D I) (hd : D.dead = true) :
    Calls Try.prog 21 #[.pointer (some ⟨b, 0, none⟩)] w fun e w' => e = .returned (.tuple #[.slice none 0 0, .bool true]) ∧ w = w' := by
  have hc : D.check 0 = 10 := by simp [DS.check, hd]
  have hr := read_no b mp mc D I 0 w h (by rw [hc]; decide)
  rw [hc] at hr
  have hs := size_calls b mp mc D I w h
  have h8 : (0 : Int) < D.size := by have := h.s1; omega
  generalize D.size = sz at *
  clear h hd hc
  go_enter Try.func21, Try.ntmps21
  go_wp2_with (go_at_call 24; refine hs.mono ?_; rintro e w1 ⟨rfl, rfl⟩)
  refine wp_loop_rounds 1 ?_
  rw [rounds_succ]
  go_wp2_with (go_at_call 17; refine hr.mono ?_; rintro e w1 ⟨rfl, rfl⟩)
  go_ret2
  exact ⟨rfl, rfl⟩

/-- How far image has come. -/
def ImageRel (b mp mc : Nat) (D : DS) (I : Nat → Prop) (w : World) (k : Nat) (v : Value) (wr : World) : Prop :=
  wr.ownsRow w.heap.size 5 1 v (D.firsts k).length ((D.firsts k).map u8v) ∧ Upd (fun _ => False) w wr

set_option maxRecDepth 100000 in
set_option maxHeartbeats 400000 in
theorem image_live (b mp mc : Nat) (D : DS) (I : Nat → Prop) (w : World) (h : IsDisk w b mp mc D I) (hd : D.dead = false) :
    Calls Try.prog 21 #[.pointer (some ⟨b, 0, none⟩)] w fun e w' => ∃ v, e = .returned (.tuple #[v, .bool false]) ∧ Bytes w' v D.image ∧ (∀ x, sliceBlock v = some x → w.heap.size ≤ x) ∧ Upd (fun _ => False) w w' := by
  have hs := size_calls b mp mc D I w h
  have h8 := h.s2
  have h9 := h.s1
  have him : D.image = D.firsts D.size.toNat := by simp [DS.image, hd]
  rw [him]
  clear him
  obtain ⟨n, hn⟩ := Int.eq_ofNat_of_zero_le (show 0 ≤ D.size by omega)
  have hck : ∀ k : Nat, k < n → D.check (k : Int) = 0 := fun k hk => by
    have h1 : ¬ ((k : Int) < 0 ∨ D.size ≤ (k : Int)) := by omega
    simp [DS.check, hd, h1]
  rw [hn] at hs h8 ⊢
  have HC := Lib.hid hck; clear hck
  have HN := Lib.hid hn; clear hn
  clear hd h9
  go_enter Try.func21, Try.ntmps21
  go_wp2_with (go_at_call 24; refine hs.mono ?_; rintro e w1 ⟨rfl, rfl⟩)
  go_loopw [4, 10] (fun v i wr => ∃ k : Nat, k ≤ n ∧ i = .int .i64 k ∧ ImageRel b mp mc D I w k v wr) (fun _ i _ => n - (intOf i).toNat)
  case atStart => exact ⟨0, Nat.zero_le _, rfl, by simpa [DS.firsts] using World.ownsRow_nil _ _ _ _, Upd.refl _ _⟩
  case round =>
    obtain ⟨k, hk, rfl, hown, hu⟩ := hrel
    by_cases hlt : k < n
    · have hk1 : (k : Int) < (n : Int) := by omega
      have hd1 := h.upd hu (fun x => x) (fun x => x) (fun x => x) (fun _ _ x => x)
      have hrd := read_ok b mp mc D I (k : Int) wr hd1 (HC.out k hlt)
      have hlen := h.read_length (k : Int)
      have hfl := firsts_length w b mp mc D I h k
      have Hl := Lib.hid hlen; clear hlen
      have Hf := Lib.hid hfl; clear hfl
      go_wp2_with (first
        | (go_at_call 17; refine hrd.mono ?_; rintro e w2 ⟨v2, rfl, hv2, hf2, hu2⟩
           obtain ⟨b2, o2, c2, rfl, hc2, hb2⟩ := hv2.shape (by rw [Hl.out]; decide)
           obtain ⟨v3, w3, hap, hown3, hg3, -⟩ := run_append_bytes (P := Try.prog) Try.underlying29 info_u8 (own_upd hown hu2) hv2 (Nat.le_trans hu.size hu2.size) (by rw [Hl.out, Hf.out]; omega))
        | (refine wpList_append hap rfl rfl rfl rfl ?_))
      go_roundw
      case rel => exact ⟨k + 1, by omega, by go_num, by rw [firsts_succ]; exact hown3, (hu.trans hu2).trans' (Upd.ofGrown hg3) (fun x hx e => absurd hx (Nat.not_lt.2 ((bytes_of_own hown).2 x e.symm)))⟩
      case measure => simp [intOf]; omega
    · obtain rfl : k = n := by omega
      go_wp2
      go_ret2
      exact ⟨_, rfl, (bytes_of_own hown).1, (bytes_of_own hown).2, hu⟩

end Go.Proofs.Yteokbokgiejmpaa
