/-
  FreeDrains: the walk.
-/
import Derived.Test.YtdobijomdgepjaaFreeE
namespace Go.Proofs.Ytdobijomdgepjaa
open Go.RowKit Go.Tb Go.MapKept Go.ChangeMaps
set_option linter.unusedVariables false

def DrainRel (S : List Int) (b k : Nat) (m : Int) (w wr : World) : Prop :=
  (∀ x ∈ S.drop k, m < x) ∧ ∃ vs vh L J, IsList wr b vs vh L J ∧ L.spare = S.drop k ∧ (∀ x, J x → w.heap.size ≤ x) ∧ Upd (fun _ => False) w wr

set_option maxRecDepth 100000 in
set_option maxHeartbeats 1000000 in
theorem drains_walk (a : Option Addr) (cap : Nat) (l : List Int) (w : World) (hl : IntsOf w a l) (hlen : l.length ≤ 9223372036854775807) :
    Calls Try.prog 3 #[.slice a l.length cap] w fun e w' => e = .returned (.bool true) ∧ Upd (fun _ => False) w w' := by
  by_cases hbig : l.length ≤ 1100
  · by_cases hok : (∀ x ∈ l, 2 ≤ x ∧ x < 1024) ∧ l.Nodup
    · have hnew := fun w1 (hu : Upd (fun _ => False) w w1) => new_ok 1024 a cap l w1 (fun i hi => by obtain ⟨b, off, h1, h2⟩ := hl i hi; exact ⟨b, off, h1, hu.cell h2 (fun x => x)⟩) (by omega) (by decide) (by decide) hok.1 hok.2
      have Hr := Lib.hid hok.1
      clear hok hl
      go_enter Try.func3, Try.ntmps3
      go_wp2_with (first
        | (go_at_call 8; refine (lives_calls w).mono ?_; rintro e w1 ⟨rfl, hu1⟩)
        | (go_at_call 9; refine (hnew w1 hu1).mono ?_; rintro e w2 ⟨hu2, b, vs, vh, L, J, rfl, hd, hsz, hhe, hpm, hb, hJ⟩))
      obtain ⟨S, hS⟩ : ∃ S, S = L.spare := ⟨_, rfl⟩
      have hlS : S.length = l.length := by rw [hS, hpm.length_eq]
      have Hlt := Lib.hid (Nat.le_trans hu1.size hb)
      have Ss := Lib.hid (show S.Pairwise (· < ·) by rw [hS]; exact hd.ok.ss)
      have hstart := Lib.hid (show DrainRel S b 0 0 w w2 from ⟨fun x hx => by
        rw [List.drop_zero, hS, hpm.mem_iff] at hx
        have := Hr.out x hx; omega, vs, vh, L, J, hd, by rw [List.drop_zero, hS], fun x hx => Nat.le_trans hu1.size (hJ x hx), hu1.trans hu2⟩)
      clear hd hsz hhe hpm hb hJ hS hu1 hu2 hnew Hr
      go_loopw [5, 29] (fun m i wr => ∃ (k : Nat) (y : Int), k ≤ l.length ∧ i = .int .i64 k ∧ m = .int .i64 y ∧ DrainRel S b k y w wr) (fun _ i _ => l.length - (intOf i).toNat)
      case atStart => exact ⟨0, 0, Nat.zero_le _, rfl, rfl, hstart.out⟩
      case round =>
        clear hstart
        obtain ⟨k, y, hk, rfl, rfl, hm, vs, vh, L, J, hd, hsp, hJ, hu⟩ := hrel
        have htk := take_calls b vs vh L J wr hd
        clear hd
        by_cases hlt : k < l.length
        · have hx : S.drop k = S[k] :: S.drop (k + 1) := List.drop_eq_getElem_cons (by omega)
          have hmx := hm S[k] (by rw [hx]; exact .head _)
          have Hnx := Lib.hid (show ∀ z ∈ S.drop (k + 1), S[k] < z from by
            have := Ss.out.sublist (List.drop_sublist k _)
            rw [hx] at this
            exact (List.pairwise_cons.1 this).1)
          have Ht := Lib.hid (show L.take.spare = S.drop (k + 1) by unfold LS.take; rw [hsp, List.drop_drop])
          have ht : L.takes = .tuple #[.int .i64 S[k], .int .i64 0] := by unfold LS.takes; rw [hsp, hx]; rfl
          rw [ht] at htk
          generalize S[k] = x at *
          have hle : ¬ x ≤ y := by omega
          have HJ := Lib.hid hJ
          clear hm hsp hx ht hJ
          go_wp2_with (go_at_call 10; refine htk.mono ?_; rintro e w3 ⟨rfl, ⟨vs2, vh2, J2, hd2, hJ2⟩, hu2⟩)
          go_roundw
          case rel => exact ⟨k + 1, x, by omega, by go_num, rfl, Hnx.out, vs2, vh2, _, J2, hd2, Ht.out, fun z hz => (hJ2 z hz).elim (HJ.out z) (Nat.le_trans hu.size), hu.trans' hu2 (fun z hz e => by have := Hlt.out; omega)⟩
          case measure => simp [intOf]; omega
        · obtain rfl : k = l.length := by omega
          have hsn : L.spare = [] := by rw [hsp, ← hlS, List.drop_length]
          have ht : L.takes = .tuple #[.int .i64 0, .int .i64 9] := by unfold LS.takes; rw [hsn]; rfl
          have Hrm := Lib.hid (show L.take.spare.length = 0 by unfold LS.take; rw [hsn]; rfl)
          rw [ht] at htk
          clear hm hsp hsn ht hJ
          go_wp2_with (first
            | (go_at_call 10; refine htk.mono ?_; rintro e w3 ⟨rfl, ⟨vs2, vh2, J2, hd2, hJ2⟩, hu2⟩; have hroom := room_calls b vs2 vh2 _ J2 w3 hd2; rw [Hrm.out] at hroom; clear hd2)
            | (go_at_call 11; refine hroom.mono ?_; rintro e w4 ⟨rfl, rfl⟩))
          go_ret
          exact ⟨rfl, hu.trans' hu2 (fun z hz e => by have := Hlt.out; omega)⟩
    · have hnew := fun w1 (hu : Upd (fun _ => False) w w1) => new_no 1024 a cap l w1 (fun i hi => by obtain ⟨b, off, h1, h2⟩ := hl i hi; exact ⟨b, off, h1, hu.cell h2 (fun x => x)⟩) (by omega) (by decide) (by decide) hok
      have hne := newNo_ne 1024 l
      generalize newNo 1024 l = n at *
      clear hok hl
      go_enter Try.func3, Try.ntmps3
      go_wp2_with (first
        | (go_at_call 8; refine (lives_calls w).mono ?_; rintro e w1 ⟨rfl, hu1⟩)
        | (go_at_call 9; refine (hnew w1 hu1).mono ?_; rintro e w2 ⟨rfl, hu2⟩))
      go_ret
      exact ⟨rfl, hu1.trans hu2⟩
  · clear hl
    go_enter Try.func3, Try.ntmps3
    go_wp2_with (first
      | (go_at_call 8; with_reducible refine (lives_calls w).mono ?_; rintro e w1 ⟨rfl, hu1⟩)
      | (go_at_call 8; with_reducible refine (lives_calls w1).mono ?_; rintro e w2 ⟨rfl, hu2⟩))
    go_ret
    exact ⟨rfl, hu1.trans hu2⟩

end Go.Proofs.Ytdobijomdgepjaa
