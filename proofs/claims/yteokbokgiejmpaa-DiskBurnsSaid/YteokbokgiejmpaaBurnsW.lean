/-
  DiskBurns: the walk.
-/
import Derived.Test.YteokbokgiejmpaaStaysW
namespace Go.Proofs.Yteokbokgiejmpaa
open Go.RowKit Go.Tb Go.MapKept Go.ChangeMaps

/-- The cells of a slice of bools that begins at `a`. -/
def BoolsOf (w : World) (a : Option Addr) (l : List Bool) : Prop :=
  ∀ i (h : i < l.length), ∃ b off, a = some ⟨b, off, none⟩ ∧ w.cell? ⟨b, off + i, none⟩ = some (.bool l[i])

/-- The disk of n behind i acts. -/
def BurnInv (n : Nat) (i : Nat) (D : DS) : Prop := D.size = 8 ∧ D.fuse = ((n - i : Nat) : Int) ∧ D.dead = decide (n ≤ i) ∧ D.done = ((min n i : Nat) : Int)

def BurnRel (b mp mc : Nat) (n : Nat) (i : Nat) (w wr : World) : Prop :=
  ∃ D J, IsDisk wr b mp mc D J ∧ BurnInv n i D ∧ (∀ y, J y → w.heap.size ≤ y) ∧ Upd (fun _ => False) w wr

theorem burn_start (n : Nat) : BurnInv n 0 ((DS.start 8).setFuse (n : Int)) := by
  refine ⟨rfl, ?_, ?_, ?_⟩
  · simp only [DS.setFuse]; omega
  · simp [DS.setFuse, DS.start]
    rw [Bool.eq_iff_iff]; simp
  · simp [DS.setFuse, DS.start]

theorem burnInv_write {n i : Nat} {D : DS} (h : BurnInv n i D) (hn : n < 200) (hi : i < n) (l : List UInt8) : D.check 1 = 0 ∧ BurnInv n (i + 1) (D.write 1 l) := by
  obtain ⟨h1, h2, h3, h4⟩ := h
  have hd : D.dead = false := by rw [h3]; simp; omega
  refine ⟨by simp [DS.check, hd, h1], h1, ?_, ?_, ?_⟩
  · simp only [DS.write, DS.burn]; rw [h2, if_pos (by omega)]; omega
  · simp only [DS.write, DS.burn]; rw [h2, if_pos (by omega), Bool.eq_iff_iff]; simp; omega
  · simp only [DS.write, DS.burn]; rw [h4]; unfold wrap64; omega
theorem burnInv_sync {n i : Nat} {D : DS} (h : BurnInv n i D) (hn : n < 200) (hi : i < n) : D.dead = false ∧ BurnInv n (i + 1) D.sync := by
  obtain ⟨h1, h2, h3, h4⟩ := h
  have hd : D.dead = false := by rw [h3]; simp; omega
  refine ⟨hd, h1, ?_, ?_, ?_⟩
  · simp only [DS.sync, DS.burn]; rw [h2, if_pos (by omega)]; omega
  · simp only [DS.sync, DS.burn]; rw [h2, if_pos (by omega), Bool.eq_iff_iff]; simp; omega
  · simp only [DS.sync, DS.burn]; rw [h4]; unfold wrap64; omega
theorem burnInv_dead {n i : Nat} {D : DS} (h : BurnInv n i D) (hi : n ≤ i) : D.dead = true ∧ D.check 1 = 10 ∧ D.check 0 = 10 ∧ BurnInv n (i + 1) D := by
  obtain ⟨h1, h2, h3, h4⟩ := h
  have hd : D.dead = true := by rw [h3]; simp; omega
  exact ⟨hd, by simp [DS.check, hd], by simp [DS.check, hd], h1, by rw [h2]; omega, by rw [hd]; simp; omega, by rw [h4]; omega⟩

theorem burn_check1 {D : DS} (h : D.size = 8) : (D.crash []).check 1 = 0 := by
  have h1 : ¬ ((1 : Int) < 0 ∨ D.size ≤ 1) := by rw [h]; omega
  show (if false = true then (10 : Int) else if (1 : Int) < 0 ∨ D.size ≤ 1 then 2 else 0) = 0
  rw [if_neg h1]; rfl
theorem burn_check0 {n i : Nat} {D : DS} (h : BurnInv n i D) (hi : i < n) : D.check 0 = 0 := by
  have h1 : ¬ ((0 : Int) < 0 ∨ D.size ≤ 0) := by rw [h.1]; omega
  have h2 : D.dead = false := by rw [h.2.2.1]; simp; omega
  unfold DS.check
  rw [h2, if_neg h1]; rfl

set_option maxRecDepth 100000 in
set_option maxHeartbeats 1000000 in
theorem burns_walk (n : Int) (a : Option Addr) (cap : Nat) (l : List Bool) (w : World) (hl : BoolsOf w a l) (hlen : l.length ≤ 9223372036854775807) :
    Calls Try.prog 4 #[.int .i64 n, .slice a l.length cap] w fun e w' => e = .returned (.bool true) ∧ Upd (fun _ => False) w w' := by
  have hnew := new_ok 8 w (by decide) (by decide)
  by_cases hlong : 300 < l.length
  · have hl3 : (300 : Int) < (l.length : Int) := by omega
    clear hlong
    go_enter Try.func4, Try.ntmps4
    go_wp2_with (first
      | (go_at_call 10; refine hnew.mono ?_; rintro e w1 ⟨b, mp, mc, rfl, hd1, hlb, hlp, hlc, hu1⟩)
      | (go_at_call 11; (with_reducible refine (lives_calls w1).mono ?_); rintro e w2 ⟨rfl, hu2⟩)
      | (go_at_call 11; (with_reducible refine (lives_calls w2).mono ?_); rintro e w3 ⟨rfl, hu3⟩))
    go_ret
    exact ⟨rfl, (hu1.trans hu2).trans hu3⟩
  · have hl3 : (l.length : Int) ≤ (300 : Int) := by omega
    clear hlong
    go_enter Try.func4, Try.ntmps4
    go_wp2_with (first
      | (go_at_call 10; refine hnew.mono ?_; rintro e w1 ⟨b, mp, mc, rfl, hd1, hlb, hlp, hlc, hu1⟩)
      | (go_at_call 11; (with_reducible refine (lives_calls w1).mono ?_); rintro e w2 ⟨rfl, hu2⟩))
    obtain ⟨hq0, hq1⟩ := umod_range n 200 (by decide)
    generalize wrap64 ((IntKind.u64.wrap n).tmod 200) = q at *
    obtain ⟨m, rfl⟩ := Int.eq_ofNat_of_zero_le hq0
    have hd2 := hd1.upd hu2 (fun x => x) (fun x => x) (fun x => x) (fun _ _ x => x)
    go_wp2_with (go_at_call 19; refine (fuse_calls b mp mc _ (fun _ => False) (m : Int) w2 hd2 (by omega)).mono ?_; rintro e w3 ⟨rfl, hd3, hu3⟩)
    have hstart : BurnRel b mp mc m 0 w w3 := ⟨_, _, hd3, burn_start m, fun y hy => hy.elim, (hu1.trans hu2).seq hu3 _ (fun _ _ h => h) (fun y hy e => by omega)⟩
    clear hd1 hd2 hd3 hu1 hu2 hu3 hnew
    go_loopw [33] (fun i wr => ∃ k : Nat, k ≤ l.length ∧ i = .int .i64 k ∧ BurnRel b mp mc m k w wr) (fun i _ => l.length - (intOf i).toNat)
    case atStart => exact ⟨0, Nat.zero_le _, rfl, hstart⟩
    case round =>
      obtain ⟨k, hk, rfl, D, J, hd, hinv, hJ, hu⟩ := hrel
      by_cases hlt : k < l.length
      · obtain ⟨bl, ol, ha, hc0⟩ := hl k hlt
        subst ha
        have c0 := hu.cell hc0 (fun x => x)
        generalize l[k] = s at *
        clear hc0 hl
        have hnext : ∀ D' J' w6, IsDisk w6 b mp mc D' J' → BurnInv m (k + 1) D' → (∀ y, J' y → J y ∨ wr.heap.size ≤ y) → Upd (fun y => y = b ∨ y = mp ∨ y = mc) wr w6 → BurnRel b mp mc m (k + 1) w w6 := fun D' J' w6 h1 h2 h3 h4 =>
          ⟨D', J', h1, h2, fun y hy => (h3 y hy).elim (hJ y) (Nat.le_trans hu.size), hu.seq h4 _ (fun _ _ h => h) (fun y hy e => by omega)⟩
        have Hn := Lib.hid hnext; clear hnext
        by_cases hkm : k < m
        · have hkm' : decide ((k : Int) < (m : Int)) = true := by simp; omega
          cases s
          · obtain ⟨hck, hi2⟩ := burnInv_write hinv (by omega) hkm (fill 3)
            have Hck := Lib.hid hck; clear hck
            clear hinv
            go_wp2_with (first
              | (go_at_call 13; refine (filled_calls 3 wr).mono ?_; rintro e w4 ⟨v4, rfl, ho4, hu4⟩)
              | (go_at_call 12; refine (write_ok b mp mc D J 1 v4 (fill 3) w4 (hd.upd hu4 (fun x => x) (fun x => x) (fun x => x) (fun _ _ x => x)) (fill_bytes ho4).1 (fill_length 3) Hck.out).mono ?_; rintro e w5 ⟨rfl, ⟨J5, hd5, hJ5⟩, hu5⟩))
            go_roundw
            case rel => exact ⟨k + 1, by omega, by go_num, Hn.out _ J5 w5 hd5 hi2 (fun y hy => (hJ5 y hy).imp id (Nat.le_trans hu4.size)) (hu4.seq hu5 _ (fun _ _ h => h.elim) (fun _ _ h => h.elim .inl (fun h => .inr (.inr h))))⟩
            case measure => simp [intOf]; omega
          · obtain ⟨hck, hi2⟩ := burnInv_sync hinv (by omega) hkm
            have Hck := Lib.hid hck; clear hck
            clear hinv
            go_wp2_with (go_at_call 14; refine (sync_ok b mp mc D J wr hd Hck.out).mono ?_; rintro e w5 ⟨rfl, hd5, hu5⟩)
            go_roundw
            case rel => exact ⟨k + 1, by omega, by go_num, Hn.out _ J w5 hd5 hi2 (fun y hy => .inl hy) hu5⟩
            case measure => simp [intOf]; omega
        · have hkm' : decide ((k : Int) < (m : Int)) = false := by simp; omega
          obtain ⟨hdd, hck, -, hi2⟩ := burnInv_dead hinv (by omega)
          have hno := fun (v : Value) (w4 : World) (h4 : IsDisk w4 b mp mc D J) => write_no b mp mc D J 1 v w4 h4 (by rw [hck]; decide)
          rw [hck] at hno
          have Hdd := Lib.hid hdd; clear hdd
          have Hck := Lib.hid hck; clear hck
          clear hinv
          cases s
          · go_wp2_with (first
              | (go_at_call 13; refine (filled_calls 3 wr).mono ?_; rintro e w4 ⟨v4, rfl, ho4, hu4⟩)
              | (go_at_call 12; refine (hno v4 w4 (hd.upd hu4 (fun x => x) (fun x => x) (fun x => x) (fun _ _ x => x))).mono ?_; rintro e w5 ⟨rfl, rfl⟩))
            go_roundw
            case rel => exact ⟨k + 1, by omega, by go_num, Hn.out _ J w4 (hd.upd hu4 (fun x => x) (fun x => x) (fun x => x) (fun _ _ x => x)) hi2 (fun y hy => .inl hy) (hu4.weak _)⟩
            case measure => simp [intOf]; omega
          · go_wp2_with (go_at_call 14; refine (sync_dead b mp mc D J wr hd Hdd.out).mono ?_; rintro e w5 ⟨rfl, rfl⟩)
            go_roundw
            case rel => exact ⟨k + 1, by omega, by go_num, Hn.out _ J wr hd hi2 (fun y hy => .inl hy) (Upd.refl _ _)⟩
            case measure => simp [intOf]; omega
      · obtain rfl : k = l.length := by omega
        clear hl
        have hdn : D.done = min (m : Int) (l.length : Int) := by rw [hinv.2.2.2]; omega
        have hdone := done_calls b mp mc D J wr hd
        rw [hdn] at hdone
        have hcr : ∀ w4, IsDisk w4 b mp mc D J → _ := fun w4 h4 => crash_step b mp mc D J [] (.slice none 0 0) w4 h4 (by simp) (.inl ⟨rfl, rfl⟩)
        have hck2 := burn_check1 hinv.1
        have Hck2 := Lib.hid hck2; clear hck2
        clear hdn
        by_cases hdl : m ≤ l.length
        · obtain ⟨hdd, -, hck, -⟩ := burnInv_dead hinv hdl
          have hno := read_no b mp mc D J 0 wr hd (by rw [hck]; decide)
          rw [hck] at hno
          have hge : decide (m ≤ l.length) = true := by simpa using hdl
          clear hinv hdd hck hdl
          go_wp2_with (first
            | (go_at_call 20; refine hdone.mono ?_; rintro e w4 ⟨rfl, rfl⟩)
            | (go_at_call 17; refine hno.mono ?_; rintro e w5 ⟨rfl, rfl⟩)
            | (go_at_call 16; refine (hcr wr hd).mono ?_; rintro e w6 ⟨rfl, ⟨J6, hd6, hJ6⟩, hu6⟩)
            | (go_at_call 13; refine (filled_calls 4 w6).mono ?_; rintro e w7 ⟨v7, rfl, ho7, hu7⟩)
            | (go_at_call 12; refine (write_ok b mp mc _ J6 1 v7 (fill 4) w7 (hd6.upd hu7 (fun x => x) (fun x => x) (fun x => x) (fun _ _ x => x)) (fill_bytes ho7).1 (fill_length 4) Hck2.out).mono ?_; rintro e w8 ⟨rfl, ⟨J8, hd8, hJ8⟩, hu8⟩))
          go_ret
          exact ⟨rfl, (((hu.seq hu6 _ (fun _ _ h => h) (fun y hy e => by omega)).trans hu7).seq hu8 _ (fun _ _ h => h) (fun y hy e => by omega))⟩
        · have hck := burn_check0 hinv (by omega)
          have hrd := read_ok b mp mc D J 0 wr hd hck
          have hge : decide (m ≤ l.length) = false := by simpa using hdl
          clear hinv hck hdl
          go_wp2_with (first
            | (go_at_call 20; refine hdone.mono ?_; rintro e w4 ⟨rfl, rfl⟩)
            | (go_at_call 17; refine hrd.mono ?_; rintro e w5 ⟨v5, rfl, hv5, hf5, hu5⟩)
            | (go_at_call 16; refine (hcr w5 (hd.upd hu5 (fun x => x) (fun x => x) (fun x => x) (fun _ _ x => x))).mono ?_; rintro e w6 ⟨rfl, ⟨J6, hd6, hJ6⟩, hu6⟩)
            | (go_at_call 13; refine (filled_calls 4 w6).mono ?_; rintro e w7 ⟨v7, rfl, ho7, hu7⟩)
            | (go_at_call 12; refine (write_ok b mp mc _ J6 1 v7 (fill 4) w7 (hd6.upd hu7 (fun x => x) (fun x => x) (fun x => x) (fun _ _ x => x)) (fill_bytes ho7).1 (fill_length 4) Hck2.out).mono ?_; rintro e w8 ⟨rfl, ⟨J8, hd8, hJ8⟩, hu8⟩))
          go_ret
          exact ⟨rfl, ((((hu.trans hu5).seq hu6 _ (fun _ _ h => h) (fun y hy e => by omega)).trans hu7).seq hu8 _ (fun _ _ h => h) (fun y hy e => by omega))⟩

end Go.Proofs.Yteokbokgiejmpaa
