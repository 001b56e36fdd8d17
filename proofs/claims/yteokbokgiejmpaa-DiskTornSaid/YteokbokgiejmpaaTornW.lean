/-
  DiskTorn: the walk.
-/
import Derived.Test.YteokbokgiejmpaaDiskK
import Derived.Test.YteokbokgiejmpaaStaysW
namespace Go.Proofs.Yteokbokgiejmpaa
open Go.RowKit Go.Tb Go.MapKept Go.ChangeMaps
set_option linter.unusedVariables false

/-- What a torn page is. -/
def torn (x y : UInt8) (n : Int) : List UInt8 := (fill y).take (clamp n).toNat ++ (fill x).drop (clamp n).toNat
theorem clamp_range (n : Int) : 0 ≤ clamp n ∧ clamp n ≤ 256 := by unfold clamp; omega
theorem torn_length (x y : UInt8) (n : Int) : (torn x y n).length = 256 := by
  have := clamp_range n
  unfold torn
  rw [List.length_append, List.length_take, List.length_drop, fill_length, fill_length]; omega
theorem torn_get (x y : UInt8) (n : Int) (i : Nat) (h : i < (torn x y n).length) : (torn x y n)[i] = if (i : Int) < clamp n then y else x := by
  have hc := clamp_range n
  have hl := h
  rw [torn_length] at hl
  have hk : ((fill y).take (clamp n).toNat).length = (clamp n).toNat := by rw [List.length_take, fill_length]; omega
  have e : (torn x y n)[i]? = some (if (i : Int) < clamp n then y else x) := by
    unfold torn
    by_cases h1 : (i : Int) < clamp n
    · rw [if_pos h1, List.getElem?_append_left (by omega), List.getElem?_take, if_pos (by omega), List.getElem?_eq_getElem (by rw [fill_length]; exact hl), fill_get]
    · rw [if_neg h1, List.getElem?_append_right (by omega), hk, List.getElem?_drop]
      have : (clamp n).toNat + (i - (clamp n).toNat) = i := by omega
      rw [this, List.getElem?_eq_getElem (by rw [fill_length]; exact hl), fill_get]
  exact (List.getElem?_eq_some_iff.1 e).2

theorem torn_read {q : Int} (hq0 : 0 ≤ q) (hq1 : q < 16) (x y : UInt8) (n : Int) :
    (((((DS.start 16).write q (fill x)).sync.write q (fill y)).crash [(q, n)]).read q = torn x y n) ∧ ((((DS.start 16).write q (fill x)).sync.write q (fill y)).crash [(q, n)]).check q = 0 ∧ (((DS.start 16).write q (fill x)).sync).check q = 0 ∧ (DS.start 16).check q = 0 ∧ ((DS.start 16).write q (fill x)).dead = false := by
  have hc := clamp_range n
  have h1 : ¬ (q < 0 ∨ (16 : Int) ≤ q) := by omega
  refine ⟨?_, ?_, ?_, ?_, ?_⟩
  · by_cases hz : 0 < clamp n
    · simp [DS.read, DS.crash, DS.crashPage, keptOf, DS.write, DS.sync, DS.burn, hz, torn]
    · have : (clamp n).toNat = 0 := by omega
      simp [DS.read, DS.crash, DS.crashPage, keptOf, DS.write, DS.sync, DS.burn, hz, torn, this]
  · simp [DS.check, DS.crash, DS.write, DS.sync, DS.burn, DS.start, h1]
  · simp [DS.check, DS.write, DS.sync, DS.burn, DS.start, h1]
  · simp [DS.check, DS.start, h1]
  · simp [DS.write, DS.burn, DS.start]

theorem bytes_at {w : World} {b off n cap : Nat} {l : List UInt8} (h : Bytes w (.slice (some ⟨b, off, none⟩) n cap) l) (i : Nat) (hi : i < l.length) : w.cell? ⟨b, off + i, none⟩ = some (.int .u8 (l[i].toNat : Int)) := by
  rcases h with ⟨h, _⟩ | ⟨b', off', cap', h, hc, hb, hl⟩
  · cases h
  · cases h; exact hl i hi

set_option maxRecDepth 100000 in
set_option maxHeartbeats 2000000 in
theorem torn_walk (page n : Int) (x y : UInt8) (w : World) :
    Calls Try.prog 7 #[.int .i64 page, .int .i64 n, .int .u8 (x.toNat : Int), .int .u8 (y.toNat : Int)] w fun e w' => e = .returned (.bool true) ∧ Upd (fun _ => False) w w' := by
  have hnew := new_ok 16 w (by decide) (by decide)
  go_enter Try.func7, Try.ntmps7
  go_wp2_with (first
    | (go_at_call 10; refine hnew.mono ?_; rintro e w1 ⟨b, mp, mc, rfl, hd1, hlb, hlp, hlc, hu1⟩)
    | (go_at_call 11; refine (lives_calls w1).mono ?_; rintro e w2 ⟨rfl, hu2⟩))
  obtain ⟨hq0, hq1⟩ := umod_range page 16 (by decide)
  generalize wrap64 ((IntKind.u64.wrap page).tmod 16) = q at *
  have hd2 := hd1.upd hu2 (fun x => x) (fun x => x) (fun x => x) (fun _ _ x => x)
  have Hr := Lib.hid (torn_read hq0 hq1 x y n)
  go_wp2_with (first
    | (go_at_call 13; with_reducible refine (filled_calls x w2).mono ?_; rintro e w3 ⟨v3, rfl, ho3, hu3⟩)
    | (go_at_call 12; with_reducible refine (write_ok b mp mc (DS.start 16) (fun _ => False) q v3 (fill x) w3 (hd2.upd hu3 (fun x => x) (fun x => x) (fun x => x) (fun _ _ x => x)) (fill_bytes ho3).1 (fill_length x) Hr.out.2.2.2.1).mono ?_; rintro e w4 ⟨rfl, ⟨J4, hd4, hJ4⟩, hu4⟩)
    | (go_at_call 14; refine (sync_ok b mp mc _ J4 w4 hd4 Hr.out.2.2.2.2).mono ?_; rintro e w5 ⟨rfl, hd5, hu5⟩)
    | (go_at_call 13; with_reducible refine (filled_calls y w5).mono ?_; rintro e w6 ⟨v6, rfl, ho6, hu6⟩)
    | (go_at_call 12; with_reducible refine (write_ok b mp mc _ J4 q v6 (fill y) w6 (hd5.upd hu6 (fun x => x) (fun x => x) (fun x => x) (fun _ _ x => x)) (fill_bytes ho6).1 (fill_length y) Hr.out.2.2.1).mono ?_; rintro e w7 ⟨rfl, ⟨J7, hd7, hJ7⟩, hu7⟩))
  have hka : KeepAt (w7.alloc (.cells #[.int .i64 q, .int .i64 n] 50)) (.slice (some ⟨w7.heap.size, 0, none⟩) 1 1) [(q, n)] := by
    have hbx := (heap_alloc w7 (.cells #[.int .i64 q, .int .i64 n] 50)).1
    refine .inr ⟨w7.heap.size, 0, 1, rfl, by simp, fun i hi => ?_⟩
    obtain rfl : i = 0 := by simp at hi; omega
    exact ⟨by rw [cell_of hbx]; rfl, by rw [cell_of hbx]; rfl⟩
  have hua := upd_alloc (fun _ => False) w7 (.cells #[.int .i64 q, .int .i64 n] 50)
  have hcr := crash_calls b mp mc _ J7 [(q, n)] _ _ (hd7.upd hua (fun x => x) (fun x => x) (fun x => x) (fun _ _ x => x)) (by simp) hka
  have hc256 := clamp_range n
  have hlen := Lib.hid (torn_length x y n)
  have hget := Lib.hid (torn_get x y n)
  go_wp2_with (first
    | (go_at_call 16; refine hcr.mono ?_; rintro e w8 ⟨rfl, ⟨J8, hd8, hJ8⟩, hu8⟩; have hrd := read_ok b mp mc _ J8 q w8 hd8 Hr.out.2.1; rw [Hr.out.1] at hrd)
    | (go_at_call 17; refine hrd.mono ?_; rintro e w9 ⟨v9, rfl, hv9, hf9, hu9⟩; have hca := cached_calls b mp mc _ J8 w9 (hd8.upd hu9 (fun x => x) (fun x => x) (fun x => x) (fun _ _ x => x)) (DS.In.crash _); obtain ⟨vb, vo, vc, hve, hvc, hvl⟩ := hv9.shape (by rw [hlen.out]; decide); rw [hlen.out] at hve hvc; subst hve)
    | (go_at_call 23; refine hca.mono ?_; rintro e w10 ⟨ca, cc, cl, rfl, hcp, hcm, hcs, hcg, hu10⟩; obtain rfl : cl = [] := List.eq_nil_iff_forall_not_mem.2 (fun z hz => by have := (hcm z).1 hz; cases this)))
  have Hb := Lib.hid (show Bytes w10 (.slice (some ⟨vb, vo, none⟩) 256 vc) (torn x y n) from hv9.upd hu10 (fun _ _ x => x))
  have Hu := Lib.hid (show Upd (fun _ => False) w w10 from ((((((((hu1.trans hu2).trans hu3).seq hu4 (fun _ => False) (fun _ _ h => h) (fun z hz e => by omega)).seq hu5 (fun _ => False) (fun _ _ h => h) (fun z hz e => by omega)).trans hu6).seq hu7 (fun _ => False) (fun _ _ h => h) (fun z hz e => by omega)).trans hua).seq hu8 (fun _ => False) (fun _ _ h => h) (fun z hz e => by omega)).trans (hu9.trans hu10))
  have Hcl := Lib.hid (show clamp n = min (max n 0) 256 from rfl)
  rw [Hcl.out] at hc256
  clear hnew hd1 hlb hlp hlc hu1 hu2 hd2 ho3 hu3 hd4 hJ4 hu4 hd5 hu5 ho6 hu6 hd7 hJ7 hu7 hka hua hcr hd8 hJ8 hu8 hrd hv9 hf9 hu9 hca hcs hcp hcm hcg hu10 hvc hvl
  generalize min (max n 0) 256 = c at *
  go_loopw [67] (fun i wr => ∃ k : Nat, k ≤ 256 ∧ i = .int .i64 k ∧ wr = w10) (fun i _ => 256 - (intOf i).toNat)
  case atStart => exact ⟨0, Nat.zero_le _, rfl, rfl⟩
  case round =>
    obtain ⟨k, hk, rfl, rfl⟩ := hrel
    by_cases hlt : k < 256
    · have hkl : k < (torn x y n).length := by rw [hlen.out]; exact hlt
      have hcell := bytes_at Hb.out k hkl
      rw [hget.out k hkl, Hcl.out] at hcell
      by_cases hkc : (k : Int) < c
      · rw [if_pos hkc] at hcell
        go_wp2
        go_roundw
        case rel => exact ⟨k + 1, by omega, by go_num, by trivial⟩
        case measure => simp [intOf]; omega
      · rw [if_neg hkc] at hcell
        go_wp2
        go_roundw
        case rel => exact ⟨k + 1, by omega, by go_num, by trivial⟩
        case measure => simp [intOf]; omega
    · go_wp2
      go_ret
      exact ⟨rfl, Hu.out⟩

end Go.Proofs.Yteokbokgiejmpaa
