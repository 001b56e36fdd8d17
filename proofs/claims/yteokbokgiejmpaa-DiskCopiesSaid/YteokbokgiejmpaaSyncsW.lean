/-
  DiskSyncs: the walk.
-/
import Derived.Test.YteokbokgiejmpaaStaysW
import Derived.Test.YteokbokgiejmpaaDiskI
namespace Go.Proofs.Yteokbokgiejmpaa
open Go.RowKit Go.Tb Go.MapKept Go.ChangeMaps

/-- Some disk that a law made. -/
def SomeDisk (b mp mc : Nat) (w wr : World) : Prop :=
  ∃ D J, IsDisk wr b mp mc D J ∧ (∀ y, J y → w.heap.size ≤ y) ∧ Upd (fun _ => False) w wr

theorem crash_synced (D : DS) : (D.sync.crash []).size = D.sync.size ∧ (D.sync.crash []).dead = false ∧ ∀ k, (D.sync.crash []).read k = D.sync.read k := by
  refine ⟨rfl, rfl, fun k => ?_⟩
  simp [DS.read, DS.crash, DS.crashPage, DS.sync, DS.burn]

theorem image_synced (D : DS) (h : D.sync.dead = false) : (D.sync.crash []).image = D.sync.image := by
  obtain ⟨h1, h2, h3⟩ := crash_synced D
  unfold DS.image
  rw [h, h2, h1]
  simp only [Bool.false_eq_true, if_false, DS.firsts, h3]

set_option maxRecDepth 100000 in
set_option maxHeartbeats 1000000 in
theorem syncs_walk (a : Option Addr) (cap : Nat) (l : List ActV) (w : World) (hl : ActsOf w a l) (hlen : l.length ≤ 9223372036854775807) :
    Calls Try.prog 5 #[.slice a l.length cap] w fun e w' => e = .returned (.bool true) ∧ Upd (fun _ => False) w w' := by
  have hnew := new_ok 16 w (by decide) (by decide)
  by_cases hlong : 60 < l.length
  · have hl3 : (60 : Int) < (l.length : Int) := by omega
    clear hlong
    go_enter Try.func5, Try.ntmps5
    go_wp2_with (first
      | (go_at_call 10; refine hnew.mono ?_; rintro e w1 ⟨b, mp, mc, rfl, hd1, hlb, hlp, hlc, hu1⟩)
      | (go_at_call 11; (with_reducible refine (lives_calls w1).mono ?_); rintro e w2 ⟨rfl, hu2⟩)
      | (go_at_call 11; (with_reducible refine (lives_calls w2).mono ?_); rintro e w3 ⟨rfl, hu3⟩))
    go_ret
    exact ⟨rfl, (hu1.trans hu2).trans hu3⟩
  · have hl3 : (l.length : Int) ≤ (60 : Int) := by omega
    clear hlong
    go_enter Try.func5, Try.ntmps5
    go_wp2_with (first
      | (go_at_call 10; refine hnew.mono ?_; rintro e w1 ⟨b, mp, mc, rfl, hd1, hlb, hlp, hlc, hu1⟩)
      | (go_at_call 11; (with_reducible refine (lives_calls w1).mono ?_); rintro e w2 ⟨rfl, hu2⟩))
    have hstart : SomeDisk b mp mc w w2 := ⟨_, _, hd1.upd hu2 (fun x => x) (fun x => x) (fun x => x) (fun _ _ x => x), fun y hy => hy.elim, hu1.trans hu2⟩
    clear hd1 hu1 hu2 hnew
    go_loopw [21] (fun i wr => ∃ k : Nat, k ≤ l.length ∧ i = .int .i64 k ∧ SomeDisk b mp mc w wr) (fun i _ => l.length - (intOf i).toNat)
    case atStart => exact ⟨0, Nat.zero_le _, rfl, hstart⟩
    case round =>
      obtain ⟨k, hk, rfl, D, J, hd, hJ, hu⟩ := hrel
      by_cases hlt : k < l.length
      · obtain ⟨bl, ol, ha, hn, hc0, hc1, hc2, hc3⟩ := hl k hlt
        subst ha
        have c0 := hu.cell hc0 (fun x => x)
        have c1 := hu.cell hc1 (fun x => x)
        have c2 := hu.cell hc2 (fun x => x)
        have c3 := hu.cell hc3 (fun x => x)
        generalize l[k] = ac at *
        clear hc0 hc1 hc2 hc3 hl
        have hub : Upd (fun _ => False) wr (wr.alloc (Obj.cells #[Value.int .i64 ac.kind, Value.int .i64 ac.page, Value.int .i64 ac.n, Value.int .u8 (ac.x.toNat : Int)] 33)) := upd_alloc _ _ _
        have hdo := do_calls b mp mc D J ac.kind ac.page ac.n ac.x _ (hd.upd hub (fun x => x) (fun x => x) (fun x => x) (fun _ _ x => x)) hn
        go_wp2_with (go_at_call 15; refine hdo.mono ?_; rintro e w6 ⟨rfl, ⟨J6, hd6, hJ6⟩, hu6⟩)
        go_roundw
        case rel => exact ⟨k + 1, by omega, by go_num, _, J6, hd6, fun y hy => (hJ6 y hy).elim (hJ y) (Nat.le_trans (hu.trans hub).size), (hu.trans hub).seq hu6 _ (fun _ _ h => h) (fun y hy e => by omega)⟩
        case measure => simp [intOf]; omega
      · obtain rfl : k = l.length := by omega
        clear hl
        by_cases hdd : D.dead = true
        · have hs := sync_dead b mp mc D J wr hd hdd
          clear hdd
          go_wp2_with (go_at_call 14; refine hs.mono ?_; rintro e w3 ⟨rfl, rfl⟩)
          go_ret
          exact ⟨rfl, hu⟩
        · have hs := sync_ok b mp mc D J wr hd (by simpa using hdd)
          clear hdd
          obtain ⟨-, hcd, -⟩ := crash_synced D
          have him := image_synced D
          have Hcd := Lib.hid hcd; clear hcd
          have Him := Lib.hid him; clear him
          cases hsd : D.sync.dead
          · have Hsd := Lib.hid hsd; clear hsd
            go_wp2_with (first
              | (go_at_call 14; refine hs.mono ?_; rintro e w3 ⟨rfl, hd3, hu3⟩)
              | (go_at_call 21; (with_reducible refine (image_live b mp mc _ J w3 hd3 Hsd.out).mono ?_); rintro e w4 ⟨v4, rfl, hv4, hf4, hu4⟩)
              | (go_at_call 16; refine (crash_step b mp mc _ J [] (.slice none 0 0) w4 (hd3.upd hu4 (fun x => x) (fun x => x) (fun x => x) (fun _ _ x => x)) (by simp) (.inl ⟨rfl, rfl⟩)).mono ?_; rintro e w5 ⟨rfl, ⟨J5, hd5, hJ5⟩, hu5⟩)
              | (go_at_call 21; (with_reducible refine (image_live b mp mc _ J5 w5 hd5 Hcd.out).mono ?_); rintro e w6 ⟨v6, rfl, hv6, hf6, hu6⟩; rw [Him.out Hsd.out] at hv6)
              | (go_at_call 18; refine (same_calls v4 v6 _ _ w6 ((hv4.upd hu5 (fun x hx e => by have := hf4 x hx; have := lt_of_heap hd3.blk; have := hd3.pg.lt; have := hd3.ch.lt; omega)).upd hu6 (fun _ _ x => x)) hv6).mono ?_; rintro e w9 ⟨rfl, rfl⟩; rw [beq_self_eq_true]))
            go_ret
            exact ⟨rfl, ((((hu.seq hu3 _ (fun _ _ h => h) (fun y hy e => by omega)).trans hu4).seq hu5 _ (fun _ _ h => h) (fun y hy e => by omega)).trans hu6)⟩
          · have Hsd := Lib.hid hsd; clear hsd
            go_wp2_with (first
              | (go_at_call 14; refine hs.mono ?_; rintro e w3 ⟨rfl, hd3, hu3⟩)
              | (go_at_call 21; (with_reducible refine (image_dead b mp mc _ J w3 hd3 Hsd.out).mono ?_); rintro e w4 ⟨rfl, rfl⟩)
              | (go_at_call 16; refine (crash_step b mp mc _ J [] (.slice none 0 0) w3 hd3 (by simp) (.inl ⟨rfl, rfl⟩)).mono ?_; rintro e w5 ⟨rfl, ⟨J5, hd5, hJ5⟩, hu5⟩)
              | (go_at_call 21; (with_reducible refine (image_live b mp mc _ J5 w5 hd5 Hcd.out).mono ?_); rintro e w6 ⟨v6, rfl, hv6, hf6, hu6⟩))
            go_ret
            exact ⟨rfl, (((hu.seq hu3 _ (fun _ _ h => h) (fun y hy e => by omega)).seq hu5 _ (fun _ _ h => h) (fun y hy e => by omega)).trans hu6)⟩

end Go.Proofs.Yteokbokgiejmpaa
