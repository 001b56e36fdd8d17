/-
  DiskStays: the walk.
-/
import Derived.Test.YteokbokgiejmpaaDiskG
namespace Go.Proofs.Yteokbokgiejmpaa
open Go.RowKit Go.Tb Go.MapKept Go.ChangeMaps
set_option linter.unusedVariables false

structure ActV where
  kind : Int
  page : Int
  n : Int
  x : UInt8
instance : Inhabited ActV := ⟨⟨0, 0, 0, 0⟩⟩

/-- The cells of a slice of acts that begins at `a`. -/
def ActsOf (w : World) (a : Option Addr) (l : List ActV) : Prop :=
  ∀ i (h : i < l.length), ∃ b off, a = some ⟨b, off, none⟩ ∧ l[i].n ≤ 9223372036854775807 ∧
    w.cell? ⟨b, off + i * 4, none⟩ = some (.int .i64 l[i].kind) ∧ w.cell? ⟨b, off + i * 4 + 1, none⟩ = some (.int .i64 l[i].page) ∧ w.cell? ⟨b, off + i * 4 + 2, none⟩ = some (.int .i64 l[i].n) ∧ w.cell? ⟨b, off + i * 4 + 3, none⟩ = some (.int .u8 (l[i].x.toNat : Int))

/-- What a law's disk is, whose page is synced. -/
def StaysInv (page : Int) (x : UInt8) (D : DS) : Prop := D.size = 32 ∧ D.pages page = some (fill x) ∧ D.cache page = none

theorem burn_size (D : DS) : D.burn.size = D.size := rfl
theorem stays_act (page : Int) (x : UInt8) (D : DS) (a : ActV) (h : StaysInv page x D) (hne : ¬ (a.kind = 0 ∧ a.page = page)) : StaysInv page x (D.act a.kind a.page a.n a.x) := by
  obtain ⟨h1, h2, h3⟩ := h
  unfold DS.act
  by_cases k0 : a.kind = 0
  · have hp : page ≠ a.page := fun e => hne ⟨k0, e.symm⟩
    rw [if_pos k0]
    split
    · exact ⟨h1, h2, by simp [DS.write, DS.burn, hp, h3]⟩
    · exact ⟨h1, h2, h3⟩
  · rw [if_neg k0]
    split
    · unfold DS.synced
      split
      · exact ⟨h1, h2, h3⟩
      · exact ⟨h1, by simp [DS.sync, DS.burn, h2, h3], rfl⟩
    · split
      · exact ⟨h1, h2, h3⟩
      · split
        · exact ⟨h1, by simp [DS.crash, DS.crashPage, h2, h3], rfl⟩
        · exact ⟨h1, h2, h3⟩

theorem umod_range (page m : Int) (hm : 0 < m ∧ m < 9223372036854775807) : 0 ≤ wrap64 ((IntKind.u64.wrap page).tmod m) ∧ wrap64 ((IntKind.u64.wrap page).tmod m) < m := by
  have h1 : 0 ≤ IntKind.u64.wrap page := by rw [IntKind.wrap_u64]; omega
  rw [Int.tmod_eq_emod_of_nonneg h1]
  have h2 := Int.emod_nonneg (IntKind.u64.wrap page) (show m ≠ 0 by omega)
  have h3 := Int.emod_lt_of_pos (IntKind.u64.wrap page) hm.1
  rw [IntWalk.wrap64_in _ (by omega)]
  exact ⟨h2, h3⟩

theorem stays_crash {q : Int} {x : UInt8} {D : DS} (h0 : 0 ≤ q) (h1 : q < 32) (h : StaysInv q x D) : (D.crash []).check q = 0 ∧ (D.crash []).read q = fill x := by
  have h2 : ¬ (q < 0 ∨ D.size ≤ q) := by rw [h.1]; omega
  exact ⟨by simp [DS.check, DS.crash, h2], by simp [DS.read, DS.crash, DS.crashPage, h.2.1, h.2.2]⟩

def StaysRel (b mp mc : Nat) (page : Int) (x : UInt8) (w wr : World) : Prop :=
  ∃ D J, IsDisk wr b mp mc D J ∧ StaysInv page x D ∧ (∀ y, J y → w.heap.size ≤ y) ∧ Upd (fun _ => False) w wr

set_option maxRecDepth 100000 in
set_option maxHeartbeats 1000000 in
theorem stays_walk (page : Int) (x : UInt8) (a : Option Addr) (cap : Nat) (l : List ActV) (w : World) (hl : ActsOf w a l) (hlen : l.length ≤ 9223372036854775807) (hp1 : -9223372036854775808 ≤ page) (hp2 : page ≤ 9223372036854775807) :
    Calls Try.prog 3 #[.int .i64 page, .int .u8 (x.toNat : Int), .slice a l.length cap] w fun e w' => e = .returned (.bool true) ∧ Upd (fun _ => False) w w' := by
  have hnew := new_ok 32 w (by decide) (by decide)
  go_enter Try.func3, Try.ntmps3
  go_wp2_with (first
    | (go_at_call 10; refine hnew.mono ?_; rintro e w1 ⟨b, mp, mc, rfl, hd1, hlb, hlp, hlc, hu1⟩)
    | (go_at_call 11; refine (lives_calls w1).mono ?_; rintro e w2 ⟨rfl, hu2⟩))
  obtain ⟨hq0, hq1⟩ := umod_range page 32 (by decide)
  generalize wrap64 ((IntKind.u64.wrap page).tmod 32) = q at *
  clear hp1 hp2
  have hd2 := hd1.upd hu2 (fun x => x) (fun x => x) (fun x => x) (fun _ _ x => x)
  have hck : (DS.start 32).check q = 0 := by
    have h1 : ¬ (q < 0 ∨ (32 : Int) ≤ q) := by omega
    simp [DS.check, DS.start, h1]
  have hck' := Lib.hid hck; clear hck
  go_wp2_with (first
    | (go_at_call 13; refine (filled_calls x w2).mono ?_; rintro e w3 ⟨v3, rfl, ho3, hu3⟩)
    | (go_at_call 12; refine (write_ok b mp mc (DS.start 32) (fun _ => False) q v3 (fill x) w3 (hd2.upd hu3 (fun x => x) (fun x => x) (fun x => x) (fun _ _ x => x)) (fill_bytes ho3).1 (fill_length x) hck'.out).mono ?_; rintro e w4 ⟨rfl, ⟨J4, hd4, hJ4⟩, hu4⟩)
    | (go_at_call 14; refine (sync_ok b mp mc _ J4 w4 hd4 rfl).mono ?_; rintro e w5 ⟨rfl, hd5, hu5⟩))
  have hstart : StaysRel b mp mc q x w w5 := by
    refine ⟨_, J4, hd5, ⟨rfl, ?_, rfl⟩, fun y hy => (hJ4 y hy).elim (fun h => h.elim) (Nat.le_trans (Nat.le_trans hu1.size (Nat.le_trans hu2.size hu3.size))), ?_⟩
    · simp [DS.sync, DS.write, DS.burn]
    · exact (((hu1.trans hu2).trans hu3).seq hu4 _ (fun _ _ h => h) (fun y hy e => by omega)).seq hu5 _ (fun _ _ h => h) (fun y hy e => by omega)
  clear hd1 hd2 hd4 hd5 hJ4 ho3 hu1 hu2 hu3 hu4 hu5 hck' hnew
  go_loopw [36] (fun i wr => ∃ k : Nat, k ≤ l.length ∧ i = .int .i64 k ∧ StaysRel b mp mc q x w wr) (fun i _ => l.length - (intOf i).toNat)
  case atStart => exact ⟨0, Nat.zero_le _, rfl, hstart⟩
  case round =>
    obtain ⟨k, hk, rfl, hrel⟩ := hrel
    obtain ⟨D, J, hd, hinv, hJ, hu⟩ := hrel
    have hcr := crash_step b mp mc D J [] (.slice none 0 0) wr hd (by simp) (.inl ⟨rfl, rfl⟩)
    obtain ⟨hck6, hrd⟩ := stays_crash hq0 hq1 hinv
    have Hck := Lib.hid hck6; clear hck6
    have Hrd := Lib.hid hrd; clear hrd
    by_cases hx : k < l.length ∧ k < 100
    · obtain ⟨hlt, h100⟩ := hx
      clear hcr
      obtain ⟨bl, ol, ha, hn, hc0, hc1, hc2, hc3⟩ := hl k hlt
      subst ha
      have c0 := hu.cell hc0 (fun x => x)
      have c1 := hu.cell hc1 (fun x => x)
      have c2 := hu.cell hc2 (fun x => x)
      have c3 := hu.cell hc3 (fun x => x)
      generalize l[k] = ac at *
      have h100' : (k : Int) < (100 : Int) := by omega
      clear hc0 hc1 hc2 hc3 hl
      have hub : Upd (fun _ => False) wr (wr.alloc (Obj.cells #[Value.int .i64 ac.kind, Value.int .i64 ac.page, Value.int .i64 ac.n, Value.int .u8 (ac.x.toNat : Int)] 33)) := upd_alloc _ _ _
      have hdo := do_calls b mp mc D J ac.kind ac.page ac.n ac.x _ (hd.upd hub (fun x => x) (fun x => x) (fun x => x) (fun _ _ x => x)) hn
      have hskip : StaysRel b mp mc q x w (wr.alloc (Obj.cells #[Value.int .i64 ac.kind, Value.int .i64 ac.page, Value.int .i64 ac.n, Value.int .u8 (ac.x.toNat : Int)] 33)) :=
        ⟨D, J, hd.upd hub (fun x => x) (fun x => x) (fun x => x) (fun _ _ x => x), hinv, hJ, hu.trans hub⟩
      have hnext : ¬ (ac.kind = 0 ∧ ac.page = q) → ∀ w6, DiskStep (wr.alloc (Obj.cells #[Value.int .i64 ac.kind, Value.int .i64 ac.page, Value.int .i64 ac.n, Value.int .u8 (ac.x.toNat : Int)] 33)) w6 b mp mc (D.act ac.kind ac.page ac.n ac.x) J → StaysRel b mp mc q x w w6 := by
        rintro hne w6 ⟨⟨J6, hd6, hJ6⟩, hu6⟩
        exact ⟨_, J6, hd6, stays_act q x D ac hinv hne, fun y hy => (hJ6 y hy).elim (hJ y) (Nat.le_trans (hu.trans hub).size), (hu.trans hub).seq hu6 _ (fun _ _ h => h) (fun y hy e => by omega)⟩
      have Hn := Lib.hid hnext; clear hnext
      clear hd hinv hJ hu hub Hck Hrd
      obtain ⟨kd, pg, n, y⟩ := ac
      simp only at c0 c1 c2 c3 hdo hskip
      by_cases k0 : kd = 0
      · subst k0
        by_cases kp : pg = q
        · subst kp
          go_wp2
          go_roundw
          case rel => exact ⟨k + 1, by omega, by go_num, hskip⟩
          case measure => simp [intOf]; omega
        · have hn6 := Hn.out (fun h => kp h.2)
          have Hn6 := Lib.hid hn6; clear hn6
          go_wp2_with (go_at_call 15; refine hdo.mono ?_; rintro e w6 ⟨rfl, hs6⟩)
          go_roundw
          case rel => exact ⟨k + 1, by omega, by go_num, Hn6.out w6 hs6⟩
          case measure => simp [intOf]; omega
      · have hn6 := Hn.out (fun h => k0 h.1)
        have Hn6 := Lib.hid hn6; clear hn6
        go_wp2_with (go_at_call 15; refine hdo.mono ?_; rintro e w6 ⟨rfl, hs6⟩)
        go_roundw
        case rel => exact ⟨k + 1, by omega, by go_num, Hn6.out w6 hs6⟩
        case measure => simp [intOf]; omega
    · have hge : ¬ (k < l.length) ∨ (k < l.length ∧ 100 ≤ k) := by omega
      clear hx
      rcases hge with hge | ⟨hlt, h100⟩
      · go_wp2_with (first
          | (go_at_call 16; refine hcr.mono ?_; rintro e w6 ⟨rfl, ⟨J6, hd6, hJ6⟩, hu6⟩)
          | (go_at_call 17; refine (read_ok b mp mc _ J6 q w6 hd6 Hck.out).mono ?_; rintro e w7 ⟨v7, rfl, hv7, hf7, hu7⟩; rw [Hrd.out] at hv7)
          | (go_at_call 13; refine (filled_calls x w7).mono ?_; rintro e w8 ⟨v8, rfl, ho8, hu8⟩)
          | (go_at_call 18; refine (same_calls v7 v8 _ _ w8 (hv7.upd hu8 (fun _ _ x => x)) (fill_bytes ho8).1).mono ?_; rintro e w9 ⟨rfl, rfl⟩; rw [beq_self_eq_true]))
        go_ret
        exact ⟨rfl, (((hu.seq hu6 _ (fun _ _ h => h) (fun y hy e => by omega)).trans hu7).trans hu8)⟩
      · have h100' : (100 : Int) ≤ (k : Int) := by omega
        obtain ⟨bl, ol, ha, hn, hc0, hc1, hc2, hc3⟩ := hl k hlt
        subst ha
        have c0 := hu.cell hc0 (fun x => x)
        have c1 := hu.cell hc1 (fun x => x)
        have c2 := hu.cell hc2 (fun x => x)
        have c3 := hu.cell hc3 (fun x => x)
        generalize l[k] = ac at *
        clear hc0 hc1 hc2 hc3 hl
        have hub : Upd (fun _ => False) wr (wr.alloc (Obj.cells #[Value.int .i64 ac.kind, Value.int .i64 ac.page, Value.int .i64 ac.n, Value.int .u8 (ac.x.toNat : Int)] 33)) := upd_alloc _ _ _
        have hcr := crash_step b mp mc D J [] (.slice none 0 0) _ (hd.upd hub (fun x => x) (fun x => x) (fun x => x) (fun _ _ x => x)) (by simp) (.inl ⟨rfl, rfl⟩)
        go_wp2_with (first
          | (go_at_call 16; refine hcr.mono ?_; rintro e w6 ⟨rfl, ⟨J6, hd6, hJ6⟩, hu6⟩)
          | (go_at_call 17; refine (read_ok b mp mc _ J6 q w6 hd6 Hck.out).mono ?_; rintro e w7 ⟨v7, rfl, hv7, hf7, hu7⟩; rw [Hrd.out] at hv7)
          | (go_at_call 13; refine (filled_calls x w7).mono ?_; rintro e w8 ⟨v8, rfl, ho8, hu8⟩)
          | (go_at_call 18; refine (same_calls v7 v8 _ _ w8 (hv7.upd hu8 (fun _ _ x => x)) (fill_bytes ho8).1).mono ?_; rintro e w9 ⟨rfl, rfl⟩; rw [beq_self_eq_true]))
        go_ret
        exact ⟨rfl, ((((hu.trans hub).seq hu6 _ (fun _ _ h => h) (fun y hy e => by omega)).trans hu7).trans hu8)⟩

end Go.Proofs.Yteokbokgiejmpaa
