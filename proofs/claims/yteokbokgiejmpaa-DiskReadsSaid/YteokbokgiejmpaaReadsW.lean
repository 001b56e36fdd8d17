/-
  DiskReads: the walk.
-/
import Derived.Test.YteokbokgiejmpaaDiskI
import Derived.Test.YteokbokgiejmpaaDiskK
import Derived.Test.YteokbokgiejmpaaStaysW
namespace Go.Proofs.Yteokbokgiejmpaa
open Go.RowKit Go.Tb Go.MapKept Go.ChangeMaps
set_option linter.unusedVariables false

/-- The numbers that a law is handed. -/
def IntsOf (w : World) (a : Option Addr) (l : List Int) : Prop := ∀ i (h : i < l.length), ∃ b off, a = some ⟨b, off, none⟩ ∧ w.cell? ⟨b, off + i, none⟩ = some (.int .i64 l[i])

theorem IsDisk.grow {w w' : World} {b mp mc : Nat} {D : DS} {I : Nat → Prop} (h : IsDisk w b mp mc D I) (hu : Upd (fun _ => False) w w') : IsDisk w' b mp mc D I := h.upd hu (fun x => x) (fun x => x) (fun x => x) (fun _ _ x => x)

/-- Whatever is read: the disk stays. -/
theorem read_any (b mp mc : Nat) (D : DS) (I : Nat → Prop) (page : Int) (w : World) (h : IsDisk w b mp mc D I) :
    Calls Try.prog 17 #[.pointer (some ⟨b, 0, none⟩), .int .i64 page] w fun e w' => ∃ v x, e = .returned (.tuple #[v, .int .i64 x]) ∧ Upd (fun _ => False) w w' := by
  by_cases hc : D.check page = 0
  · refine (read_ok b mp mc D I page w h hc).mono ?_
    rintro e w' ⟨v, rfl, _, _, hu⟩
    exact ⟨v, 0, rfl, hu⟩
  · refine (read_no b mp mc D I page w h hc).mono ?_
    rintro e w' ⟨rfl, rfl⟩
    exact ⟨_, _, rfl, Upd.refl _ _⟩

/-- What image tells. -/
theorem image_any (b mp mc : Nat) (D : DS) (I : Nat → Prop) (w : World) (h : IsDisk w b mp mc D I) :
    Calls Try.prog 21 #[.pointer (some ⟨b, 0, none⟩)] w fun e w' => ∃ v, e = .returned (.tuple #[v, .bool D.dead]) ∧ Bytes w' v D.image ∧ Upd (fun _ => False) w w' := by
  cases hd : D.dead with
  | false =>
    refine (image_live b mp mc D I w h hd).mono ?_
    rintro e w' ⟨v, rfl, hv, _, hu⟩
    exact ⟨v, rfl, hv, hu⟩
  | true =>
    refine (image_dead b mp mc D I w h hd).mono ?_
    rintro e w' ⟨rfl, rfl⟩
    exact ⟨_, rfl, .inl ⟨rfl, by unfold DS.image; rw [if_pos hd]⟩, Upd.refl _ _⟩

/-- Two disks, apart. -/
structure TwoDisks (w : World) (b mp mc b2 p2 c2 : Nat) (D D2 : DS) (wr : World) : Prop where
  x : ∃ J, IsDisk wr b mp mc D J ∧ ∀ z, J z → ¬ (z = b2 ∨ z = p2 ∨ z = c2)
  y : ∃ J, IsDisk wr b2 p2 c2 D2 J ∧ ∀ z, J z → ¬ (z = b ∨ z = mp ∨ z = mc)
  i : D.In
  i2 : D2.In
  n : ¬ (b = b2 ∨ b = p2 ∨ b = c2) ∧ ¬ (mp = b2 ∨ mp = p2 ∨ mp = c2) ∧ ¬ (mc = b2 ∨ mc = p2 ∨ mc = c2)
  g : w.heap.size ≤ b ∧ w.heap.size ≤ mp ∧ w.heap.size ≤ mc
  g2 : w.heap.size ≤ b2 ∧ w.heap.size ≤ p2 ∧ w.heap.size ≤ c2
  u : Upd (fun _ => False) w wr

theorem TwoDisks.grow {w wr w' : World} {b mp mc b2 p2 c2 : Nat} {D D2 : DS} (q : TwoDisks w b mp mc b2 p2 c2 D D2 wr) (hu : Upd (fun _ => False) wr w') : TwoDisks w b mp mc b2 p2 c2 D D2 w' := by
  obtain ⟨J, h1, h2⟩ := q.x
  obtain ⟨K, k1, k2⟩ := q.y
  exact { q with x := ⟨J, h1.grow hu, h2⟩, y := ⟨K, k1.grow hu, k2⟩, u := q.u.trans hu }
theorem TwoDisks.turn {w wr : World} {b mp mc b2 p2 c2 : Nat} {D D2 : DS} (q : TwoDisks w b mp mc b2 p2 c2 D D2 wr) : TwoDisks w b2 p2 c2 b mp mc D2 D wr :=
  { x := q.y, y := q.x, i := q.i2, i2 := q.i, n := by have := q.n; omega, g := q.g2, g2 := q.g, u := q.u }
theorem TwoDisks.step {w wr w' : World} {b mp mc b2 p2 c2 : Nat} {D D2 D' : DS} {J : Nat → Prop} (q : TwoDisks w b mp mc b2 p2 c2 D D2 wr) (hJ : ∀ z, J z → ¬ (z = b2 ∨ z = p2 ∨ z = c2)) (hs : DiskStep wr w' b mp mc D' J) (hi : D'.In) : TwoDisks w b mp mc b2 p2 c2 D' D2 w' := by
  obtain ⟨K, k1, k2⟩ := q.y
  obtain ⟨⟨J', j1, j2⟩, hu⟩ := hs
  have l1 := lt_of_heap k1.blk
  have l2 := k1.pg.lt
  have l3 := k1.ch.lt
  have hn := q.n
  have hg := q.g
  exact { q with
    x := ⟨J', j1, fun z hz => (j2 z hz).elim (hJ z) (fun h => by omega)⟩
    y := ⟨K, k1.upd hu (by omega) (by omega) (by omega) k2, k2⟩
    i := hi
    u := q.u.trans' hu (fun x hx e => by omega) }
theorem TwoDisks.doX {w wr : World} {b mp mc b2 p2 c2 : Nat} {D D2 : DS} (q : TwoDisks w b mp mc b2 p2 c2 D D2 wr) (kind page n : Int) (x : UInt8) (hn : n ≤ 9223372036854775807) :
    Calls Try.prog 15 #[.pointer (some ⟨b, 0, none⟩), .agg #[.int .i64 kind, .int .i64 page, .int .i64 n, .int .u8 (x.toNat : Int)]] wr fun e w' => e = .returned (.tuple #[]) ∧ TwoDisks w b mp mc b2 p2 c2 (D.act kind page n x) D2 w' ∧ Upd (fun k => k = b ∨ k = mp ∨ k = mc) wr w' := by
  obtain ⟨J, h1, h2⟩ := q.x
  refine (do_calls b mp mc D J kind page n x wr h1 hn).mono ?_
  rintro e w' ⟨rfl, hs⟩
  exact ⟨rfl, q.step h2 hs (q.i.act kind page n x), hs.2⟩
theorem TwoDisks.doY {w wr : World} {b mp mc b2 p2 c2 : Nat} {D D2 : DS} (q : TwoDisks w b mp mc b2 p2 c2 D D2 wr) (kind page n : Int) (x : UInt8) (hn : n ≤ 9223372036854775807) :
    Calls Try.prog 15 #[.pointer (some ⟨b2, 0, none⟩), .agg #[.int .i64 kind, .int .i64 page, .int .i64 n, .int .u8 (x.toNat : Int)]] wr fun e w' => e = .returned (.tuple #[]) ∧ TwoDisks w b mp mc b2 p2 c2 D (D2.act kind page n x) w' := by
  refine (q.turn.doX kind page n x hn).mono ?_
  rintro e w' ⟨rfl, hs, _⟩
  exact ⟨rfl, hs.turn⟩
theorem TwoDisks.readY {w wr : World} {b mp mc b2 p2 c2 : Nat} {D D2 : DS} (q : TwoDisks w b mp mc b2 p2 c2 D D2 wr) (page : Int) :
    Calls Try.prog 17 #[.pointer (some ⟨b2, 0, none⟩), .int .i64 page] wr fun e w' => ∃ v x, e = .returned (.tuple #[v, .int .i64 x]) ∧ TwoDisks w b mp mc b2 p2 c2 D D2 w' := by
  obtain ⟨J, h1, h2⟩ := q.y
  refine (read_any b2 p2 c2 D2 J page wr h1).mono ?_
  rintro e w' ⟨v, x, rfl, hu⟩
  exact ⟨v, x, rfl, q.grow hu⟩
theorem TwoDisks.cachedY {w wr : World} {b mp mc b2 p2 c2 : Nat} {D D2 : DS} (q : TwoDisks w b mp mc b2 p2 c2 D D2 wr) :
    Calls Try.prog 23 #[.pointer (some ⟨b2, 0, none⟩)] wr fun e w' => ∃ v, e = .returned v ∧ TwoDisks w b mp mc b2 p2 c2 D D2 w' := by
  obtain ⟨J, h1, h2⟩ := q.y
  refine (cached_calls b2 p2 c2 D2 J wr h1 q.i2).mono ?_
  rintro e w' ⟨a, c, l, rfl, _, _, _, _, hu⟩
  exact ⟨_, rfl, q.grow hu⟩
theorem TwoDisks.imageX {w wr : World} {b mp mc b2 p2 c2 : Nat} {D D2 : DS} (q : TwoDisks w b mp mc b2 p2 c2 D D2 wr) :
    Calls Try.prog 21 #[.pointer (some ⟨b, 0, none⟩)] wr fun e w' => ∃ v, e = .returned (.tuple #[v, .bool D.dead]) ∧ Bytes w' v D.image ∧ TwoDisks w b mp mc b2 p2 c2 D D2 w' := by
  obtain ⟨J, h1, h2⟩ := q.x
  refine (image_any b mp mc D J wr h1).mono ?_
  rintro e w' ⟨v, rfl, hv, hu⟩
  exact ⟨v, rfl, hv, q.grow hu⟩
theorem TwoDisks.imageY {w wr : World} {b mp mc b2 p2 c2 : Nat} {D D2 : DS} (q : TwoDisks w b mp mc b2 p2 c2 D D2 wr) :
    Calls Try.prog 21 #[.pointer (some ⟨b2, 0, none⟩)] wr fun e w' => ∃ v, e = .returned (.tuple #[v, .bool D2.dead]) ∧ Bytes w' v D2.image ∧ TwoDisks w b mp mc b2 p2 c2 D D2 w' ∧ Upd (fun _ => False) wr w' := by
  obtain ⟨J, h1, h2⟩ := q.y
  refine (image_any b2 p2 c2 D2 J wr h1).mono ?_
  rintro e w' ⟨v, rfl, hv, hu⟩
  exact ⟨v, rfl, hv, q.grow hu, hu⟩
theorem TwoDisks.doneX {w wr : World} {b mp mc b2 p2 c2 : Nat} {D D2 : DS} (q : TwoDisks w b mp mc b2 p2 c2 D D2 wr) :
    Calls Try.prog 20 #[.pointer (some ⟨b, 0, none⟩)] wr fun e w' => e = .returned (.int .i64 D.done) ∧ wr = w' := by
  obtain ⟨J, h1, h2⟩ := q.x
  exact done_calls b mp mc D J wr h1
theorem TwoDisks.doneY {w wr : World} {b mp mc b2 p2 c2 : Nat} {D D2 : DS} (q : TwoDisks w b mp mc b2 p2 c2 D D2 wr) :
    Calls Try.prog 20 #[.pointer (some ⟨b2, 0, none⟩)] wr fun e w' => e = .returned (.int .i64 D2.done) ∧ wr = w' := q.turn.doneX

set_option maxRecDepth 100000 in
set_option maxHeartbeats 2000000 in
theorem reads_ok (a a' : Option Addr) (cap cap' : Nat) (l : List ActV) (l' : List Int) (w : World) (hl : ActsOf w a l) (hl' : IntsOf w a' l') (h1 : l.length ≤ 60) (h2 : l'.length ≤ 60) :
    Calls Try.prog 8 #[.slice a l.length cap, .slice a' l'.length cap'] w fun e w' => e = .returned (.bool true) ∧ Upd (fun _ => False) w w' := by
  have hnew := new_ok 16 w (by decide) (by decide)
  have hnew2 := fun w1 => new_ok 16 w1 (by decide) (by decide)
  have H := Lib.hid hl
  have H' := Lib.hid hl'
  clear hl hl'
  go_enter Try.func8, Try.ntmps8
  go_wp2_with (first
    | (go_at_call 10; (with_reducible refine hnew.mono ?_); rintro e w1 ⟨b, mp, mc, rfl, hd1, hlb, hlp, hlc, hu1⟩)
    | (go_at_call 10; (with_reducible refine (hnew2 w1).mono ?_); rintro e w2 ⟨b2, p2, c2, rfl, hd2, hlb2, hlp2, hlc2, hu2⟩)
    | (go_at_call 11; refine (lives_calls w2).mono ?_; rintro e w3 ⟨rfl, hu3⟩))
  have l1 := lt_of_heap hd1.blk
  have l2 := hd1.pg.lt
  have l3 := hd1.ch.lt
  have hs := hu1.size
  have hstart := Lib.hid (show TwoDisks w b mp mc b2 p2 c2 (DS.start 16) (DS.start 16) w3 from
    { x := ⟨_, (hd1.grow hu2).grow hu3, fun z hz => hz.elim⟩, y := ⟨_, hd2.grow hu3, fun z hz => hz.elim⟩, i := DS.In.start _, i2 := DS.In.start _, n := by omega, g := by omega, g2 := by omega, u := (hu1.trans hu2).trans hu3 })
  clear hd1 hlb hlp hlc hu1 hd2 hlb2 hlp2 hlc2 hu2 hu3 l1 l2 l3 hs hnew hnew2
  go_loopw [30] (fun i wr => ∃ (k : Nat) (D : DS), k ≤ l.length ∧ i = .int .i64 k ∧ TwoDisks w b mp mc b2 p2 c2 D D wr) (fun i _ => l.length - (intOf i).toNat)
  case atStart => exact ⟨0, _, Nat.zero_le _, rfl, hstart.out⟩
  case round =>
    clear hstart
    obtain ⟨k, D, hk, rfl, hq⟩ := hrel
    by_cases hlt : k < l.length
    · obtain ⟨bl, ol, ha, hn, hc0, hc1, hc2, hc3⟩ := H.out k hlt
      subst ha
      have c0 := hq.u.cell hc0 (fun x => x)
      have c1 := hq.u.cell hc1 (fun x => x)
      have c2' := hq.u.cell hc2 (fun x => x)
      have c3 := hq.u.cell hc3 (fun x => x)
      generalize l[k] = ac at *
      clear hc0 hc1 hc2 hc3
      have hbb : wr.heap.size ≠ b ∧ wr.heap.size ≠ mp ∧ wr.heap.size ≠ mc := by
        obtain ⟨J, h1, _⟩ := hq.x
        have := lt_of_heap h1.blk
        have := h1.pg.lt
        have := h1.ch.lt
        omega
      have hqa := hq.grow (upd_alloc (fun _ => False) wr (Obj.cells #[Value.int .i64 ac.kind, Value.int .i64 ac.page, Value.int .i64 ac.n, Value.int .u8 (ac.x.toNat : Int)] 33))
      have hbox := (heap_alloc wr (Obj.cells #[Value.int .i64 ac.kind, Value.int .i64 ac.page, Value.int .i64 ac.n, Value.int .u8 (ac.x.toNat : Int)] 33)).1
      obtain ⟨kd, pg, n, x⟩ := ac
      simp only at c0 c1 c2' c3 hn hqa hbox
      have hdx := hqa.doX kd pg n x hn
      have Hb := Lib.hid hbb
      have Hx := Lib.hid hbox
      clear hq hqa hbox hbb
      by_cases hk2 : k < l'.length
      · obtain ⟨bl', ol', ha', hi0⟩ := H'.out k hk2
        subst ha'
        generalize l'[k] = pn at *
        have Hi := Lib.hid hi0
        clear hi0
        go_wp2_with (first
          | (go_at_call 15; (with_reducible refine hdx.mono ?_); rintro e w4 ⟨rfl, q4, hu4⟩; have hbx := hu4.heap Hx.out (fun e => by have := Hb.out; omega); have e0 := cell_of hbx 0; have e1 := cell_of hbx 1; have e2 := cell_of hbx 2; have e3 := cell_of hbx 3; clear hbx hu4; have hdy := q4.doY kd pg n x hn; clear q4)
          | (go_at_call 15; (with_reducible refine hdy.mono ?_); rintro e w5 ⟨rfl, q5⟩; have hi := q5.u.cell Hi.out (fun x => x); have hrd := q5.readY pn; clear q5)
          | (go_at_call 17; (with_reducible refine hrd.mono ?_); rintro e w6 ⟨rv, rx, rfl, q6⟩; have hca := q6.cachedY; clear q6)
          | (go_at_call 23; (with_reducible refine hca.mono ?_); rintro e w7 ⟨cv, rfl, q7⟩; have Q7 := Lib.hid q7; clear q7))
        go_roundw
        case rel => exact ⟨k + 1, _, by omega, by go_num, Q7.out⟩
        case measure => simp [intOf]; omega
      · go_wp2_with (first
          | (go_at_call 15; (with_reducible refine hdx.mono ?_); rintro e w4 ⟨rfl, q4, hu4⟩; have hbx := hu4.heap Hx.out (fun e => by have := Hb.out; omega); have e0 := cell_of hbx 0; have e1 := cell_of hbx 1; have e2 := cell_of hbx 2; have e3 := cell_of hbx 3; clear hbx hu4; have hdy := q4.doY kd pg n x hn; clear q4)
          | (go_at_call 15; (with_reducible refine hdy.mono ?_); rintro e w5 ⟨rfl, q5⟩; have Q5 := Lib.hid q5; clear q5))
        go_roundw
        case rel => exact ⟨k + 1, _, by omega, by go_num, Q5.out⟩
        case measure => simp [intOf]; omega
    · have hix := hq.imageX
      clear hq
      go_wp2_with (first
        | (go_at_call 21; (with_reducible refine hix.mono ?_); rintro e w4 ⟨v4, rfl, hv4, q4⟩; have hiy := q4.imageY; clear q4)
        | (go_at_call 21; (with_reducible refine hiy.mono ?_); rintro e w5 ⟨v5, rfl, hv5, q5, hu5⟩; have hsm := same_calls v4 v5 _ _ w5 (hv4.upd hu5 (fun _ _ x => x)) hv5; rw [beq_self_eq_true] at hsm; have hdn := q5.doneX; have hdm := q5.doneY; have HU := Lib.hid q5.u; clear q5)
        | (go_at_call 18; (with_reducible refine hsm.mono ?_); rintro e w6 ⟨rfl, rfl⟩)
        | (go_at_call 20; (with_reducible refine hdn.mono ?_); rintro e w6 ⟨rfl, rfl⟩)
        | (go_at_call 20; (with_reducible refine hdm.mono ?_); rintro e w6 ⟨rfl, rfl⟩))
      go_ret
      exact ⟨rfl, HU.out⟩

theorem reads_walk (a a' : Option Addr) (cap cap' : Nat) (l : List ActV) (l' : List Int) (w : World) (hl : ActsOf w a l) (hl' : IntsOf w a' l') :
    Calls Try.prog 8 #[.slice a l.length cap, .slice a' l'.length cap'] w fun e w' => e = .returned (.bool true) ∧ Upd (fun _ => False) w w' := by
  by_cases h1 : l.length ≤ 60
  · by_cases h2 : l'.length ≤ 60
    · exact reads_ok a a' cap cap' l l' w hl hl' h1 h2
    · have hnew := new_ok 16 w (by decide) (by decide)
      have hnew2 := fun w1 => new_ok 16 w1 (by decide) (by decide)
      clear hl hl'
      go_enter Try.func8, Try.ntmps8
      go_wp2_with (first
        | (go_at_call 10; (with_reducible refine hnew.mono ?_); rintro e w1 ⟨b, mp, mc, rfl, hd1, hlb, hlp, hlc, hu1⟩)
        | (go_at_call 10; (with_reducible refine (hnew2 w1).mono ?_); rintro e w2 ⟨b2, p2, c2, rfl, hd2, hlb2, hlp2, hlc2, hu2⟩)
        | (go_at_call 11; (with_reducible refine (lives_calls w2).mono ?_); rintro e w3 ⟨rfl, hu3⟩)
        | (go_at_call 11; (with_reducible refine (lives_calls w3).mono ?_); rintro e w4 ⟨rfl, hu4⟩))
      go_ret
      exact ⟨rfl, ((hu1.trans hu2).trans hu3).trans hu4⟩
  · have hnew := new_ok 16 w (by decide) (by decide)
    have hnew2 := fun w1 => new_ok 16 w1 (by decide) (by decide)
    clear hl hl'
    go_enter Try.func8, Try.ntmps8
    go_wp2_with (first
      | (go_at_call 10; (with_reducible refine hnew.mono ?_); rintro e w1 ⟨b, mp, mc, rfl, hd1, hlb, hlp, hlc, hu1⟩)
      | (go_at_call 10; (with_reducible refine (hnew2 w1).mono ?_); rintro e w2 ⟨b2, p2, c2, rfl, hd2, hlb2, hlp2, hlc2, hu2⟩)
      | (go_at_call 11; (with_reducible refine (lives_calls w2).mono ?_); rintro e w3 ⟨rfl, hu3⟩)
      | (go_at_call 11; (with_reducible refine (lives_calls w3).mono ?_); rintro e w4 ⟨rfl, hu4⟩))
    go_ret
    exact ⟨rfl, ((hu1.trans hu2).trans hu3).trans hu4⟩

end Go.Proofs.Yteokbokgiejmpaa
