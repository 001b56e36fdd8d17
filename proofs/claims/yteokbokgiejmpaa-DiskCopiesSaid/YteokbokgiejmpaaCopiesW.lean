/-
  DiskCopies: the walk.
-/
import Derived.Test.YteokbokgiejmpaaSyncsW
import Derived.Test.YteokbokgiejmpaaDiskJ
namespace Go.Proofs.Yteokbokgiejmpaa
open Go.RowKit Go.Tb Go.MapKept Go.ChangeMaps

/-- The disk stays while its copy is worked on. -/
def CopyStays (b mp mc b2 p2 c2 : Nat) (D : DS) (J : Nat → Prop) (w wr : World) : Prop :=
  IsDisk wr b mp mc D J ∧ (∃ D2 J2, IsDisk wr b2 p2 c2 D2 J2) ∧ Upd (fun _ => False) w wr

set_option maxRecDepth 100000 in
set_option maxHeartbeats 2000000 in
theorem copies_walk (a : Option Addr) (cap : Nat) (l : List ActV) (a' : Option Addr) (cap' : Nat) (l' : List ActV) (w : World) (hl : ActsOf w a l) (hlen : l.length ≤ 9223372036854775807) (hl' : ActsOf w a' l') (hlen' : l'.length ≤ 9223372036854775807) :
    Calls Try.prog 6 #[.slice a l.length cap, .slice a' l'.length cap'] w fun e w' => e = .returned (.bool true) ∧ Upd (fun _ => False) w w' := by
  have hnew := new_ok 16 w (by decide) (by decide)
  by_cases hlong : 60 < l.length ∨ 60 < l'.length
  · have hl3 : (60 : Int) < (l.length : Int) ∨ ((l.length : Int) ≤ (60 : Int) ∧ (60 : Int) < (l'.length : Int)) := by omega
    clear hlong
    rcases hl3 with hl3 | ⟨hl3, hl4⟩
    all_goals
      go_enter Try.func6, Try.ntmps6
      go_wp2_with (first
        | (go_at_call 10; refine hnew.mono ?_; rintro e w1 ⟨b, mp, mc, rfl, hd1, hlb, hlp, hlc, hu1⟩)
        | (go_at_call 11; (with_reducible refine (lives_calls w1).mono ?_); rintro e w2 ⟨rfl, hu2⟩)
        | (go_at_call 11; (with_reducible refine (lives_calls w2).mono ?_); rintro e w3 ⟨rfl, hu3⟩))
      go_ret
      exact ⟨rfl, (hu1.trans hu2).trans hu3⟩
  · have hl3 : (l.length : Int) ≤ (60 : Int) := by omega
    have hl4 : (l'.length : Int) ≤ (60 : Int) := by omega
    clear hlong
    go_enter Try.func6, Try.ntmps6
    go_wp2_with (first
      | (go_at_call 10; refine hnew.mono ?_; rintro e w1 ⟨b, mp, mc, rfl, hd1, hlb, hlp, hlc, hu1⟩)
      | (go_at_call 11; (with_reducible refine (lives_calls w1).mono ?_); rintro e w2 ⟨rfl, hu2⟩))
    have hstart : SomeDisk b mp mc w w2 := ⟨_, _, hd1.upd hu2 (fun x => x) (fun x => x) (fun x => x) (fun _ _ x => x), fun y hy => hy.elim, hu1.trans hu2⟩
    clear hd1 hu1 hu2 hnew
    go_loopw [38] (fun i wr => ∃ k : Nat, k ≤ l.length ∧ i = .int .i64 k ∧ SomeDisk b mp mc w wr) (fun i _ => l.length - (intOf i).toNat)
    case atStart => exact ⟨0, Nat.zero_le _, rfl, hstart⟩
    case round =>
      obtain ⟨k, hk, rfl, D, J, hd, hJ, hu⟩ := hrel
      by_cases hlt : k < l.length
      · obtain ⟨bl, ol, ha, hn, hc0, hc1, hc2, hc3⟩ := hl k hlt
        subst ha
        have c0 := hu.cell hc0 (fun x => x)
        have c1 := hu.cell hc1 (fun x => x)
        have c2 := hu.cell hc2 (fun x => x)
        have c3 := hu.cell hc3 (fun x => x)
        generalize l[k] = ac at *
        clear hc0 hc1 hc2 hc3 hl hl'
        have hub : Upd (fun _ => False) wr (wr.alloc (Obj.cells #[Value.int .i64 ac.kind, Value.int .i64 ac.page, Value.int .i64 ac.n, Value.int .u8 (ac.x.toNat : Int)] 33)) := upd_alloc _ _ _
        have hdo := do_calls b mp mc D J ac.kind ac.page ac.n ac.x _ (hd.upd hub (fun x => x) (fun x => x) (fun x => x) (fun _ _ x => x)) hn
        go_wp2_with (go_at_call 15; refine hdo.mono ?_; rintro e w6 ⟨rfl, ⟨J6, hd6, hJ6⟩, hu6⟩)
        go_roundw
        case rel => exact ⟨k + 1, by omega, by go_num, _, J6, hd6, fun y hy => (hJ6 y hy).elim (hJ y) (Nat.le_trans (hu.trans hub).size), (hu.trans hub).seq hu6 _ (fun _ _ h => h) (fun y hy e => by omega)⟩
        case measure => simp [intOf]; omega
      · obtain rfl : k = l.length := by omega
        clear hl
        obtain ⟨wo, rfl⟩ : ∃ wo : World, wo = wr := ⟨_, rfl⟩
        have hcp := copyd_calls b mp mc D J wo hd
        cases hdd : D.dead
        · have Hdd := Lib.hid hdd; clear hdd
          go_wp2_with (first
            | (go_at_call 22; refine hcp.mono ?_; rintro e w3 ⟨b2, p2, c2, rfl, hd3, hb2, hp2, hc2, hu3⟩)
            | (go_at_call 21; (with_reducible refine (image_live b mp mc D J w3 (hd.upd hu3 (fun x => x) (fun x => x) (fun x => x) (fun _ _ x => x)) Hdd.out).mono ?_); rintro e w4 ⟨v4, rfl, hv4, hf4, hu4⟩)
            | (go_at_call 20; (with_reducible refine (done_calls b mp mc D J w4 ((hd.upd hu3 (fun x => x) (fun x => x) (fun x => x) (fun _ _ x => x)).upd hu4 (fun x => x) (fun x => x) (fun x => x) (fun _ _ x => x))).mono ?_); rintro e w5 ⟨rfl, rfl⟩)
            | (go_at_call 21; (with_reducible refine (image_live b2 p2 c2 D J w4 (hd3.upd hu4 (fun x => x) (fun x => x) (fun x => x) (fun _ _ x => x)) Hdd.out).mono ?_); rintro e w6 ⟨v6, rfl, hv6, hf6, hu6⟩)
            | (go_at_call 18; refine (same_calls v6 v4 _ _ w6 hv6 (hv4.upd hu6 (fun _ _ x => x))).mono ?_; rintro e w9 ⟨rfl, rfl⟩; rw [beq_self_eq_true]))
          have hHb := lt_of_heap hd.blk
          have hHp := hd.pg.lt
          have hHc := hd.ch.lt
          have hHJ := hd.pg.bound
          have hlt2 : b2 < w3.heap.size ∧ p2 < w3.heap.size ∧ c2 < w3.heap.size := ⟨lt_of_heap hd3.blk, hd3.pg.lt, hd3.ch.lt⟩
          have hfar : ∀ x, x < wo.heap.size → ¬ (x = b2 ∨ x = p2 ∨ x = c2) := fun x hx e => by omega
          have hstart2 : CopyStays b mp mc b2 p2 c2 D J w w6 ∧ Bytes w6 v4 D.image := ⟨⟨((hd.upd hu3 (fun x => x) (fun x => x) (fun x => x) (fun _ _ x => x)).upd hu4 (fun x => x) (fun x => x) (fun x => x) (fun _ _ x => x)).upd hu6 (fun x => x) (fun x => x) (fun x => x) (fun _ _ x => x), ⟨D, J, (hd3.upd hu4 (fun x => x) (fun x => x) (fun x => x) (fun _ _ x => x)).upd hu6 (fun x => x) (fun x => x) (fun x => x) (fun _ _ x => x)⟩, ((hu.trans hu3).trans hu4).trans hu6⟩, hv4.upd hu6 (fun _ _ x => x)⟩
          have hf4' : ∀ x, sliceBlock v4 = some x → ¬ (x = b2 ∨ x = p2 ∨ x = c2) := fun x hx e => by have := hf4 x hx; omega
          have Hf4 := Lib.hid hf4'; clear hf4' hf4
          have Hfar := Lib.hid hfar; clear hfar
          have HHJ := Lib.hid hHJ; clear hHJ
          clear hd3 hv4 hu4 hu6 hv6 hf6 hu3 hcp hJ
          go_loopw [71] (fun i wr => ∃ k : Nat, k ≤ l'.length ∧ i = .int .i64 k ∧ CopyStays b mp mc b2 p2 c2 D J w wr ∧ Bytes wr v4 D.image) (fun i _ => l'.length - (intOf i).toNat)
          case atStart => exact ⟨0, Nat.zero_le _, rfl, hstart2⟩
          case round =>
            obtain ⟨k, hk, rfl, ⟨hdl, ⟨D2, J2, hd2⟩, hul⟩, hv⟩ := hrel
            by_cases hlt : k < l'.length
            · obtain ⟨bl, ol, ha, hn, hc0, hc1, hc2, hc3⟩ := hl' k hlt
              subst ha
              have c0 := hul.cell hc0 (fun x => x)
              have c1 := hul.cell hc1 (fun x => x)
              have c2' := hul.cell hc2 (fun x => x)
              have c3 := hul.cell hc3 (fun x => x)
              generalize l'[k] = ac at *
              clear hc0 hc1 hc2 hc3 hl'
              have hub : Upd (fun _ => False) wr (wr.alloc (Obj.cells #[Value.int .i64 ac.kind, Value.int .i64 ac.page, Value.int .i64 ac.n, Value.int .u8 (ac.x.toNat : Int)] 33)) := upd_alloc _ _ _
              have hdo := do_calls b2 p2 c2 D2 J2 ac.kind ac.page ac.n ac.x _ (hd2.upd hub (fun x => x) (fun x => x) (fun x => x) (fun _ _ x => x)) hn
              go_wp2_with (go_at_call 15; refine hdo.mono ?_; rintro e w7 ⟨rfl, ⟨J7, hd7, hJ7⟩, hu7⟩)
              go_roundw
              case rel => exact ⟨k + 1, by omega, by go_num, ⟨(hdl.upd hub (fun x => x) (fun x => x) (fun x => x) (fun _ _ x => x)).upd hu7 (Hfar.out b hHb) (Hfar.out mp hHp) (Hfar.out mc hHc) (fun x hx => Hfar.out x (HHJ.out x hx)), ⟨_, J7, hd7⟩, (hul.trans hub).seq hu7 _ (fun _ _ h => h) (fun y hy e => Hfar.out y (Nat.lt_of_lt_of_le hy hu.size) e)⟩, (hv.upd hub (fun _ _ x => x)).upd hu7 Hf4.out⟩
              case measure => simp [intOf]; omega
            · obtain rfl : k = l'.length := by omega
              clear hl'
              go_wp2_with (first
                | (go_at_call 21; refine (image_live b mp mc D J _ hdl Hdd.out).mono ?_; rintro e w8 ⟨v8, rfl, hv8, hf8, hu8⟩)
                | (go_at_call 18; refine (same_calls v8 v4 _ _ w8 hv8 (hv.upd hu8 (fun _ _ x => x))).mono ?_; rintro e w9 ⟨rfl, rfl⟩; rw [beq_self_eq_true])
                | (go_at_call 20; refine (done_calls b mp mc D J w8 (hdl.upd hu8 (fun x => x) (fun x => x) (fun x => x) (fun _ _ x => x))).mono ?_; rintro e w10 ⟨rfl, rfl⟩))
              go_ret
              exact ⟨rfl, hul.trans hu8⟩
        · have Hdd := Lib.hid hdd; clear hdd
          have hnl : ∀ wx : World, Bytes wx (.slice none 0 0) [] := fun _ => .inl ⟨rfl, rfl⟩
          have Hnl := Lib.hid hnl; clear hnl
          go_wp2_with (first
            | (go_at_call 22; refine hcp.mono ?_; rintro e w3 ⟨b2, p2, c2, rfl, hd3, hb2, hp2, hc2, hu3⟩)
            | (go_at_call 21; (with_reducible refine (image_dead b mp mc D J w3 (hd.upd hu3 (fun x => x) (fun x => x) (fun x => x) (fun _ _ x => x)) Hdd.out).mono ?_); rintro e w4 ⟨rfl, rfl⟩)
            | (go_at_call 20; (with_reducible refine (done_calls b mp mc D J w3 (hd.upd hu3 (fun x => x) (fun x => x) (fun x => x) (fun _ _ x => x))).mono ?_); rintro e w5 ⟨rfl, rfl⟩)
            | (go_at_call 21; (with_reducible refine (image_dead b2 p2 c2 D J w3 hd3 Hdd.out).mono ?_); rintro e w6 ⟨rfl, rfl⟩)
            | (go_at_call 18; refine (same_calls _ _ _ _ w3 (Hnl.out w3) (Hnl.out w3)).mono ?_; rintro e w9 ⟨rfl, rfl⟩; rw [beq_self_eq_true]))
          have hHb := lt_of_heap hd.blk
          have hHp := hd.pg.lt
          have hHc := hd.ch.lt
          have hHJ := hd.pg.bound
          have hlt2 : b2 < w3.heap.size ∧ p2 < w3.heap.size ∧ c2 < w3.heap.size := ⟨lt_of_heap hd3.blk, hd3.pg.lt, hd3.ch.lt⟩
          have hfar : ∀ x, x < wo.heap.size → ¬ (x = b2 ∨ x = p2 ∨ x = c2) := fun x hx e => by omega
          have hnil : ∀ wx : World, Bytes wx (.slice none 0 0) [] := fun _ => .inl ⟨rfl, rfl⟩
          have Hnil := Lib.hid hnil; clear hnil
          have hstart2 : CopyStays b mp mc b2 p2 c2 D J w w3 ∧ Bytes w3 (.slice none 0 0) [] := ⟨⟨hd.upd hu3 (fun x => x) (fun x => x) (fun x => x) (fun _ _ x => x), ⟨D, J, hd3⟩, hu.trans hu3⟩, Hnil.out w3⟩
          have Hfar := Lib.hid hfar; clear hfar
          have HHJ := Lib.hid hHJ; clear hHJ
          clear hd3 hu3 hcp hJ
          go_loopw [71] (fun i wr => ∃ k : Nat, k ≤ l'.length ∧ i = .int .i64 k ∧ CopyStays b mp mc b2 p2 c2 D J w wr ∧ Bytes wr (.slice none 0 0) []) (fun i _ => l'.length - (intOf i).toNat)
          case atStart => exact ⟨0, Nat.zero_le _, rfl, hstart2⟩
          case round =>
            obtain ⟨k, hk, rfl, ⟨hdl, ⟨D2, J2, hd2⟩, hul⟩, hv⟩ := hrel
            by_cases hlt : k < l'.length
            · obtain ⟨bl, ol, ha, hn, hc0, hc1, hc2, hc3⟩ := hl' k hlt
              subst ha
              have c0 := hul.cell hc0 (fun x => x)
              have c1 := hul.cell hc1 (fun x => x)
              have c2' := hul.cell hc2 (fun x => x)
              have c3 := hul.cell hc3 (fun x => x)
              generalize l'[k] = ac at *
              clear hc0 hc1 hc2 hc3 hl'
              have hub : Upd (fun _ => False) wr (wr.alloc (Obj.cells #[Value.int .i64 ac.kind, Value.int .i64 ac.page, Value.int .i64 ac.n, Value.int .u8 (ac.x.toNat : Int)] 33)) := upd_alloc _ _ _
              have hdo := do_calls b2 p2 c2 D2 J2 ac.kind ac.page ac.n ac.x _ (hd2.upd hub (fun x => x) (fun x => x) (fun x => x) (fun _ _ x => x)) hn
              go_wp2_with (go_at_call 15; refine hdo.mono ?_; rintro e w7 ⟨rfl, ⟨J7, hd7, hJ7⟩, hu7⟩)
              go_roundw
              case rel => exact ⟨k + 1, by omega, by go_num, ⟨(hdl.upd hub (fun x => x) (fun x => x) (fun x => x) (fun _ _ x => x)).upd hu7 (Hfar.out b hHb) (Hfar.out mp hHp) (Hfar.out mc hHc) (fun x hx => Hfar.out x (HHJ.out x hx)), ⟨_, J7, hd7⟩, (hul.trans hub).seq hu7 _ (fun _ _ h => h) (fun y hy e => Hfar.out y (Nat.lt_of_lt_of_le hy hu.size) e)⟩, Hnil.out _⟩
              case measure => simp [intOf]; omega
            · obtain rfl : k = l'.length := by omega
              clear hl'
              go_wp2_with (first
                | (go_at_call 21; refine (image_dead b mp mc D J _ hdl Hdd.out).mono ?_; rintro e w8 ⟨rfl, rfl⟩)
                | (go_at_call 18; refine (same_calls _ _ _ _ _ hv hv).mono ?_; rintro e w9 ⟨rfl, rfl⟩; rw [beq_self_eq_true])
                | (go_at_call 20; refine (done_calls b mp mc D J _ hdl).mono ?_; rintro e w10 ⟨rfl, rfl⟩))
              go_ret
              exact ⟨rfl, hul⟩

end Go.Proofs.Yteokbokgiejmpaa
