/-
  DiskPlays: the walk.
-/
import Derived.Test.YteokbokgiejmpaaPDiskM
import Derived.Test.YteokbokgiejmpaaPDiskG
import Derived.Test.YteokbokgiejmpaaPDisksN
namespace Go.Proofs.Yteokbokgiejmpaa
open Go.RowKit Go.Tb Go.MapKept Go.ChangeMaps
set_option linter.unusedVariables false

theorem PSt.start {w w1 w2 w3 : World} {n b mp mc : Nat} (hd : IsDisk w1 b mp mc (DS.start n) (fun _ => False)) (hb : w.heap.size ≤ b ∧ w.heap.size ≤ mp ∧ w.heap.size ≤ mc) (hu1 : Upd (fun _ => False) w w1) (hu2 : Upd (fun _ => False) w1 w2) (hu3 : Upd (fun _ => False) w2 w3) (hr : IsRD (fun k => w2.heap.size ≤ k ∧ k < w3.heap.size) w3 w2.heap.size (RD.start n)) : PSt w n b mp mc w2.heap.size 0 w3 := by
  have hs1 := hu1.size
  have hs2 := hu2.size
  refine ⟨_, _, _, _, ⟨⟨hd.grow (hu2.trans hu3), hr, fun e => ?_, fun e => ?_, fun e => ?_, fun k hk => hk.elim⟩, hb.1, hb.2.1, hb.2.2, fun k hk => by omega, fun k hk => hk.elim, (((hu1.trans hu2).trans hu3).weak _)⟩, RelD.start n, DS.In.start _, rfl⟩
  · have := lt_of_heap hd.blk; omega
  · have := hd.pg.lt; omega
  · have := hd.ch.lt; omega

theorem synced_size (D : DS) : D.synced.size = D.size := by
  unfold DS.synced
  split <;> rfl

theorem IsRD.dead {P : Nat → Prop} {w : World} {b : Nat} {E : RD} (h : IsRD P w b E) : w.cell? ⟨b, 3, none⟩ = some (.bool E.dead) := by
  obtain ⟨pv, cv, rows, cs, h⟩ := h
  exact cell_of h.blk 3

set_option maxRecDepth 100000 in
set_option maxHeartbeats 4000000 in
theorem plays_ok (n : Nat) (a : Option Addr) (cap : Nat) (l : List ActV) (w : World) (h8 : 8 ≤ n) (h1024 : n ≤ 1024) (hl : ActsOf w a l) (hlen : l.length ≤ 9223372036854775807) :
    Calls Try.prog 9 #[.int .i64 (n : Int), .slice a l.length cap] w fun e w' => e = .returned (.bool true) ∧ Upd (fun _ => False) w w' := by
  have hnew := new_ok n w (by omega) (by omega)
  have hb1 : ¬ ((n : Int) < 8) := by omega
  have hb2 : ¬ ((1024 : Int) < (n : Int)) := by omega
  have HL := Lib.hid hl
  clear hl
  generalize hm : l.length = m at *
  have HM := Lib.hid hm
  clear hm
  go_enter Try.func9, Try.ntmps9
  go_wp2_with (first
    | (go_at_call 10; (with_reducible refine hnew.mono ?_); rintro e1 w1 ⟨b, mp, mc, rfl, hd1, hlb, hlp, hlc, hu1⟩; have HD1 := Lib.hid hd1; have HB1 := Lib.hid (And.intro hlb (And.intro hlp hlc)); have HU1 := Lib.hid hu1; clear hd1 hlb hlp hlc hu1 hnew)
    | (go_at_call 11; (with_reducible refine (lives_calls _).mono ?_); rintro e2 w2 ⟨rfl, hu2⟩; have HU2 := Lib.hid hu2; clear hu2)
    | (go_at_call 25; (with_reducible refine (rnew_calls n _ h1024).mono ?_); rintro e3 w3 ⟨rfl, hr3, hu3⟩; have HST := Lib.hid (PSt.start HD1.out HB1.out HU1.out HU2.out hu3 hr3); clear hr3 hu3))
  clear HD1 HB1 HU1 HU2
  generalize w2.heap.size = rb at *
  go_loopw [85] (fun i wr => ∃ j : Nat, j ≤ m ∧ j ≤ 60 ∧ i = .int .i64 j ∧ PSt w n b mp mc rb j wr) (fun i _ => m - (intOf i).toNat)
  case atStart => exact ⟨0, Nat.zero_le _, Nat.zero_le _, rfl, HST.out⟩
  case round =>
    clear HST
    obtain ⟨j, hj, hj60, rfl, hst⟩ := hrel
    have HST := Lib.hid hst
    clear hst
    by_cases hx : j < m ∧ j < 60
    · obtain ⟨hlt, h60⟩ := hx
      have hj6 : ¬ (60 : Int) ≤ (j : Int) := by omega
      have hjl : j < l.length := by rw [HM.out]; exact hlt
      obtain ⟨bl, ol, rfl, hnn, hc0, hc1, hc2, hc3⟩ := HL.out j hjl
      have hup : Upd (fun k => w.heap.size ≤ k) w wr := by obtain ⟨P, D, E, J, h1, -⟩ := HST.out; exact h1.up
      have hlo : ¬ w.heap.size ≤ bl := by have : bl < w.heap.size := World.block_lt_of_cell? w _ hc0; omega
      have c0 := hup.cell hc0 hlo
      have c1 := hup.cell hc1 hlo
      have c2 := hup.cell hc2 hlo
      have c3 := hup.cell hc3 hlo
      clear hc0 hc1 hc2 hc3 hup hlo h60
      generalize l[j] = ac at *
      obtain ⟨kd, pg, nn, x⟩ := ac
      simp only at c0 c1 c2 c3 hnn
      clear hjl
      have ha4 := heap_alloc wr (.cells #[.int .i64 kd, .int .i64 pg, .int .i64 nn, .int .u8 (x.toNat : Int)] 33)
      obtain ⟨P, D, E, J, hrun0, hrel, hin, hsz⟩ := HST.out
      obtain ⟨t1, t2, t3, t4, t5⟩ := hrun0.lt
      have HG := Lib.hid (show b ≠ wr.heap.size ∧ mp ≠ wr.heap.size ∧ mc ≠ wr.heap.size ∧ ¬ P wr.heap.size ∧ ¬ J wr.heap.size from ⟨by omega, by omega, by omega, fun e => by have := t4 _ e; omega, fun e => by have := t5 _ e; omega⟩)
      have HR := Lib.hid (hrun0.grow (upd_alloc (fun _ => False) wr (.cells #[.int .i64 kd, .int .i64 pg, .int .i64 nn, .int .u8 (x.toNat : Int)] 33)))
      have HREL := Lib.hid hrel
      have HIN := Lib.hid hin
      have HSZ := Lib.hid hsz
      clear HST hrun0 hrel hin hsz t1 t2 t3 t4 t5
      go_upto_region 15 with (fail)
      have e0 := cell_of ha4.1 0
      have e1 := cell_of ha4.1 1
      have e2 := cell_of ha4.1 2
      have e3 := cell_of ha4.1 3
      clear ha4 c0 c1 c2 c3
      generalize wr.alloc (.cells #[.int .i64 kd, .int .i64 pg, .int .i64 nn, .int .u8 (x.toNat : Int)] 33) = W4 at *
      generalize wr.heap.size = g at *
      have HSAME := Lib.hid (fun (W : World) (P J : Nat → Prop) (D : DS) (E : RD) (hr : Run w P W b mp mc rb D E J) (h1 : RelD D E (j + 1)) (h2 : D.In) => psame_calls P b mp mc rb D E J (j + 1) W (hr.two h1 h2) (by omega))
      have HGS := Lib.hid (show ¬ (g = b ∨ g = mp ∨ g = mc) from fun e => by rcases e with e | e | e; exact HG.out.1 e.symm; exact HG.out.2.1 e.symm; exact HG.out.2.2.1 e.symm)
      by_cases k0 : kd = 0
      · subst k0
        have hfl := filled_own x W4
        have HXX := Lib.hid (fun (W : World) => filled_own x W)
        generalize hck : D.check pg = ck at *
        have HCK := Lib.hid hck
        have hne : (ck != ck) = false := by simp
        have HI5 := Lib.hid (show (if ck = 0 then D.write pg (fill x) else D).In ∧ (if ck = 0 then D.write pg (fill x) else D).size = n from by
          by_cases h : ck = 0
          · rw [if_pos h]; exact ⟨HIN.out.write (HCK.out.trans h), HSZ.out⟩
          · rw [if_neg h]; exact ⟨HIN.out, HSZ.out⟩)
        clear hck hnn e2
        go_upto_region 21 with (go_at_call 13; (with_reducible refine hfl.mono ?_); rintro e5 w5 ⟨_, rfl, ⟨gb, gc, gcs, rfl, hg1, hg2, hg3, hby, y, hy⟩, hu5⟩)
        have HR5 := Lib.hid (HR.out.grow hu5)
        have HGB := Lib.hid (show gb ≠ b ∧ gb ≠ mp ∧ gb ≠ mc ∧ ¬ P gb ∧ ¬ J gb ∧ w.heap.size ≤ gb from by
          obtain ⟨t1, t2, t3, t4, t5⟩ := HR.out.lt
          have := HR.out.up.size
          exact ⟨by omega, by omega, by omega, fun e => by have := t4 _ e; omega, fun e => by have := t5 _ e; omega, by omega⟩)
        have HGG := Lib.hid (show gb ≠ g from fun e => by have := World.block_lt_of_cell? W4 _ e1; simp at this; omega)
        have f1 := hu5.cell e1 (fun x => x)
        have f3 := hu5.cell e3 (fun x => x)
        have hwr := write_step b mp mc D J pg _ (fill x) w5 HR5.out.m.dk hby (fill_length x)
        rw [HCK.out] at hwr
        have HG2 := Lib.hid hg2
        have HG3 := Lib.hid hg3
        clear e0 e1 e3 hfl hby hu5 hg1 hg2 hg3
        go_upto_region 22 with (go_at_call 12; (with_reducible refine hwr.mono ?_); rintro e6 w6 ⟨rfl, hs6⟩)
        obtain ⟨J6, hr6, hJ6⟩ := HR5.out.dstep hs6
        have hgs : ¬ (gb = b ∨ gb = mp ∨ gb = mc) := fun e => by rcases e with e | e | e; exact HGB.out.1 e; exact HGB.out.2.1 e; exact HGB.out.2.2.1 e
        have y6 := hs6.2.cell hy hgs
        have z6 := free_of (hs6.2.heap HG3.out hgs) 0
        have p1 := hs6.2.cell f1 HGS.out
        have p3 := hs6.2.cell f3 HGS.out
        have HR6 := Lib.hid (fun (z : Value) => hr6.own (upd_setCell (fun k => k = gb) w6 ⟨gb, 0, none⟩ z rfl) HGB.out.2.2.2.2.2 (Ne.symm HGB.out.1) (Ne.symm HGB.out.2.1) (Ne.symm HGB.out.2.2.1) (fun e => by
          rcases hJ6 _ e with q | q
          · exact HGB.out.2.2.2.2.1 q
          · have := HG2.out; omega) HGB.out.2.2.2.1)
        have HP := Lib.hid (fun (z : Value) => And.intro ((upd_setCell (fun k => k = gb) w6 ⟨gb, 0, none⟩ z rfl).cell p1 (Ne.symm HGG.out)) ((upd_setCell (fun k => k = gb) w6 ⟨gb, 0, none⟩ z rfl).cell p3 (Ne.symm HGG.out)))
        clear hs6 hr6 hJ6 hwr f1 f3 hy hgs
        go_upto_region 23 with (fail)
        clear p1 p3 y6 z6
        go_region_held3 (fun W => W.cell? ⟨g, 1, none⟩ = some (.int .i64 pg) ∧ W.cell? ⟨g, 3, none⟩ = some (.int .u8 (x.toNat : Int))) (first | exact ⟨((Upd.refl (fun _ => False) _).drew).cell (HP.out _).1 (fun x => x), ((Upd.refl (fun _ => False) _).drew).cell (HP.out _).2 (fun x => x)⟩ | exact ⟨x1, x3⟩ | exact ⟨q1, q3⟩)
          (first
          | (go_at_call 13; (with_reducible refine (HXX.out _).mono ?_); rintro e8 w8 ⟨_, rfl, ⟨g8, c8, -, rfl, -, -, -, hby8, -⟩, hu8⟩; have x1 := hu8.undrew.cell (HP.out _).1 (fun x => x); have x3 := hu8.undrew.cell (HP.out _).2 (fun x => x); have HR8 := Lib.hid ((HR6.out _).grow hu8.undrew); have hrw := rwrite_pair HR8.out.m.rd HREL.out (by omega) pg _ c8 (fill x) hby8 (fill_length x); rw [HCK.out] at hrw; clear hu8 hby8)
          | (go_at_call 26; (with_reducible refine hrw.mono ?_); rintro e9 w9 ⟨rfl, hd9⟩; have q1 := hd9.1.cell x1 HG.out.2.2.2.1; have q3 := hd9.1.cell x3 HG.out.2.2.2.1; obtain ⟨E9, hr9, hl9⟩ := HR8.out.rstep hd9; have hsm := HSAME.out _ _ _ _ _ hr9 hl9 HI5.out.1; have HR9 := Lib.hid (And.intro hr9 hl9); clear hd9 hr9 hl9 hrw))
        go_wp2_with (go_at_call 31; (with_reducible refine hsm.mono ?_); rintro e10 w10 ⟨rfl, hu10⟩; have HU10 := Lib.hid hu10; clear hu10 hsm)
        go_roundw
        case rel => exact ⟨j + 1, by omega, by omega, by go_num, _, _, _, _, HR9.out.1.grow HU10.out, HR9.out.2, HI5.out.1, HI5.out.2⟩
        case measure => simp [intOf]; omega
      · by_cases k1 : kd = 1
        · subst k1
          generalize hck : D.check pg = ck at *
          have HCK := Lib.hid hck
          have hne : (ck != ck) = false := by simp
          by_cases hc0 : ck = 0
          · subst hc0
            have hrd := read_own b mp mc D J pg W4 HR.out.m.dk hck
            have HRR := Lib.hid (fun W (hr : Run w P W b mp mc rb D E J) => rread_pair hr.m.rd HREL.out (by omega) pg hck)
            clear hck hnn e2 e3 k0
            go_upto_region 27 with (go_at_call 17; (with_reducible refine hrd.mono ?_); rintro e5 w5 ⟨_, rfl, ⟨gb, gc, gcs, rfl, hg1, hg2, hg3, hby, y, hy⟩, hu5⟩)
            have HR5 := Lib.hid (HR.out.grow hu5)
            have HGB := Lib.hid (show gb ≠ b ∧ gb ≠ mp ∧ gb ≠ mc ∧ ¬ P gb ∧ ¬ J gb ∧ w.heap.size ≤ gb from by
              obtain ⟨t1, t2, t3, t4, t5⟩ := HR.out.lt
              have := HR.out.up.size
              exact ⟨by omega, by omega, by omega, fun e => by have := t4 _ e; omega, fun e => by have := t5 _ e; omega, by omega⟩)
            have f1 := hu5.cell e1 (fun x => x)
            have HBY := Lib.hid hby
            have HG3 := Lib.hid hg3
            have hrr := HRR.out w5 HR5.out
            clear e0 e1 hrd hby hu5 hg1 hg2 hg3
            go_upto_region 28 with (go_at_call 27; (with_reducible refine hrr.mono ?_); rintro e6 w6 ⟨v6, rfl, hv6, -, hu6⟩)
            have y6 := hu6.cell hy (fun x => x)
            have z6 := free_of (hu6.heap HG3.out (fun x => x)) 0
            have hsb := same_calls _ _ _ _ w6 (HBY.out.upd hu6 (fun _ _ x => x)) hv6
            rw [beq_self_eq_true] at hsb
            have HR6 := Lib.hid (HR5.out.grow hu6)
            have hsm := fun z => HSAME.out _ _ _ _ _ (HR6.out.own (upd_setCell (fun k => k = gb) w6 ⟨gb, 0, none⟩ z rfl) HGB.out.2.2.2.2.2 (Ne.symm HGB.out.1) (Ne.symm HGB.out.2.1) (Ne.symm HGB.out.2.2.1) HGB.out.2.2.2.2.1 HGB.out.2.2.2.1) (HREL.out.more (Nat.le_succ _)) HIN.out
            clear f1 hrr hv6 hu6 hy
            go_wp2_with (first
              | (go_at_call 18; (with_reducible refine hsb.mono ?_); rintro e7 w7 ⟨rfl, rfl⟩)
              | (go_at_call 31; (with_reducible refine (hsm _).mono ?_); rintro e8 w8 ⟨rfl, hu8⟩; have HU8 := Lib.hid hu8; clear hu8 hsm))
            go_roundw
            case rel => exact ⟨j + 1, by omega, by omega, by go_num, _, _, _, _, (HR6.out.own (upd_setCell (fun k => k = gb) w6 ⟨gb, 0, none⟩ _ rfl) HGB.out.2.2.2.2.2 (Ne.symm HGB.out.1) (Ne.symm HGB.out.2.1) (Ne.symm HGB.out.2.2.1) HGB.out.2.2.2.2.1 HGB.out.2.2.2.1).grow HU8.out, HREL.out.more (Nat.le_succ _), HIN.out, HSZ.out⟩
            case measure => simp [intOf]; omega
          · have hrd := read_no b mp mc D J pg W4 HR.out.m.dk (by rw [hck]; exact hc0)
            have hrr := rread_bad HR.out.m.rd HREL.out pg (by rw [hck]; exact hc0)
            have hsm := HSAME.out _ _ _ _ _ HR.out (HREL.out.more (Nat.le_succ _)) HIN.out
            have hsb := same_calls (.slice none 0 0) (.slice none 0 0) [] [] W4 (.inl ⟨rfl, rfl⟩) (.inl ⟨rfl, rfl⟩)
            rw [beq_self_eq_true] at hsb
            rw [hck] at hrd hrr
            clear hck hnn e2 e3 k0
            go_wp2_with (first
              | (go_at_call 17; (with_reducible refine hrd.mono ?_); rintro e5 w5 ⟨rfl, rfl⟩)
              | (go_at_call 27; (with_reducible refine hrr.mono ?_); rintro e6 w6 ⟨rfl, rfl⟩)
              | (go_at_call 18; (with_reducible refine hsb.mono ?_); rintro e7 w7 ⟨rfl, rfl⟩)
              | (go_at_call 31; (with_reducible refine hsm.mono ?_); rintro e8 w8 ⟨rfl, hu8⟩; have HU8 := Lib.hid hu8; clear hu8 hsm))
            go_roundw
            case rel => exact ⟨j + 1, by omega, by omega, by go_num, _, _, _, _, HR.out.grow HU8.out, HREL.out.more (Nat.le_succ _), HIN.out, HSZ.out⟩
            case measure => simp [intOf]; omega
        · by_cases k2 : kd = 2
          · subst k2
            have hsy := sync_step b mp mc D J W4 HR.out.m.dk
            generalize hse : D.syncE = se at *
            have HSE := Lib.hid hse
            have hne : (se != se) = false := by simp
            clear hse k0 k1 e1 e2 e3 hnn
            go_wp2_with (first
              | (go_at_call 14; (with_reducible refine hsy.mono ?_); rintro e5 w5 ⟨rfl, hs5⟩; obtain ⟨J5, hr5, -⟩ := HR.out.dstep hs5; have hrs := rsync_pair hr5.m.rd HREL.out (by omega); rw [HSE.out] at hrs; have HR5 := Lib.hid hr5; clear hs5 hr5 hsy)
              | (go_at_call 28; (with_reducible refine hrs.mono ?_); rintro e6 w6 ⟨rfl, hd6⟩; obtain ⟨E6, hr6, hl6⟩ := HR5.out.rstep hd6; have hsm := HSAME.out _ _ _ _ _ hr6 hl6 HIN.out.synced; have HR6 := Lib.hid (And.intro hr6 hl6); clear hd6 hr6 hl6 hrs)
              | (go_at_call 31; (with_reducible refine hsm.mono ?_); rintro e7 w7 ⟨rfl, hu7⟩; have HU7 := Lib.hid hu7; clear hu7 hsm))
            go_roundw
            case rel => exact ⟨j + 1, by omega, by omega, by go_num, _, _, _, _, HR6.out.1.grow HU7.out, HR6.out.2, HIN.out.synced, synced_size D ▸ HSZ.out⟩
            case measure => simp [intOf]; omega
          · by_cases k3 : kd = 3
            · subst k3
              have hfu := fuse_step b mp mc D J nn W4 HR.out.m.dk hnn
              have HNN := Lib.hid hnn
              clear k0 k1 k2 e1 e3 hnn
              go_wp2_with (first
                | (go_at_call 19; (with_reducible refine hfu.mono ?_); rintro e5 w5 ⟨rfl, hs5⟩; obtain ⟨J5, hr5, -⟩ := HR.out.dstep hs5; have f2 := hs5.2.cell e2 HGS.out; have hrs := rset_pair hr5.m.rd HREL.out nn HNN.out; have HR5 := Lib.hid hr5; clear hs5 hr5 hfu)
                | (go_at_call 29; (with_reducible refine hrs.mono ?_); rintro e6 w6 ⟨rfl, hd6⟩; obtain ⟨E6, hr6, hl6⟩ := HR5.out.rstep hd6; have hsm := HSAME.out _ _ _ _ _ hr6 hl6 (HIN.out.fused nn); have HR6 := Lib.hid (And.intro hr6 hl6); clear hd6 hr6 hl6 hrs)
                | (go_at_call 31; (with_reducible refine hsm.mono ?_); rintro e7 w7 ⟨rfl, hu7⟩; have HU7 := Lib.hid hu7; clear hu7 hsm))
              go_roundw
              case rel => exact ⟨j + 1, by omega, by omega, by go_num, _, _, _, _, HR6.out.1.grow HU7.out, HR6.out.2, HIN.out.fused nn, HSZ.out⟩
              case measure => simp [intOf]; omega
            · by_cases k4 : kd = 4
              · subst k4
                go_upto_region 40 with (fail)
                generalize wrap64 ((IntKind.u64.wrap pg).tmod 1024) = q at *
                have hua := upd_alloc (fun _ => False) W4 (.cells #[.int .i64 pg, .int .i64 nn, .int .i64 q, .int .i64 nn] 50)
                have hh := heap_alloc W4 (.cells #[.int .i64 pg, .int .i64 nn, .int .i64 q, .int .i64 nn] 50)
                have hkeep : KeepAt (W4.alloc (.cells #[.int .i64 pg, .int .i64 nn, .int .i64 q, .int .i64 nn] 50)) (.slice (some ⟨W4.heap.size, 0, none⟩) 2 2) [(pg, nn), (q, nn)] := by
                  refine .inr ⟨W4.heap.size, 0, 2, rfl, by simp, fun i hi => ?_⟩
                  match i, hi with
                  | 0, _ => exact ⟨cell_of hh.1 0, cell_of hh.1 1⟩
                  | 1, _ => exact ⟨cell_of hh.1 2, cell_of hh.1 3⟩
                have HRA := Lib.hid (HR.out.grow hua)
                have HUA := Lib.hid hua
                have hcr := crash_step b mp mc D J [(pg, nn), (q, nn)] _ _ HRA.out.m.dk (by simp) hkeep
                clear hua hh hkeep k0 k1 k2 k3 e0 e3 hnn
                go_upto_region 41 with (go_at_call 16; (with_reducible refine hcr.mono ?_); rintro e5 w5 ⟨rfl, hs5⟩)
                have f1 := hs5.2.cell (HUA.out.cell e1 (fun x => x)) HGS.out
                have f2 := hs5.2.cell (HUA.out.cell e2 (fun x => x)) HGS.out
                obtain ⟨J5, hr5, -⟩ := HRA.out.dstep hs5
                have HR5 := Lib.hid hr5
                clear hs5 hr5 hcr e1 e2
                have hb6 := heap_alloc w5 (.cells #[.int .i64 pg, .int .i64 q] 3)
                have hu6 := upd_alloc (fun _ => False) w5 (.cells #[.int .i64 pg, .int .i64 q] 3)
                have hb7 := heap_alloc (w5.alloc (.cells #[.int .i64 pg, .int .i64 q] 3)) (.cells #[.int .i64 nn, .int .i64 nn] 3)
                have hu7 := upd_alloc (fun _ => False) (w5.alloc (.cells #[.int .i64 pg, .int .i64 q] 3)) (.cells #[.int .i64 nn, .int .i64 nn] 3)
                have hs6 : (w5.alloc (.cells #[.int .i64 pg, .int .i64 q] 3)).heap.size = w5.heap.size + 1 := by simp
                rw [hs6] at hb7
                have h67 := hu7.heap hb6.1 (fun x => x)
                have hl7 := lt_of_heap hb7.1
                have HR7 := Lib.hid (HR5.out.grow (hu6.trans hu7))
                have HLT := HR5.out.lt
                have hrc : Calls Try.prog 30 #[.pointer (some ⟨rb, 0, none⟩), .slice (some ⟨w5.heap.size, 0, none⟩) 2 2, .slice (some ⟨w5.heap.size + 1, 0, none⟩) 2 2] ((w5.alloc (.cells #[.int .i64 pg, .int .i64 q] 3)).alloc (.cells #[.int .i64 nn, .int .i64 nn] 3)) fun e w' => e = .returned (.tuple #[]) ∧ RDid P rb (D.crash [(pg, nn), (q, nn)]) (j + 1) ((w5.alloc (.cells #[.int .i64 pg, .int .i64 q] 3)).alloc (.cells #[.int .i64 nn, .int .i64 nn] 3)) w' := by
                  refine rcrash_pair HR7.out.m.rd HREL.out (by omega) [(pg, nn), (q, nn)] (some ⟨w5.heap.size, 0, none⟩) (some ⟨w5.heap.size + 1, 0, none⟩) 2 2 ?_ ?_ ?_ ?_ (by simp) (fun k _ => HR.out.m.dk.pg.len k) (fun k l e => by have := HR.out.m.dk.ch.len k; rw [e] at this; exact this)
                  · exact .inr ⟨_, 0, 2, rfl, by simp, lt_of_heap h67, fun i u hi => by rw [cell_of h67, Nat.zero_add]; simpa [ienc] using hi⟩
                  · exact .inr ⟨_, 0, 2, rfl, by simp, hl7, fun i u hi => by rw [cell_of hb7.1, Nat.zero_add]; simpa [ienc] using hi⟩
                  · intro k hk hp; have h1 : w5.heap.size = k := Option.some.inj hk; have := HLT.2.2.2.1 _ hp; omega
                  · intro k hk hp; have h1 : w5.heap.size + 1 = k := Option.some.inj hk; have := HLT.2.2.2.1 _ hp; omega
                have f2' := hu6.cell f2 (fun x => x)
                clear hb6 hu6 hb7 hu7 hs6 h67 hl7 HLT
                go_wp2_with (first
                  | (go_at_call 30; (with_reducible refine hrc.mono ?_); rintro e8 w8 ⟨rfl, hd8⟩; obtain ⟨E8, hr8, hl8⟩ := HR7.out.rstep hd8; have hsm := HSAME.out _ _ _ _ _ hr8 hl8 (DS.In.crash _); have HR8 := Lib.hid (And.intro hr8 hl8); clear hd8 hr8 hl8 hrc)
                  | (go_at_call 31; (with_reducible refine hsm.mono ?_); rintro e9 w9 ⟨rfl, hu9⟩; have HU9 := Lib.hid hu9; clear hu9 hsm))
                go_roundw
                case rel => exact ⟨j + 1, by omega, by omega, by go_num, _, _, _, _, HR8.out.1.grow HU9.out, HR8.out.2, DS.In.crash _, HSZ.out⟩
                case measure => simp [intOf]; omega
              · have b0 : (kd == 0) = false := by simpa using k0
                have b1 : (kd == 1) = false := by simpa using k1
                have b2 : (kd == 2) = false := by simpa using k2
                have b3 : (kd == 3) = false := by simpa using k3
                have b4 : (kd == 4) = false := by simpa using k4
                clear k0 k1 k2 k3 k4 e3 hnn
                go_upto_region 17 with (fail)
                obtain ⟨q0, q1⟩ := umod_range nn 600 (by decide)
                generalize wrap64 ((IntKind.u64.wrap nn).tmod 600) = q at *
                obtain ⟨k, rfl⟩ : ∃ k : Nat, q = (k : Int) := ⟨q.toNat, by omega⟩
                have hk : k < 1000 := by omega
                have HZ := Lib.hid (show (zeroD D pg k).In ∧ (zeroD D pg k).size = n from by
                  unfold zeroD
                  by_cases h : D.check pg = 0 ∧ k = 256
                  · rw [if_pos h]; exact ⟨HIN.out.write h.1, HSZ.out⟩
                  · rw [if_neg h]; exact ⟨HIN.out, HSZ.out⟩)
                clear q0 q1 e0 e2 b0 b1 b2 b3 b4
                refine wp_region_inv3 (by kernel_rfl) [99, 100, 101, 102, 103, 104, 105, 106, 107, 108, 109, 110, 111] (DefJ w b mp mc rb g j P D E k pg) (DefF b rb g k) (by kernel_rfl) (by kernel_rfl) ⟨rfl, rfl, rfl, rfl, rfl⟩ ?_ (fun a0 Q hF => def_steps _ (by kernel_rfl) a0 Q w b mp mc rb g j P D E k pg hF hk HREL.out (by omega) HGS.out HG.out.2.2.2.1) ?_
                · exact ⟨P, D, E, J, HR.out.grow (Upd.refl _ _).drew, fun _ => rfl, fun h => (by cases h), fun _ => ⟨rfl, rfl⟩, fun h => (by cases h), e1, fun h => (by cases h), fun h => (by cases h), fun h => (by cases h), fun h => (by cases h), fun h => (by cases h), fun h => (by cases h), fun h => (by cases h), fun h => (by cases h), fun h => (by cases h), fun h => (by cases h), fun h => (by cases h), fun h => (by cases h), fun h => (by cases h)⟩
                · intro Dn f wx hJ hall
                  obtain ⟨P', D', E', J', hr, -, c5t, -, c11t, -, -, -, -, -, -, -, -, -, -, -, -, -, k12⟩ := hJ
                  obtain rfl := c5t (hall 5 (by decide))
                  obtain ⟨hl, -⟩ := c11t (hall 11 (by decide))
                  have h111 := k12 (hall 12 (by decide))
                  have hsm := HSAME.out _ _ _ _ _ hr hl HZ.out.1
                  have HRZ := Lib.hid (And.intro hr hl)
                  clear hr hl c5t c11t k12 hall e1 hk
                  simp only [Go.Tb.fill]
                  rw [h111]
                  clear h111
                  simp only [Exit.then, Act.put, List.setIfInBounds_toArray, List.set_cons_succ, List.set_cons_zero]
                  generalize f 99 = f99
                  generalize f 100 = f100
                  generalize f 101 = f101
                  generalize f 102 = f102
                  generalize f 103 = f103
                  generalize f 104 = f104
                  generalize f 105 = f105
                  generalize f 106 = f106
                  generalize f 107 = f107
                  generalize f 108 = f108
                  generalize f 109 = f109
                  generalize f 110 = f110
                  go_wp2_with (go_at_call 31; (with_reducible refine hsm.mono ?_); rintro e9 w9 ⟨rfl, hu9⟩; have HU9 := Lib.hid hu9; clear hu9 hsm)
                  go_roundw
                  case rel => exact ⟨j + 1, by omega, by omega, by go_num, _, _, _, _, HRZ.out.1.grow HU9.out, HRZ.out.2, HZ.out.1, HZ.out.2⟩
                  case measure => simp [intOf]; omega
    · by_cases hjm : j < m
      case' pos =>
        have hj6 : (60 : Int) ≤ (j : Int) := by omega
        have hjl : j < l.length := by rw [HM.out]; exact hjm
        obtain ⟨bl, ol, rfl, -, hc0, hc1, hc2, hc3⟩ := HL.out j hjl
        have hup : Upd (fun k => w.heap.size ≤ k) w wr := by obtain ⟨P, D, E, J, h1, -⟩ := HST.out; exact h1.up
        have hlo : ¬ w.heap.size ≤ bl := by have : bl < w.heap.size := World.block_lt_of_cell? w _ hc0; omega
        have c0 := hup.cell hc0 hlo
        have c1 := hup.cell hc1 hlo
        have c2 := hup.cell hc2 hlo
        have c3 := hup.cell hc3 hlo
        clear hc0 hc1 hc2 hc3 hx hup hlo
        generalize l[j] = ac at *
        clear hjl
        go_upto_region 45 with (fail)
        have HSW := Lib.hid (HST.out.grow (upd_alloc (fun _ => False) wr (.cells #[.int .i64 ac.kind, .int .i64 ac.page, .int .i64 ac.n, .int .u8 (ac.x.toNat : Int)] 33)))
        clear c0 c1 c2 c3
        generalize wr.alloc (.cells #[.int .i64 ac.kind, .int .i64 ac.page, .int .i64 ac.n, .int .u8 (ac.x.toNat : Int)] 33) = W at *
      case' neg =>
        have hjm2 : j = m := by omega
        subst hjm2
        clear hx hjm
        go_upto_region 45 with (fail)
        have HSW := HST
        rename World => W
      all_goals (
        clear HST
        obtain ⟨P, D, E, J, hrun, hrel, hin, hsz⟩ := HSW.out
        have c3 : W.cell? ⟨rb, 3, none⟩ = some (.bool D.dead) := by rw [← hrel.dead]; exact hrun.m.rd.dead
        have hsy := sync_step b mp mc D J W hrun.m.dk
        have HR := Lib.hid hrun
        have HREL := Lib.hid hrel
        have HSZ := Lib.hid hsz
        clear hrun hrel hin hsz
        by_cases hdd : D.dead = true
        · have he : D.syncE = 10 := by unfold DS.syncE; rw [if_pos hdd]
          rw [hdd] at c3
          rw [he] at hsy
          clear he hdd
          go_wp2_with (go_at_call 14; (with_reducible refine hsy.mono ?_); rintro e9 w9 ⟨rfl, hs9⟩; have HS9 := Lib.hid hs9; clear hs9)
          go_ret
          obtain ⟨J', h9, -⟩ := HR.out.dstep HS9.out
          exact ⟨rfl, h9.up.mono (fun k hk e => by omega)⟩
        · have hd0 : D.dead = false := by simpa using hdd
          rw [hd0] at c3
          have HCK := Lib.hid (fun (p : Nat) (hp : p < n) => (show D.check p = 0 by
            have h1 : ¬ ((p : Int) < 0 ∨ D.size ≤ (p : Int)) := by rw [HSZ.out]; omega
            simp [DS.check, hd0, h1]))
          clear hd0 hdd hsy
          go_upto_region 48 with (fail)
          clear c3
          have hmn : min (n : Int) 40 = ((min n 40 : Nat) : Int) := by omega
          have hk40 : min n 40 ≤ n ∧ min n 40 ≤ 40 := by omega
          try rw [hmn]
          generalize min n 40 = k at *
          go_loopw [230] (fun i wr => ∃ p : Nat, p ≤ k ∧ i = .int .i64 p ∧ Upd (fun _ => False) W wr) (fun i _ => k - (intOf i).toNat)
          case atStart => exact ⟨0, Nat.zero_le _, rfl, Upd.refl _ _⟩
          case round =>
            obtain ⟨p, hp, rfl, hu⟩ := hrel
            have HU := Lib.hid hu
            clear hu
            by_cases hpk : p < k
            · have hck := HCK.out p (by omega)
              have hrd := read_ok b mp mc D J p _ (HR.out.grow HU.out).m.dk hck
              have HRR := Lib.hid (fun W' (hu : Upd (fun _ => False) W W') => rread_pair (HR.out.grow hu).m.rd HREL.out (by omega) p hck)
              clear hck
              go_wp2_with (first
                | (go_at_call 17; (with_reducible refine hrd.mono ?_); rintro e5 w5 ⟨v5, rfl, hv5, -, hu5⟩; have HV5 := Lib.hid hv5; have HU5 := Lib.hid (HU.out.trans hu5); have hrr := HRR.out w5 HU5.out; clear hv5 hu5 hrd)
                | (go_at_call 27; (with_reducible refine hrr.mono ?_); rintro e6 w6 ⟨v6, rfl, hv6, -, hu6⟩; have hsm := same_calls _ _ _ _ w6 (HV5.out.upd hu6 (fun _ _ x => x)) hv6; rw [beq_self_eq_true] at hsm; have HU6 := Lib.hid (HU5.out.trans hu6); clear hv6 hu6 hrr)
                | (go_at_call 18; (with_reducible refine hsm.mono ?_); rintro e7 w7 ⟨rfl, rfl⟩))
              go_roundw
              case rel => exact ⟨p + 1, by omega, by go_num, HU6.out⟩
              case measure => simp [intOf]; omega
            · have hpk2 : p = k := by omega
              subst hpk2
              clear hpk
              go_wp2
              go_ret
              exact ⟨rfl, (HR.out.up.trans (HU.out.weak _)).mono (fun k hk e => by omega)⟩)

end Go.Proofs.Yteokbokgiejmpaa
