/-
  FreeOnce: the walk.
-/
import Derived.Test.YtdobijomdgepjaaFreeH
import Derived.Test.YtdobijomdgepjaaMaps2
namespace Go.Proofs.Ytdobijomdgepjaa
open Go.RowKit Go.Tb Go.MapKept Go.ChangeMaps
set_option linter.unusedVariables false

theorem under_imap : Try.prog.underlying 38 = some (.map 3 4) := by kernel_rfl
theorem zero_bool (w : World) : (zeroValue 4).run Try.prog w = .ok (.bool false) w := Try.zeroValue4 w

/-- What the law knows of its list. -/
structure OnceAt (w : World) (b ms mh : Nat) (L : LS) (wr : World) : Prop where
  x : ∃ vs vh J, IsList wr b vs vh L J ∧ ¬ J ms ∧ ¬ J mh
  d : Dj L
  s : SetMap wr ms L.spare
  h : SetMap wr mh L.held
  n1 : b ≠ ms
  n2 : b ≠ mh
  n3 : ms ≠ mh
  g1 : w.heap.size ≤ b
  g2 : w.heap.size ≤ ms
  g3 : w.heap.size ≤ mh
  u : Upd (fun _ => False) w wr

theorem OnceAt.grow {w wr w' : World} {b ms mh : Nat} {L : LS} (q : OnceAt w b ms mh L wr) (hu : Upd (fun _ => False) wr w') : OnceAt w b ms mh L w' := by
  obtain ⟨vs, vh, J, h1, h2, h3⟩ := q.x
  exact { q with x := ⟨vs, vh, J, h1.grow hu, h2, h3⟩, s := q.s.upd hu (fun x => x), h := q.h.upd hu (fun x => x), u := q.u.trans hu }

/-- A method was called upon the list: the maps are as they were. -/
theorem OnceAt.step {w wr w' : World} {b ms mh : Nat} {L L' : LS} {vs vh : Value} {J : Nat → Prop} (q : OnceAt w b ms mh L wr) (hd : IsList wr b vs vh L J) (hJ1 : ¬ J ms) (hJ2 : ¬ J mh) (hs : ListStep wr w' b L' J) :
    (∃ vs vh J, IsList w' b vs vh L' J ∧ ¬ J ms ∧ ¬ J mh) ∧ SetMap w' ms L.spare ∧ SetMap w' mh L.held ∧ Upd (fun _ => False) w w' := by
  obtain ⟨⟨vs2, vh2, J2, hd2, hJ⟩, hu⟩ := hs
  have l1 := q.s.lt
  have l2 := q.h.lt
  exact ⟨⟨vs2, vh2, J2, hd2, fun h => (hJ _ h).elim hJ1 (fun h => by omega), fun h => (hJ _ h).elim hJ2 (fun h => by omega)⟩, q.s.upd hu (fun e => q.n1 e.symm), q.h.upd hu (fun e => q.n2 e.symm), q.u.trans' hu (fun x hx e => by have := q.g1; omega)⟩

theorem OnceAt.setS {w wr w6 w7 : World} {b ms mh : Nat} {L L' : LS} (q : OnceAt w b ms mh L wr) (hx : ∃ vs vh J, IsList w6 b vs vh L' J ∧ ¬ J ms ∧ ¬ J mh) (hh : SetMap w6 mh L'.held) (hu : Upd (fun _ => False) w w6) (hd : Dj L') (hs : SetMap w7 ms L'.spare) (hu7 : Upd (fun k => k = ms) w6 w7) : OnceAt w b ms mh L' w7 := by
  obtain ⟨vs, vh, J, h1, h2, h3⟩ := hx
  exact { q with x := ⟨vs, vh, J, h1.upd hu7 q.n1 (fun k hk e => h2 (e ▸ hk)), h2, h3⟩, d := hd, s := hs, h := hh.upd hu7 (fun e => q.n3 e.symm), u := hu.trans' hu7 (fun x hx e => by have := q.g2; omega) }
theorem OnceAt.setH {w wr w6 w7 : World} {b ms mh : Nat} {L L' : LS} (q : OnceAt w b ms mh L wr) (hx : ∃ vs vh J, IsList w6 b vs vh L' J ∧ ¬ J ms ∧ ¬ J mh) (hs : SetMap w6 ms L'.spare) (hu : Upd (fun _ => False) w w6) (hd : Dj L') (hh : SetMap w7 mh L'.held) (hu7 : Upd (fun k => k = mh) w6 w7) : OnceAt w b ms mh L' w7 := by
  obtain ⟨vs, vh, J, h1, h2, h3⟩ := hx
  exact { q with x := ⟨vs, vh, J, h1.upd hu7 q.n2 (fun k hk e => h3 (e ▸ hk)), h2, h3⟩, d := hd, s := hs.upd hu7 q.n3, h := hh, u := hu.trans' hu7 (fun x hx e => by have := q.g3; omega) }
theorem OnceAt.same {w wr w6 : World} {b ms mh : Nat} {L L' : LS} (q : OnceAt w b ms mh L wr) (hx : ∃ vs vh J, IsList w6 b vs vh L' J ∧ ¬ J ms ∧ ¬ J mh) (hs : SetMap w6 ms L'.spare) (hh : SetMap w6 mh L'.held) (hu : Upd (fun _ => False) w w6) (hd : Dj L') : OnceAt w b ms mh L' w6 :=
  { q with x := hx, d := hd, s := hs, h := hh, u := hu }
theorem OnceAt.room {w wr : World} {b ms mh : Nat} {L : LS} (q : OnceAt w b ms mh L wr) : Calls Try.prog 11 #[.pointer (some ⟨b, 0, none⟩)] wr fun e w' => e = .returned (.int .i64 (L.spare.length : Nat)) ∧ w' = wr := by
  obtain ⟨vs, vh, J, h1, h2, h3⟩ := q.x
  exact room_calls b vs vh L J wr h1
theorem OnceAt.heldc {w wr : World} {b ms mh : Nat} {L : LS} (q : OnceAt w b ms mh L wr) : Calls Try.prog 17 #[.pointer (some ⟨b, 0, none⟩)] wr fun e w' => ∃ a c, e = .returned (.slice a L.held.length c) ∧ Upd (fun _ => False) wr w' := by
  obtain ⟨vs, vh, J, h1, h2, h3⟩ := q.x
  refine (held_calls b vs vh L J wr h1).mono ?_
  rintro e w' ⟨v, rfl, hv, _, hu⟩
  obtain ⟨a, c, rfl, _⟩ := hv.shape
  exact ⟨a, c, rfl, hu⟩
theorem OnceAt.lenS {w wr : World} {b ms mh : Nat} {L : LS} (q : OnceAt w b ms mh L wr) (ty : TypeId) : (Builtin.len_ #[38] ty #[.map (some ms)]).run Try.prog wr = .ok (goInt L.spare.length) wr := IsMap.len q.s under_imap ty
theorem OnceAt.lenH {w wr : World} {b ms mh : Nat} {L : LS} (q : OnceAt w b ms mh L wr) (ty : TypeId) : (Builtin.len_ #[38] ty #[.map (some mh)]).run Try.prog wr = .ok (goInt L.held.length) wr := IsMap.len q.h under_imap ty

/-- While what was held is told to the map of the spare ones. -/
def SettleRel (b ms mh r : Nat) (L : LS) (w wr : World) : Prop :=
  ∃ todo done S, (done ++ todo).Perm L.held ∧ S.Perm (done ++ L.spare) ∧ Iter (Value.int .i64) wr r mh (fun x => if x ∈ L.held then some (.bool true) else none) todo ∧ SetMap wr ms S ∧ (∃ vs vh J, IsList wr b vs vh L.settle J ∧ ¬ J ms ∧ ¬ J r) ∧ Upd (fun _ => False) w wr

def OnceFirst (l : List Int) (b ms mh k : Nat) (L : LS) (w wr : World) : Prop :=
  ∃ S, S.Perm (l.take k) ∧ SetMap wr ms S ∧ (∃ vs vh J, IsList wr b vs vh L J ∧ ¬ J ms ∧ ¬ J mh) ∧ SetMap wr mh [] ∧ Upd (fun _ => False) w wr

set_option maxRecDepth 100000 in
set_option maxHeartbeats 4000000 in
theorem once_ok (a1 a2 : Option Addr) (c1 c2 : Nat) (l : List Int) (l1 : List FAct) (w : World) (hl : IntsOf w a1 l) (h1 : FActsOf w a2 l1) (hb0 : l.length ≤ 1100) (hb1 : l1.length ≤ 9223372036854775807) (hok : (∀ x ∈ l, 2 ≤ x ∧ x < 64) ∧ l.Nodup) :
    Calls Try.prog 5 #[.slice a1 l.length c1, .slice a2 l1.length c2] w fun e w' => e = .returned (.bool true) ∧ Upd (fun _ => False) w w' := by
  have hnew := fun w1 (hu : Upd (fun _ => False) w w1) => new_ok 64 a1 c1 l w1 (fun i hi => by obtain ⟨b, off, h1, h2⟩ := hl i hi; exact ⟨b, off, h1, hu.cell h2 (fun x => x)⟩) (by omega) (by decide) (by decide) hok.1 hok.2
  have H0 := Lib.hid hl
  have H1 := Lib.hid h1
  have Hnd := Lib.hid hok.2
  have hmm := @run_makeMap Try.prog
  clear hok hl h1
  go_enter Try.func5, Try.ntmps5
  go_wp2_with (first
    | (go_at_call 8; refine (lives_calls w).mono ?_; rintro e w1 ⟨rfl, hu1⟩)
    | (go_at_call 9; refine (hnew w1 hu1).mono ?_; rintro e w2 ⟨hu2, b, vs, vh, L, J, rfl, hd, hsz, hhe, hpm, hb, hJ⟩))
  have hm1 := setMap_made w2
  have hua := upd_alloc (fun _ => False) w2 (.map #[] 0)
  have hm2 := setMap_made (w2.alloc (.map #[] 0))
  have hub := upd_alloc (fun _ => False) (w2.alloc (.map #[] 0)) (.map #[] 0)
  have hs1 : (w2.alloc (.map #[] 0)).heap.size = w2.heap.size + 1 := by simp
  rw [hs1] at hm2
  have hbl := lt_of_heap hd.blk
  have hww : w.heap.size ≤ w2.heap.size := Nat.le_trans hu1.size hu2.size
  have hbb : w.heap.size ≤ b := Nat.le_trans hu1.size hb
  have hstart := Lib.hid (show OnceFirst l b w2.heap.size (w2.heap.size + 1) 0 L w ((w2.alloc (.map #[] 0)).alloc (.map #[] 0)) from
    ⟨[], by simp, hm1.upd hub (fun x => x), ⟨vs, vh, J, (hd.grow hua).grow hub, fun h => by have := hd.bd _ h; omega, fun h => by have := hd.bd _ h; omega⟩, hm2, ((hu1.trans hu2).trans hua).trans hub⟩)
  have Hpm := Lib.hid hpm
  have Hhe := Lib.hid hhe
  generalize (w2.alloc (.map #[] 0)).alloc (.map #[] 0) = w3 at *
  have hn1 : b ≠ w2.heap.size := by omega
  have hn2 : b ≠ w2.heap.size + 1 := by omega
  clear hm1 hm2 hua hub hs1 hd hsz hhe hpm hb hJ hu1 hu2 hnew hbl hmm
  have hg2 : w.heap.size ≤ w2.heap.size + 1 := by omega
  go_loopw [37] (fun i wr => ∃ k : Nat, k ≤ l.length ∧ i = .int .i64 k ∧ OnceFirst l b w2.heap.size (w2.heap.size + 1) k L w wr) (fun i _ => l.length - (intOf i).toNat)
  case atStart => exact ⟨0, Nat.zero_le _, rfl, hstart.out⟩
  case round =>
    clear hstart
    obtain ⟨k, hk, rfl, S, hS, hsm, hx, hmh, hu⟩ := hrel
    by_cases hlt : k < l.length
    · obtain ⟨rb, off, rfl, hk0⟩ := H0.out k hlt
      have q0 := hu.cell hk0 (fun x => x)
      have Tk := Lib.hid (take_one_perm l k hlt)
      have hin : l[k] ∉ S := fun h => (List.nodup_cons.1 (Tk.out.nodup_iff.1 (Hnd.out.sublist (List.take_sublist _ _)))).1 (hS.mem_iff.1 h)
      generalize l[k] = x at *
      obtain ⟨o, hput, hset⟩ := hsm.put (P := Try.prog) under_imap under_int x
      rw [if_neg hin] at hset
      have hub : Upd (fun y => y = w2.heap.size) wr (setBlock wr w2.heap.size o) := upd_setBlock _ _ _ _ rfl
      have Hrel := Lib.hid (show OnceFirst l b w2.heap.size (w2.heap.size + 1) (k + 1) L w (setBlock wr w2.heap.size o) from by
        obtain ⟨vs, vh, J, h1, h2, h3⟩ := hx
        exact ⟨x :: S, (hS.cons x).trans Tk.out.symm, hset, ⟨vs, vh, J, h1.upd hub hn1 (fun y hy e => h2 (e ▸ hy)), h2, h3⟩, hmh.upd hub (by omega), hu.trans' hub (fun y hy e => by omega)⟩)
      clear hk0 hS hsm hx hmh hin hset hub
      go_wp2
      go_roundw
      case rel => exact ⟨k + 1, by omega, by go_num, Hrel.out⟩
      case measure => simp [intOf]; omega
    · obtain rfl : k = l.length := by omega
      rw [List.take_length] at hS
      obtain ⟨wo, rfl⟩ : ∃ wo : World, wo = wr := ⟨_, rfl⟩
      have hstart2 := Lib.hid (show OnceAt w b w2.heap.size (w2.heap.size + 1) L wo from
        { x := hx, d := fun x _ => by rw [Hhe.out]; simp, s := hsm.perm (hS.trans Hpm.out.symm), h := by rw [Hhe.out]; exact hmh, n1 := hn1, n2 := hn2, n3 := by omega, g1 := hbb, g2 := hww, g3 := hg2, u := hu })
      clear hS hsm hx hmh hu
      generalize w2.heap.size = ms at *
      go_wp2
      go_loopw [8, 46] (fun h i wr => ∃ (k mh : Nat) (L : LS), k ≤ l1.length ∧ i = .int .i64 k ∧ h = .map (some mh) ∧ OnceAt w b ms mh L wr) (fun _ i _ => l1.length - (intOf i).toNat)
      case atStart => exact ⟨0, _, _, Nat.zero_le _, rfl, rfl, hstart2.out⟩
      case round =>
        clear hstart2
        obtain ⟨k, mh, L, hk, rfl, rfl, hq⟩ := hrel
        by_cases hlt : k < l1.length
        · obtain ⟨rb, off, rfl, hk0, hk1⟩ := H1.out k hlt
          have q0 := hq.u.cell hk0 (fun x => x)
          have q1 := hq.u.cell hk1 (fun x => x)
          generalize l1[k] = ac at *
          clear hk0 hk1
          obtain ⟨kd, id⟩ := ac
          simp only at q0 q1
          by_cases h80 : k < 80
          · have h80' : (k : Int) < (80 : Int) := by omega
            have hqa := hq.grow (upd_alloc (fun _ => False) wr (Obj.cells #[Value.int .i64 kd, Value.int .i64 id] 40))
            have Hq0 := Lib.hid hq
            clear hq
            obtain ⟨vs, vh, J, hd, hJ1, hJ2⟩ := hqa.x
            have hbox := (heap_alloc wr (.cells #[.int .i64 kd, .int .i64 id] 40)).1
            have e0 := cell_of hbox 0
            have e1 := cell_of hbox 1
            have hbn : ¬ wr.heap.size = b := by
              obtain ⟨vs, vh, J, h1, h2, h3⟩ := Hq0.out.x
              have := lt_of_heap h1.blk
              omega
            clear hbox
            have HD := Lib.hid hd
            have HQ := Lib.hid hqa
            have hdj := hqa.d
            have Hss := Lib.hid hd.ok.ss
            by_cases k0 : kd = 0
            · subst k0
              have htk := take_calls b vs vh L J _ hd
              have Hdj := Lib.hid hdj.take
              cases hsp : L.spare with
              | nil =>
                have ht : L.takes = .tuple #[.int .i64 0, .int .i64 9] := by unfold LS.takes; rw [hsp]; rfl
                rw [ht] at htk
                have Hsp := Lib.hid hsp
                have He := Lib.hid (show L.spare.erase 0 = L.take.spare by unfold LS.take; rw [hsp]; rfl)
                clear hd hqa ht hsp hdj
                go_wp2_with (first | (go_at_call 10; refine htk.mono ?_; rintro e w6 ⟨rfl, hst⟩; obtain ⟨hx6, hs6, hh6, hu6⟩ := HQ.out.step HD.out hJ1 hJ2 hst; have l0 : ∀ ty, (Builtin.len_ #[38] ty #[.map (some ms)]).run Try.prog w6 = .ok (goInt 0) w6 := (fun ty => by have hh := IsMap.len (P := Try.prog) hs6 under_imap ty; rw [Hsp.out] at hh; exact hh); obtain ⟨o, hdel, hset⟩ := hs6.delete (P := Try.prog) under_imap under_int 0 (sorted_nodup Hss.out); rw [He.out] at hset; have q7 : OnceAt w b ms mh L.take (setBlock w6 ms o) := (HQ.out.setS (L' := L.take) hx6 hh6 hu6 Hdj.out hset (upd_setBlock _ _ _ _ rfl)); clear hst hx6 hs6 hh6 hset; have f1 := q7.room; have f2 := q7.heldc; have f3 := q7.lenS; have f4 := q7.lenH; have Q7 := Lib.hid q7; clear q7) | (at_builtin; refine wpList_delete hdel rfl rfl rfl rfl ?_) | (go_at_call 11; refine f1.mono ?_; rintro e w' ⟨rfl, rfl⟩) | (go_at_call 17; refine f2.mono ?_; rintro e w9 ⟨va, vc, rfl, hu9⟩))
                go_roundw
                case rel => exact ⟨k + 1, _, _, by omega, by go_num, rfl, Q7.out.grow hu9⟩
                case measure => simp [intOf]; omega
              | cons x r =>
                have ht : L.takes = .tuple #[.int .i64 x, .int .i64 0] := by unfold LS.takes; rw [hsp]; rfl
                rw [ht] at htk
                have Hin := Lib.hid (show x ∈ L.spare by rw [hsp]; exact .head _)
                have Hout := Lib.hid (hdj x Hin.out)
                have He := Lib.hid (show L.spare.erase x = L.take.spare by unfold LS.take; rw [hsp]; simp)
                clear hd hqa ht hsp hdj
                go_wp2_with (first | (go_at_call 10; refine htk.mono ?_; rintro e w6 ⟨rfl, hst⟩; obtain ⟨hx6, hs6, hh6, hu6⟩ := HQ.out.step HD.out hJ1 hJ2 hst; have lk1 := hs6.has (P := Try.prog) under_imap under_int (zero_bool w6) x; have lk2 := hh6.has (P := Try.prog) under_imap under_int (zero_bool w6) x; rw [decide_eq_true Hin.out] at lk1; rw [decide_eq_false Hout.out] at lk2; obtain ⟨o, hdel, hset⟩ := hs6.delete (P := Try.prog) under_imap under_int x (sorted_nodup Hss.out); rw [He.out] at hset; have q7 : OnceAt w b ms mh L.take (setBlock w6 ms o) := (HQ.out.setS (L' := L.take) hx6 hh6 hu6 Hdj.out hset (upd_setBlock _ _ _ _ rfl)); clear hst hx6 hs6 hh6 hset; have f1 := q7.room; have f2 := q7.heldc; have f3 := q7.lenS; have f4 := q7.lenH; have Q7 := Lib.hid q7; clear q7) | (at_builtin; refine wpList_delete hdel rfl rfl rfl rfl ?_) | (go_at_call 11; refine f1.mono ?_; rintro e w' ⟨rfl, rfl⟩) | (go_at_call 17; refine f2.mono ?_; rintro e w9 ⟨va, vc, rfl, hu9⟩))
                go_roundw
                case rel => exact ⟨k + 1, _, _, by omega, by go_num, rfl, Q7.out.grow hu9⟩
                case measure => simp [intOf]; omega
            · by_cases k1 : kd = 1
              · subst k1
                have hgv := give_calls b vs vh L J id _ hd
                have Hdj := Lib.hid (hdj.give id)
                by_cases hc : L.check id = 0
                · have hgi : L.give id = { L with spare := insl id L.spare } := if_pos hc
                  rw [hc, hgi] at hgv
                  rw [hgi] at Hdj
                  have Hin := Lib.hid (check_zero hc).2.1
                  clear hd hqa hc hgi hdj
                  go_wp2_with (first | (go_at_call 12; refine hgv.mono ?_; rintro e w6 ⟨rfl, hst⟩; obtain ⟨hx6, hs6, hh6, hu6⟩ := HQ.out.step HD.out hJ1 hJ2 hst; have e1' := hst.2.cell e1 hbn; obtain ⟨o, hput, hset⟩ := hs6.put (P := Try.prog) under_imap under_int id; rw [if_neg Hin.out] at hset; have q7 : OnceAt w b ms mh { L with spare := insl id L.spare } (setBlock w6 ms o) := (HQ.out.setS (L' := { L with spare := insl id L.spare }) hx6 hh6 hu6 Hdj.out (hset.perm (insl_perm id L.spare).symm) (upd_setBlock _ _ _ _ rfl)); clear hst hx6 hs6 hh6 hset; have f1 := q7.room; have f2 := q7.heldc; have f3 := q7.lenS; have f4 := q7.lenH; have Q7 := Lib.hid q7; clear q7) | (go_at_call 11; refine f1.mono ?_; rintro e w' ⟨rfl, rfl⟩) | (go_at_call 17; refine f2.mono ?_; rintro e w9 ⟨va, vc, rfl, hu9⟩))
                  go_roundw
                  case rel => exact ⟨k + 1, _, _, by omega, by go_num, rfl, Q7.out.grow hu9⟩
                  case measure => simp [intOf]; omega
                · have hgi : L.give id = L := if_neg hc
                  rw [hgi] at hgv Hdj
                  clear hd hqa hgi hdj
                  generalize L.check id = n at *
                  go_wp2_with (first | (go_at_call 12; refine hgv.mono ?_; rintro e w6 ⟨rfl, hst⟩; obtain ⟨hx6, hs6, hh6, hu6⟩ := HQ.out.step HD.out hJ1 hJ2 hst; have q7 := HQ.out.same hx6 hs6 hh6 hu6 Hdj.out; clear hst hx6 hs6 hh6; have f1 := q7.room; have f2 := q7.heldc; have f3 := q7.lenS; have f4 := q7.lenH; have Q7 := Lib.hid q7; clear q7) | (go_at_call 11; refine f1.mono ?_; rintro e w' ⟨rfl, rfl⟩) | (go_at_call 17; refine f2.mono ?_; rintro e w9 ⟨va, vc, rfl, hu9⟩))
                  go_roundw
                  case rel => exact ⟨k + 1, _, _, by omega, by go_num, rfl, Q7.out.grow hu9⟩
                  case measure => simp [intOf]; omega
              · by_cases k2 : kd = 2
                · subst k2
                  have hgv := hold_calls b vs vh L J id _ hd
                  have Hdj := Lib.hid (hdj.hold id)
                  by_cases hc : L.check id = 0
                  · have hgi : L.hold id = { L with held := insl id L.held } := if_pos hc
                    rw [hc, hgi] at hgv
                    rw [hgi] at Hdj
                    have Hin := Lib.hid (check_zero hc).2.2
                    clear hd hqa hc hgi hdj
                    go_wp2_with (first | (go_at_call 15; refine hgv.mono ?_; rintro e w6 ⟨rfl, hst⟩; obtain ⟨hx6, hs6, hh6, hu6⟩ := HQ.out.step HD.out hJ1 hJ2 hst; have e1' := hst.2.cell e1 hbn; obtain ⟨o, hput, hset⟩ := hh6.put (P := Try.prog) under_imap under_int id; rw [if_neg Hin.out] at hset; have q7 : OnceAt w b ms mh { L with held := insl id L.held } (setBlock w6 mh o) := (HQ.out.setH (L' := { L with held := insl id L.held }) hx6 hs6 hu6 Hdj.out (hset.perm (insl_perm id L.held).symm) (upd_setBlock _ _ _ _ rfl)); clear hst hx6 hs6 hh6 hset; have f1 := q7.room; have f2 := q7.heldc; have f3 := q7.lenS; have f4 := q7.lenH; have Q7 := Lib.hid q7; clear q7) | (go_at_call 11; refine f1.mono ?_; rintro e w' ⟨rfl, rfl⟩) | (go_at_call 17; refine f2.mono ?_; rintro e w9 ⟨va, vc, rfl, hu9⟩))
                    go_roundw
                    case rel => exact ⟨k + 1, _, _, by omega, by go_num, rfl, Q7.out.grow hu9⟩
                    case measure => simp [intOf]; omega
                  · have hgi : L.hold id = L := if_neg hc
                    rw [hgi] at hgv Hdj
                    clear hd hqa hgi hdj
                    generalize L.check id = n at *
                    go_wp2_with (first | (go_at_call 15; refine hgv.mono ?_; rintro e w6 ⟨rfl, hst⟩; obtain ⟨hx6, hs6, hh6, hu6⟩ := HQ.out.step HD.out hJ1 hJ2 hst; have q7 := HQ.out.same hx6 hs6 hh6 hu6 Hdj.out; clear hst hx6 hs6 hh6; have f1 := q7.room; have f2 := q7.heldc; have f3 := q7.lenS; have f4 := q7.lenH; have Q7 := Lib.hid q7; clear q7) | (go_at_call 11; refine f1.mono ?_; rintro e w' ⟨rfl, rfl⟩) | (go_at_call 17; refine f2.mono ?_; rintro e w9 ⟨va, vc, rfl, hu9⟩))
                    go_roundw
                    case rel => exact ⟨k + 1, _, _, by omega, by go_num, rfl, Q7.out.grow hu9⟩
                    case measure => simp [intOf]; omega
                · have hst := settle_calls b vs vh L J _ hd hdj
                  have Hdj := Lib.hid hdj
                  have hmm := @run_makeMap Try.prog
                  have hne3 := hqa.n3
                  have hne1 := hqa.n1
                  have hgb := hqa.g1
                  have hgs := hqa.g2
                  clear hd hqa hdj
                  have x0 : (kd == 0) = false := by simpa using k0
                  have x1 : (kd == 1) = false := by simpa using k1
                  have x2 : (kd == 2) = false := by simpa using k2
                  go_wp2_with (first | (go_at_call 16; refine hst.mono ?_; rintro e w6 ⟨rfl, hst⟩; obtain ⟨hx6, hs6, hh6, hu6⟩ := HQ.out.step HD.out hJ1 hJ2 hst; have hml := hs6.lt; have hhl := hh6.lt; obtain ⟨o, todo, hrange, hit, hlen, hmem⟩ := IsMap.range (P := Try.prog) (t := 38) hh6 (keyT_int .i64) under_imap; have Hm := Lib.hid hmem; have Hx6 := Lib.hid hx6; have Hhh := Lib.hid hh6; have Hs6 := Lib.hid hs6; have Hit := Lib.hid hit; clear hst hx6 hs6 hh6 hmem hit hlen)
                    )
                  have hbl : b < w6.heap.size := by obtain ⟨vs, vh, J, h1, h2, h3⟩ := Hx6.out; exact lt_of_heap h1.blk
                  have hua := upd_alloc (fun _ => False) w6 o
                  have hstart := Lib.hid (show SettleRel b ms mh w6.heap.size L w (w6.alloc o) from by
                    obtain ⟨vs, vh, J, h1, h2, h3⟩ := Hx6.out
                    refine ⟨todo, [], L.spare, ?_, by simp, Hit.out, Hs6.out.upd hua (fun x => x), ⟨vs, vh, J, h1.grow hua, h2, fun h => by have := h1.bd _ h; omega⟩, hu6.trans hua⟩
                    rw [List.nil_append]
                    refine (List.perm_ext_iff_of_nodup Hit.out.nodup (sorted_nodup HD.out.ok.sh)).2 (fun x => ?_)
                    rw [Hm.out x]
                    by_cases hx : x ∈ L.held <;> simp [hx])
                  have hw6 : w.heap.size ≤ w6.heap.size := hu6.size
                  have Hhn := Lib.hid (sorted_nodup HD.out.ok.sh)
                  generalize w6.heap.size = r at *
                  clear hua hrange hu6 Hit Hm Hx6 Hhh Hs6
                  go_loopw [] (fun wr => SettleRel b ms mh r L w wr) (fun wr => wr.rangeLeft mh r)
                  case atStart => exact hstart.out
                  case round =>
                    clear hstart
                    obtain ⟨todo', done, S, hdt, hSp, hit, hsm, hxl, hu⟩ := hrel
                    rcases hit.next (P := Try.prog) (keyT_int .i64) with ⟨rfl, hnx⟩ | ⟨a, v, t2, w7, hperm, hf, hnx, hit1, hu1, hsz, hlt2, hen⟩
                    · have q7 : OnceAt w b ms wr.heap.size L.settle (wr.alloc (.map #[] 0)) := by
                        have hal := upd_alloc (fun _ => False) wr (.map #[] 0)
                        obtain ⟨vs, vh, J, h1, h2, h3⟩ := hxl
                        have l1 := lt_of_heap h1.blk
                        have l2 := hsm.lt
                        exact { x := ⟨vs, vh, J, h1.grow hal, h2, fun h => by have := h1.bd _ h; omega⟩, d := Dj.settle L,
                                s := (hsm.perm (by
                                  rw [List.append_nil] at hdt
                                  exact hSp.trans (((hdt.append_right L.spare).trans List.perm_append_comm).trans (List.mergeSort_perm _ _).symm))).upd hal (fun x => x),
                                h := setMap_made wr, n1 := hne1, n2 := by omega, n3 := by omega, g1 := hgb, g2 := hgs, g3 := hu.size, u := hu.trans hal }
                      have f1 := q7.room; have f2 := q7.heldc; have f3 := q7.lenS; have f4 := q7.lenH; have Q7 := Lib.hid q7; clear q7
                      clear hdt hSp hit hsm hxl hu
                      go_wp2_with (first | (go_at_call 11; refine f1.mono ?_; rintro e w' ⟨rfl, rfl⟩) | (go_at_call 17; refine f2.mono ?_; rintro e w9 ⟨va, vc, rfl, hu9⟩))
                      go_roundw
                      case rel => exact ⟨k + 1, _, _, by omega, by go_num, rfl, Q7.out.grow hu9⟩
                      case measure => simp [intOf]; omega
                    · have hah : a ∈ L.held := hdt.mem_iff.1 (List.mem_append.2 (.inr (hperm.mem_iff.2 (.head _))))
                      have hnd : (done ++ (a :: t2)).Nodup := ((hperm.append_left done).symm.trans hdt).nodup_iff.2 Hhn.out
                      have haS : a ∉ S := fun h => by
                        rcases List.mem_append.1 (hSp.mem_iff.1 h) with h | h
                        · exact (List.nodup_append.1 hnd).2.2 a h a (.head _) rfl
                        · exact Hdj.out a h hah
                      have hrms : ¬ ms = r := by have := hit.lt; omega
                      obtain ⟨o', hput, hset⟩ := (hsm.upd hu1 hrms).put (P := Try.prog) under_imap under_int a
                      rw [if_neg haS] at hset
                      have hu2 : Upd (fun k => k = ms) w7 (setBlock w7 ms o') := upd_setBlock _ _ _ _ rfl
                      have hrel2 : SettleRel b ms mh r L w (setBlock w7 ms o') := by
                        obtain ⟨vs, vh, J, h1, h2, h3⟩ := hxl
                        refine ⟨t2, a :: done, a :: S, ?_, hSp.cons a, hit1.upd hu2 (fun e => hne3 e.symm) (fun e => hrms e.symm), hset, ⟨vs, vh, J, (h1.upd hu1 (by omega) (fun k hk e => h3 (e ▸ hk))).upd hu2 hne1 (fun k hk e => h2 (e ▸ hk)), h2, h3⟩, (hu.trans' hu1 (fun x hx e => by omega)).trans' hu2 (fun x hx e => by omega)⟩
                        exact (List.perm_middle.symm.trans ((hperm.append_left done).symm)).trans hdt
                      have hmeas : (setBlock w7 ms o').rangeLeft mh r < wr.rangeLeft mh r := by
                        rw [rangeLeft_upd hit1 hu2 (fun e => hne3 e.symm) (fun e => hrms e.symm)]; exact hlt2
                      have Hr2 := Lib.hid hrel2
                      have Hms := Lib.hid hmeas
                      clear hdt hSp hit hsm hxl hperm hit1 hset hrel2 hmeas hah hnd haS
                      go_wp2
                      go_roundw
                      case rel => exact Hr2.out
                      case measure => exact Hms.out
          · have h80' : ¬ (k : Int) < (80 : Int) := by omega
            have h80'' : (80 : Int) ≤ (k : Int) := by omega
            have HU := Lib.hid hq.u
            clear hq
            go_wp2
            go_ret
            exact ⟨rfl, HU.out.trans (upd_alloc _ _ _)⟩
        · have HU := Lib.hid hq.u
          clear hq
          go_wp2
          go_ret
          exact ⟨rfl, HU.out⟩

end Go.Proofs.Ytdobijomdgepjaa
