/-
  FreePlays: the walk.
-/
import Derived.Test.YtdobijomdgepjaaPlaysB
import Derived.Test.YtdobijomdgepjaaFreeH
import Derived.Test.YtdobijomdgepjaaIntsOpen
namespace Go.Proofs.Ytdobijomdgepjaa
open Go.RowKit Go.Tb Go.MapKept Go.ChangeMaps
set_option linter.unusedVariables false

/-- While the caller's own numbers are written over. -/
structure PlaysZ (w : World) (b br g : Nat) (vs vh : Value) (L : LS) (J : Nat → Prop) (n : Nat) (oa : Option Addr) (wr : World) : Prop where
  x : IsList wr b vs vh L J
  r : IsRef wr br g (signs L)
  u : Upd (fun _ => False) w wr
  o : ∀ k, k < n → ∃ ob, oa = some ⟨ob, 0, none⟩ ∧ ∃ cur : Array Value, wr.heap[ob]? = some (.cells cur 3 (0, 0)) ∧ n ≤ cur.size

theorem PlaysZ.set {w wr : World} {b br g ob n : Nat} {vs vh : Value} {L : LS} {J : Nat → Prop} (h : PlaysZ w b br g vs vh L J n (some ⟨ob, 0, none⟩) wr) (hf : w.heap.size ≤ ob ∧ ob ≠ b ∧ ob ≠ br ∧ ob ≠ g ∧ ¬ J ob) {cur : Array Value} (hb : wr.heap[ob]? = some (.cells cur 3 (0, 0))) (k : Nat) : PlaysZ w b br g vs vh L J n (some ⟨ob, 0, none⟩) (wr.setCell ⟨ob, k, none⟩ (.int .i64 0)) := by
  obtain ⟨f1, f2, f3, f4, f5⟩ := hf
  have hu : Upd (fun y => y = ob) wr (wr.setCell ⟨ob, k, none⟩ (.int .i64 0)) := upd_setCell _ _ _ _ rfl
  refine ⟨h.x.upd hu (fun e => f2 e.symm) (fun y hy e => f5 (e ▸ hy)), h.r.upd hu (fun e => f3 e.symm) (fun e => f4 e.symm), h.u.trans' hu (fun x hx e => by omega), ?_⟩
  intro j hj
  obtain ⟨ob', he, cur', h1, h2⟩ := h.o j hj
  cases he
  exact ⟨ob, rfl, _, heap_setCell_at h1 k _, by simpa using h2⟩

theorem own_block {w : World} {base n : Nat} {oa : Option Addr} {oc : Nat} {xs : List Value} (h : w.ownsRow base 3 1 (.slice oa n oc) n xs) : ∀ k, k < n → ∃ ob, oa = some ⟨ob, 0, none⟩ ∧ ∃ cur : Array Value, w.heap[ob]? = some (.cells cur 3 (0, 0)) ∧ n ≤ cur.size := by
  intro k hk
  rcases h.2 with ⟨h1, h0⟩ | ⟨g, cap', cur, hv, hg, hheap, hn, hm, hs, htake⟩
  · omega
  · cases hv
    exact ⟨g, rfl, cur, hheap, by omega⟩
theorem own_far {w : World} {base n : Nat} {oa : Option Addr} {oc : Nat} {xs : List Value} (h : w.ownsRow base 3 1 (.slice oa n oc) n xs) : ∀ ob, oa = some ⟨ob, 0, none⟩ → base ≤ ob ∧ ob < w.heap.size := by
  intro ob ho
  subst ho
  rcases h.2 with ⟨h1, h0⟩ | ⟨g, cap', cur, hv, hg, hheap, hn, hm, hs, htake⟩
  · cases h1
  · cases hv
    exact ⟨hg, lt_of_heap hheap⟩

theorem check_some (L : LS) (id : Int) : ∃ c, L.check id = c := ⟨_, rfl⟩

theorem rset_give (b g : Nat) (L : LS) (id : Int) (w : World) (h : IsRef w b g (signs L)) (hok : L.Ok) :
    Calls Try.prog 21 #[.pointer (some ⟨b, 0, none⟩), .int .i64 id, .int .i64 1] w fun e w' => e = .returned (.int .i64 (L.check id)) ∧ IsRef w' b g (signs (L.give id)) ∧ Upd (fun k => k = g) w w' := by
  refine (rset_calls b g L id 1 w h hok (.inl rfl)).mono ?_
  rintro e w' ⟨h1, h2, h3⟩
  rw [if_pos rfl] at h2
  exact ⟨h1, h2, h3⟩
theorem rset_hold (b g : Nat) (L : LS) (id : Int) (w : World) (h : IsRef w b g (signs L)) (hok : L.Ok) :
    Calls Try.prog 21 #[.pointer (some ⟨b, 0, none⟩), .int .i64 id, .int .i64 2] w fun e w' => e = .returned (.int .i64 (L.check id)) ∧ IsRef w' b g (signs (L.hold id)) ∧ Upd (fun k => k = g) w w' := by
  refine (rset_calls b g L id 2 w h hok (.inr rfl)).mono ?_
  rintro e w' ⟨h1, h2, h3⟩
  rw [if_neg (by decide)] at h2
  exact ⟨h1, h2, h3⟩
theorem rsettle_at (b g : Nat) (L : LS) (w : World) (h : IsRef w b g (signs L)) (hl : (signs L).length ≤ 1024) :
    Calls Try.prog 22 #[.pointer (some ⟨b, 0, none⟩)] w fun e w' => e = .returned (.tuple #[]) ∧ IsRef w' b g (signs L.settle) ∧ Upd (fun k => k = g) w w' := by
  refine (rsettle_calls b g (signs L) w h (Nat.le_trans hl (by decide))).mono ?_
  rintro e w' ⟨h1, h2, h3⟩
  rw [signs_settle] at h2
  exact ⟨h1, h2, h3⟩

theorem rnew_yes {n : Nat} {l : List Int} {w w' : World} {e : Ending} (h : RNewSays n l w e w') (h1 : ∀ x ∈ l, 2 ≤ x ∧ x < (n : Int)) (h2 : l.Nodup) : ∃ b g, e = .returned (.tuple #[.pointer (some ⟨b, 0, none⟩), .int .i64 0]) ∧ IsRef w' b g (markOf n l) ∧ w.heap.size ≤ b ∧ w.heap.size ≤ g := by
  rcases h with ⟨⟨x, hx, hn⟩, _⟩ | ⟨_, hn, _⟩ | ⟨_, _, h⟩
  · exact absurd (h1 x hx) hn
  · exact absurd h2 hn
  · exact h
theorem rnew_no {n : Nat} {l : List Int} {w w' : World} {e : Ending} (h : RNewSays n l w e w') (h1 : ¬ ((∀ x ∈ l, 2 ≤ x ∧ x < (n : Int)) ∧ l.Nodup)) : e = .returned (.tuple #[.pointer none, .int .i64 (newNo n l)]) := by
  rcases h with ⟨⟨x, hx, hn⟩, rfl⟩ | ⟨hx, hn, rfl⟩ | ⟨h2, h3, h⟩
  · unfold newNo; rw [if_neg (fun h => hn (h x hx))]
  · unfold newNo; rw [if_pos hx]
  · exact absurd ⟨h2, h3⟩ h1

set_option maxRecDepth 100000 in
set_option maxHeartbeats 4000000 in
theorem plays_ok (size : Int) (a1 a2 : Option Addr) (c1 c2 : Nat) (l : List Int) (l1 : List FAct) (w : World) (hl : IntsOf w a1 l) (hc1 : l.length ≤ c1) (h1 : FActsOf w a2 l1) (hb0 : l.length ≤ 1100) (hb1 : l1.length ≤ 9223372036854775807) (h8 : 8 ≤ size) (h1024 : size ≤ 1024) (hok : (∀ x ∈ l, 2 ≤ x ∧ x < size) ∧ l.Nodup) :
    Calls Try.prog 6 #[.int .i64 size, .slice a1 l.length c1, .slice a2 l1.length c2] w fun e w' => e = .returned (.bool true) ∧ Upd (fun _ => False) w w' := by
  obtain ⟨n, rfl⟩ := Int.eq_ofNat_of_zero_le (show 0 ≤ size by omega)
  have hown := fun w1 (hu : Upd (fun _ => False) w w1) => own_ints a1 c1 l w1 (fun i hi => by obtain ⟨b, off, h1, h2⟩ := hl i hi; exact ⟨b, off, h1, hu.cell h2 (fun x => x)⟩) hc1 (by omega)
  have H0 := Lib.hid hl
  have H1 := Lib.hid h1
  have Hok := Lib.hid hok
  have hk1100 : decide ((1100 : Int) < (l.length : Int)) = false := decide_eq_false (by omega)
  clear hok hl h1
  go_enter Try.func6, Try.ntmps6
  go_wp2_with (first
    | (go_at_call 8; refine (lives_calls w).mono ?_; rintro e w1 ⟨rfl, hu1⟩; obtain ⟨oa, oc, w2, hap, how, hu2⟩ := hown w1 hu1; have hub := hu1.trans hu2; have hnew := new_ok n oa oc l w2 (own_intsOf how) (by omega) h8 h1024 Hok.out.1 Hok.out.2)
    | (at_builtin; refine wpList_append hap rfl rfl rfl rfl ?_)
    | (go_at_call 9; refine hnew.mono ?_; rintro e w3 ⟨hu3, b, vs, vh, L, J, rfl, hd, hsz, hhe, hpm, hb, hJ⟩; have hnew2 := rnew_calls n a1 c1 l w3 (fun i hi => by obtain ⟨b, off, h1, h2⟩ := H0.out i hi; exact ⟨b, off, h1, (hub.trans hu3).cell h2 (fun x => x)⟩) (by omega) (by omega) (by omega))
    | (go_at_call 18; refine hnew2.mono ?_; rintro e w4 ⟨hu4, hsay⟩; obtain ⟨br, g, rfl, hr, hbr, hg⟩ := rnew_yes hsay Hok.out.1 Hok.out.2; clear hsay))
  have s12 := hu2.size
  have s23 := hu3.size
  have s34 := hu4.size
  have s01 := hu1.size
  have he : markOf n l = signs L := markOf_signs hsz hhe hpm
  rw [he] at hr
  have hbl := lt_of_heap hd.blk
  have n1 : b ≠ br := by omega
  have n2 : b ≠ g := by omega
  have hJr : ¬ J br := fun h => by have := hd.bd _ h; omega
  have hJg : ¬ J g := fun h => by have := hd.bd _ h; omega
  have Hdj := Lib.hid (show Dj L from fun x hx => by rw [hhe]; simp)
  have Hown := Lib.hid (own_block (own_grow how (hu3.trans hu4)))
  have hbo := own_far how
  have hstart := Lib.hid (show PlaysZ w b br g vs vh L J l.length oa w4 from ⟨hd.grow hu4, hr, (hub.trans hu3).trans hu4, Hown.out⟩)
  have Hfar := Lib.hid (show ∀ ob, oa = some ⟨ob, 0, none⟩ → w.heap.size ≤ ob ∧ ob ≠ b ∧ ob ≠ br ∧ ob ≠ g ∧ ¬ J ob from fun ob ho => by
    obtain ⟨q1, q2⟩ := hbo ob ho
    exact ⟨by omega, by omega, by omega, by omega, fun h => by have := hJ _ h; omega⟩)
  have g1 : w.heap.size ≤ b := by omega
  have g2 : w.heap.size ≤ br := by omega
  have g3 : w.heap.size ≤ g := by omega
  clear hd hsz hhe hpm hb hJ hr hbr hg hnew hnew2 how hap hu1 hu2 hu3 hu4 hub he s12 s23 s34 s01 hbl Hown hbo hown
  go_loopw [95] (fun i wr => ∃ k : Nat, k ≤ l.length ∧ i = .int .i64 k ∧ PlaysZ w b br g vs vh L J l.length oa wr) (fun i _ => l.length - (intOf i).toNat)
  case atStart => exact ⟨0, Nat.zero_le _, rfl, hstart.out⟩
  case round =>
    clear hstart
    obtain ⟨k, hk, rfl, hz⟩ := hrel
    by_cases hlt : k < l.length
    · obtain ⟨ob, rfl, cur, hblk, hcs⟩ := hz.o k hlt
      have hkc : k < cur.size := by omega
      have c0 : wr.cell? ⟨ob, k, none⟩ = some cur[k] := by rw [cell_of hblk]; simp [hkc]
      have f0 := free_of hblk k
      have Hz := Lib.hid (hz.set (Hfar.out ob rfl) hblk k)
      generalize cur[k] = cv at *
      clear hz hblk
      go_wp2
      go_roundw
      case rel => exact ⟨k + 1, by omega, by go_num, Hz.out⟩
      case measure => simp [intOf]; omega
    · obtain rfl : k = l.length := by omega
      obtain ⟨wo, rfl⟩ : ∃ wo : World, wo = wr := ⟨_, rfl⟩
      have hstart2 := Lib.hid (show PlaysAt w b br g L wo from { x := ⟨vs, vh, J, hz.x, hJr, hJg⟩, r := hz.r, d := Hdj.out, n1 := n1, n2 := n2, g1 := g1, g2 := g2, g3 := g3, u := hz.u })
      clear hz Hdj Hfar hJr hJg
      go_wp2
      go_loopw [104] (fun i wr => ∃ (k : Nat) (L : LS), k ≤ l1.length ∧ i = .int .i64 k ∧ PlaysAt w b br g L wr) (fun i _ => l1.length - (intOf i).toNat)
      case atStart => exact ⟨0, _, Nat.zero_le _, rfl, hstart2.out⟩
      case round =>
        clear hstart2
        obtain ⟨k, L, hk, rfl, hq⟩ := hrel
        by_cases hlt : k < l1.length
        · obtain ⟨rb, off, rfl, hk0, hk1⟩ := H1.out k hlt
          have q0 := hq.u.cell hk0 (fun x => x)
          have q1 := hq.u.cell hk1 (fun x => x)
          generalize l1[k] = ac at *
          clear hk0 hk1
          obtain ⟨kd, id⟩ := ac
          simp only at q0 q1
          by_cases h80 : k < 80
          · have h80' : (k : Int) < (80 : Int) := by omega
            have hbn : ¬ wr.heap.size = b := by
              obtain ⟨vs, vh, J, h1, h2, h3⟩ := hq.x
              have := lt_of_heap h1.blk
              omega
            have hgn : ¬ wr.heap.size = g := by
              have := lt_of_heap hq.r.row
              omega
            have hqa := hq.grow (upd_alloc (fun _ => False) wr (Obj.cells #[Value.int .i64 kd, Value.int .i64 id] 40))
            clear hq
            obtain ⟨vs, vh, J, hd, hJ1, hJ2⟩ := hqa.x
            have hbox := (heap_alloc wr (.cells #[.int .i64 kd, .int .i64 id] 40)).1
            have e0 := cell_of hbox 0
            have e1 := cell_of hbox 1
            clear hbox
            have HD := Lib.hid hd
            have HQ := Lib.hid hqa
            have hdj := hqa.d
            have Hok := Lib.hid hd.ok
            by_cases k0 : kd = 0
            · subst k0
              have htk := take_calls b vs vh L J _ hd
              have Hdj := Lib.hid hdj.take
              have Hd0 := Lib.hid hdj
              have Htv : ∃ x y, L.takes = .tuple #[.int .i64 x, .int .i64 y] := ⟨_, _, rfl⟩
              obtain ⟨tx, ty, htv⟩ := Htv
              have Htv := Lib.hid htv
              rw [htv] at htk
              clear hd hqa hdj htv
              go_wp2_with (first
                | (go_at_call 10; refine htk.mono ?_; rintro e w6 ⟨rfl, hst⟩; obtain ⟨hx6, hr6, hu6⟩ := HQ.out.stepL hJ1 hJ2 hst; have hrt := rtake_calls br g _ w6 hr6 (Nat.le_trans HQ.out.len (by decide)); clear hst)
                | (go_at_call 20; refine hrt.mono ?_; rintro e w7 ⟨hsay, hu7⟩; obtain ⟨he, hr7⟩ := rtake_like Hok.out Hd0.out hsay; rw [Htv.out] at he; subst he; have q7 := HQ.out.stepR hx6 hu6 Hdj.out hr7 hu7; have Q7 := Lib.hid q7; have hlen1 := q7.ok.ls; have hlen2 := q7.ok.lh; have hz0 : Upd (fun _ => False) w7 w7 := Upd.refl _ _; clear q7 hx6 hr6 hu6 hr7 hu7 hsay)
                | (go_at_call 11; with_reducible refine (Q7.out.room (by assumption)).mono ?_; rintro e w' ⟨rfl, rfl⟩) | (go_at_call 23; with_reducible refine (Q7.out.all1 (by assumption)).mono ?_; rintro e wx ⟨va, vc, rfl, hal, hx⟩; have hzz : Upd (fun _ => False) w7 wx := Upd.trans (by assumption) hx; try (have hsq := hsp.grow hx)) | (go_at_call 23; with_reducible refine (Q7.out.all2 (by assumption)).mono ?_; rintro e wx ⟨va, vc, rfl, hal, hx⟩; have hzz : Upd (fun _ => False) w7 wx := Upd.trans (by assumption) hx; try (have hsq := hsp.grow hx)) | (go_at_call 14; with_reducible refine (Q7.out.spare (by assumption)).mono ?_; rintro e wx ⟨va, vc, rfl, hsp, hx⟩; have hzz : Upd (fun _ => False) w7 wx := Upd.trans (by assumption) hx) | (go_at_call 17; with_reducible refine (Q7.out.heldc (by assumption)).mono ?_; rintro e wx ⟨va, vc, rfl, hsp, hx⟩; have hzz : Upd (fun _ => False) w7 wx := Upd.trans (by assumption) hx) | (go_at_call 13; with_reducible refine (same_calls _ _ _ _ hsq hal (by omega)).mono ?_; rintro e wx ⟨rfl, hx⟩; have hzz : Upd (fun _ => False) w7 wx := Upd.trans (by assumption) hx; clear hsp hsq))
              go_roundw
              case rel => exact ⟨k + 1, _, by omega, by go_num, Q7.out.grow (by assumption)⟩
              case measure => simp [intOf]; omega
            · by_cases k1 : kd = 1
              · subst k1
                have hgv := give_calls b vs vh L J id _ (hd.grow (Upd.refl _ _).drew)
                have Hdj := Lib.hid (hdj.give id)
                have hcv := check_some L id
                obtain ⟨cv, hcv⟩ := hcv
                have Hcv := Lib.hid hcv
                rw [hcv] at hgv
                clear hd hqa hdj hcv
                go_wp2
                go_region_held3 (fun w' => w'.cell? ⟨wr.heap.size, 1, none⟩ = some (.int .i64 id)) (first | exact e1 | exact e1' | exact e1'')
                  (first
                  | (go_at_call 12; refine hgv.mono ?_; rintro e w6 ⟨rfl, hst⟩; obtain ⟨hx6, hr6, hu6⟩ := (HQ.out.grow (Upd.refl _ _).drew).stepL hJ1 hJ2 hst; have hrt := rset_give br g L id w6 hr6 Hok.out; rw [Hcv.out] at hrt; have e1' := hst.2.cell e1 hbn; clear hst)
                  | (go_at_call 21; refine hrt.mono ?_; rintro e w7 ⟨rfl, hr7, hu7⟩; have e1'' := hu7.cell e1' hgn; have q7 := HQ.out.stepR hx6 hu6 Hdj.out hr7 hu7; have Q7 := Lib.hid q7; have hlen1 := q7.ok.ls; have hlen2 := q7.ok.lh; have hz0 : Upd (fun _ => False) w7 w7 := Upd.refl _ _; clear q7 hx6 hr6 hu6 hr7 hu7))
                go_wp2_with (first | (go_at_call 11; with_reducible refine (Q7.out.room (by assumption)).mono ?_; rintro e w' ⟨rfl, rfl⟩) | (go_at_call 23; with_reducible refine (Q7.out.all1 (by assumption)).mono ?_; rintro e wx ⟨va, vc, rfl, hal, hx⟩; have hzz : Upd (fun _ => False) w7 wx := Upd.trans (by assumption) hx; try (have hsq := hsp.grow hx)) | (go_at_call 23; with_reducible refine (Q7.out.all2 (by assumption)).mono ?_; rintro e wx ⟨va, vc, rfl, hal, hx⟩; have hzz : Upd (fun _ => False) w7 wx := Upd.trans (by assumption) hx; try (have hsq := hsp.grow hx)) | (go_at_call 14; with_reducible refine (Q7.out.spare (by assumption)).mono ?_; rintro e wx ⟨va, vc, rfl, hsp, hx⟩; have hzz : Upd (fun _ => False) w7 wx := Upd.trans (by assumption) hx) | (go_at_call 17; with_reducible refine (Q7.out.heldc (by assumption)).mono ?_; rintro e wx ⟨va, vc, rfl, hsp, hx⟩; have hzz : Upd (fun _ => False) w7 wx := Upd.trans (by assumption) hx) | (go_at_call 13; with_reducible refine (same_calls _ _ _ _ hsq hal (by omega)).mono ?_; rintro e wx ⟨rfl, hx⟩; have hzz : Upd (fun _ => False) w7 wx := Upd.trans (by assumption) hx; clear hsp hsq))
                go_roundw
                case rel => exact ⟨k + 1, _, by omega, by go_num, Q7.out.grow (by assumption)⟩
                case measure => simp [intOf]; omega
              · by_cases k2 : kd = 2
                · subst k2
                  have hgv := hold_calls b vs vh L J id _ (hd.grow (Upd.refl _ _).drew)
                  have Hdj := Lib.hid (hdj.hold id)
                  have hcv := check_some L id
                  obtain ⟨cv, hcv⟩ := hcv
                  have Hcv := Lib.hid hcv
                  rw [hcv] at hgv
                  clear hd hqa hdj hcv
                  go_wp2
                  go_region_held3 (fun w' => w'.cell? ⟨wr.heap.size, 1, none⟩ = some (.int .i64 id)) (first | exact e1 | exact e1' | exact e1'')
                    (first
                    | (go_at_call 15; refine hgv.mono ?_; rintro e w6 ⟨rfl, hst⟩; obtain ⟨hx6, hr6, hu6⟩ := (HQ.out.grow (Upd.refl _ _).drew).stepL hJ1 hJ2 hst; have hrt := rset_hold br g L id w6 hr6 Hok.out; rw [Hcv.out] at hrt; have e1' := hst.2.cell e1 hbn; clear hst)
                    | (go_at_call 21; refine hrt.mono ?_; rintro e w7 ⟨rfl, hr7, hu7⟩; have e1'' := hu7.cell e1' hgn; have q7 := HQ.out.stepR hx6 hu6 Hdj.out hr7 hu7; have Q7 := Lib.hid q7; have hlen1 := q7.ok.ls; have hlen2 := q7.ok.lh; have hz0 : Upd (fun _ => False) w7 w7 := Upd.refl _ _; clear q7 hx6 hr6 hu6 hr7 hu7))
                  go_wp2_with (first | (go_at_call 11; with_reducible refine (Q7.out.room (by assumption)).mono ?_; rintro e w' ⟨rfl, rfl⟩) | (go_at_call 23; with_reducible refine (Q7.out.all1 (by assumption)).mono ?_; rintro e wx ⟨va, vc, rfl, hal, hx⟩; have hzz : Upd (fun _ => False) w7 wx := Upd.trans (by assumption) hx; try (have hsq := hsp.grow hx)) | (go_at_call 23; with_reducible refine (Q7.out.all2 (by assumption)).mono ?_; rintro e wx ⟨va, vc, rfl, hal, hx⟩; have hzz : Upd (fun _ => False) w7 wx := Upd.trans (by assumption) hx; try (have hsq := hsp.grow hx)) | (go_at_call 14; with_reducible refine (Q7.out.spare (by assumption)).mono ?_; rintro e wx ⟨va, vc, rfl, hsp, hx⟩; have hzz : Upd (fun _ => False) w7 wx := Upd.trans (by assumption) hx) | (go_at_call 17; with_reducible refine (Q7.out.heldc (by assumption)).mono ?_; rintro e wx ⟨va, vc, rfl, hsp, hx⟩; have hzz : Upd (fun _ => False) w7 wx := Upd.trans (by assumption) hx) | (go_at_call 13; with_reducible refine (same_calls _ _ _ _ hsq hal (by omega)).mono ?_; rintro e wx ⟨rfl, hx⟩; have hzz : Upd (fun _ => False) w7 wx := Upd.trans (by assumption) hx; clear hsp hsq))
                  go_roundw
                  case rel => exact ⟨k + 1, _, by omega, by go_num, Q7.out.grow (by assumption)⟩
                  case measure => simp [intOf]; omega
                · have hst := settle_calls b vs vh L J _ hd hdj
                  have Hdj := Lib.hid (Dj.settle L)
                  clear hd hqa hdj
                  have x0 : (kd == 0) = false := by simpa using k0
                  have x1 : (kd == 1) = false := by simpa using k1
                  have x2 : (kd == 2) = false := by simpa using k2
                  go_wp2_with (first
                    | (go_at_call 16; refine hst.mono ?_; rintro e w6 ⟨rfl, hsx⟩; obtain ⟨hx6, hr6, hu6⟩ := HQ.out.stepL hJ1 hJ2 hsx; have hrt := rsettle_at br g L w6 hr6 HQ.out.len; clear hsx)
                    | (go_at_call 22; refine hrt.mono ?_; rintro e w7 ⟨rfl, hr7, hu7⟩; have q7 := HQ.out.stepR hx6 hu6 Hdj.out hr7 hu7; have Q7 := Lib.hid q7; have hlen1 := q7.ok.ls; have hlen2 := q7.ok.lh; have hz0 : Upd (fun _ => False) w7 w7 := Upd.refl _ _; clear q7 hx6 hr6 hu6 hr7 hu7)
                    | (go_at_call 11; with_reducible refine (Q7.out.room (by assumption)).mono ?_; rintro e w' ⟨rfl, rfl⟩) | (go_at_call 23; with_reducible refine (Q7.out.all1 (by assumption)).mono ?_; rintro e wx ⟨va, vc, rfl, hal, hx⟩; have hzz : Upd (fun _ => False) w7 wx := Upd.trans (by assumption) hx; try (have hsq := hsp.grow hx)) | (go_at_call 23; with_reducible refine (Q7.out.all2 (by assumption)).mono ?_; rintro e wx ⟨va, vc, rfl, hal, hx⟩; have hzz : Upd (fun _ => False) w7 wx := Upd.trans (by assumption) hx; try (have hsq := hsp.grow hx)) | (go_at_call 14; with_reducible refine (Q7.out.spare (by assumption)).mono ?_; rintro e wx ⟨va, vc, rfl, hsp, hx⟩; have hzz : Upd (fun _ => False) w7 wx := Upd.trans (by assumption) hx) | (go_at_call 17; with_reducible refine (Q7.out.heldc (by assumption)).mono ?_; rintro e wx ⟨va, vc, rfl, hsp, hx⟩; have hzz : Upd (fun _ => False) w7 wx := Upd.trans (by assumption) hx) | (go_at_call 13; with_reducible refine (same_calls _ _ _ _ hsq hal (by omega)).mono ?_; rintro e wx ⟨rfl, hx⟩; have hzz : Upd (fun _ => False) w7 wx := Upd.trans (by assumption) hx; clear hsp hsq))
                  go_roundw
                  case rel => exact ⟨k + 1, _, by omega, by go_num, Q7.out.grow (by assumption)⟩
                  case measure => simp [intOf]; omega
          · have h80' : ¬ (k : Int) < (80 : Int) := by omega
            have h80'' : (80 : Int) ≤ (k : Int) := by omega
            have HU := Lib.hid hq.u
            clear hq
            go_wp2
            go_ret
            exact ⟨rfl, HU.out.trans (upd_alloc _ _ _)⟩
        · have HU := Lib.hid hq.u
          clear hq
          go_wp2
          go_ret
          exact ⟨rfl, HU.out⟩

theorem copyl_nil (w : World) : Calls Try.prog 19 #[.pointer none] w fun e w' => e = .returned (.pointer none) ∧ w' = w := by
  go_enter Try.func19, Try.ntmps19
  go_wp2
  go_ret
  exact ⟨rfl, rfl⟩
theorem rnew_no' {n : Nat} {l : List Int} {w w' : World} {e : Ending} {c : Int} (h : RNewSays n l w e w') (h1 : ¬ ((∀ x ∈ l, 2 ≤ x ∧ x < (n : Int)) ∧ l.Nodup)) (hc : newNo n l = c) : e = .returned (.tuple #[.pointer none, .int .i64 c]) := by
  subst hc; exact rnew_no h h1
set_option maxRecDepth 100000 in
set_option maxHeartbeats 4000000 in
theorem plays_walk (size : Int) (a1 a2 : Option Addr) (c1 c2 : Nat) (l : List Int) (l1 : List FAct) (w : World) (hl : IntsOf w a1 l) (hc1 : l.length ≤ c1) (h1 : FActsOf w a2 l1) (hb1 : l1.length ≤ 9223372036854775807) :
    Calls Try.prog 6 #[.int .i64 size, .slice a1 l.length c1, .slice a2 l1.length c2] w fun e w' => e = .returned (.bool true) ∧ Upd (fun _ => False) w w' := by
  by_cases hb0 : l.length ≤ 1100
  · have hk1100 : decide ((1100 : Int) < (l.length : Int)) = false := decide_eq_false (by omega)
    have hown := fun w1 (hu : Upd (fun _ => False) w w1) => own_ints a1 c1 l w1 (fun i hi => by obtain ⟨b, off, h1, h2⟩ := hl i hi; exact ⟨b, off, h1, hu.cell h2 (fun x => x)⟩) hc1 (by omega)
    by_cases hs : 8 ≤ size ∧ size ≤ 1024
    · obtain ⟨h8, h1024⟩ := hs
      by_cases hok : (∀ x ∈ l, 2 ≤ x ∧ x < size) ∧ l.Nodup
      · exact plays_ok size a1 a2 c1 c2 l l1 w hl hc1 h1 hb0 hb1 h8 h1024 hok
      · obtain ⟨n, rfl⟩ := Int.eq_ofNat_of_zero_le (show 0 ≤ size by omega)
        have hne := newNo_ne n l
        have H0 := Lib.hid hl
        have Hok := Lib.hid hok
        clear hok hl h1
        obtain ⟨c, hc⟩ : ∃ c, newNo n l = c := ⟨_, rfl⟩
        have Hc := Lib.hid hc
        rw [hc] at hne
        have x0 : (c == 0) = false := by simpa using hne
        have x1 : (c != 0) = true := by simpa using hne
        clear hc hne
        go_enter Try.func6, Try.ntmps6
        go_wp2_with (first
          | (go_at_call 8; refine (lives_calls w).mono ?_; rintro e w1 ⟨rfl, hu1⟩; obtain ⟨oa, oc, w2, hap, how, hu2⟩ := hown w1 hu1; have hub := hu1.trans hu2; have hnew := new_no n oa oc l w2 (own_intsOf how) (by omega) h8 h1024 Hok.out; rw [Hc.out] at hnew)
          | (at_builtin; refine wpList_append hap rfl rfl rfl rfl ?_)
          | (go_at_call 9; refine hnew.mono ?_; rintro e w3 ⟨rfl, hu3⟩; have hnew2 := rnew_calls n a1 c1 l w3 (fun i hi => by obtain ⟨b, off, h1, h2⟩ := H0.out i hi; exact ⟨b, off, h1, (hub.trans hu3).cell h2 (fun x => x)⟩) (by omega) (by omega) (by omega))
          | (go_at_call 18; refine hnew2.mono ?_; rintro e w4 ⟨hu4, hsay⟩; obtain rfl := rnew_no' hsay Hok.out Hc.out; clear hsay)
          | (go_at_call 10; refine (take_nil _).mono ?_; rintro e w' ⟨rfl, rfl⟩) | (go_at_call 16; refine (settle_nil _).mono ?_; rintro e w' ⟨rfl, rfl⟩) | (go_at_call 12; refine (give_nil _ _).mono ?_; rintro e w' ⟨rfl, rfl⟩) | (go_at_call 15; refine (hold_nil _ _).mono ?_; rintro e w' ⟨rfl, rfl⟩) | (go_at_call 11; refine (room_nil _).mono ?_; rintro e w' ⟨rfl, rfl⟩) | (go_at_call 14; refine (spare_nil _).mono ?_; rintro e w' ⟨rfl, rfl⟩) | (go_at_call 17; refine (held_nil _).mono ?_; rintro e w' ⟨rfl, rfl⟩) | (go_at_call 19; refine (copyl_nil _).mono ?_; rintro e w' ⟨rfl, rfl⟩))
        go_ret
        exact ⟨rfl, (hub.trans hu3).trans hu4⟩
    · have hnr : size < 8 ∨ 1024 < size := by omega
      clear hs hl h1
      go_enter Try.func6, Try.ntmps6
      go_wp2_with (first
        | (go_at_call 8; refine (lives_calls w).mono ?_; rintro e w1 ⟨rfl, hu1⟩; obtain ⟨oa, oc, w2, hap, how, hu2⟩ := hown w1 hu1; have hub := hu1.trans hu2)
        | (at_builtin; refine wpList_append hap rfl rfl rfl rfl ?_)
        | (go_at_call 9; refine (errno_new size _ _ hnr).mono ?_; rintro e w3 ⟨rfl, rfl⟩)
        | (go_at_call 18; refine (rnew_arg size _ _ hnr).mono ?_; rintro e w3 ⟨rfl, rfl⟩)
        | (go_at_call 10; refine (take_nil _).mono ?_; rintro e w' ⟨rfl, rfl⟩) | (go_at_call 16; refine (settle_nil _).mono ?_; rintro e w' ⟨rfl, rfl⟩) | (go_at_call 12; refine (give_nil _ _).mono ?_; rintro e w' ⟨rfl, rfl⟩) | (go_at_call 15; refine (hold_nil _ _).mono ?_; rintro e w' ⟨rfl, rfl⟩) | (go_at_call 11; refine (room_nil _).mono ?_; rintro e w' ⟨rfl, rfl⟩) | (go_at_call 14; refine (spare_nil _).mono ?_; rintro e w' ⟨rfl, rfl⟩) | (go_at_call 17; refine (held_nil _).mono ?_; rintro e w' ⟨rfl, rfl⟩) | (go_at_call 19; refine (copyl_nil _).mono ?_; rintro e w' ⟨rfl, rfl⟩))
      go_ret
      exact ⟨rfl, hub⟩
  · have hk1100 : decide ((1100 : Int) < (l.length : Int)) = true := decide_eq_true (by omega)
    clear hl h1
    go_enter Try.func6, Try.ntmps6
    go_wp2_with (first
      | (go_at_call 8; with_reducible refine (lives_calls w).mono ?_; rintro e w1 ⟨rfl, hu1⟩)
      | (go_at_call 8; with_reducible refine (lives_calls w1).mono ?_; rintro e w2 ⟨rfl, hu2⟩))
    go_ret
    exact ⟨rfl, hu1.trans hu2⟩

end Go.Proofs.Ytdobijomdgepjaa
