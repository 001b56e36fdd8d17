/-
  FreeCopies: the walk.
-/
import Derived.Test.YtdobijomdgepjaaFreeH
import Derived.Test.YtdobijomdgepjaaOrdersW
namespace Go.Proofs.Ytdobijomdgepjaa
open Go.RowKit Go.Tb Go.MapKept Go.ChangeMaps
set_option linter.unusedVariables false

def SomeList (b : Nat) (w wr : World) : Prop :=
  ∃ vs vh L J, IsList wr b vs vh L J ∧ Dj L ∧ (∀ x, J x → w.heap.size ≤ x) ∧ Upd (fun _ => False) w wr

theorem SomeList.act {b : Nat} {w wr w' : World} {L' : LS} {J : Nat → Prop} (hs : ListStep wr w' b L' J) (hdj : Dj L') (hJ : ∀ x, J x → w.heap.size ≤ x) (hu : Upd (fun _ => False) w wr) (hb : w.heap.size ≤ b) : SomeList b w w' := by
  obtain ⟨⟨vs2, vh2, J2, hd2, hJ2⟩, hu2⟩ := hs
  exact ⟨vs2, vh2, _, J2, hd2, hdj, fun x hx => (hJ2 x hx).elim (hJ x) (Nat.le_trans hu.size), hu.trans' hu2 (fun y hy e => by omega)⟩

/-- What stands while the copy is acted upon. -/
structure Beside (w : World) (b b2 : Nat) (S H : List Int) (ps ph : Value) (wr : World) : Prop where
  x : ∃ vs vh L J, IsList wr b vs vh L J ∧ L.spare = S ∧ L.held = H ∧ ¬ J b2
  c : ∃ vs vh L J, IsList wr b2 vs vh L J ∧ Dj L
  s : Sl ienc wr ps S
  h : Sl ienc wr ph H
  u : Upd (fun _ => False) w wr

theorem Beside.grow {w wr w' : World} {b b2 : Nat} {S H : List Int} {ps ph : Value} (q : Beside w b b2 S H ps ph wr) (hu : Upd (fun _ => False) wr w') : Beside w b b2 S H ps ph w' := by
  obtain ⟨⟨vs, vh, L, J, h1, h2, h3, h4⟩, ⟨us, uh, M, K, g1, g2⟩, hs, hh, u⟩ := q
  exact ⟨⟨vs, vh, L, J, h1.grow hu, h2, h3, h4⟩, ⟨us, uh, M, K, g1.grow hu, g2⟩, hs.grow hu, hh.grow hu, u.trans hu⟩

set_option maxRecDepth 100000 in
set_option maxHeartbeats 2000000 in
theorem fcopies_ok (a1 a2 a3 : Option Addr) (c1 c2 c3 : Nat) (l : List Int) (l1 l2 : List FAct) (w : World) (hl : IntsOf w a1 l) (h1 : FActsOf w a2 l1) (h2 : FActsOf w a3 l2) (hb0 : l.length ≤ 1100) (hb1 : l1.length ≤ 80) (hb2 : l2.length ≤ 80) (hok : (∀ x ∈ l, 2 ≤ x ∧ x < 64) ∧ l.Nodup) :
    Calls Try.prog 7 #[.slice a1 l.length c1, .slice a2 l1.length c2, .slice a3 l2.length c3] w fun e w' => e = .returned (.bool true) ∧ Upd (fun _ => False) w w' := by
  have hnew := fun w1 (hu : Upd (fun _ => False) w w1) => new_ok 64 a1 c1 l w1 (fun i hi => by obtain ⟨b, off, h1, h2⟩ := hl i hi; exact ⟨b, off, h1, hu.cell h2 (fun x => x)⟩) (by omega) (by decide) (by decide) hok.1 hok.2
  have H1 := Lib.hid h1
  have H2 := Lib.hid h2
  clear hok hl h1 h2
  go_enter Try.func7, Try.ntmps7
  go_wp2_with (first
    | (go_at_call 8; refine (lives_calls w).mono ?_; rintro e w1 ⟨rfl, hu1⟩)
    | (go_at_call 9; refine (hnew w1 hu1).mono ?_; rintro e w2 ⟨hu2, b, vs, vh, L, J, rfl, hd, hsz, hhe, hpm, hb, hJ⟩))
  have hbb : w.heap.size ≤ b := Nat.le_trans hu1.size hb
  have hstart := Lib.hid (show SomeList b w w2 from ⟨vs, vh, L, J, hd, fun x hx => by rw [hhe]; simp, fun x hx => Nat.le_trans hu1.size (hJ x hx), hu1.trans hu2⟩)
  clear hd hsz hhe hpm hb hJ hu1 hu2 hnew
  go_loopw [45] (fun i wr => ∃ k : Nat, k ≤ l1.length ∧ i = .int .i64 k ∧ SomeList b w wr) (fun i _ => l1.length - (intOf i).toNat)
  case atStart => exact ⟨0, Nat.zero_le _, rfl, hstart.out⟩
  case round =>
    clear hstart
    obtain ⟨k, hk, rfl, vs, vh, L, J, hd, hdj, hJ, hu⟩ := hrel
    by_cases hlt : k < l1.length
    · obtain ⟨rb, off, rfl, hk0, hk1⟩ := H1.out k hlt
      have q0 := hu.cell hk0 (fun x => x)
      have q1 := hu.cell hk1 (fun x => x)
      generalize l1[k] = ac at *
      clear hk0 hk1
      have hub : Upd (fun _ => False) wr (wr.alloc (Obj.cells #[Value.int .i64 ac.kind, Value.int .i64 ac.id] 40)) := upd_alloc _ _ _
      have hdo := do_calls b vs vh L J ac.kind ac.id _ (hd.grow hub) hdj
      have Hn := Lib.hid (fun w6 hs => SomeList.act (w' := w6) hs (hdj.act ac.kind ac.id) hJ (hu.trans hub) hbb)
      clear hd hdj hJ hu hub
      obtain ⟨kd, id⟩ := ac
      simp only at q0 q1 hdo
      go_wp2_with (go_at_call 24; refine hdo.mono ?_; rintro e w6 ⟨rfl, hs6⟩)
      go_roundw
      case rel => exact ⟨k + 1, by omega, by go_num, Hn.out _ hs6⟩
      case measure => simp [intOf]; omega
    · obtain rfl : k = l1.length := by omega
      obtain ⟨wo, rfl⟩ : ∃ wo : World, wo = wr := ⟨_, rfl⟩
      have hcp := copyl_calls b vs vh L J wo hd
      have hbwo := lt_of_heap hd.blk
      have HD := Lib.hid hd
      have HJ := Lib.hid hJ
      have HDj := Lib.hid hdj
      have Hls := Lib.hid hd.ok.ls
      have Hlh := Lib.hid hd.ok.lh
      clear hd hJ hdj
      go_wp2_with (first
        | (go_at_call 19; refine hcp.mono ?_; rintro e w3 ⟨b2, us, uh, K, rfl, hc3, hb2', hK, hu3⟩; have hsx := spare_calls b vs vh L J w3 (HD.out.grow hu3))
        | (go_at_call 14; with_reducible refine hsx.mono ?_; rintro e w4 ⟨ps, rfl, hps, hpsb, hu4⟩; obtain ⟨pa, pc, hpse, -⟩ := hps.shape; generalize hnS : L.spare.length = nS at hpse; have HnS := Lib.hid hnS; clear hnS; subst hpse; have hhx := held_calls b vs vh L J w4 (HD.out.grow (hu3.trans hu4)))
        | (go_at_call 17; with_reducible refine hhx.mono ?_; rintro e w5 ⟨ph, rfl, hph, hphb, hu5⟩; obtain ⟨qa, qc, hphe, -⟩ := hph.shape; generalize hnH : L.held.length = nH at hphe; have HnH := Lib.hid hnH; clear hnH; subst hphe; have hsc := spare_calls b2 us uh L K w5 (hc3.grow (hu4.trans hu5)))
        | (go_at_call 14; with_reducible refine hsc.mono ?_; rintro e w6 ⟨pt, rfl, hpt, -, hu6⟩; obtain ⟨ta, tc, hpte, -⟩ := hpt.shape; have hsm := same_calls pt (.slice pa nS pc) L.spare w6 hpt ((hps.grow hu5).grow hu6) (by have := Hls.out; omega); generalize L.spare.length = nT at hpte; subst hpte)
        | (go_at_call 13; with_reducible refine hsm.mono ?_; rintro e w7 ⟨rfl, hu7⟩; have hhc := held_calls b2 us uh L K w7 (hc3.grow (((hu4.trans hu5).trans hu6).trans hu7)))
        | (go_at_call 17; with_reducible refine hhc.mono ?_; rintro e w8 ⟨pv, rfl, hpv, -, hu8⟩; obtain ⟨va, vc, hpve, -⟩ := hpv.shape; have hsn := same_calls pv (.slice qa nH qc) L.held w8 hpv (((hph.grow hu6).grow hu7).grow hu8) (by have := Hlh.out; omega); generalize L.held.length = nV at hpve; subst hpve)
        | (go_at_call 13; with_reducible refine hsn.mono ?_; rintro e w9 ⟨rfl, hu9⟩))
      have hu39 := (((((hu4.trans hu5).trans hu6).trans hu7).trans hu8).trans hu9)
      have hne1 : b ≠ b2 := by omega
      have hnS : ∀ k, sliceBlock (.slice pa nS pc) = some k → k ≠ b2 := fun k hk e => by have := hpsb k hk; have := lt_of_heap hc3.blk; omega
      have hnH : ∀ k, sliceBlock (.slice qa nH qc) = some k → k ≠ b2 := fun k hk e => by have := hphb k hk; have := lt_of_heap hc3.blk; have := hu4.size; omega
      have HnSb := Lib.hid hnS
      have HnHb := Lib.hid hnH
      have hbw2 : w.heap.size ≤ b2 := Nat.le_trans hu.size hb2'
      have hstart := Lib.hid (show Beside w b b2 L.spare L.held (.slice pa nS pc) (.slice qa nH qc) w9 from
        ⟨⟨vs, vh, L, J, HD.out.grow (hu3.trans hu39), rfl, rfl, fun h => by have := HD.out.bd _ h; omega⟩, ⟨us, uh, L, K, hc3.grow hu39, HDj.out⟩,
          (((((hps.grow hu5).grow hu6).grow hu7).grow hu8).grow hu9), ((((hph.grow hu6).grow hu7).grow hu8).grow hu9), (hu.trans hu3).trans hu39⟩)
      have hlS := Hls.out
      have hlH := Hlh.out
      generalize L.spare = SS at *
      generalize L.held = HH at *
      clear hnS hnH hu39 hu3 hu4 hu5 hu6 hu7 hu8 hu9 hps hph hpsb hphb hpt hpv hc3 hK hcp hsx hhx hsc hsm hhc hsn HD HJ HDj hu
      go_loopw [73] (fun i wr => ∃ k : Nat, k ≤ l2.length ∧ i = .int .i64 k ∧ Beside w b b2 SS HH (.slice pa nS pc) (.slice qa nH qc) wr) (fun i _ => l2.length - (intOf i).toNat)
      case atStart => exact ⟨0, Nat.zero_le _, rfl, hstart.out⟩
      case round =>
        clear hstart
        obtain ⟨k, hk, rfl, hB⟩ := hrel
        by_cases hlt : k < l2.length
        · obtain ⟨rb, off, rfl, hk0, hk1⟩ := H2.out k hlt
          have q0 := hB.u.cell hk0 (fun x => x)
          have q1 := hB.u.cell hk1 (fun x => x)
          generalize l2[k] = ac at *
          clear hk0 hk1
          have hB2 := hB.grow (upd_alloc (fun _ => False) wr (Obj.cells #[Value.int .i64 ac.kind, Value.int .i64 ac.id] 40))
          obtain ⟨vs, vh, L, J, hd, hdj⟩ := hB2.c
          have hdo := do_calls b2 vs vh L J ac.kind ac.id _ hd hdj
          have HB := Lib.hid hB2
          have Hdj := Lib.hid (hdj.act ac.kind ac.id)
          clear hB hB2 hd hdj
          obtain ⟨kd, id⟩ := ac
          simp only at q0 q1 hdo
          go_wp2_with (go_at_call 24; refine hdo.mono ?_; rintro e w6 ⟨rfl, ⟨vs2, vh2, J2, hd2, hJ2⟩, hu6⟩)
          go_roundw
          case rel =>
            obtain ⟨⟨xs, xh, X, Jx, g1, g2, g3, g4⟩, -, g5, g6, g7⟩ := HB.out
            exact ⟨k + 1, by omega, by go_num, ⟨⟨xs, xh, X, Jx, g1.upd hu6 hne1 (fun y hy e => g4 (e ▸ hy)), g2, g3, g4⟩, ⟨vs2, vh2, _, J2, hd2, Hdj.out⟩, g5.upd hu6 HnSb.out, g6.upd hu6 HnHb.out, g7.trans' hu6 (fun y hy e => by omega)⟩⟩
          case measure => simp [intOf]; omega
        · obtain rfl : k = l2.length := by omega
          obtain ⟨⟨xs, xh, X, Jx, g1, g2, g3, g4⟩, -, g5, g6, g7⟩ := hB
          have sx := fun w' (q : Upd (fun _ => False) wr w') => g2 ▸ spare_calls b xs xh X Jx w' (g1.grow q)
          have hx := fun w' (q : Upd (fun _ => False) wr w') => g3 ▸ held_calls b xs xh X Jx w' (g1.grow q)
          clear g1 g2 g3 g4
          go_wp2_with (first
            | (go_at_call 14; with_reducible refine (sx wr (Upd.refl _ _)).mono ?_; rintro e s1 ⟨p1, rfl, hp1, -, hv1⟩; obtain ⟨pa1, pc1, hpe1, -⟩ := hp1.shape; have sm1 := same_calls p1 (.slice pa nS pc) SS s1 hp1 (g5.grow hv1) (by omega); generalize SS.length = m1 at hpe1; subst hpe1)
            | (go_at_call 13; with_reducible refine sm1.mono ?_; rintro e s2 ⟨rfl, hv2⟩)
            | (go_at_call 17; with_reducible refine (hx s2 (hv1.trans hv2)).mono ?_; rintro e s3 ⟨p3, rfl, hp3, -, hv3⟩; obtain ⟨pa3, pc3, hpe3, -⟩ := hp3.shape; have sm3 := same_calls p3 (.slice qa nH qc) HH s3 hp3 (((g6.grow hv1).grow hv2).grow hv3) (by omega); generalize HH.length = m3 at hpe3; subst hpe3)
            | (go_at_call 13; with_reducible refine sm3.mono ?_; rintro e s4 ⟨rfl, hv4⟩))
          go_ret
          exact ⟨rfl, g7.trans (((hv1.trans hv2).trans hv3).trans hv4)⟩

end Go.Proofs.Ytdobijomdgepjaa
