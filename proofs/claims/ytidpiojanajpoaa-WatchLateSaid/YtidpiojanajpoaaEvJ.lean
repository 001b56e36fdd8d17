/-
  Same of equal events; SameBatch.
-/
import Derived.Deep.Cut
import Derived.Deep.RegionHeld3
import Derived.Test.YtidpiojanajpoaaEvC
namespace Go.Proofs.Ytidpiojanajpoaa
open Go.RowKit Go.Tb Go.MapKept Go.ChangeMaps
set_option linter.unusedVariables false

set_option maxRecDepth 100000 in
set_option maxHeartbeats 4000000 in
theorem same17_true (va vb : Value) (ps qs : List EvP) (I J : Nat → Prop) (w : World) (hp : Evs w I va ps) (hq : Evs w J vb qs) (he : ps.map EvP.x = qs.map EvP.x) (hn : ps.length ≤ 800000000000) :
    Calls Try.prog 19 #[va, vb] w fun e w' => e = .returned (.bool true) ∧ Upd (fun _ => False) w w' := by
  have hl : ps.length = qs.length := by have := congrArg List.length he; simpa using this
  obtain ⟨a1, c1, rfl, hc1⟩ := hp.1.shape
  obtain ⟨a2, c2, rfl, hc2⟩ := hq.1.shape
  have H1 := Lib.hid hp
  have H2 := Lib.hid hq
  have HE := Lib.hid he
  have HL := Lib.hid hl
  rw [← hl] at hc2 ⊢
  clear hp hq he hl
  go_enter Try.func19, Try.ntmps19
  go_wp2
  go_loopw [13] (fun i wr => ∃ k : Nat, k ≤ ps.length ∧ i = .int .i64 k ∧ Upd (fun _ => False) w wr) (fun i _ => ps.length - (intOf i).toNat)
  case atStart => exact ⟨0, Nat.zero_le _, rfl, Upd.refl _ _⟩
  case round =>
    obtain ⟨k, hk, rfl, hu⟩ := hrel
    have HU := Lib.hid hu
    by_cases hlt : k < ps.length
    · have hlt2 : k < qs.length := by rw [← HL.out]; exact hlt
      obtain ⟨b1, o1, rfl, q1⟩ := H1.out.range k hlt
      obtain ⟨b2, o2, rfl, q2⟩ := H2.out.range k hlt2
      have r1 := rangeAt_upd q1 hu (fun x => x)
      have r2 := rangeAt_upd q2 hu (fun x => x)
      have hx : ps[k].x = qs[k].x := by
        have : (ps.map EvP.x)[k]? = (qs.map EvP.x)[k]? := by rw [HE.out]
        simpa [List.getElem?_map, List.getElem?_eq_getElem hlt, List.getElem?_eq_getElem hlt2] using this
      have hs1 := fun (W : World) (hu' : Upd (fun _ => False) wr W) => same13_calls ps[k].kv qs[k].kv I J W (((H1.out.2 _ (List.getElem_mem hlt)).grow hu).grow hu').kv (((H2.out.2 _ (List.getElem_mem hlt2)).grow hu).grow hu').kv
      have hs2 := fun (W : World) (hu' : Upd (fun _ => False) wr W) => same13_calls ps[k].prev qs[k].prev I J W (((H1.out.2 _ (List.getElem_mem hlt)).grow hu).grow hu').prev (((H2.out.2 _ (List.getElem_mem hlt2)).grow hu).grow hu').prev
      have x0 : (0 : Int) ≤ (k : Int) := by omega
      have x1 : (k : Int) < (ps.length : Int) := by omega
      generalize ps[k] = p at *
      generalize qs[k] = q at *
      clear q1 q2 hu
      obtain ⟨kind, ⟨⟨k1, v1, r1', m1, n1, l1⟩, ⟨pa1, pz1, pc1⟩, ⟨pa2, pz2, pc2⟩⟩, had, ⟨⟨k2, v2, r2', m2, n2, l2⟩, ⟨pa3, pz3, pc3⟩, ⟨pa4, pz4, pc4⟩⟩⟩ := p
      obtain ⟨kind', ⟨⟨k1', v1', r1'', m1', n1', l1'⟩, ⟨qa1, qz1, qc1⟩, ⟨qa2, qz2, qc2⟩⟩, had', ⟨⟨k2', v2', r2'', m2', n2', l2'⟩, ⟨qa3, qz3, qc3⟩, ⟨qa4, qz4, qc4⟩⟩⟩ := q
      simp only [EvP.x, Ev.mk.injEq, KV.mk.injEq] at hx
      obtain ⟨rfl, ⟨rfl, rfl, rfl, rfl, rfl, rfl⟩, rfl, rfl, rfl, rfl, rfl, rfl, rfl⟩ := hx
      simp only [evenc, kvenc, Sv.v] at r1 r2 hs1 hs2
      simp only [sameKV_refl] at hs1 hs2
      have h1 := hs1 wr.drew (Upd.refl _ _).drew
      have H22 := Lib.hid hs2
      clear hs1 hs2
      have e0 : wr.cell? ⟨b1, o1 + k * 14, none⟩ = some (.int .i64 kind) := r1 0 _ rfl
      have e1 : wr.cell? ⟨b1, o1 + k * 14 + 1, none⟩ = some (.slice pa1 pz1 pc1) := r1 1 _ rfl
      have e2 : wr.cell? ⟨b1, o1 + k * 14 + 2, none⟩ = some (.slice pa2 pz2 pc2) := r1 2 _ rfl
      have e3 : wr.cell? ⟨b1, o1 + k * 14 + 3, none⟩ = some (.int .i64 r1') := r1 3 _ rfl
      have e4 : wr.cell? ⟨b1, o1 + k * 14 + 4, none⟩ = some (.int .i64 m1) := r1 4 _ rfl
      have e5 : wr.cell? ⟨b1, o1 + k * 14 + 5, none⟩ = some (.int .i64 n1) := r1 5 _ rfl
      have e6 : wr.cell? ⟨b1, o1 + k * 14 + 6, none⟩ = some (.int .i64 l1) := r1 6 _ rfl
      have e7 : wr.cell? ⟨b1, o1 + k * 14 + 7, none⟩ = some (.bool had) := r1 7 _ rfl
      have e8 : wr.cell? ⟨b1, o1 + k * 14 + 8, none⟩ = some (.slice pa3 pz3 pc3) := r1 8 _ rfl
      have e9 : wr.cell? ⟨b1, o1 + k * 14 + 9, none⟩ = some (.slice pa4 pz4 pc4) := r1 9 _ rfl
      have e10 : wr.cell? ⟨b1, o1 + k * 14 + 10, none⟩ = some (.int .i64 r2') := r1 10 _ rfl
      have e11 : wr.cell? ⟨b1, o1 + k * 14 + 11, none⟩ = some (.int .i64 m2) := r1 11 _ rfl
      have e12 : wr.cell? ⟨b1, o1 + k * 14 + 12, none⟩ = some (.int .i64 n2) := r1 12 _ rfl
      have e13 : wr.cell? ⟨b1, o1 + k * 14 + 13, none⟩ = some (.int .i64 l2) := r1 13 _ rfl
      have g0 : wr.cell? ⟨b2, o2 + k * 14, none⟩ = some (.int .i64 kind) := r2 0 _ rfl
      have g1 : wr.cell? ⟨b2, o2 + k * 14 + 1, none⟩ = some (.slice qa1 qz1 qc1) := r2 1 _ rfl
      have g2 : wr.cell? ⟨b2, o2 + k * 14 + 2, none⟩ = some (.slice qa2 qz2 qc2) := r2 2 _ rfl
      have g3 : wr.cell? ⟨b2, o2 + k * 14 + 3, none⟩ = some (.int .i64 r1') := r2 3 _ rfl
      have g4 : wr.cell? ⟨b2, o2 + k * 14 + 4, none⟩ = some (.int .i64 m1) := r2 4 _ rfl
      have g5 : wr.cell? ⟨b2, o2 + k * 14 + 5, none⟩ = some (.int .i64 n1) := r2 5 _ rfl
      have g6 : wr.cell? ⟨b2, o2 + k * 14 + 6, none⟩ = some (.int .i64 l1) := r2 6 _ rfl
      have g7 : wr.cell? ⟨b2, o2 + k * 14 + 7, none⟩ = some (.bool had) := r2 7 _ rfl
      have g8 : wr.cell? ⟨b2, o2 + k * 14 + 8, none⟩ = some (.slice qa3 qz3 qc3) := r2 8 _ rfl
      have g9 : wr.cell? ⟨b2, o2 + k * 14 + 9, none⟩ = some (.slice qa4 qz4 qc4) := r2 9 _ rfl
      have g10 : wr.cell? ⟨b2, o2 + k * 14 + 10, none⟩ = some (.int .i64 r2') := r2 10 _ rfl
      have g11 : wr.cell? ⟨b2, o2 + k * 14 + 11, none⟩ = some (.int .i64 m2) := r2 11 _ rfl
      have g12 : wr.cell? ⟨b2, o2 + k * 14 + 12, none⟩ = some (.int .i64 n2) := r2 12 _ rfl
      have g13 : wr.cell? ⟨b2, o2 + k * 14 + 13, none⟩ = some (.int .i64 l2) := r2 13 _ rfl
      clear r1 r2
      go_wp2
      have hk1 : (kind != kind) = false := by simp
      have hk2 : (had != had) = false := by simp
      go_region_held3 (fun w' => w'.cell? ⟨b1, o1 + k * 14, none⟩ = some (.int .i64 kind) ∧ w'.cell? ⟨b1, o1 + k * 14 + 1, none⟩ = some (.slice pa1 pz1 pc1) ∧ w'.cell? ⟨b1, o1 + k * 14 + 2, none⟩ = some (.slice pa2 pz2 pc2) ∧ w'.cell? ⟨b1, o1 + k * 14 + 3, none⟩ = some (.int .i64 r1') ∧ w'.cell? ⟨b1, o1 + k * 14 + 4, none⟩ = some (.int .i64 m1) ∧ w'.cell? ⟨b1, o1 + k * 14 + 5, none⟩ = some (.int .i64 n1) ∧ w'.cell? ⟨b1, o1 + k * 14 + 6, none⟩ = some (.int .i64 l1) ∧ w'.cell? ⟨b1, o1 + k * 14 + 7, none⟩ = some (.bool had) ∧ w'.cell? ⟨b1, o1 + k * 14 + 8, none⟩ = some (.slice pa3 pz3 pc3) ∧ w'.cell? ⟨b1, o1 + k * 14 + 9, none⟩ = some (.slice pa4 pz4 pc4) ∧ w'.cell? ⟨b1, o1 + k * 14 + 10, none⟩ = some (.int .i64 r2') ∧ w'.cell? ⟨b1, o1 + k * 14 + 11, none⟩ = some (.int .i64 m2) ∧ w'.cell? ⟨b1, o1 + k * 14 + 12, none⟩ = some (.int .i64 n2) ∧ w'.cell? ⟨b1, o1 + k * 14 + 13, none⟩ = some (.int .i64 l2) ∧ w'.cell? ⟨b2, o2 + k * 14, none⟩ = some (.int .i64 kind) ∧ w'.cell? ⟨b2, o2 + k * 14 + 1, none⟩ = some (.slice qa1 qz1 qc1) ∧ w'.cell? ⟨b2, o2 + k * 14 + 2, none⟩ = some (.slice qa2 qz2 qc2) ∧ w'.cell? ⟨b2, o2 + k * 14 + 3, none⟩ = some (.int .i64 r1') ∧ w'.cell? ⟨b2, o2 + k * 14 + 4, none⟩ = some (.int .i64 m1) ∧ w'.cell? ⟨b2, o2 + k * 14 + 5, none⟩ = some (.int .i64 n1) ∧ w'.cell? ⟨b2, o2 + k * 14 + 6, none⟩ = some (.int .i64 l1) ∧ w'.cell? ⟨b2, o2 + k * 14 + 7, none⟩ = some (.bool had) ∧ w'.cell? ⟨b2, o2 + k * 14 + 8, none⟩ = some (.slice qa3 qz3 qc3) ∧ w'.cell? ⟨b2, o2 + k * 14 + 9, none⟩ = some (.slice qa4 qz4 qc4) ∧ w'.cell? ⟨b2, o2 + k * 14 + 10, none⟩ = some (.int .i64 r2') ∧ w'.cell? ⟨b2, o2 + k * 14 + 11, none⟩ = some (.int .i64 m2) ∧ w'.cell? ⟨b2, o2 + k * 14 + 12, none⟩ = some (.int .i64 n2) ∧ w'.cell? ⟨b2, o2 + k * 14 + 13, none⟩ = some (.int .i64 l2))
        (first | exact ⟨e0, e1, e2, e3, e4, e5, e6, e7, e8, e9, e10, e11, e12, e13, g0, g1, g2, g3, g4, g5, g6, g7, g8, g9, g10, g11, g12, g13⟩ | exact ⟨hxb.cell e0 (fun x => x), hxb.cell e1 (fun x => x), hxb.cell e2 (fun x => x), hxb.cell e3 (fun x => x), hxb.cell e4 (fun x => x), hxb.cell e5 (fun x => x), hxb.cell e6 (fun x => x), hxb.cell e7 (fun x => x), hxb.cell e8 (fun x => x), hxb.cell e9 (fun x => x), hxb.cell e10 (fun x => x), hxb.cell e11 (fun x => x), hxb.cell e12 (fun x => x), hxb.cell e13 (fun x => x), hxb.cell g0 (fun x => x), hxb.cell g1 (fun x => x), hxb.cell g2 (fun x => x), hxb.cell g3 (fun x => x), hxb.cell g4 (fun x => x), hxb.cell g5 (fun x => x), hxb.cell g6 (fun x => x), hxb.cell g7 (fun x => x), hxb.cell g8 (fun x => x), hxb.cell g9 (fun x => x), hxb.cell g10 (fun x => x), hxb.cell g11 (fun x => x), hxb.cell g12 (fun x => x), hxb.cell g13 (fun x => x)⟩ | exact ⟨hxa.cell e0 (fun x => x), hxa.cell e1 (fun x => x), hxa.cell e2 (fun x => x), hxa.cell e3 (fun x => x), hxa.cell e4 (fun x => x), hxa.cell e5 (fun x => x), hxa.cell e6 (fun x => x), hxa.cell e7 (fun x => x), hxa.cell e8 (fun x => x), hxa.cell e9 (fun x => x), hxa.cell e10 (fun x => x), hxa.cell e11 (fun x => x), hxa.cell e12 (fun x => x), hxa.cell e13 (fun x => x), hxa.cell g0 (fun x => x), hxa.cell g1 (fun x => x), hxa.cell g2 (fun x => x), hxa.cell g3 (fun x => x), hxa.cell g4 (fun x => x), hxa.cell g5 (fun x => x), hxa.cell g6 (fun x => x), hxa.cell g7 (fun x => x), hxa.cell g8 (fun x => x), hxa.cell g9 (fun x => x), hxa.cell g10 (fun x => x), hxa.cell g11 (fun x => x), hxa.cell g12 (fun x => x), hxa.cell g13 (fun x => x)⟩)
        (first | (go_at_call 35; (with_reducible refine h1.mono ?_); rintro e wa ⟨rfl, hua⟩; have hxa := hua.undrew; have h2 := H22.out wa hxa) | (go_at_call 35; (with_reducible refine h2.mono ?_); rintro e wb ⟨rfl, hub⟩; have hxb := hxa.trans hub))
      go_wp2
      go_roundw
      case rel => exact ⟨k + 1, by omega, by go_num, HU.out.trans hxb⟩
      case measure => simp [intOf]; omega
    · obtain rfl : k = ps.length := by omega
      clear hu
      go_wp2
      go_ret
      exact ⟨rfl, HU.out⟩

end Go.Proofs.Ytidpiojanajpoaa
