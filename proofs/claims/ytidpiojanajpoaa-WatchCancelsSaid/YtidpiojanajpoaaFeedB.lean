/-
  Right of what is right.
-/
import Derived.Test.YtidpiojanajpoaaFeedA
namespace Go.Proofs.Ytidpiojanajpoaa
open Go.RowKit Go.Tb Go.MapKept Go.ChangeMaps
set_option linter.unusedVariables false

/-- Do the Mods never fall? -/
def Rising (l : List Ev) : Prop := ∀ i (h : i + 1 < l.length), l[i].kv.mod ≤ l[i + 1].kv.mod

set_option maxRecDepth 100000 in
set_option maxHeartbeats 4000000 in
theorem sorted_true (v : Value) (ps : List EvP) (I : Nat → Prop) (w : World) (h : Evs w I v ps) (hs : Rising (ps.map EvP.x)) (hn : ps.length ≤ 800000000000) :
    Calls Try.prog 59 #[v, .func (.func 60) #[] #[]] w fun e w' => e = .returned (.bool true) ∧ Upd (fun _ => False) w w' := by
  obtain ⟨a, c, rfl, hc⟩ := h.1.shape
  have H := Lib.hid h
  have HS := Lib.hid hs
  clear h hs
  go_enter Try.func59, Try.ntmps59
  go_wp2
  go_loopw [5] (fun i wr => ∃ k : Int, -1 ≤ k ∧ k < (ps.length : Int) ∧ i = .int .i64 k ∧ Upd (fun _ => False) w wr) (fun i _ => (intOf i).toNat)
  case atStart => exact ⟨(ps.length : Int) - 1, by omega, by omega, by go_num, Upd.refl _ _⟩
  case round =>
    obtain ⟨k0, hk0, hk1, rfl, hu⟩ := hrel
    have HU := Lib.hid hu
    by_cases hpos : 0 < k0
    · obtain ⟨j, hj⟩ : ∃ j : Nat, k0 = ((j + 1 : Nat) : Int) := ⟨(k0 - 1).toNat, by omega⟩
      obtain ⟨k, hkj⟩ : ∃ k : Nat, k = j + 1 := ⟨_, rfl⟩
      rw [← hkj] at hj
      subst hj
      have hlt : k < ps.length := by omega
      have hlt2 : j < ps.length := by omega
      obtain ⟨b1, o1, rfl, q1⟩ := H.out.range k hlt
      obtain ⟨b2, o2, hee, q2⟩ := H.out.range j hlt2
      cases hee
      have r1 := rangeAt_upd q1 hu (fun x => x)
      have r2 := rangeAt_upd q2 hu (fun x => x)
      have hcl := rclos_calls ps[k] ps[j] wr.drew
      have hm : decide (cmpM ps[k].kv.x.mod ps[j].kv.x.mod < 0) = false := by
        have h1 := HS.out j (by rw [List.length_map]; omega)
        have h3 : ps[j].x.kv.mod ≤ ps[k].x.kv.mod := by simpa [← hkj] using h1
        have h2 : ps[j].kv.x.mod ≤ ps[k].kv.x.mod := h3
        apply decide_eq_false
        unfold cmpM
        split <;> (try split) <;> omega
      have hw1 : IntKind.i64.wrap ((k : Int) - 1) = (j : Int) := by rw [IntWalk.i64_in _ (by omega)]; omega
      have x0 : (0 : Int) ≤ (k : Int) := by omega
      have x1 : (k : Int) < (ps.length : Int) := by omega
      have x2 : (0 : Int) ≤ (j : Int) := by omega
      have x3 : (j : Int) < (ps.length : Int) := by omega
      generalize cmpM ps[k].kv.x.mod ps[j].kv.x.mod = r at *
      generalize ps[k] = p at *
      generalize ps[j] = q at *
      clear q1 q2 hu
      have HKJ := Lib.hid hkj
      clear hkj
      obtain ⟨pkind, ⟨⟨pk1, pv1, pr1, pm1, pn1, pl1⟩, ⟨pa1, pz1, pc1⟩, ⟨pa2, pz2, pc2⟩⟩, phad, ⟨⟨pk2, pv2, pr2, pm2, pn2, pl2⟩, ⟨pa3, pz3, pc3⟩, ⟨pa4, pz4, pc4⟩⟩⟩ := p
      obtain ⟨qkind, ⟨⟨qk1, qv1, qr1, qm1, qn1, ql1⟩, ⟨qa1, qz1, qc1⟩, ⟨qa2, qz2, qc2⟩⟩, qhad, ⟨⟨qk2, qv2, qr2, qm2, qn2, ql2⟩, ⟨qa3, qz3, qc3⟩, ⟨qa4, qz4, qc4⟩⟩⟩ := q
      simp only [evenc, evx, Sv.v] at r1 r2 hcl
      have e0 : wr.cell? ⟨b1, o1 + k * 14, none⟩ = some (.int .i64 pkind) := r1 0 _ rfl
      have e1 : wr.cell? ⟨b1, o1 + k * 14 + 1, none⟩ = some (.slice pa1 pz1 pc1) := r1 1 _ rfl
      have e2 : wr.cell? ⟨b1, o1 + k * 14 + 2, none⟩ = some (.slice pa2 pz2 pc2) := r1 2 _ rfl
      have e3 : wr.cell? ⟨b1, o1 + k * 14 + 3, none⟩ = some (.int .i64 pr1) := r1 3 _ rfl
      have e4 : wr.cell? ⟨b1, o1 + k * 14 + 4, none⟩ = some (.int .i64 pm1) := r1 4 _ rfl
      have e5 : wr.cell? ⟨b1, o1 + k * 14 + 5, none⟩ = some (.int .i64 pn1) := r1 5 _ rfl
      have e6 : wr.cell? ⟨b1, o1 + k * 14 + 6, none⟩ = some (.int .i64 pl1) := r1 6 _ rfl
      have e7 : wr.cell? ⟨b1, o1 + k * 14 + 7, none⟩ = some (.bool phad) := r1 7 _ rfl
      have e8 : wr.cell? ⟨b1, o1 + k * 14 + 8, none⟩ = some (.slice pa3 pz3 pc3) := r1 8 _ rfl
      have e9 : wr.cell? ⟨b1, o1 + k * 14 + 9, none⟩ = some (.slice pa4 pz4 pc4) := r1 9 _ rfl
      have e10 : wr.cell? ⟨b1, o1 + k * 14 + 10, none⟩ = some (.int .i64 pr2) := r1 10 _ rfl
      have e11 : wr.cell? ⟨b1, o1 + k * 14 + 11, none⟩ = some (.int .i64 pm2) := r1 11 _ rfl
      have e12 : wr.cell? ⟨b1, o1 + k * 14 + 12, none⟩ = some (.int .i64 pn2) := r1 12 _ rfl
      have e13 : wr.cell? ⟨b1, o1 + k * 14 + 13, none⟩ = some (.int .i64 pl2) := r1 13 _ rfl
      have g0 : wr.cell? ⟨b1, o1 + j * 14, none⟩ = some (.int .i64 qkind) := r2 0 _ rfl
      have g1 : wr.cell? ⟨b1, o1 + j * 14 + 1, none⟩ = some (.slice qa1 qz1 qc1) := r2 1 _ rfl
      have g2 : wr.cell? ⟨b1, o1 + j * 14 + 2, none⟩ = some (.slice qa2 qz2 qc2) := r2 2 _ rfl
      have g3 : wr.cell? ⟨b1, o1 + j * 14 + 3, none⟩ = some (.int .i64 qr1) := r2 3 _ rfl
      have g4 : wr.cell? ⟨b1, o1 + j * 14 + 4, none⟩ = some (.int .i64 qm1) := r2 4 _ rfl
      have g5 : wr.cell? ⟨b1, o1 + j * 14 + 5, none⟩ = some (.int .i64 qn1) := r2 5 _ rfl
      have g6 : wr.cell? ⟨b1, o1 + j * 14 + 6, none⟩ = some (.int .i64 ql1) := r2 6 _ rfl
      have g7 : wr.cell? ⟨b1, o1 + j * 14 + 7, none⟩ = some (.bool qhad) := r2 7 _ rfl
      have g8 : wr.cell? ⟨b1, o1 + j * 14 + 8, none⟩ = some (.slice qa3 qz3 qc3) := r2 8 _ rfl
      have g9 : wr.cell? ⟨b1, o1 + j * 14 + 9, none⟩ = some (.slice qa4 qz4 qc4) := r2 9 _ rfl
      have g10 : wr.cell? ⟨b1, o1 + j * 14 + 10, none⟩ = some (.int .i64 qr2) := r2 10 _ rfl
      have g11 : wr.cell? ⟨b1, o1 + j * 14 + 11, none⟩ = some (.int .i64 qm2) := r2 11 _ rfl
      have g12 : wr.cell? ⟨b1, o1 + j * 14 + 12, none⟩ = some (.int .i64 qn2) := r2 12 _ rfl
      have g13 : wr.cell? ⟨b1, o1 + j * 14 + 13, none⟩ = some (.int .i64 ql2) := r2 13 _ rfl
      clear r1 r2
      go_wp2
      go_region_held3 (fun w' => w'.cell? ⟨b1, o1 + k * 14, none⟩ = some (.int .i64 pkind) ∧ w'.cell? ⟨b1, o1 + k * 14 + 1, none⟩ = some (.slice pa1 pz1 pc1) ∧ w'.cell? ⟨b1, o1 + k * 14 + 2, none⟩ = some (.slice pa2 pz2 pc2) ∧ w'.cell? ⟨b1, o1 + k * 14 + 3, none⟩ = some (.int .i64 pr1) ∧ w'.cell? ⟨b1, o1 + k * 14 + 4, none⟩ = some (.int .i64 pm1) ∧ w'.cell? ⟨b1, o1 + k * 14 + 5, none⟩ = some (.int .i64 pn1) ∧ w'.cell? ⟨b1, o1 + k * 14 + 6, none⟩ = some (.int .i64 pl1) ∧ w'.cell? ⟨b1, o1 + k * 14 + 7, none⟩ = some (.bool phad) ∧ w'.cell? ⟨b1, o1 + k * 14 + 8, none⟩ = some (.slice pa3 pz3 pc3) ∧ w'.cell? ⟨b1, o1 + k * 14 + 9, none⟩ = some (.slice pa4 pz4 pc4) ∧ w'.cell? ⟨b1, o1 + k * 14 + 10, none⟩ = some (.int .i64 pr2) ∧ w'.cell? ⟨b1, o1 + k * 14 + 11, none⟩ = some (.int .i64 pm2) ∧ w'.cell? ⟨b1, o1 + k * 14 + 12, none⟩ = some (.int .i64 pn2) ∧ w'.cell? ⟨b1, o1 + k * 14 + 13, none⟩ = some (.int .i64 pl2) ∧ w'.cell? ⟨b1, o1 + j * 14, none⟩ = some (.int .i64 qkind) ∧ w'.cell? ⟨b1, o1 + j * 14 + 1, none⟩ = some (.slice qa1 qz1 qc1) ∧ w'.cell? ⟨b1, o1 + j * 14 + 2, none⟩ = some (.slice qa2 qz2 qc2) ∧ w'.cell? ⟨b1, o1 + j * 14 + 3, none⟩ = some (.int .i64 qr1) ∧ w'.cell? ⟨b1, o1 + j * 14 + 4, none⟩ = some (.int .i64 qm1) ∧ w'.cell? ⟨b1, o1 + j * 14 + 5, none⟩ = some (.int .i64 qn1) ∧ w'.cell? ⟨b1, o1 + j * 14 + 6, none⟩ = some (.int .i64 ql1) ∧ w'.cell? ⟨b1, o1 + j * 14 + 7, none⟩ = some (.bool qhad) ∧ w'.cell? ⟨b1, o1 + j * 14 + 8, none⟩ = some (.slice qa3 qz3 qc3) ∧ w'.cell? ⟨b1, o1 + j * 14 + 9, none⟩ = some (.slice qa4 qz4 qc4) ∧ w'.cell? ⟨b1, o1 + j * 14 + 10, none⟩ = some (.int .i64 qr2) ∧ w'.cell? ⟨b1, o1 + j * 14 + 11, none⟩ = some (.int .i64 qm2) ∧ w'.cell? ⟨b1, o1 + j * 14 + 12, none⟩ = some (.int .i64 qn2) ∧ w'.cell? ⟨b1, o1 + j * 14 + 13, none⟩ = some (.int .i64 ql2))
        (first | exact ⟨e0, e1, e2, e3, e4, e5, e6, e7, e8, e9, e10, e11, e12, e13, g0, g1, g2, g3, g4, g5, g6, g7, g8, g9, g10, g11, g12, g13⟩ | exact ⟨hxa.cell e0 (fun x => x), hxa.cell e1 (fun x => x), hxa.cell e2 (fun x => x), hxa.cell e3 (fun x => x), hxa.cell e4 (fun x => x), hxa.cell e5 (fun x => x), hxa.cell e6 (fun x => x), hxa.cell e7 (fun x => x), hxa.cell e8 (fun x => x), hxa.cell e9 (fun x => x), hxa.cell e10 (fun x => x), hxa.cell e11 (fun x => x), hxa.cell e12 (fun x => x), hxa.cell e13 (fun x => x), hxa.cell g0 (fun x => x), hxa.cell g1 (fun x => x), hxa.cell g2 (fun x => x), hxa.cell g3 (fun x => x), hxa.cell g4 (fun x => x), hxa.cell g5 (fun x => x), hxa.cell g6 (fun x => x), hxa.cell g7 (fun x => x), hxa.cell g8 (fun x => x), hxa.cell g9 (fun x => x), hxa.cell g10 (fun x => x), hxa.cell g11 (fun x => x), hxa.cell g12 (fun x => x), hxa.cell g13 (fun x => x)⟩)
        (first | (go_at_call 60; (with_reducible refine hcl.mono ?_); rintro e wa ⟨rfl, hua⟩; have hxa := hua.undrew))
      clear hw1
      go_wp2
      go_roundw
      case rel => exact ⟨(j : Int), by omega, by omega, by have := HKJ.out; go_num, HU.out.trans hxa⟩
      case measure => simp [intOf]; omega
    · have hpos' : ¬ 0 < k0 := hpos
      clear hu
      go_wp2
      go_ret
      exact ⟨rfl, HU.out⟩

theorem right_true (v : Value) (ps : List EvP) (I : Nat → Prop) (w : World) (h : Evs w I v ps) (hs : Rising (ps.map EvP.x)) (hn : ps.length ≤ 800000000000) :
    Calls Try.prog 48 #[v] w fun e w' => e = .returned (.bool true) ∧ Upd (fun _ => False) w w' := by
  have hsd := sorted_true v ps I w h hs hn
  clear h hs
  go_enter Try.func48, Try.ntmps48
  go_wp2_with (go_at_call 59; (with_reducible refine hsd.mono ?_); rintro e w5 ⟨rfl, hu5⟩)
  go_ret
  exact ⟨rfl, hu5⟩

end Go.Proofs.Ytidpiojanajpoaa
