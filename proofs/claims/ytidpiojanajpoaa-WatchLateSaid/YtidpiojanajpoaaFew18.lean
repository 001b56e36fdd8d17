/-
  few of one act that has events alone.
-/
import Derived.Deep.Cut
import Derived.Test.YtidpiojanajpoaaEvH
namespace Go.Proofs.Ytidpiojanajpoaa
open Go.RowKit Go.Tb Go.MapKept Go.ChangeMaps
set_option linter.unusedVariables false

/-- Are an event's bytes few? -/
def fewE (x : Ev) : Bool := decide (x.kv.key.length + x.prev.key.length ≤ 200) && decide (x.kv.val.length + x.prev.val.length ≤ 2000)
theorem fewE_tiny {x : Ev} (h : fewE x = true) : x.Tiny := by
  simp only [fewE, Bool.and_eq_true, decide_eq_true_eq] at h
  exact ⟨by omega, by omega, by omega, by omega⟩
def fewL (l : List Ev) : Bool := l.all fewE

theorem lens {w : World} {I : Nat → Prop} {p : EvP} (h : p.Ok w I) : p.kv.x.key.length = p.kv.k.n ∧ p.kv.x.val.length = p.kv.v.n ∧ p.prev.x.key.length = p.prev.k.n ∧ p.prev.x.val.length = p.prev.v.n :=
  ⟨h.kv.k.size, h.kv.v.size, h.prev.k.size, h.prev.v.size⟩

abbrev actE (a : Option Addr) (n c : Nat) : Array Value := #[.int .i64 0, .int .i64 0, .slice none 0 0, .slice none 0 0, .int .i64 0, .bool false, .bool false, .bool false, .slice a n c, .int .i64 0]

set_option maxRecDepth 100000 in
set_option maxHeartbeats 2000000 in
theorem few1_calls (g : Nat) (a : Option Addr) (c : Nat) (ps : List EvP) (I : Nat → Prop) (w : World) (hg : w.heap[g]? = some (.cells (actE a ps.length c) 35 (0, 0))) (h : EvsW w I (.slice a ps.length c) ps) (hn : ps.length ≤ 140737488355328) (hb : ∀ p ∈ ps, p.kv.k.n ≤ 140737488355328 ∧ p.kv.v.n ≤ 140737488355328 ∧ p.prev.k.n ≤ 140737488355328 ∧ p.prev.v.n ≤ 140737488355328) :
    Calls Try.prog 10 #[.slice (some ⟨g, 0, none⟩) 1 1] w fun e w' => e = .returned (.bool (fewL (ps.map EvP.x))) ∧ Upd (fun _ => False) w w' := by
  have H := Lib.hid h
  have HB := Lib.hid hb
  have hrg : w.rangeAt g 0 (actE a ps.length c).toList := rangeAt_of_heap hg
  clear h hb
  go_enter Try.func10, Try.ntmps10
  go_wp2
  go_loopw [3, 10] (fun n i wr => ∃ (k : Nat) (m : Int), k ≤ 1 ∧ i = .int .i64 k ∧ n = .int .i64 m ∧ (k = 0 → m = 0) ∧ (k = 1 → fewL (ps.map EvP.x) = true) ∧ Upd (fun _ => False) w wr) (fun _ i _ => 1 - (intOf i).toNat)
  case atStart => exact ⟨0, 0, Nat.zero_le _, rfl, rfl, fun _ => rfl, fun h => absurd h (by decide), Upd.refl _ _⟩
  case round =>
    obtain ⟨k, mm, hk, rfl, rfl, hm, hfl, hu⟩ := hrel
    by_cases hk1 : k = 1
    · subst hk1
      have HF := Lib.hid (hfl rfl)
      have HU := Lib.hid hu
      clear hfl hm hu
      go_wp2
      go_ret
      exact ⟨by rw [HF.out]; rfl, HU.out⟩
    · obtain rfl : k = 0 := by omega
      obtain rfl := hm rfl
      clear hfl hm hk1
      have HU := Lib.hid hu
      have hz := (heap_alloc wr (.cells #[.int .i64 0, .int .i64 0, .slice none 0 0, .slice none 0 0, .int .i64 0, .bool false, .bool false, .bool false, .slice none 0 0, .int .i64 0] 35)).1
      have huz := Lib.hid (upd_alloc (fun _ => False) wr (.cells #[.int .i64 0, .int .i64 0, .slice none 0 0, .slice none 0 0, .int .i64 0, .bool false, .bool false, .bool false, .slice none 0 0, .int .i64 0] 35))
      have r1 := rangeAt_upd hrg hu (fun x => x)
      clear hu
      have kmin : ∀ (W : World) (ats : Array TypeId) (ty : TypeId), (Builtin.min_ ats ty #[.int .i64 (ps.length : Int), .int .i64 100]).run Try.prog W = .ok (.int .i64 (if (100 : Int) < (ps.length : Int) then (100 : Int) else (ps.length : Int))) W := fun W ats ty => by
        simp only [Builtin.min_, List.foldlM_cons, List.foldlM_nil, Builtin.min2, Sem.run_bind, Sem.run_pure, Result.andThen_ok]
      obtain ⟨mn, hmn⟩ : ∃ mn : Int, mn = if (100 : Int) < (ps.length : Int) then (100 : Int) else (ps.length : Int) := ⟨_, rfl⟩
      have m0 : 0 ≤ mn := by rw [hmn]; split <;> omega
      have m1 : mn ≤ 100 := by rw [hmn]; split <;> omega
      rw [← hmn] at kmin
      clear hmn
      go_wp2_with (first
        | ((with_reducible refine wpl_load_at (ty := 35) r1 Try.underlying35 ?_ ?_ ?_ ?_); rfl; rfl; kernel_rfl)
        | ((with_reducible refine wpl_store (ty := 35) (cs := actE a ps.length c) hz ?_ ?_ ?_ ?_ ?_ ?_); rfl; rfl; rfl; kernel_rfl; rfl; intro w4 hq5 hu5 hs5 hd5; have d8 := cell_of hq5 8; have d2 := cell_of hq5 2; have d3 := cell_of hq5 3))
      have HU4 := Lib.hid ((HU.out.trans huz.out).trans' hu5 (fun x hx e => by have := HU.out.size; omega))
      clear d8 d2 d3 hq5 hu5 hz r1 kmin
      go_loopw [42] (fun i wr => ∃ j : Nat, j ≤ ps.length ∧ i = .int .i64 j ∧ fewL ((ps.take j).map EvP.x) = true ∧ Upd (fun _ => False) w wr) (fun i _ => ps.length - (intOf i).toNat)
      case atStart => exact ⟨0, Nat.zero_le _, rfl, by simp [fewL], HU4.out⟩
      case round =>
        obtain ⟨j, hj, rfl, hfj, hu⟩ := hrel
        have HFJ := Lib.hid hfj
        have HUJ := Lib.hid hu
        by_cases hlt : j < ps.length
        · obtain ⟨b1, o1, rfl, q1⟩ := H.out.range _ _ _ rfl j hlt
          have r1 : wr.rangeAt b1 (o1 + j * 14) (evenc ps[j]).toArray.toList := by rw [List.toList_toArray]; exact rangeAt_upd q1 hu (fun x => x)
          obtain ⟨n1, n2, n3, n4⟩ := lens (H.out.ok _ (List.getElem_mem hlt))
          obtain ⟨u1, u2, u3, u4⟩ := HB.out _ (List.getElem_mem hlt)
          have hfe : fewE ps[j].x = (decide (ps[j].kv.k.n + ps[j].prev.k.n ≤ 200) && decide (ps[j].kv.v.n + ps[j].prev.v.n ≤ 2000)) := by
            show (decide (ps[j].kv.x.key.length + ps[j].prev.x.key.length ≤ 200) && decide (ps[j].kv.x.val.length + ps[j].prev.x.val.length ≤ 2000)) = _
            rw [n1, n2, n3, n4]
          have HYES := Lib.hid (show fewE ps[j].x = true → fewL ((ps.take (j + 1)).map EvP.x) = true from fun hf => by
            have h1 := HFJ.out
            rw [List.take_succ_eq_append_getElem hlt, List.map_append]
            simp only [fewL, List.all_append, Bool.and_eq_true] at h1 ⊢
            exact ⟨h1, by simp [hf]⟩)
          have HNO := Lib.hid (show fewE ps[j].x = false → fewL (ps.map EvP.x) = false from fun hf => by
            simp only [fewL, List.all_eq_false]
            exact ⟨ps[j].x, List.mem_map_of_mem (List.getElem_mem hlt), by simp [hf]⟩)
          rw [hfe] at HYES HNO
          have x0 : (0 : Int) ≤ (j : Int) := by omega
          have x1 : (j : Int) < (ps.length : Int) := by omega
          have hz := (heap_alloc wr (.cells #[.int .i64 0, .slice none 0 0, .slice none 0 0, .int .i64 0, .int .i64 0, .int .i64 0, .int .i64 0, .bool false, .slice none 0 0, .slice none 0 0, .int .i64 0, .int .i64 0, .int .i64 0, .int .i64 0] 59)).1
          have huz2 := Lib.hid (upd_alloc (fun _ => False) wr (.cells #[.int .i64 0, .slice none 0 0, .slice none 0 0, .int .i64 0, .int .i64 0, .int .i64 0, .int .i64 0, .bool false, .slice none 0 0, .slice none 0 0, .int .i64 0, .int .i64 0, .int .i64 0, .int .i64 0] 59))
          clear q1 hu hfj n1 n2 n3 n4 hfe
          generalize ps[j] = p at *
          obtain ⟨kind, ⟨⟨key1, val1, r1', m1', n1', l1'⟩, ⟨a1, z1, c1⟩, ⟨a2, z2, c2⟩⟩, had, ⟨⟨key2, val2, r2', m2', n2', l2'⟩, ⟨a3, z3, c3⟩, ⟨a4, z4, c4⟩⟩⟩ := p
          simp only [evenc, Sv.v] at r1 u1 u2 u3 u4 HYES HNO
          by_cases h1 : z1 + z3 ≤ 200
          · by_cases h2 : z2 + z4 ≤ 2000
            · have HY := Lib.hid (HYES.out (by simp [h1, h2]))
              have g1 : (z1 : Int) + (z3 : Int) ≤ 200 := by omega
              have g2 : (z2 : Int) + (z4 : Int) ≤ 2000 := by omega
              clear HYES HNO h1 h2 u1 u2 u3 u4
              go_wp2_with (first
                | ((with_reducible refine wpl_load_at (ty := 59) r1 Try.underlying59 ?_ ?_ ?_ ?_); rfl; rfl; kernel_rfl)
                | ((with_reducible refine wpl_store (ty := 59) (cs := #[.int .i64 kind, .slice a1 z1 c1, .slice a2 z2 c2, .int .i64 r1', .int .i64 m1', .int .i64 n1', .int .i64 l1', .bool had, .slice a3 z3 c3, .slice a4 z4 c4, .int .i64 r2', .int .i64 m2', .int .i64 n2', .int .i64 l2']) hz ?_ ?_ ?_ ?_ ?_ ?_); rfl; rfl; rfl; kernel_rfl; rfl; intro w6 hq7 hu7 hs7 hd7; have e1 := cell_of hq7 1; have e2 := cell_of hq7 2; have e8 := cell_of hq7 8; have e9 := cell_of hq7 9))
              go_roundw
              case rel => exact ⟨j + 1, by omega, by go_num, HY.out, (HUJ.out.trans huz2.out).trans' hu7 (fun x hx e => by have := HUJ.out.size; omega)⟩
              case measure => simp [intOf]; omega
            · have HN := Lib.hid (HNO.out (by simp [h2]))
              have g1 : (z1 : Int) + (z3 : Int) ≤ 200 := by omega
              have g2 : ¬ (z2 : Int) + (z4 : Int) ≤ 2000 := by omega
              have g3 : (z2 : Int) + (z4 : Int) ≤ 9223372036854775807 := by omega
              clear HYES HNO h1 h2 u1 u2 u3 u4
              go_wp2_with (first
                | ((with_reducible refine wpl_load_at (ty := 59) r1 Try.underlying59 ?_ ?_ ?_ ?_); rfl; rfl; kernel_rfl)
                | ((with_reducible refine wpl_store (ty := 59) (cs := #[.int .i64 kind, .slice a1 z1 c1, .slice a2 z2 c2, .int .i64 r1', .int .i64 m1', .int .i64 n1', .int .i64 l1', .bool had, .slice a3 z3 c3, .slice a4 z4 c4, .int .i64 r2', .int .i64 m2', .int .i64 n2', .int .i64 l2']) hz ?_ ?_ ?_ ?_ ?_ ?_); rfl; rfl; rfl; kernel_rfl; rfl; intro w6 hq7 hu7 hs7 hd7; have e1 := cell_of hq7 1; have e2 := cell_of hq7 2; have e8 := cell_of hq7 8; have e9 := cell_of hq7 9))
              go_ret
              exact ⟨by rw [HN.out]; rfl, (HUJ.out.trans huz2.out).trans' hu7 (fun x hx e => by have := HUJ.out.size; omega)⟩
          · have HN := Lib.hid (HNO.out (by simp [h1]))
            have g1 : ¬ (z1 : Int) + (z3 : Int) ≤ 200 := by omega
            have g3 : (z1 : Int) + (z3 : Int) ≤ 9223372036854775807 := by omega
            clear HYES HNO h1 u1 u2 u3 u4
            go_wp2_with (first
              | ((with_reducible refine wpl_load_at (ty := 59) r1 Try.underlying59 ?_ ?_ ?_ ?_); rfl; rfl; kernel_rfl)
              | ((with_reducible refine wpl_store (ty := 59) (cs := #[.int .i64 kind, .slice a1 z1 c1, .slice a2 z2 c2, .int .i64 r1', .int .i64 m1', .int .i64 n1', .int .i64 l1', .bool had, .slice a3 z3 c3, .slice a4 z4 c4, .int .i64 r2', .int .i64 m2', .int .i64 n2', .int .i64 l2']) hz ?_ ?_ ?_ ?_ ?_ ?_); rfl; rfl; rfl; kernel_rfl; rfl; intro w6 hq7 hu7 hs7 hd7; have e1 := cell_of hq7 1; have e2 := cell_of hq7 2; have e8 := cell_of hq7 8; have e9 := cell_of hq7 9))
            go_ret
            exact ⟨by rw [HN.out]; rfl, (HUJ.out.trans huz2.out).trans' hu7 (fun x hx e => by have := HUJ.out.size; omega)⟩
        · obtain rfl : j = ps.length := by omega
          rw [List.take_length] at HFJ
          clear hfj hu
          go_wp2
          go_roundw
          case rel => exact ⟨1, mn, by omega, by go_num, rfl, fun h => absurd h (by decide), fun _ => HFJ.out, HUJ.out⟩
          case measure => simp [intOf]

end Go.Proofs.Ytidpiojanajpoaa
