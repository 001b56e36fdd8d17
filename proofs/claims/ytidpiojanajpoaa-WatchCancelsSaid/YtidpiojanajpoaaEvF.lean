/-
  batch.Cut.
-/
import Derived.Deep.Cut
import Derived.Deep.RegionHeld3
import Derived.Test.YtidpiojanajpoaaEvE
namespace Go.Tb
open Go Go.RowKit Go.MapKept Go.ChangeMaps
/-- `s[:m:m]`, of whatever slice. -/
theorem Sl.upto3 {α : Type} {enc : α → List Value} {w : World} {v : Value} {l : List α} {k : Nat} {P : Program} {t e : TypeId} (ht : P.underlying t = some (.slice e)) (hs : (P.info? e).map (·.size) = some k) (h : Sl enc w v l) (hk : ∀ x, (enc x).length = k) (m : Nat) (hm : m ≤ l.length) :
    ∃ a, (∀ w, (Instr.slice t v none (some (.int .i64 (m : Int))) (some (.int .i64 (m : Int)))).run P w = .ok (.slice a m m) w) ∧ Sl enc w (.slice a m m) (l.take m) := by
  obtain ⟨i, hi, hsz⟩ := Option.map_eq_some_iff.1 hs
  have he : P.elem t = e := by simp [Program.elem, ht]
  rcases h with ⟨rfl, rfl⟩ | ⟨b, off, cap, rfl, hc, hb, hcells⟩
  · obtain rfl : m = 0 := by simpa using hm
    refine ⟨none, fun w => ?_, .inl ⟨rfl, rfl⟩⟩
    rw [run_slice_hm w t _ 0 0 (by rw [he]; exact ht) .i64 .i64 _ _ (by omega) (by simp) (by simp)]
    simp [he, sizeOf, typeInfo, sliced, hi, Result.andThen]
  · refine ⟨some ⟨b, off, none⟩, fun w => ?_, ?_⟩
    · rw [run_slice_hm w t _ l.length cap (by rw [he]; exact ht) .i64 .i64 _ _ (by omega) (by omega) (by omega)]
      have ha : (⟨b, off, none⟩ : Addr).add 0 = ⟨b, off, none⟩ := by rw [show (0 : Nat) = 0 from rfl]; exact Addr.add_lit b off 0
      simp [he, sizeOf, typeInfo, sliced, hi, Result.andThen, ha]
    · have h1 := Sl.take (n := l.length) (.inr ⟨b, off, cap, rfl, hc, hb, hcells⟩ : Sl enc w (.slice (some ⟨b, off, none⟩) l.length cap) l) hk m hm
      rcases h1 with ⟨h, _⟩ | ⟨b', off', cap', h, hc', hb', hl'⟩
      · cases h
      · simp only [Value.slice.injEq, Option.some.injEq, Addr.mk.injEq, and_true] at h
        obtain ⟨⟨rfl, rfl⟩, -, rfl⟩ := h
        have e1 : (l.take m).length = m := by rw [List.length_take]; omega
        refine .inr ⟨b, off, m, by rw [e1], by omega, hb', hl'⟩
end Go.Tb
namespace Go.Proofs.Ytidpiojanajpoaa
open Go.RowKit Go.Tb Go.MapKept Go.ChangeMaps
set_option linter.unusedVariables false

/-- What Cut says. -/
def CutSays (l : List Ev) (most : Int) (w : World) (e : Ending) (w' : World) : Prop :=
  ∃ (a1 : Option Addr) (c1 : Nat) (rs1 : List EvP) (J1 : Nat → Prop) (a2 : Option Addr) (c2 : Nat) (rs2 : List EvP) (J2 : Nat → Prop) (w1 : World), e = .returned (.tuple #[.slice a1 rs1.length c1, .slice a2 rs2.length c2]) ∧ rs1.map EvP.x = l.take (cutN l most) ∧ rs2.map EvP.x = l.drop (cutN l most) ∧
    w.heap.size ≤ w1.heap.size ∧ w1.heap.size ≤ w'.heap.size ∧ EvRow w' w.heap.size J1 (.slice a1 rs1.length c1) rs1 ∧ (∀ b, sliceBlock (.slice a1 rs1.length c1) = some b → b < w1.heap.size) ∧ (∀ b, J1 b → b < w1.heap.size) ∧ EvRow w' w1.heap.size J2 (.slice a2 rs2.length c2) rs2 ∧ Upd (fun _ => False) w w'

set_option maxRecDepth 100000 in
set_option maxHeartbeats 1000000 in
theorem bcut_calls (v : Value) (ps : List EvP) (I : Nat → Prop) (most : Int) (w : World) (h : Evs w I v ps) (hs : ∀ p ∈ ps, p.x.Small) (hn : ps.length ≤ 800000000000) :
    Calls Try.prog 33 #[v, .int .i64 most] w (CutSays (ps.map EvP.x) most w) := by
  have hcut := cut_calls v ps I most w h hn
  have hle : cutN (ps.map EvP.x) most ≤ ps.length := by have := cutN_le (ps.map EvP.x) most; rwa [List.length_map] at this
  obtain ⟨n, hnn⟩ : ∃ n, n = cutN (ps.map EvP.x) most := ⟨_, rfl⟩
  rw [← hnn] at hcut hle
  obtain ⟨a1, hs1, h1⟩ := h.1.upto3 (P := Try.prog) Try.underlying32 size_Ev evenc_length n hle
  obtain ⟨a2, c2, hs2, h2, -⟩ := h.1.from_ (P := Try.prog) Try.underlying32 size_Ev evenc_length n hle
  have ht1 := fun (W : World) (hu : Upd (fun _ => False) w W) => btwins_calls _ (ps.take n) I W (Evs.grow ⟨h1, fun p hp => h.2 p (List.mem_of_mem_take hp)⟩ hu) (fun p hp => hs p (List.mem_of_mem_take hp)) (by rw [List.length_take]; omega)
  have ht2 := fun (W : World) (hu : Upd (fun _ => False) w W) => btwins_calls _ (ps.drop n) I W (Evs.grow ⟨h2, fun p hp => h.2 p (List.mem_of_mem_drop hp)⟩ hu) (fun p hp => hs p (List.mem_of_mem_drop hp)) (by rw [List.length_drop]; omega)
  obtain ⟨a, c, rfl, hc⟩ := h.1.shape
  have H1 := Lib.hid ht1
  have H2 := Lib.hid ht2
  have HN := Lib.hid hnn
  have hn0 : (0 : Int) ≤ (n : Int) := by omega
  clear h hs ht1 ht2 hnn h1 h2
  go_enter Try.func33, Try.ntmps33
  go_upto_region 2 with (go_at_call 46; (with_reducible refine hcut.mono ?_); rintro e w0 ⟨rfl, hu0⟩)
  have hd0 := hu0.drew
  have ht1 := H1.out w0.drew hd0
  go_region_held3 (fun _ => True) (trivial)
    (first
      | (go_at_call 47; (with_reducible refine ht1.mono ?_); rintro e w1 ⟨b1, d1, rs1, J1, rfl, hx1, hr1, hu1⟩; have ht2 := H2.out w1 (hd0.trans hu1))
      | (go_at_call 47; (with_reducible refine ht2.mono ?_); rintro e w2 ⟨b2, d2, rs2, J2, rfl, hx2, hr2, hu2⟩))
  go_wp2
  have e1 := HN.out
  refine bodyPost_ret (v := .tuple #[.slice b1 rs1.length d1, .slice b2 rs2.length d2]) (by simp [results, Try.results33, go_sem]) rfl ?_
  exact ⟨b1, d1, rs1, J1, b2, d2, rs2, J2, w1, rfl, by rw [hx1, ← e1, List.map_take], by rw [hx2, ← e1, List.map_drop], (hd0.trans hu1).size, hu2.size, (hr1.grow hu2).lower hu0.size, fun b hb => (hr1.blk b hb).2, fun b hb => (hr1.ge b hb).2, hr2, (hd0.trans hu1).trans hu2⟩

end Go.Proofs.Ytidpiojanajpoaa
