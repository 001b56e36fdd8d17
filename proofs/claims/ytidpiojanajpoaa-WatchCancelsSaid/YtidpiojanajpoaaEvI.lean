/-
  at: events with one Mod.
-/
import Derived.Test.YtidpiojanajpoaaEvH
import Derived.Test.YtidpiojanajpoaaOwnSet
namespace Go.Proofs.Ytidpiojanajpoaa
open Go.RowKit Go.Tb Go.MapKept Go.ChangeMaps
set_option linter.unusedVariables false

/-- An event with this Mod. -/
def withMod (r : Int) (x : Ev) : Ev := { x with kv := { x.kv with mod := r } }
def setM (r : Int) (p : EvP) : EvP := { p with kv := { p.kv with x := { p.kv.x with mod := r } } }
theorem setM_x (r : Int) (p : EvP) : (setM r p).x = withMod r p.x := rfl
theorem setM_ok {w : World} {I : Nat → Prop} {p : EvP} (r : Int) (h : p.Ok w I) : (setM r p).Ok w I := ⟨⟨h.kv.k, h.kv.v, h.kv.ik, h.kv.iv⟩, h.prev⟩
def modTo (r : Int) (ps : List EvP) (i : Nat) : List EvP := (ps.take i).map (setM r) ++ ps.drop i
theorem modTo_zero (r : Int) (ps : List EvP) : modTo r ps 0 = ps := by simp [modTo]
theorem modTo_all (r : Int) (ps : List EvP) : modTo r ps ps.length = ps.map (setM r) := by simp [modTo]
theorem modTo_length (r : Int) (ps : List EvP) (i : Nat) : (modTo r ps i).length = ps.length := by simp [modTo]; omega
theorem modTo_get (r : Int) (ps : List EvP) (i : Nat) (hi : i < ps.length) : (modTo r ps i)[i]'(by rw [modTo_length]; exact hi) = ps[i] := by
  have : (modTo r ps i)[i]? = some ps[i] := by
    unfold modTo
    rw [List.getElem?_append_right (by simp; omega)]
    simp [List.length_take, Nat.min_eq_left (Nat.le_of_lt hi), hi]
  exact (List.getElem?_eq_some_iff.1 this).2
theorem modTo_succ (r : Int) (ps : List EvP) (i : Nat) (hi : i < ps.length) : (modTo r ps i).set i (setM r ps[i]) = modTo r ps (i + 1) := by
  unfold modTo
  rw [List.set_append_right _ _ (by simp; omega), List.take_succ_eq_append_getElem hi, List.map_append]
  have e : i - (List.map (setM r) (List.take i ps)).length = 0 := by simp; omega
  rw [e, List.drop_eq_getElem_cons hi, List.append_assoc]
  rfl
theorem modTo_mem {r : Int} {ps : List EvP} {i : Nat} {p : EvP} (h : p ∈ modTo r ps i) : ∃ q ∈ ps, p = q ∨ p = setM r q := by
  rcases List.mem_append.1 h with h | h
  · obtain ⟨q, hq, rfl⟩ := List.mem_map.1 h
    exact ⟨q, List.mem_of_mem_take hq, .inr rfl⟩
  · exact ⟨p, List.mem_of_mem_drop h, .inl rfl⟩

/-- A Mod is set. -/
theorem EvRow.setMod {w : World} {base : Nat} {J : Nat → Prop} {a : Option Addr} {n c : Nat} {ps : List EvP} {r : Int} {i : Nat} (h : EvRow w base J (.slice a n c) (modTo r ps i)) (hn : n = ps.length) (hi : i < ps.length) :
    ∃ g, a = some ⟨g, 0, none⟩ ∧ base ≤ g ∧ (∃ u, w.cell? ⟨g, i * 14 + 4, none⟩ = some u) ∧ w.frozen? ⟨g, i * 14 + 4, none⟩ = false ∧ EvRow (w.setCell ⟨g, i * 14 + 4, none⟩ (.int .i64 r)) base J (.slice a n c) (modTo r ps (i + 1)) := by
  have hl := modTo_length r ps i
  have hl1 := modTo_length r ps (i + 1)
  have hown : w.ownsRow base 59 14 (.slice a n c) n ((modTo r ps i).flatMap evenc) := by have := h.own; rwa [hl, ← hn] at this
  obtain ⟨g, rfl, hg, hc, hf⟩ := own_block hown (i * 14 + 4) (by omega)
  have hget := flat_get evenc_length (modTo r ps i) i (by omega) 4 (by decide)
  rw [hget] at hc
  have hgl := fun e : sliceBlock (.slice (some ⟨g, 0, none⟩) n c) = some g => h.dj g e
  have hs : Upd (fun k => k = g) w (w.setCell ⟨g, i * 14 + 4, none⟩ (.int .i64 r)) := upd_setCell _ _ _ _ rfl
  refine ⟨g, rfl, hg, ⟨_, hc⟩, hf, { own := ?_, ok := fun p hp => ?_, dj := h.dj, ge := fun b hb => ⟨(h.ge b hb).1, Nat.lt_of_lt_of_le (h.ge b hb).2 hs.size⟩ }⟩
  · rw [hl1, ← hn]
    have := own_set hown (i * 14 + 4) (.int .i64 r)
    rwa [flat_set evenc_length (modTo r ps i) i 4 (by omega) (by decide) (setM r ps[i]) (.int .i64 r) (by rw [modTo_get r ps i hi]; rfl), modTo_succ r ps i hi] at this
  · obtain ⟨q, hq, hpq⟩ := modTo_mem hp
    have hq' : q.Ok w J := by
      obtain ⟨j, hj, rfl⟩ := List.getElem_of_mem hq
      by_cases hji : j < i
      · have h1 : setM r ps[j] ∈ modTo r ps i := List.mem_append.2 (.inl (List.mem_map_of_mem (List.mem_take_iff_getElem.2 ⟨j, by omega, rfl⟩)))
        have h2 := h.ok _ h1
        exact ⟨⟨h2.kv.k, h2.kv.v, h2.kv.ik, h2.kv.iv⟩, h2.prev⟩
      · exact h.ok _ (List.mem_append.2 (.inr (List.mem_drop_iff_getElem.2 ⟨j - i, by omega, by congr 1; omega⟩)))
    have hu : q.Ok (w.setCell ⟨g, i * 14 + 4, none⟩ (.int .i64 r)) J := hq'.upd hs (fun b hb e => hgl rfl (by rw [← show b = g from e]; exact hb))
    rcases hpq with rfl | rfl
    · exact hu
    · exact setM_ok r hu

set_option maxRecDepth 100000 in
set_option maxHeartbeats 1000000 in
theorem at_calls (v : Value) (ps : List EvP) (r : Int) (I : Nat → Prop) (w : World) (h : EvsW w I v ps) (hs : ∀ p ∈ ps, p.x.Tiny) (hn : ps.length ≤ 800000000000) :
    Calls Try.prog 12 #[v, .int .i64 r] w fun e w' => ∃ a c rs J, e = .returned (.slice a rs.length c) ∧ rs.map EvP.x = (ps.map EvP.x).map (withMod r) ∧ EvRow w' w.heap.size J (.slice a rs.length c) rs ∧ Upd (fun _ => False) w w' := by
  have ht := twins17_calls v ps I w h hs hn
  clear h hs
  go_enter Try.func12, Try.ntmps12
  go_upto_region 2 with (go_at_call 31; (with_reducible refine ht.mono ?_); rintro e w1 ⟨a, c, rs, J, rfl, hx, hr, hu⟩)
  have HX := Lib.hid hx
  have HR := Lib.hid hr
  have HU := Lib.hid hu
  have hl : rs.length ≤ 800000000000 := by have := congrArg List.length hx; simp at this; omega
  clear hx hr hu ht
  go_wp2
  go_loopw [11] (fun i wr => ∃ k : Nat, k ≤ rs.length ∧ i = .int .i64 k ∧ EvRow wr w.heap.size J (.slice a rs.length c) (modTo r rs k) ∧ Upd (fun _ => False) w wr) (fun i _ => rs.length - (intOf i).toNat)
  case atStart => exact ⟨0, Nat.zero_le _, rfl, by rw [modTo_zero]; exact HR.out, HU.out⟩
  case round =>
    obtain ⟨k, hk, rfl, hr, hu⟩ := hrel
    by_cases hlt : k < rs.length
    · obtain ⟨g, rfl, hg, ⟨u, hc⟩, hf, hnext⟩ := hr.setMod rfl hlt
      have HNX := Lib.hid hnext
      have HU1 := Lib.hid (show Upd (fun _ => False) w (wr.setCell ⟨g, k * 14 + 4, none⟩ (.int .i64 r)) from hu.trans' (upd_setCell (fun b => b = g) wr ⟨g, k * 14 + 4, none⟩ _ rfl) (fun x hx e => by omega))
      have x0 : (0 : Int) ≤ (k : Int) := by omega
      have x1 : (k : Int) < (rs.length : Int) := by omega
      clear hnext hr hu
      go_wp2
      go_roundw
      case rel => exact ⟨k + 1, by omega, by go_num, HNX.out, HU1.out⟩
      case measure => simp [intOf]; omega
    · obtain rfl : k = rs.length := by omega
      have HRR := Lib.hid hr
      have HUU := Lib.hid hu
      clear hr hu
      go_wp2
      go_ret
      have e := HRR.out
      rw [modTo_all] at e
      exact ⟨a, c, rs.map (setM r), J, by rw [List.length_map]; rfl, by rw [← HX.out]; simp [Function.comp_def, setM_x], by rw [List.length_map]; exact e, HUU.out⟩

end Go.Proofs.Ytidpiojanajpoaa
