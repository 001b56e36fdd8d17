/-
  A hub: New, Create (of a watcher that isn't cancelled at once).
-/
import Derived.Deep.Cut
import Derived.Deep.RegionLaw
import Derived.Laws.LoneSync
import Derived.IntWalk
import Derived.Test.YtidpiojanajpoaaHubB
namespace Go.Proofs.Ytidpiojanajpoaa
open Go.RowKit Go.Tb Go.MapKept Go.ChangeMaps
set_option linter.unusedVariables false

def newHub (rev room most : Int) : Hub := ⟨rev, room, most, 0, fun _ => none, 0⟩

set_option maxRecDepth 100000 in
theorem new_ok (rev room most : Int) (w : World) (h0 : 0 ≤ rev) (h1 : rev ≤ 4611686018427387904) (h2 : 1 ≤ room) (h3 : room ≤ 4096) (h4 : 1 ≤ most) (h5 : most ≤ 4096) :
    Calls Try.prog 8 #[.int .i64 rev, .int .i64 room, .int .i64 most] w fun e w' => ∃ b m own, e = .returned (.pointer (some ⟨b, 0, none⟩)) ∧ IsHub w' b m own (fun _ => none) (newHub rev room most) ∧ (∀ k, own k ≠ .no → w.heap.size ≤ k) ∧ Upd (fun _ => False) w w' := by
  have e0 : ¬ rev < 0 := by omega
  have e1 : ¬ 4611686018427387904 < rev := by omega
  have e2 : ¬ room < 1 := by omega
  have e3 : ¬ 4096 < room := by omega
  have e4 : ¬ most < 1 := by omega
  have e5 : ¬ 4096 < most := by omega
  clear h0 h1 h2 h3 h4 h5
  have hmm := @run_makeMap Try.prog
  go_enter Try.func8, Try.ntmps8
  go_wp2
  go_ret
  have ha := heap_alloc w (.map #[] 0)
  have hb := heap_alloc (w.alloc (.map #[] 0)) (.cells #[.int .i64 rev, .int .i64 room, .int .i64 most, .int .i64 0, .map (some w.heap.size)] 73)
  have hs : (w.alloc (.map #[] 0)).heap.size = w.heap.size + 1 := by simp
  have hu := upd_alloc (fun _ => False) (w.alloc (.map #[] 0)) (.cells #[.int .i64 rev, .int .i64 room, .int .i64 most, .int .i64 0, .map (some w.heap.size)] 73)
  have hs2 : ((w.alloc (.map #[] 0)).alloc (.cells #[.int .i64 rev, .int .i64 room, .int .i64 most, .int .i64 0, .map (some w.heap.size)] 73)).heap.size = w.heap.size + 2 := by simp
  refine ⟨w.heap.size + 1, rfl, w.heap.size, fun k => if k = w.heap.size + 1 then .hub else if k = w.heap.size then .map else .no, { hub := by rw [← hs]; exact hb.1, map := ?_, ob := by simp, om := by simp, wt := fun i p hp => (by cases hp), nn := fun _ _ => rfl, lt := fun k hk => ?_ }, fun k hk => ?_, (upd_alloc _ _ _).trans hu⟩
  · exact (isMap_made (Value.int .i64) w).upd hu (fun x => x)
  · rw [hs2]
    by_cases q1 : k = w.heap.size + 1
    · omega
    · by_cases q2 : k = w.heap.size
      · omega
      · simp [q1, q2] at hk
  · by_cases q1 : k = w.heap.size + 1
    · omega
    · by_cases q2 : k = w.heap.size
      · omega
      · simp [q1, q2] at hk

theorem add_calls (b i : Nat) (x : Int) (w : World) (hc : w.cell? ⟨b, i, none⟩ = some (.int .i64 x)) (hf : w.frozen? ⟨b, i, none⟩ = false) (h0 : 0 ≤ x) (h1 : x ≤ 4611686018427387904) :
    Calls Try.prog 28 #[.pointer (some ⟨b, i, none⟩), .int .i64 1] w fun e w' => e = .returned (.int .i64 (x + 1)) ∧ w' = w.setCell ⟨b, i, none⟩ (.int .i64 (x + 1)) := by
  have hr : (callFunc 43 #[.pointer (some ⟨b, i, none⟩), .int .i64 1]).run Try.prog w = .ok (.value (.int .i64 (x + 1))) (w.setCell ⟨b, i, none⟩ (.int .i64 (x + 1))) :=
    run_call_add Try.func43 (by kernel_rfl) (by kernel_rfl) (by kernel_rfl) .i64 (by kernel_rfl) hc hf (by
      have e : IntKind.i64.wrap (x + 1) = x + 1 := IntWalk.i64_in _ (by omega)
      simp [Op.intArith, e])
  clear hc hf h0 h1
  go_enter Try.func28, Try.ntmps28
  go_wp2
  go_ret
  exact ⟨rfl, rfl⟩

open Classical in
/-- A watcher more. -/
theorem IsHub.insert {w w' : World} {b m : Nat} {own : Nat → Tg} {P : Int → Option WrP} {H : Hub} {i : Int} {p : WrP} {x : Wr} (h : IsHub w b m own P H) (hi : P i = none) (hu : Upd (fun k => k = b ∨ k = m) w w')
    (hb : w'.heap[b]? = some (.cells #[.int .i64 H.rev, .int .i64 H.room, .int .i64 H.most, .int .i64 i, .map (some m)] 73 (0, 0))) (hm : IsMap (Value.int .i64) w' m (mptr fun j => if j = i then some p else P j) (H.n + 1))
    (hblk : w'.heap[p.blk]? = some (.cells (wrenc p x) 87 (0, 0))) (hge : w.heap.size ≤ p.blk) (hk : Go.Tb.Bytes w' p.k.v x.w.key) (he : Go.Tb.Bytes w' p.e.v x.w.end_) (hkb : ∀ k, sliceBlock p.k.v = some k → w.heap.size ≤ k ∧ k ≠ p.blk) (heb : ∀ k, sliceBlock p.e.v = some k → w.heap.size ≤ k ∧ k ≠ p.blk)
    (e1 : p.b = ⟨none, 0, 0⟩) (e2 : p.ps = []) (e3 : x.buf = []) :
    ∃ own', IsHub w' b m own' (fun j => if j = i then some p else P j) { H with last := i, f := fun j => if j = i then some x else H.f j, n := H.n + 1 } ∧ ∀ k, k < w.heap.size → own' k = own k := by
  obtain ⟨own', ho'⟩ : ∃ own' : Nat → Tg, own' = fun k => if k < w.heap.size then own k else if k = p.blk then .wt i else if sliceBlock p.k.v = some k ∨ sliceBlock p.e.v = some k then .by_ else .no := ⟨_, rfl⟩
  have hlt : ∀ k, k < w.heap.size → own' k = own k := fun k hk => by rw [ho']; simp only [if_pos hk]
  have hby : ∀ k, w.heap.size ≤ k → k ≠ p.blk → (sliceBlock p.k.v = some k ∨ sliceBlock p.e.v = some k) → own' k = .by_ := fun k hk h1 h2 => by
    rw [ho']; simp only [if_neg (Nat.not_lt.2 hk), if_neg h1, if_pos h2]
  refine ⟨own', { hub := hb, map := hm, ob := by rw [hlt b (lt_of_heap h.hub)]; exact h.ob, om := by rw [hlt m h.map.lt]; exact h.om, wt := fun j q hq => ?_, nn := fun j hj => ?_, lt := fun k hk => ?_ }, hlt⟩
  · by_cases hj : j = i
    · subst hj
      simp only [if_true, Option.some.injEq] at hq ⊢
      subst hq
      refine ⟨x, rfl, { blk := hblk, ow := by rw [ho']; simp only [if_neg (Nat.not_lt.2 hge), if_true], key := hk, end_ := he, ok := fun k hk => hby k (hkb k hk).1 (hkb k hk).2 (.inl hk), oe := fun k hk => hby k (heb k hk).1 (heb k hk).2 (.inr hk), row := ⟨fun _ => False, ?_, fun _ hk => hk.elim⟩, ob := fun k hk => ?_, eq := by rw [e2, e3]; rfl, nb := by rw [e1, e3]; rfl, small := fun y hy => ?_ }⟩
      · rw [e1, e2]; exact evRow_nil w' 0
      · rw [e1] at hk; cases hk
      · rw [e3] at hy; cases hy
    · simp only [if_neg hj] at hq ⊢
      obtain ⟨y, hy, hyw⟩ := h.wt j q hq
      exact ⟨y, hy, hyw.upd hu (fun k s => s.elim (fun e => by rw [e, h.ob]; simp) (fun e => by rw [e, h.om]; simp)) hlt⟩
  · by_cases e : j = i
    · subst e; simp at hj
    · simp only [if_neg e] at hj ⊢; exact h.nn j hj
  · by_cases h1 : k < w.heap.size
    · exact Nat.lt_of_lt_of_le h1 hu.size
    · rw [ho'] at hk
      simp only [if_neg h1] at hk
      by_cases h2 : k = p.blk
      · rw [h2]; exact lt_of_heap hblk
      · simp only [if_neg h2] at hk
        by_cases h3 : sliceBlock p.k.v = some k ∨ sliceBlock p.e.v = some k
        · rcases h3 with h3 | h3
          · exact Go.Tb.Bytes.lt (by assumption) h3
          · exact he.lt h3
        · simp only [if_neg h3] at hk; exact absurd rfl hk

/-- Where a watcher begins. -/
def nextOf (H : Hub) (x : Wt) : Int := if x.start = 0 then H.rev + 1 else x.start
def Hub.more (H : Hub) (x : Wt) : Hub := { H with last := H.last + 1, f := fun j => if j = H.last + 1 then some ⟨x, nextOf H x, [], false, 0⟩ else H.f j, n := H.n + 1 }

/-- A watch that can't be. -/
theorem create_bad (b m : Nat) (own : Nat → Tg) (P : Int → Option WrP) (H : Hub) (k e : Value) (x : Wt) (floor : Int) (w : World) (h : IsHub w b m own P H) (hx : x.start < 0 ∨ 4611686018427387904 < x.start) :
    Calls Try.prog 9 #[.pointer (some ⟨b, 0, none⟩), .agg (wcells k e x), .int .i64 floor] w fun r w' => r = .returned (.tuple #[.int .i64 0, .int .i64 1]) ∧ Upd (fun _ => False) w w' := by
  obtain ⟨key, end_, start, np, nd, pv⟩ := x
  simp only [wcells] at hx ⊢
  have hua := upd_alloc (fun _ => False) w (.cells #[k, e, .int .i64 start, .bool np, .bool nd, .bool pv] 24)
  have hB := (heap_alloc w (.cells #[k, e, .int .i64 start, .bool np, .bool nd, .bool pv] 24)).1
  have c2 : (w.alloc (.cells #[k, e, .int .i64 start, .bool np, .bool nd, .bool pv] 24)).cell? ⟨w.heap.size, 2, none⟩ = some (.int .i64 start) := cell_of hB 2
  clear h hB
  by_cases h1 : start < 0
  · clear hx
    go_enter Try.func9, Try.ntmps9
    go_wp2
    refine bodyPost_ret (v := .tuple #[.int .i64 0, .int .i64 1]) (by simp [results, Try.results9, go_sem]) rfl ⟨rfl, hua⟩
  · have h2 : 4611686018427387904 < start := by omega
    clear hx
    go_enter Try.func9, Try.ntmps9
    go_wp2
    refine bodyPost_ret (v := .tuple #[.int .i64 0, .int .i64 1]) (by simp [results, Try.results9, go_sem]) rfl ⟨rfl, hua⟩

end Go.Proofs.Ytidpiojanajpoaa
