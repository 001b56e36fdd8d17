/-
  A hub: a watcher of it is changed; are all events of a revision?
-/
import Derived.Test.YtidpiojanajpoaaHubA
namespace Go.Proofs.Ytidpiojanajpoaa
open Go.RowKit Go.Tb Go.MapKept Go.ChangeMaps
set_option linter.unusedVariables false

open Classical in
/-- A watcher is changed. -/
theorem IsHub.put {w w' : World} {b m : Nat} {own : Nat → Tg} {P : Int → Option WrP} {H : Hub} {i : Int} {p p' : WrP} {x x' : Wr} (h : IsHub w b m own P H) (hp : P i = some p) (hx : H.f i = some x) (hu : Upd (fun k => k = p.blk ∨ sliceBlock p.b.v = some k) w w')
    (hblk : w'.heap[p.blk]? = some (.cells (wrenc p' x') 87 (0, 0))) (e1 : p'.blk = p.blk) (e2 : p'.k = p.k) (e3 : p'.e = p.e) (e4 : x'.w = x.w) {J : Nat → Prop} (hrow : EvRow w' 0 J p'.b.v p'.ps ∧ ∀ k, J k → own k = .by_ ∨ w.heap.size ≤ k)
    (hbl : ∀ k, sliceBlock p'.b.v = some k → sliceBlock p.b.v = some k ∨ w.heap.size ≤ k) (heq : p'.ps.map EvP.x = x'.buf) (hnb : p'.b.n = x'.buf.length) (hsm : ∀ y ∈ x'.buf, y.Small) :
    ∃ own', IsHub w' b m own' (fun j => if j = i then some p' else P j) { H with f := fun j => if j = i then some x' else H.f j } ∧ (∀ k, k < w.heap.size → own' k = own k) ∧ ∀ k, w.heap.size ≤ k → own' k ≠ .no → sliceBlock p'.b.v = some k ∨ J k := by
  obtain ⟨hr, hJ⟩ := hrow
  obtain ⟨x0, hx0, hw⟩ := h.wt i p hp
  obtain rfl : x0 = x := Option.some.inj (hx0.symm.trans hx)
  have hS : ∀ k, (k = p.blk ∨ sliceBlock p.b.v = some k) → own k = .wt i ∨ own k = .bf i := fun k hk => hk.elim (fun e => .inl (e ▸ hw.ow)) (fun e => .inr (hw.ob k e))
  obtain ⟨own', ho'⟩ : ∃ own' : Nat → Tg, own' = fun k => if k < w.heap.size then own k else if sliceBlock p'.b.v = some k then .bf i else if J k then .by_ else .no := ⟨_, rfl⟩
  have hlt : ∀ k, k < w.heap.size → own' k = own k := fun k hk => by rw [ho']; simp only [if_pos hk]
  have hby : ∀ k, J k → own' k = .by_ := fun k hk => by
    by_cases h1 : k < w.heap.size
    · rw [hlt k h1]
      rcases hJ k hk with e | e
      · exact e
      · omega
    · rw [ho']
      simp only [if_neg h1, if_neg (fun e => hr.dj k e hk), if_pos hk]
  have hwt : ∀ j, j ≠ i → ∀ k, (k = p.blk ∨ sliceBlock p.b.v = some k) → own k ≠ .by_ ∧ own k ≠ .wt j ∧ own k ≠ .bf j := fun j hj k hk => by
    rcases hS k hk with e | e <;> rw [e] <;> simp [Ne.symm hj]
  have hpl := lt_of_heap hw.blk
  refine ⟨own', { hub := hu.heap h.hub (fun hk => by rcases hS _ hk with e | e <;> rw [h.ob] at e <;> cases e), map := ?_, ob := by rw [hlt b (lt_of_heap h.hub)]; exact h.ob, om := by rw [hlt m h.map.lt]; exact h.om, wt := ?_, nn := ?_, lt := ?_ }, hlt, fun k hk hne => ?_⟩
  · have e : mptr (fun j => if j = i then some p' else P j) = mptr P := by
      funext j
      unfold mptr
      by_cases hj : j = i
      · subst hj; simp only [if_true, hp, Option.map_some, e1]
      · simp only [if_neg hj]
    rw [e]
    exact h.map.upd hu (fun hk => by rcases hS _ hk with e | e <;> rw [h.om] at e <;> cases e)
  · intro j q hq
    by_cases hj : j = i
    · subst hj
      simp only [if_true, Option.some.injEq] at hq
      subst hq
      refine ⟨x', by simp, { blk := by rw [e1]; exact hblk, ow := by rw [e1, hlt _ hpl]; exact hw.ow, key := ?_, end_ := ?_, ok := ?_, oe := ?_, row := ⟨J, hr, hby⟩, ob := ?_, eq := heq, nb := hnb, small := hsm }⟩
      · rw [e2, e4]; exact hw.key.upd hu (fun k hk s => by rcases hS k s with e | e <;> rw [hw.ok k hk] at e <;> cases e)
      · rw [e3, e4]; exact hw.end_.upd hu (fun k hk s => by rcases hS k s with e | e <;> rw [hw.oe k hk] at e <;> cases e)
      · rw [e2]; exact fun k hk => by rw [hlt k (hw.key.lt hk)]; exact hw.ok k hk
      · rw [e3]; exact fun k hk => by rw [hlt k (hw.end_.lt hk)]; exact hw.oe k hk
      · intro k hk
        by_cases h1 : k < w.heap.size
        · rw [hlt k h1]
          rcases hbl k hk with e | e
          · exact hw.ob k e
          · omega
        · rw [ho']
          simp only [if_neg h1, if_pos hk]
    · simp only [if_neg hj] at hq ⊢
      obtain ⟨y, hy, hyw⟩ := h.wt j q hq
      exact ⟨y, hy, hyw.upd hu (fun k s => hwt j hj k s) hlt⟩
  · intro j hj
    by_cases e : j = i
    · subst e; simp at hj
    · simp only [if_neg e] at hj ⊢; exact h.nn j hj
  · intro k hk
    by_cases h1 : k < w.heap.size
    · exact Nat.lt_of_lt_of_le h1 hu.size
    · rw [ho'] at hk
      simp only [if_neg h1] at hk
      by_cases h2 : sliceBlock p'.b.v = some k
      · exact (hr.blk k h2).2
      · simp only [if_neg h2] at hk
        by_cases h3 : J k
        · exact (hr.ge k h3).2
        · simp only [if_neg h3] at hk; exact absurd rfl hk
  · rw [ho'] at hne
    simp only [if_neg (Nat.not_lt.2 hk)] at hne
    by_cases h2 : sliceBlock p'.b.v = some k
    · exact .inl h2
    · simp only [if_neg h2] at hne
      by_cases h3 : J k
      · exact .inr h3
      · simp only [if_neg h3] at hne; exact absurd rfl hne

/-- The revision is set. -/
theorem IsHub.setRev {w : World} {b m : Nat} {own : Nat → Tg} {P : Int → Option WrP} {H : Hub} (h : IsHub w b m own P H) (r : Int) : IsHub (w.setCell ⟨b, 0, none⟩ (.int .i64 r)) b m own P { H with rev := r } := by
  have hu : Upd (fun k => k = b) w (w.setCell ⟨b, 0, none⟩ (.int .i64 r)) := upd_setCell _ _ _ _ rfl
  exact {
    hub := heap_setCell_at h.hub 0 _
    map := h.map.upd hu (fun e => by have h1 := h.om; rw [e, h.ob] at h1; cases h1)
    ob := h.ob
    om := h.om
    wt := fun i p hp => by
      obtain ⟨x, hx, hw⟩ := h.wt i p hp
      exact ⟨x, hx, hw.upd hu (fun k e => by rw [e, h.ob]; simp) (fun _ _ => rfl)⟩
    nn := h.nn
    lt := fun k hk => Nat.lt_of_lt_of_le (h.lt k hk) hu.size }

/-! ### are all events of a revision? -/
def allMod (r : Int) (l : List Ev) : Bool := l.all fun x => decide (x.kv.mod = r)

set_option maxRecDepth 100000 in
theorem clos_calls (B : Nat) (r : Int) (p : EvP) (w : World) (hB : w.cell? ⟨B, 0, none⟩ = some (.int .i64 r)) :
    Calls Try.prog 30 #[.agg (evx p), .pointer (some ⟨B, 0, none⟩)] w fun e w' => e = .returned (.bool (decide (p.kv.x.mod ≠ r))) ∧ Upd (fun _ => False) w w' := by
  obtain ⟨kind, ⟨⟨k1, v1, r1, m1, n1, l1⟩, ⟨a1, z1, c1⟩, ⟨a2, z2, c2⟩⟩, had, ⟨⟨k2, v2, r2, m2, n2, l2⟩, ⟨a3, z3, c3⟩, ⟨a4, z4, c4⟩⟩⟩ := p
  simp only [evx]
  have hua := upd_alloc (fun _ => False) w (.cells #[.int .i64 kind, .slice a1 z1 c1, .slice a2 z2 c2, .int .i64 r1, .int .i64 m1, .int .i64 n1, .int .i64 l1, .bool had, .slice a3 z3 c3, .slice a4 z4 c4, .int .i64 r2, .int .i64 m2, .int .i64 n2, .int .i64 l2] 59)
  have hB' := hua.cell hB (fun x => x)
  go_enter Try.func30, Try.ntmps30
  go_wp2
  go_ret
  exact ⟨by simp [bne, decide_not]; rfl, hua⟩

set_option maxRecDepth 100000 in
theorem index_calls (B : Nat) (r : Int) (v : Value) (ps : List EvP) (I : Nat → Prop) (w : World) (h : Evs w I v ps) (hn : ps.length ≤ 800000000000) (hB : w.cell? ⟨B, 0, none⟩ = some (.int .i64 r)) :
    Calls Try.prog 44 #[v, .func (.func 30) #[] #[.pointer (some ⟨B, 0, none⟩)]] w fun e w' => ∃ j : Int, e = .returned (.int .i64 j) ∧ (if allMod r (ps.map EvP.x) = true then j = -1 else 0 ≤ j) ∧ Upd (fun _ => False) w w' := by
  obtain ⟨a, c, rfl, hc⟩ := h.1.shape
  have H := Lib.hid h
  have HB := Lib.hid hB
  clear h hB
  go_enter Try.func44, Try.ntmps44
  go_wp2
  go_loopw [8] (fun i wr => ∃ k : Nat, k ≤ ps.length ∧ i = .int .i64 k ∧ allMod r ((ps.take k).map EvP.x) = true ∧ Upd (fun _ => False) w wr) (fun i _ => ps.length - (intOf i).toNat)
  case atStart => exact ⟨0, Nat.zero_le _, rfl, by simp [allMod], Upd.refl _ _⟩
  case round =>
    obtain ⟨k, hk, rfl, hall, hu⟩ := hrel
    have HA := Lib.hid hall
    have HU := Lib.hid hu
    by_cases hlt : k < ps.length
    · obtain ⟨b1, o1, rfl, q1⟩ := H.out.range k hlt
      have r1 : wr.rangeAt b1 (o1 + k * 14) (evenc ps[k]).toArray.toList := by rw [List.toList_toArray]; exact rangeAt_upd q1 hu (fun x => x)
      have hcl := clos_calls B r ps[k] wr (hu.cell HB.out (fun x => x))
      have x0 : (0 : Int) ≤ (k : Int) := by omega
      have x1 : (k : Int) < (ps.length : Int) := by omega
      by_cases hm : ps[k].kv.x.mod = r
      · have HN := Lib.hid (show allMod r ((ps.take (k + 1)).map EvP.x) = true from by
          have h1 := HA.out
          rw [List.take_succ_eq_append_getElem hlt, List.map_append]
          simp only [allMod, List.all_append, Bool.and_eq_true] at h1 ⊢
          exact ⟨h1, by simp; exact hm⟩)
        rw [decide_eq_false (show ¬ (ps[k].kv.x.mod ≠ r) from fun h => h hm)] at hcl
        clear hm q1 hall hu
        generalize ps[k] = p at *
        rw [evx_eq] at r1
        go_wp2_with (first
          | ((with_reducible refine wpl_load_at (ty := 59) r1 Try.underlying59 ?_ ?_ ?_ ?_); rfl; rfl; kernel_rfl)
          | (go_at_call 30; (with_reducible refine hcl.mono ?_); rintro e w5 ⟨rfl, hu5⟩))
        go_roundw
        case rel => exact ⟨k + 1, by omega, by go_num, HN.out, HU.out.trans hu5⟩
        case measure => simp [intOf]; omega
      · have HN := Lib.hid (show ¬ allMod r (ps.map EvP.x) = true from fun h => hm (by
          simp only [allMod, List.all_eq_true, decide_eq_true_eq] at h
          exact h ps[k].x (List.mem_map_of_mem (List.getElem_mem hlt))))
        rw [decide_eq_true (show ps[k].kv.x.mod ≠ r from hm)] at hcl
        clear hm q1 hall hu
        generalize ps[k] = p at *
        rw [evx_eq] at r1
        go_wp2_with (first
          | ((with_reducible refine wpl_load_at (ty := 59) r1 Try.underlying59 ?_ ?_ ?_ ?_); rfl; rfl; kernel_rfl)
          | (go_at_call 30; (with_reducible refine hcl.mono ?_); rintro e w5 ⟨rfl, hu5⟩))
        go_ret
        exact ⟨k, rfl, x0, HU.out.trans hu5⟩
    · obtain rfl : k = ps.length := by omega
      rw [List.take_length] at HA
      clear hall hu
      go_wp2
      go_ret
      exact ⟨-1, rfl, rfl, HU.out⟩

theorem contains_calls (B : Nat) (r : Int) (v : Value) (ps : List EvP) (I : Nat → Prop) (w : World) (h : Evs w I v ps) (hn : ps.length ≤ 800000000000) (hB : w.cell? ⟨B, 0, none⟩ = some (.int .i64 r)) :
    Calls Try.prog 29 #[v, .func (.func 30) #[] #[.pointer (some ⟨B, 0, none⟩)]] w fun e w' => e = .returned (.bool (!allMod r (ps.map EvP.x))) ∧ Upd (fun _ => False) w w' := by
  have hi := index_calls B r v ps I w h hn hB
  clear h hB
  generalize allMod r (ps.map EvP.x) = bb at *
  cases bb with
  | true =>
    simp only [if_true] at hi
    go_enter Try.func29, Try.ntmps29
    go_wp2_with (go_at_call 44; (with_reducible refine hi.mono ?_); rintro e w5 ⟨j, rfl, rfl, hu5⟩)
    go_ret
    exact ⟨rfl, hu5⟩
  | false =>
    simp only [Bool.false_eq_true, if_false] at hi
    go_enter Try.func29, Try.ntmps29
    go_wp2_with (go_at_call 44; (with_reducible refine hi.mono ?_); rintro e w5 ⟨j, rfl, hj, hu5⟩)
    go_ret
    exact ⟨by simp, hu5⟩

end Go.Proofs.Ytidpiojanajpoaa
