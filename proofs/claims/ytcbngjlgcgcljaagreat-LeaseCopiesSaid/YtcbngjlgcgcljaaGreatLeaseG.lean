/-
  What the laws call: a lessor with one lease; lives.
-/
import Derived.Test.YtcbngjlgcgcljaaGreatLeaseE
import Derived.Test.YtcbngjlgcgcljaaGreatLeaseF
namespace Go.Proofs.YtcbngjlgcgcljaaGreat
open Go.RowKit Go.Tb Go.MapKept Go.ChangeMaps Go.Lib
set_option linter.unusedVariables false

theorem new_none (now : Int) (w : World) (h0 : 0 ≤ now) (h1 : now ≤ topT) : Calls Tryz.prog 6 #[.int .i64 now, .slice none 0 0] w fun e w' => ∃ b ml mk, e = .returned (.tuple #[.pointer (some ⟨b, 0, none⟩), .int .i64 0]) ∧ IsLs w' b ml mk (LS.start now) ∧ w.heap.size ≤ b ∧ w.heap.size ≤ ml ∧ w.heap.size ≤ mk ∧ Upd (fun _ => False) w w' := by
  refine (new_calls now none 0 [] w (sl_nil _ _)).mono fun e w' h => ?_
  obtain ⟨hu, h⟩ := h
  rw [if_pos ⟨h0, h1, by decide, fun y hy => (by cases hy)⟩, if_pos (show (grants (LS.start now) []).2 = 0 from rfl)] at h
  obtain ⟨b, ml, mk, h2, h3, _, h5, h6, h7⟩ := h
  exact ⟨b, ml, mk, h2, h3, h5, h6, h7, hu⟩

/-- A lessor of one lease. -/
def One (L : LS) (id ttl due : Int) : Prop := L.l = fun k => if k = id then some (ttl, due) else none
theorem One.due {L : LS} {id ttl due : Int} (h : One L id ttl due) (i : Int) : L.isDue i ↔ i = id ∧ due ≤ L.now := by
  unfold LS.isDue
  rw [h]
  constructor
  · rintro ⟨x, hx, hle⟩
    by_cases e : i = id
    · simp only [if_pos e, Option.some.injEq] at hx
      subst hx
      exact ⟨e, hle⟩
    · simp only [if_neg e] at hx
      cases hx
  · rintro ⟨rfl, hle⟩
    exact ⟨(ttl, due), if_pos rfl, hle⟩
theorem nodup_one {l : List Int} {id : Int} (hn : l.Nodup) (hm : ∀ i, i ∈ l ↔ i = id) : l = [id] := by
  match l, hn with
  | [], _ => have := (hm id).2 rfl; cases this
  | [a], _ => have := (hm a).1 (.head _); rw [this]
  | a :: b :: r, hn =>
    have h1 := (hm a).1 (.head _)
    have h2 := (hm b).1 (.tail _ (.head _))
    have := (List.nodup_cons.1 hn).1
    exact absurd (by rw [h1, h2]; exact .head _) this

/-- Due, of one lease. -/
theorem due_one (b ml mk : Nat) (L : LS) (id ttl d : Int) (w : World) (h : IsLs w b ml mk L) (hok : LOk L) (h1 : One L id ttl d) :
    Calls Tryz.prog 14 #[.pointer (some ⟨b, 0, none⟩)] w fun e w' => ∃ a c, e = .returned (.slice a (if d ≤ L.now then 1 else 0) c) ∧ Sl nenc w' (.slice a (if d ≤ L.now then 1 else 0) c) (if d ≤ L.now then [id] else []) ∧ Upd (fun _ => False) w w' := by
  refine (due_calls b ml mk L w h hok).mono fun e w' hs => ?_
  obtain ⟨a, c, l, rfl, hm, hn, _, hsl, hu, _⟩ := hs
  by_cases hd : d ≤ L.now
  · have e : l = [id] := nodup_one hn fun i => by rw [hm i, h1.due i]; exact ⟨fun h => h.1, fun h => ⟨h, hd⟩⟩
    subst e
    rw [if_pos hd, if_pos hd]
    exact ⟨a, c, rfl, hsl, hu⟩
  · have e : l = [] := List.eq_nil_iff_forall_not_mem.2 fun i hi => hd ((h1.due i).1 ((hm i).1 hi)).2
    subst e
    rw [if_neg hd, if_neg hd]
    exact ⟨a, c, rfl, hsl, hu⟩

theorem due_no (b ml mk : Nat) (L : LS) (id ttl d : Int) (w : World) (h : IsLs w b ml mk L) (hok : LOk L) (h1 : One L id ttl d) (hd : L.now < d) :
    Calls Tryz.prog 14 #[.pointer (some ⟨b, 0, none⟩)] w fun e w' => ∃ a c, e = .returned (.slice a 0 c) ∧ Upd (fun _ => False) w w' := by
  refine (due_one b ml mk L id ttl d w h hok h1).mono fun e w' ⟨a, c, h2, h3, h4⟩ => ?_
  rw [if_neg (by omega)] at h2
  exact ⟨a, c, h2, h4⟩
theorem due_yes (b ml mk : Nat) (L : LS) (id ttl d : Int) (w : World) (h : IsLs w b ml mk L) (hok : LOk L) (h1 : One L id ttl d) (hd : d ≤ L.now) :
    Calls Tryz.prog 14 #[.pointer (some ⟨b, 0, none⟩)] w fun e w' => ∃ a c, e = .returned (.slice a 1 c) ∧ Sl nenc w' (.slice a 1 c) [id] ∧ Upd (fun _ => False) w w' := by
  refine (due_one b ml mk L id ttl d w h hok h1).mono fun e w' ⟨a, c, h2, h3, h4⟩ => ?_
  rw [if_pos hd] at h2
  rw [if_pos hd, if_pos hd] at h3
  exact ⟨a, c, h2, h3, h4⟩

theorem grantE_first (now ttl : Int) (h2 : 1 ≤ ttl) (h3 : ttl ≤ topT) : (LS.start now).grantE 0 ttl = 0 := by
  unfold LS.grantE
  have e : ¬ ((0 : Int) < 0 ∨ topT < 0 ∨ ttl < 1 ∨ topT < ttl) := by unfold topT at *; omega
  rw [if_neg e, if_neg (by show ¬ (none : Option (Int × Int)).isSome = true; decide), if_neg (by show ¬ (64 ≤ 0 ∨ ((0 : Int) = 0 ∧ (0 : Int) = topT)); unfold topT; omega)]
theorem one_granted (now ttl : Int) : One ((LS.start now).granted 0 ttl) 1 ttl (laterI now ttl) := rfl
theorem one_kept {L : LS} {id ttl d : Int} (h : One L id ttl d) : One (L.kept id ttl) id ttl (laterI L.now ttl) := by
  unfold One LS.kept
  funext k
  show (if k = id then some (ttl, laterI L.now ttl) else L.l k) = _
  by_cases e : k = id
  · rw [if_pos e, if_pos e]
  · rw [if_neg e, if_neg e, h]; exact if_neg e

/-- The first grant of a new lessor. -/
theorem grant_first (b ml mk : Nat) (now ttl : Int) (w : World) (h : IsLs w b ml mk (LS.start now)) (h0 : 0 ≤ now) (h1 : now ≤ topT) (h2 : 1 ≤ ttl) (h3 : ttl ≤ topT) :
    Calls Tryz.prog 12 #[.pointer (some ⟨b, 0, none⟩), .int .i64 0, .int .i64 ttl] w fun e w' => e = .returned (.tuple #[.agg #[.int .i64 1, .int .i64 ttl], .int .i64 0]) ∧
      (∃ L, IsLs w' b ml mk L ∧ LOk L ∧ One L 1 ttl (laterI now ttl) ∧ L.now = now ∧ L.nk = 0 ∧ ∀ s, L.keys s = none) ∧ Upd (fun k => k = b ∨ k = ml) w w' := by
  refine (grant_calls b ml mk _ 0 ttl w h (LOk.start h0 h1)).mono fun e w' hs => ?_
  unfold GrantSays at hs
  rw [if_pos (grantE_first now ttl h2 h3)] at hs
  exact ⟨hs.1, ⟨_, hs.2.1, hs.2.2.1, one_granted now ttl, rfl, rfl, fun _ => rfl⟩, hs.2.2.2⟩

/-- No key hangs on a lease. -/
def NoKeys (L : LS) : Prop := L.nk = 0 ∧ ∀ s, L.keys s = none

/-- A lessor of one lease, somewhere. -/
def OneAt (b ml mk : Nat) (id ttl d now : Int) (w : World) : Prop := ∃ L, IsLs w b ml mk L ∧ LOk L ∧ One L id ttl d ∧ L.now = now ∧ NoKeys L
theorem OneAt.grow {b ml mk : Nat} {id ttl d now : Int} {w w' : World} (h : OneAt b ml mk id ttl d now w) (hu : Upd (fun _ => False) w w') : OneAt b ml mk id ttl d now w' := by
  obtain ⟨L, h1, h2⟩ := h; exact ⟨L, h1.grow hu, h2⟩
theorem OneAt.lt {b ml mk : Nat} {id ttl d now : Int} {w : World} (h : OneAt b ml mk id ttl d now w) : b < w.heap.size := by
  obtain ⟨L, h1, h2⟩ := h; exact lt_of_heap h1.blk
theorem OneAt.tick {b ml mk : Nat} {id ttl d now : Int} {w : World} (h : OneAt b ml mk id ttl d now w) (n : Int) (hn : 0 ≤ n) :
    Calls Tryz.prog 13 #[.pointer (some ⟨b, 0, none⟩), .int .i64 n] w fun e w' => e = .returned (.int .i64 0) ∧ OneAt b ml mk id ttl d (laterI now n) w' ∧ Upd (fun k => k = b) w w' := by
  obtain ⟨L, h1, h2, h3, rfl, h4⟩ := h
  exact (tick_calls b ml mk L n w h1 h2 hn).mono fun e w' ⟨a1, a2, a3⟩ => ⟨a1, ⟨_, a2, h2.ticked hn, h3, rfl, h4⟩, a3⟩
theorem OneAt.no {b ml mk : Nat} {id ttl d now : Int} {w : World} (h : OneAt b ml mk id ttl d now w) (hd : now < d) :
    Calls Tryz.prog 14 #[.pointer (some ⟨b, 0, none⟩)] w fun e w' => ∃ a c, e = .returned (.slice a 0 c) ∧ Upd (fun _ => False) w w' := by
  obtain ⟨L, h1, h2, h3, rfl, h4⟩ := h
  exact due_no b ml mk L id ttl d w h1 h2 h3 hd
theorem OneAt.yes {b ml mk : Nat} {id ttl d now : Int} {w : World} (h : OneAt b ml mk id ttl d now w) (hd : d ≤ now) :
    Calls Tryz.prog 14 #[.pointer (some ⟨b, 0, none⟩)] w fun e w' => ∃ a c, e = .returned (.slice a 1 c) ∧ Sl nenc w' (.slice a 1 c) [id] ∧ Upd (fun _ => False) w w' := by
  obtain ⟨L, h1, h2, h3, rfl, h4⟩ := h
  exact due_yes b ml mk L id ttl d w h1 h2 h3 hd
theorem OneAt.keep {b ml mk : Nat} {id ttl d now : Int} {w : World} (h : OneAt b ml mk id ttl d now w) :
    Calls Tryz.prog 20 #[.pointer (some ⟨b, 0, none⟩), .int .i64 id] w fun e w' => e = .returned (.tuple #[.int .i64 ttl, .int .i64 0]) ∧ OneAt b ml mk id ttl (laterI now ttl) now w' ∧ Upd (fun k => k = ml) w w' := by
  obtain ⟨L, h1, h2, h3, rfl, h4⟩ := h
  have hx : L.l id = some (ttl, d) := by rw [h3]; exact if_pos rfl
  exact (keep_yes b ml mk L id (ttl, d) w h1 h2 hx).mono fun e w' ⟨a1, a2, a3⟩ => ⟨a1, ⟨_, a2, h2.kept hx, one_kept h3, rfl, h4⟩, a3⟩
theorem OneAt.now_ {b ml mk : Nat} {id ttl d now : Int} {w : World} (h : OneAt b ml mk id ttl d now w) :
    Calls Tryz.prog 28 #[.pointer (some ⟨b, 0, none⟩)] w fun e w' => e = .returned (.int .i64 now) ∧ w = w' := by
  obtain ⟨L, h1, h2, h3, rfl, h4⟩ := h
  exact now_calls b ml mk L w h1

set_option maxRecDepth 100000 in
set_option maxHeartbeats 1000000 in
theorem lives_calls (w : World) : Calls Tryz.prog 4 #[] w fun e w' => e = .returned (.bool true) ∧ Upd (fun _ => False) w w' := by
  have hnew := new_none 0 w (by decide) (by unfold topT; decide)
  go_enter Tryz.func4, Tryz.ntmps4
  go_wp2_with (first
    | (go_at_call 6; (with_reducible refine hnew.mono ?_); rintro e1 w1 ⟨b, ml, mk, rfl, hL1, hb, hml, hmk, hu1⟩; have hg := grant_first b ml mk 0 5 w1 hL1 (by decide) (by unfold topT; decide) (by decide) (by unfold topT; decide); have HU1 := Lib.hid hu1; clear hu1 hL1)
    | (go_at_call 12; (with_reducible refine hg.mono ?_); rintro e2 w2 ⟨rfl, hO2, hu2⟩; have HU2 := Lib.hid (HU1.out.trans' hu2 (fun x hx e => by omega)); have HO2 := Lib.hid (show OneAt b ml mk 1 5 5 0 w2 from hO2); have hlt2 := HO2.out.lt; clear hu2 hO2 hg)
    | (go_at_call 13; (with_reducible refine ((HO2.out.grow (upd_alloc _ w2 (.cells #[.int .i64 1, .int .i64 5] 41))).tick 4 (by decide)).mono ?_); rintro e3 w3 ⟨rfl, hO3, hu3⟩; have HU3 := Lib.hid ((HU2.out.alloc (.cells #[.int .i64 1, .int .i64 5] 41)).trans' hu3 (fun x hx e => by omega)); have HO3 := Lib.hid (show OneAt b ml mk 1 5 5 4 w3 from hO3); have C3 := Lib.hid (hu3.cell (cell_of (heap_alloc w2 (.cells #[.int .i64 1, .int .i64 5] 41)).1 0) (by simp; omega)); clear hu3 hO3)
    | (go_at_call 14; (with_reducible refine (HO3.out.no (by decide)).mono ?_); rintro e4 w4 ⟨a4, c4, rfl, hu4⟩; have HU4 := Lib.hid (HU3.out.trans hu4); have HO4 := Lib.hid (HO3.out.grow hu4); have C4 := Lib.hid (hu4.cell C3.out (fun x => x)); clear hu4)
    | (go_at_call 13; (with_reducible refine (HO4.out.tick 1 (by decide)).mono ?_); rintro e5 w5 ⟨rfl, hO5, hu5⟩; have HU5 := Lib.hid (HU4.out.trans' hu5 (fun x hx e => by omega)); have HO5 := Lib.hid (show OneAt b ml mk 1 5 5 5 w5 from hO5); have c5 := hu5.cell C4.out (by simp; omega); clear hu5 hO5)
    | (go_at_call 14; (with_reducible refine (HO5.out.yes (by decide)).mono ?_); rintro e6 w6 ⟨a6, c6, rfl, hs6, hu6⟩; have HU6 := Lib.hid (HU5.out.trans hu6); clear hu6 hs6))
  go_ret
  exact ⟨rfl, HU6.out⟩

theorem laterI_small {a n : Int} (h : a + n ≤ topT) : laterI a n = a + n := if_neg (by omega)

end Go.Proofs.YtcbngjlgcgcljaaGreat
