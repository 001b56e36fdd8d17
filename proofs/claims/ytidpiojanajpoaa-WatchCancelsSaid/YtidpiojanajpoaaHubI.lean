/-
  A hub: Drain of any watcher; what is kept.
-/
import Derived.Test.YtidpiojanajpoaaHubD
import Derived.Test.YtidpiojanajpoaaHubE
import Derived.Test.YtidpiojanajpoaaHubG
import Derived.Test.YtidpiojanajpoaaHubH
namespace Go.Proofs.Ytidpiojanajpoaa
open Go.RowKit Go.Tb Go.MapKept Go.ChangeMaps
set_option linter.unusedVariables false

/-- None is cancelled, and no buffer is long. -/
def HInv (N : Nat) (H : Hub) : Prop := ∀ i x, H.f i = some x → x.ended = false ∧ x.buf.length ≤ N
theorem HInv.le {N M : Nat} {H : Hub} (h : HInv N H) (hl : N ≤ M) : HInv M H := fun i x hx => ⟨(h i x hx).1, Nat.le_trans (h i x hx).2 hl⟩
theorem HInv.notified {N : Nat} {H : Hub} (h : HInv N H) (rev : Int) (l : List Ev) : HInv (N + l.length) (H.notified rev l) := fun i x hx => by
  obtain ⟨y, hy, rfl⟩ := Option.map_eq_some_iff.1 (show (H.f i).map (stepW H.room rev l) = some x from hx)
  obtain ⟨h1, h2⟩ := h i y hy
  have hs := sieveE_length y.w l
  unfold stepW
  split
  · exact ⟨h1, by omega⟩
  · split
    · exact ⟨h1, by show (y.buf ++ sieveE y.w l).length ≤ _; rw [List.length_append]; omega⟩
    · exact ⟨h1, by omega⟩
theorem HInv.upd {N : Nat} {H : Hub} (h : HInv N H) (i : Int) (x : Wr) (hx : x.ended = false ∧ x.buf.length ≤ N) : HInv N (H.upd i x) := fun j y hy => by
  by_cases e : j = i
  · have : some x = some y := by have h1 : (if j = i then some x else H.f j) = some y := hy; rwa [if_pos e] at h1
    cases this; exact hx
  · exact h j y (by have h1 : (if j = i then some x else H.f j) = some y := hy; rwa [if_neg e] at h1)

def drainE (H : Hub) (i : Int) : List Ev := match H.f i with
  | some x => x.buf.take (cutN x.buf H.most)
  | none => []
def drainOk (H : Hub) (i : Int) : Bool := match H.f i with
  | some x => !x.buf.isEmpty
  | none => false
def drainH (H : Hub) (i : Int) : Hub := match H.f i with
  | some x => H.upd i { x with buf := x.buf.drop (cutN x.buf H.most) }
  | none => H

theorem drainOk_some {H : Hub} {i : Int} {x : Wr} (hx : H.f i = some x) : drainOk H i = !x.buf.isEmpty := by simp only [drainOk, hx]
theorem drainE_some {H : Hub} {i : Int} {x : Wr} (hx : H.f i = some x) : drainE H i = x.buf.take (cutN x.buf H.most) := by simp only [drainE, hx]
theorem drainH_some {H : Hub} {i : Int} {x : Wr} (hx : H.f i = some x) : drainH H i = H.upd i { x with buf := x.buf.drop (cutN x.buf H.most) } := by simp only [drainH, hx]

/-- What a drain says. -/
def DrainAny (b m : Nat) (own : Nat → Tg) (H : Hub) (i : Int) (w : World) (e : Ending) (w' : World) : Prop :=
  ∃ (a : Option Addr) (c : Nat) (rs : List EvP) (J : Nat → Prop) (own' : Nat → Tg) (P' : Int → Option WrP), e = .returned (.tuple #[.agg #[.int .i64 (if drainOk H i then i else 0), .slice a rs.length c, .bool false, .int .i64 0, .bool false, .int .i64 0], .bool (drainOk H i)]) ∧
    rs.map EvP.x = drainE H i ∧ IsHub w' b m own' P' (drainH H i) ∧ (∀ k, k < w.heap.size → own' k = own k) ∧ EvRow w' w.heap.size J (.slice a rs.length c) rs ∧ (∀ k, J k ∨ sliceBlock (.slice a rs.length c) = some k → own' k = .no) ∧ Upd (fun k => own k ≠ .no) w w'

theorem drain_any (b m : Nat) (own : Nat → Tg) (P : Int → Option WrP) (H : Hub) (i : Int) (N : Nat) (w : World) (h : IsHub w b m own P H) (hi : HInv N H) (hN : N ≤ 800000000000) :
    Calls Try.prog 13 #[.pointer (some ⟨b, 0, none⟩), .int .i64 i] w (DrainAny b m own H i w) := by
  cases hx : H.f i with
  | none =>
    refine (drain_none b m own P H i w h (fun x hx' => by rw [hx] at hx'; cases hx')).mono fun e w' ⟨he, hu⟩ => ?_
    subst he
    refine ⟨none, 0, [], fun _ => False, own, P, ?_, ?_, ?_, fun _ _ => rfl, evRow_nil w' _, fun k hk => hk.elim (fun x => x.elim) (fun x => by cases x), hu.weak _⟩
    · unfold drainOk; rw [hx]; rfl
    · unfold drainE; rw [hx]; rfl
    · unfold drainH; rw [hx]; exact h.grow hu
  | some x =>
    by_cases hb : x.buf = []
    · refine (drain_none b m own P H i w h (fun y hy => by rw [hx] at hy; cases hy; exact ⟨hb, (hi i x hx).1⟩)).mono fun e w' ⟨he, hu⟩ => ?_
      subst he
      refine ⟨none, 0, [], fun _ => False, own, P, ?_, ?_, ?_, fun _ _ => rfl, evRow_nil w' _, fun k hk => hk.elim (fun x => x.elim) (fun x => by cases x), hu.weak _⟩
      · rw [drainOk_some hx, hb]; rfl
      · rw [drainE_some hx, hb]; rfl
      · have e : drainH H i = H := by
          rw [drainH_some hx]
          unfold Hub.upd
          have e1 : (fun j => if j = i then some { x with buf := x.buf.drop (cutN x.buf H.most) } else H.f j) = H.f := by
            funext j
            by_cases hj : j = i
            · subst hj
              rw [if_pos rfl, hx, hb, List.drop_nil]
              congr 1
              rw [← hb]
            · rw [if_neg hj]
          show { H with f := fun j => if j = i then some { x with buf := x.buf.drop (cutN x.buf H.most) } else H.f j } = H
          rw [e1]
        rw [e]; exact h.grow hu
    · refine (drain_some b m own P H i x w h hx hb (by have := (hi i x hx).2; omega)).mono fun e w' hd => ?_
      obtain ⟨a, c, rs, J, own', P', he, h1, h2, h3, h4, h5, h6⟩ := hd
      have hok : drainOk H i = true := by
        rw [drainOk_some hx]
        cases hbb : x.buf with
        | nil => exact absurd hbb hb
        | cons _ _ => rfl
      refine ⟨a, c, rs, J, own', P', by rw [hok]; exact he, by rw [h1, drainE_some hx], ?_, h3, h4, h5, h6⟩
      rw [drainH_some hx]; exact h2

theorem HInv.drained {N : Nat} {H : Hub} (h : HInv N H) (i : Int) : HInv N (drainH H i) := by
  unfold drainH
  cases hx : H.f i with
  | none => exact h
  | some x => exact h.upd i _ ⟨(h i x hx).1, by show (x.buf.drop _).length ≤ N; rw [List.length_drop]; have := (h i x hx).2; omega⟩

/-- The own blocks of two hubs lie apart. -/
def Apart (o1 o2 : Nat → Tg) : Prop := ∀ k, o1 k ≠ .no → o2 k = .no
theorem Apart.symm {o1 o2 : Nat → Tg} (h : Apart o1 o2) : Apart o2 o1 := fun k hk => by
  cases e : o1 k with
  | no => rfl
  | _ => exact absurd (h k (by rw [e]; simp)) hk
/-- .. behind a step of the first. -/
theorem Apart.step {w : World} {b2 m2 : Nat} {o1 o1' o2 : Nat → Tg} {P2 : Int → Option WrP} {H2 : Hub} (h : Apart o1 o2) (h2 : IsHub w b2 m2 o2 P2 H2) (ho : ∀ k, k < w.heap.size → o1' k = o1 k) : Apart o1' o2 := fun k hk => by
  by_cases hlt : k < w.heap.size
  · exact h k (by rw [← ho k hlt]; exact hk)
  · cases e : o2 k with
    | no => rfl
    | _ => exact absurd (h2.lt k (by rw [e]; simp)) hlt
theorem IsHub.other {w w' : World} {b m : Nat} {o1 o2 : Nat → Tg} {P : Int → Option WrP} {H : Hub} (h : IsHub w b m o2 P H) (ha : Apart o1 o2) (hu : Upd (fun k => o1 k ≠ .no) w w') : IsHub w' b m o2 P H :=
  h.upd hu (fun k hk hn => hk (ha k hn))

end Go.Proofs.Ytidpiojanajpoaa
