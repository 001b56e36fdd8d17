/-
  WatchApart: what its walk keeps.
-/
import Derived.Deep.Cut
import Derived.Test.YtidpiojanajpoaaTwo
import Derived.Test.YtidpiojanajpoaaEvI
import Derived.Test.YtidpiojanajpoaaEvK
import Derived.Test.YtidpiojanajpoaaFew18
import Derived.Test.YtidpiojanajpoaaHubJ
namespace Go.Proofs.Ytidpiojanajpoaa
open Go.RowKit Go.Tb Go.MapKept Go.ChangeMaps
set_option linter.unusedVariables false

/-- A row of events, where it lies. -/
structure WsP where
  a : Option Addr
  c : Nat
  ps : List EvP
def wsenc (s : WsP) : List Value := [.slice s.a s.ps.length s.c]
theorem wsenc_length (s : WsP) : (wsenc s).length = 1 := rfl
/-- No slice of an event is longer than there can be. -/
def EvP.Short (p : EvP) : Prop := p.kv.k.n ≤ 140737488355328 ∧ p.kv.v.n ≤ 140737488355328 ∧ p.prev.k.n ≤ 140737488355328 ∧ p.prev.v.n ≤ 140737488355328
/-- Rows of events. -/
structure Wss (w : World) (v : Value) (ws : List WsP) : Prop where
  sl : Sl wsenc w v ws
  ev : ∀ s ∈ ws, EvsW w (fun _ => True) (.slice s.a s.ps.length s.c) s.ps
  len : ∀ s ∈ ws, s.ps.length ≤ 799644820200
  short : ∀ s ∈ ws, ∀ p ∈ s.ps, p.Short
theorem Wss.grow {w w' : World} {v : Value} {ws : List WsP} (h : Wss w v ws) (hu : Upd (fun _ => False) w w') : Wss w' v ws :=
  ⟨h.sl.grow hu, fun s hs => (h.ev s hs).grow hu, h.len, h.short⟩

structure PairOk (room most : Int) (k n : Nat) (Ha Hb : Hub) : Prop where
  ra : Ha.rev = k
  rb : Hb.rev = k
  oa : Ha.room = room
  ob : Hb.room = room
  ma : Ha.most = most
  mb : Hb.most = most
  f1 : Ha.f 1 = Hb.f 1
  ia : HInv n Ha
  ib : HInv n Hb

theorem PairOk.notified {room most : Int} {k n : Nat} {Ha Hb : Hub} (h : PairOk room most k n Ha Hb) (l : List Ev) : PairOk room most (k + 1) (n + l.length) (Ha.notified ((k : Int) + 1) l) (Hb.notified ((k : Int) + 1) l) :=
  { ra := by show ((k : Int) + 1) = _; omega, rb := by show ((k : Int) + 1) = _; omega, oa := h.oa, ob := h.ob, ma := h.ma, mb := h.mb, f1 := by show (Ha.f 1).map _ = (Hb.f 1).map _; rw [h.f1, h.oa, h.ob], ia := h.ia.notified _ _, ib := h.ib.notified _ _ }
theorem drainH_same (H : Hub) (i : Int) : (drainH H i).rev = H.rev ∧ (drainH H i).room = H.room ∧ (drainH H i).most = H.most := by
  unfold drainH
  cases H.f i <;> exact ⟨rfl, rfl, rfl⟩
theorem drainH_ne (H : Hub) (i j : Int) (h : j ≠ i) : (drainH H i).f j = H.f j := by
  unfold drainH
  cases H.f i with
  | none => rfl
  | some x => exact if_neg h
theorem drainH_at {Ha Hb : Hub} {i : Int} (h : Ha.f i = Hb.f i) (hm : Ha.most = Hb.most) : (drainH Ha i).f i = (drainH Hb i).f i ∧ drainOk Ha i = drainOk Hb i ∧ drainE Ha i = drainE Hb i := by
  cases hx : Hb.f i with
  | none =>
    rw [hx] at h
    simp only [drainH, drainOk, drainE, h, hx]
    exact ⟨trivial, trivial, trivial⟩
  | some x =>
    rw [hx] at h
    rw [drainH_some h, drainH_some hx, drainOk_some h, drainOk_some hx, drainE_some h, drainE_some hx, hm]
    exact ⟨by show (if i = i then _ else _) = (if i = i then _ else _); rw [if_pos rfl, if_pos rfl], rfl, rfl⟩
theorem PairOk.other {room most : Int} {k n : Nat} {Ha Hb : Hub} (h : PairOk room most k n Ha Hb) {z : Int} (hz : z ≠ 1) : PairOk room most k n Ha (drainH Hb z) := by
  obtain ⟨e1, e2, e3⟩ := drainH_same Hb z
  exact { h with rb := by rw [e1]; exact h.rb, ob := by rw [e2]; exact h.ob, mb := by rw [e3]; exact h.mb, f1 := by rw [drainH_ne Hb z 1 (Ne.symm hz)]; exact h.f1, ib := h.ib.drained z }
theorem PairOk.both {room most : Int} {k n : Nat} {Ha Hb : Hub} (h : PairOk room most k n Ha Hb) : PairOk room most k n (drainH Ha 1) (drainH Hb 1) := by
  obtain ⟨e1, e2, e3⟩ := drainH_same Ha 1
  obtain ⟨g1, g2, g3⟩ := drainH_same Hb 1
  exact { ra := by rw [e1]; exact h.ra, rb := by rw [g1]; exact h.rb, oa := by rw [e2]; exact h.oa, ob := by rw [g2]; exact h.ob, ma := by rw [e3]; exact h.ma, mb := by rw [g3]; exact h.mb, f1 := (drainH_at h.f1 (h.ma.trans h.mb.symm)).1, ia := h.ia.drained 1, ib := h.ib.drained 1 }
theorem PairOk.same {room most : Int} {k n : Nat} {Ha Hb : Hub} (h : PairOk room most k n Ha Hb) : syncedB Ha 1 = syncedB Hb 1 ∧ pendN Ha 1 = pendN Hb 1 := by
  unfold syncedB pendN
  rw [h.f1, h.ra, h.rb]
  exact ⟨rfl, rfl⟩

theorem allMod_at (r : Int) (l : List Ev) : allMod r (l.map (withMod r)) = true := by
  simp [allMod, withMod]
theorem withMod_small {r : Int} {x : Ev} (h : x.Small) : (withMod r x).Small := ⟨h.a, h.b, h.c, h.d⟩
theorem PairOk.hok {room most : Int} {k n : Nat} {Ha Hb : Hub} (h : PairOk room most k n Ha Hb) (g1 : 1 ≤ room) (g2 : room ≤ 4096) (g3 : 1 ≤ most) (g4 : most ≤ 4096) (hk : k ≤ 1000) : HOk Ha ∧ HOk Hb := by
  have h1 := h.ra; have h2 := h.rb; have h3 := h.oa; have h4 := h.ob; have h5 := h.ma; have h6 := h.mb
  exact ⟨⟨by omega, by omega, by omega, by omega, by omega, by omega⟩, ⟨by omega, by omega, by omega, by omega, by omega, by omega⟩⟩
theorem at_small {r : Int} {ps rs : List EvP} (h : rs.map EvP.x = (ps.map EvP.x).map (withMod r)) (hp : ∀ p ∈ ps, p.x.Tiny) : ∀ q ∈ rs, q.x.Small := fun q hq => by
  have h1 : q.x ∈ (ps.map EvP.x).map (withMod r) := by rw [← h]; exact List.mem_map_of_mem hq
  obtain ⟨y, hy, e⟩ := List.mem_map.1 h1
  obtain ⟨p, hp', rfl⟩ := List.mem_map.1 hy
  rw [← e]; exact withMod_small (hp p hp').small
theorem at_len {r : Int} {ps rs : List EvP} (h : rs.map EvP.x = (ps.map EvP.x).map (withMod r)) : rs.length = ps.length := by
  have := congrArg List.length h; simpa using this
theorem HInv.more {N : Nat} {H : Hub} (h : HInv N H) (x : Wt) : HInv N (H.more x) := fun j y hy => by
  have h1 : (if j = H.last + 1 then some (⟨x, nextOf H x, [], false, 0⟩ : Wr) else H.f j) = some y := hy
  by_cases e : j = H.last + 1
  · rw [if_pos e] at h1; cases h1; exact ⟨rfl, Nat.zero_le _⟩
  · rw [if_neg e] at h1; exact h j y h1
theorem HInv.new (rev room most : Int) : HInv 0 (newHub rev room most) := fun j y hy => by cases hy
theorem pair_start (room most : Int) (x o : Wt) : PairOk room most 0 0 ((newHub 0 room most).more x) (createH ((newHub 0 room most).more x) o) := by
  unfold createH
  split
  · exact { ra := rfl, rb := rfl, oa := rfl, ob := rfl, ma := rfl, mb := rfl, f1 := rfl, ia := (HInv.new 0 room most).more x, ib := ((HInv.new 0 room most).more x).more o }
  · exact { ra := rfl, rb := rfl, oa := rfl, ob := rfl, ma := rfl, mb := rfl, f1 := rfl, ia := (HInv.new 0 room most).more x, ib := (HInv.new 0 room most).more x }

end Go.Proofs.Ytidpiojanajpoaa
