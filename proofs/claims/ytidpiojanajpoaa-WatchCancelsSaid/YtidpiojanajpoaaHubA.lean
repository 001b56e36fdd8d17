/-
  A hub: what it is; find, Synced, Pending, behind.
-/
import Derived.Deep.QuietTactic
import Derived.BigQuiet
import Derived.Test.YtidpiojanajpoaaEvD
import Derived.Test.YtidpiojanajpoaaEvF
namespace Go.Proofs.Ytidpiojanajpoaa
open Go.RowKit Go.Tb Go.MapKept Go.ChangeMaps
set_option linter.unusedVariables false

/-- Whose a block is. -/
inductive Tg where
  | no | hub | map | wt (i : Int) | bf (i : Int) | by_
deriving DecidableEq
/-- A watcher. -/
structure Wr where
  w : Wt
  next : Int
  buf : List Ev
  ended : Bool
  floor : Int
/-- A hub. -/
structure Hub where
  rev : Int
  room : Int
  most : Int
  last : Int
  f : Int → Option Wr
  n : Nat
/-- Where a watcher lies. -/
structure WrP where
  blk : Nat
  k : Sv
  e : Sv
  b : Sv
  ps : List EvP
def wrenc (p : WrP) (x : Wr) : Array Value := #[p.k.v, p.e.v, .int .i64 x.w.start, .bool x.w.np, .bool x.w.nd, .bool x.w.pv, .int .i64 x.next, p.b.v, .int .u32 (if x.ended then 1 else 0), .int .i32 0, .int .u32 0, .bool x.ended, .int .i64 x.floor]
def wptr (o : Option WrP) : Value := .pointer (o.map fun p => ⟨p.blk, 0, none⟩)
def mptr (P : Int → Option WrP) (i : Int) : Option Value := (P i).map fun p => .pointer (some ⟨p.blk, 0, none⟩)

structure WrOk (w : World) (own : Nat → Tg) (i : Int) (p : WrP) (x : Wr) : Prop where
  blk : w.heap[p.blk]? = some (.cells (wrenc p x) 87 (0, 0))
  ow : own p.blk = .wt i
  key : Go.Tb.Bytes w p.k.v x.w.key
  end_ : Go.Tb.Bytes w p.e.v x.w.end_
  ok : ∀ b, sliceBlock p.k.v = some b → own b = .by_
  oe : ∀ b, sliceBlock p.e.v = some b → own b = .by_
  row : ∃ J, EvRow w 0 J p.b.v p.ps ∧ ∀ b, J b → own b = .by_
  ob : ∀ b, sliceBlock p.b.v = some b → own b = .bf i
  eq : p.ps.map EvP.x = x.buf
  nb : p.b.n = x.buf.length
  small : ∀ y ∈ x.buf, y.Small

structure IsHub (w : World) (b m : Nat) (own : Nat → Tg) (P : Int → Option WrP) (H : Hub) : Prop where
  hub : w.heap[b]? = some (.cells #[.int .i64 H.rev, .int .i64 H.room, .int .i64 H.most, .int .i64 H.last, .map (some m)] 73 (0, 0))
  map : IsMap (Value.int .i64) w m (mptr P) H.n
  ob : own b = .hub
  om : own m = .map
  wt : ∀ i p, P i = some p → ∃ x, H.f i = some x ∧ WrOk w own i p x
  nn : ∀ i, P i = none → H.f i = none
  lt : ∀ k, own k ≠ .no → k < w.heap.size

theorem WrOk.upd {w w' : World} {own own' : Nat → Tg} {i : Int} {p : WrP} {x : Wr} {S : Nat → Prop} (h : WrOk w own i p x) (hu : Upd S w w') (hS : ∀ k, S k → own k ≠ .by_ ∧ own k ≠ .wt i ∧ own k ≠ .bf i) (ho : ∀ k, k < w.heap.size → own' k = own k) : WrOk w' own' i p x := by
  obtain ⟨J, hr, hJ⟩ := h.row
  have hb : ∀ k, own k = .by_ → ¬ S k := fun k e s => (hS k s).1 e
  exact {
    blk := hu.heap h.blk (fun s => (hS _ s).2.1 h.ow)
    ow := by rw [ho _ (lt_of_heap h.blk)]; exact h.ow
    key := h.key.upd hu (fun b e => hb b (h.ok b e))
    end_ := h.end_.upd hu (fun b e => hb b (h.oe b e))
    ok := fun b e => by rw [ho b (h.key.lt e)]; exact h.ok b e
    oe := fun b e => by rw [ho b (h.end_.lt e)]; exact h.oe b e
    row := ⟨J, hr.upd hu (fun b e s => (hS b s).2.2 (h.ob b e)) (fun b e => hb b (hJ b e)), fun b e => by rw [ho b (hr.ge b e).2]; exact hJ b e⟩
    ob := fun b e => by rw [ho b (hr.blk b e).2]; exact h.ob b e
    eq := h.eq
    nb := h.nb
    small := h.small }

theorem IsHub.upd {w w' : World} {b m : Nat} {own : Nat → Tg} {P : Int → Option WrP} {H : Hub} {S : Nat → Prop} (h : IsHub w b m own P H) (hu : Upd S w w') (hS : ∀ k, own k ≠ .no → ¬ S k) : IsHub w' b m own P H where
  hub := hu.heap h.hub (hS b (by rw [h.ob]; decide))
  map := h.map.upd hu (hS m (by rw [h.om]; decide))
  ob := h.ob
  om := h.om
  wt := fun i p hp => by
    obtain ⟨x, hx, h1⟩ := h.wt i p hp
    exact ⟨x, hx, h1.upd hu (fun k s => ⟨fun e => hS k (by rw [e]; simp) s, fun e => hS k (by rw [e]; simp) s, fun e => hS k (by rw [e]; simp) s⟩) (fun _ _ => rfl)⟩
  nn := h.nn
  lt := fun k hk => Nat.lt_of_lt_of_le (h.lt k hk) hu.size
theorem IsHub.grow {w w' : World} {b m : Nat} {own : Nat → Tg} {P : Int → Option WrP} {H : Hub} (h : IsHub w b m own P H) (hu : Upd (fun _ => False) w w') : IsHub w' b m own P H := h.upd hu (fun _ _ x => x)

set_option maxRecDepth 100000 in
theorem zero_pw (w : World) : (zeroValue 75).run Try.prog w = .ok (.pointer none) w := by rfl
theorem IsHub.look {w : World} {b m : Nat} {own : Nat → Tg} {P : Int → Option WrP} {H : Hub} (h : IsHub w b m own P H) (i : Int) : (Instr.lookup 66 (.map (some m)) (.int .i64 i) false).run Try.prog w = .ok (wptr (P i)) w := by
  have := h.map.lookup (P := Try.prog) (keyT_int .i64) Try.underlying66 Try.underlying2 (z := .pointer none) (zero_pw w) i false
  rw [this]
  unfold mptr wptr
  cases P i <;> rfl

theorem find_calls (b m : Nat) (own : Nat → Tg) (P : Int → Option WrP) (H : Hub) (i : Int) (w : World) (h : IsHub w b m own P H) :
    Calls Try.prog 32 #[.pointer (some ⟨b, 0, none⟩), .int .i64 i] w fun e w' => e = .returned (wptr (P i)) ∧ w = w' := by
  have hl := h.look i
  have c4 : w.cell? ⟨b, 4, none⟩ = some (.map (some m)) := cell_of h.hub 4
  clear h
  generalize wptr (P i) = v at *
  go_enter Try.func32, Try.ntmps32
  go_wp2
  go_ret
  exact ⟨rfl, rfl⟩

/-- How many events wait. -/
def pendN (H : Hub) (i : Int) : Nat := match H.f i with
  | none => 0
  | some x => x.buf.length
def syncedB (H : Hub) (i : Int) : Bool := match H.f i with
  | none => false
  | some x => decide (H.rev < x.next)
def behindB (H : Hub) (x : Wr) : Bool := !x.ended && decide (x.next ≤ H.rev)

theorem pending_calls (b m : Nat) (own : Nat → Tg) (P : Int → Option WrP) (H : Hub) (i : Int) (w : World) (h : IsHub w b m own P H) :
    Calls Try.prog 16 #[.pointer (some ⟨b, 0, none⟩), .int .i64 i] w fun e w' => e = .returned (.int .i64 (pendN H i : Nat)) ∧ w = w' := by
  have hf := find_calls b m own P H i w h
  cases hp : P i with
  | none =>
    have e : pendN H i = 0 := by unfold pendN; rw [h.nn i hp]
    rw [e]
    rw [hp] at hf
    simp only [wptr, Option.map_none] at hf
    clear h hp e
    go_enter Try.func16, Try.ntmps16
    go_wp2_with (go_at_call 32; (with_reducible refine hf.mono ?_); rintro e w' ⟨rfl, rfl⟩)
    go_ret
    exact ⟨rfl, rfl⟩
  | some p =>
    obtain ⟨x, hx, hw⟩ := h.wt i p hp
    have e : pendN H i = p.b.n := by unfold pendN; rw [hx]; exact hw.nb.symm
    rw [e]
    rw [hp] at hf
    simp only [wptr, Option.map_some] at hf
    have c7 : w.cell? ⟨p.blk, 7, none⟩ = some (.slice p.b.a p.b.n p.b.c) := cell_of hw.blk 7
    clear h hp e hx hw
    go_enter Try.func16, Try.ntmps16
    go_wp2_with (go_at_call 32; (with_reducible refine hf.mono ?_); rintro e w' ⟨rfl, rfl⟩)
    go_ret
    exact ⟨rfl, rfl⟩

theorem synced_calls (b m : Nat) (own : Nat → Tg) (P : Int → Option WrP) (H : Hub) (i : Int) (w : World) (h : IsHub w b m own P H) :
    Calls Try.prog 15 #[.pointer (some ⟨b, 0, none⟩), .int .i64 i] w fun e w' => e = .returned (.bool (syncedB H i)) ∧ Upd (fun _ => False) w w' := by
  have hf := find_calls b m own P H i w h
  have hd : Upd (fun _ => False) w w.drew := (Upd.refl _ _).drew
  cases hp : P i with
  | none =>
    have e : syncedB H i = false := by unfold syncedB; rw [h.nn i hp]
    rw [e]
    rw [hp] at hf
    simp only [wptr, Option.map_none] at hf
    clear h hp e
    go_enter Try.func15, Try.ntmps15
    go_wp2_with (go_at_call 32; (with_reducible refine hf.mono ?_); rintro e w' ⟨rfl, rfl⟩)
    go_quiet (fail)
    go_wp2
    go_ret
    exact ⟨rfl, (Upd.refl _ _).drewN _⟩
  | some p =>
    obtain ⟨x, hx, hw⟩ := h.wt i p hp
    have e : syncedB H i = decide (H.rev < x.next) := by unfold syncedB; rw [hx]
    rw [e]
    rw [hp] at hf
    simp only [wptr, Option.map_some] at hf
    have c6 : w.cell? ⟨p.blk, 6, none⟩ = some (.int .i64 x.next) := cell_of hw.blk 6
    have c0 : w.cell? ⟨b, 0, none⟩ = some (.int .i64 H.rev) := cell_of h.hub 0
    have c6' := hd.cell c6 (fun x => x)
    have c0' := hd.cell c0 (fun x => x)
    clear h hp e hx hw hd
    go_enter Try.func15, Try.ntmps15
    go_wp2_with (go_at_call 32; (with_reducible refine hf.mono ?_); rintro e w' ⟨rfl, rfl⟩)
    go_quiet (fail)
    go_wp2
    go_ret
    exact ⟨rfl, (Upd.refl _ _).drewN _⟩

theorem behind_calls (b m : Nat) (own : Nat → Tg) (P : Int → Option WrP) (H : Hub) (i : Int) (p : WrP) (x : Wr) (w : World) (h : IsHub w b m own P H) (hw : WrOk w own i p x) :
    Calls Try.prog 38 #[.pointer (some ⟨b, 0, none⟩), .pointer (some ⟨p.blk, 0, none⟩)] w fun e w' => e = .returned (.bool (behindB H x)) ∧ Upd (fun _ => False) w w' := by
  have hd : Upd (fun _ => False) w w.drew := (Upd.refl _ _).drew
  have c6 : w.cell? ⟨p.blk, 6, none⟩ = some (.int .i64 x.next) := cell_of hw.blk 6
  have c11 : w.cell? ⟨p.blk, 11, none⟩ = some (.bool x.ended) := cell_of hw.blk 11
  have c0 : w.cell? ⟨b, 0, none⟩ = some (.int .i64 H.rev) := cell_of h.hub 0
  have c6' := hd.cell c6 (fun x => x)
  have c11' := hd.cell c11 (fun x => x)
  have c0' := hd.cell c0 (fun x => x)
  unfold behindB
  clear h hw hd
  generalize x.ended = en at *
  cases en with
  | true =>
    go_enter Try.func38, Try.ntmps38
    go_wp2
    go_quiet (fail)
    go_wp2
    go_ret
    exact ⟨rfl, (Upd.refl _ _).drewN _⟩
  | false =>
    go_enter Try.func38, Try.ntmps38
    go_wp2
    go_quiet (fail)
    go_wp2
    go_ret
    exact ⟨rfl, (Upd.refl _ _).drewN _⟩

end Go.Proofs.Ytidpiojanajpoaa
