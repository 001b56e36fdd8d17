/-
  A hub: Notify.
-/
import Derived.Deep.Cut
import Derived.Deep.RegionHeld3
import Derived.Test.YtidpiojanajpoaaHubB
namespace Go.Proofs.Ytidpiojanajpoaa
open Go.RowKit Go.Tb Go.MapKept Go.ChangeMaps
set_option linter.unusedVariables false

structure HOk (H : Hub) : Prop where
  rev0 : 0 ≤ H.rev
  rev1 : H.rev ≤ 4611686018427387904
  room0 : 1 ≤ H.room
  room1 : H.room ≤ 4096
  most0 : 1 ≤ H.most
  most1 : H.most ≤ 4096

/-- Is there room for so many events? -/
def fits (room : Int) (x : Wr) (s : List Ev) : Bool := decide (s.length = 0) || (decide (x.buf.length = 0) || decide ((s.length : Int) ≤ room - x.buf.length))
/-- What a write does to a watcher. -/
def stepW (room rev : Int) (l : List Ev) (x : Wr) : Wr :=
  if x.ended || decide (x.next ≠ rev) then x else if fits room x (sieveE x.w l) then { x with buf := x.buf ++ sieveE x.w l, next := rev + 1 } else x
def Hub.notified (H : Hub) (rev : Int) (l : List Ev) : Hub := { H with rev := rev, f := fun i => (H.f i).map (stepW H.room rev l) }

/-- While each watcher is gone to once. -/
def GRel (b m r : Nat) (own : Nat → Tg) (H : Hub) (st : Wr → Wr) (w0 wr : World) : Prop :=
  ∃ (todo : List Int) (own' : Nat → Tg) (P' : Int → Option WrP) (F' : Int → Option Wr), Iter (Value.int .i64) wr r m (mptr P') todo ∧ IsHub wr b m own' P' { H with f := F' } ∧ (∀ i, i ∈ todo → F' i = H.f i) ∧ (∀ i, i ∉ todo → F' i = (H.f i).map st) ∧
    (∀ k, k < w0.heap.size → own' k = own k) ∧ Upd (fun k => own k ≠ .no ∨ k = r) w0 wr

/-- The step of a round. -/
theorem GRel.next {b m r : Nat} {own : Nat → Tg} {H : Hub} {st : Wr → Wr} {w0 wr : World} (h : GRel b m r own H st w0 wr) (hr : own r = .no) (hr0 : r < w0.heap.size) :
    ((∀ ty, (Instr.next (.pointer (some ⟨r, 0, none⟩)) false ty).run Try.prog wr = .ok (.tuple #[.bool false]) wr) ∧ ∃ own' P', IsHub wr b m own' P' { H with f := fun i => (H.f i).map st } ∧ (∀ k, k < w0.heap.size → own' k = own k) ∧ Upd (fun k => own k ≠ .no ∨ k = r) w0 wr) ∨
    ∃ (i : Int) (p : WrP) (x : Wr) (w1 : World) (own' : Nat → Tg) (F' : Int → Option Wr) (P' : Int → Option WrP),
      (∀ ty, (Instr.next (.pointer (some ⟨r, 0, none⟩)) false ty).run Try.prog wr = .ok (.tuple #[.bool true, .int .i64 i, .pointer (some ⟨p.blk, 0, none⟩)]) w1) ∧ (Instr.entry (.pointer (some ⟨r, 0, none⟩))).run Try.prog w1 = .ok (.tuple #[.int .i64 i, .pointer (some ⟨p.blk, 0, none⟩)]) w1 ∧
      IsHub w1 b m own' P' { H with f := F' } ∧ P' i = some p ∧ F' i = some x ∧ H.f i = some x ∧ WrOk w1 own' i p x ∧ (∀ k, k < w0.heap.size → own' k = own k) ∧ Upd (fun k => own k ≠ .no ∨ k = r) w0 w1 ∧
      -- the watcher stays as it is
      (st x = x → ∀ w2, Upd (fun _ => False) w1 w2 → GRel b m r own H st w0 w2 ∧ w2.rangeLeft m r < wr.rangeLeft m r) ∧
      -- .. or takes the events
      (∀ (w2 : World) (p' : WrP) (x' : Wr), st x = x' → Upd (fun k => k = p.blk ∨ sliceBlock p.b.v = some k) w1 w2 → w2.heap[p.blk]? = some (.cells (wrenc p' x') 87 (0, 0)) → p'.blk = p.blk → p'.k = p.k → p'.e = p.e → x'.w = x.w → (∃ J, EvRow w2 0 J p'.b.v p'.ps ∧ ∀ k, J k → own' k = .by_ ∨ w1.heap.size ≤ k) →
        (∀ k, sliceBlock p'.b.v = some k → sliceBlock p.b.v = some k ∨ w1.heap.size ≤ k) → p'.ps.map EvP.x = x'.buf → p'.b.n = x'.buf.length → (∀ y ∈ x'.buf, y.Small) → GRel b m r own H st w0 w2 ∧ w2.rangeLeft m r < wr.rangeLeft m r) := by
  obtain ⟨todo, own', P', F', hit, hh, hin, hout, hown, hu⟩ := h
  have hr' : own' r = .no := by rw [hown r hr0]; exact hr
  rcases hit.next (P := Try.prog) (keyT_int .i64) with ⟨rfl, hrun⟩ | ⟨i, v, todo', w1, hperm, hf, hrun, hit', hu', hsz, hleft, hent⟩
  · refine .inl ⟨hrun, own', P', ?_, hown, hu⟩
    have e : F' = fun i => (H.f i).map st := funext fun i => hout i (by simp)
    rw [← e]; exact hh
  · obtain ⟨p, hp, rfl⟩ := Option.map_eq_some_iff.1 hf
    have hnd := List.nodup_cons.1 (hperm.nodup_iff.1 hit.nodup)
    have hi : i ∈ todo := hperm.mem_iff.2 (.head _)
    have hh1 : IsHub w1 b m own' P' { H with f := F' } := hh.upd hu' (fun k hk e => hk (by rw [e]; exact hr'))
    obtain ⟨x, hx, hw⟩ := hh1.wt i p hp
    have hx' : H.f i = some x := by rw [← hin i hi]; exact hx
    have hu1 : Upd (fun k => own k ≠ .no ∨ k = r) w0 w1 := hu.trans' hu' (fun k _ e => .inr e)
    have hmr : m ≠ r := fun e => by have h1 := hh1.om; rw [e, hr'] at h1; cases h1
    refine .inr ⟨i, p, x, w1, own', F', P', hrun, hent, hh1, hp, hx, hx', hw, hown, hu1, ?_, ?_⟩
    · intro hst w2 hu2
      refine ⟨⟨todo', own', P', F', hit'.upd hu2 (fun e => e) (fun e => e), hh1.grow hu2, fun j hj => hin j (hperm.mem_iff.2 (.tail _ hj)), fun j hj => ?_, hown, hu1.trans (hu2.weak _)⟩, by rw [rangeLeft_upd hit' hu2 (fun e => e) (fun e => e)]; exact hleft⟩
      by_cases e : j = i
      · subst e; rw [show F' j = some x from hx, hx', Option.map_some, hst]
      · exact hout j (fun hm => (List.mem_cons.1 (hperm.mem_iff.1 hm)).elim e hj)
    · intro w2 p' x' hst hu2 hblk e1 e2 e3 e4 hrow hbl heq hnb hsm
      obtain ⟨Jx, hrow⟩ := hrow
      obtain ⟨own2, hh2, hown2, -⟩ := hh1.put (x := x) hp hx hu2 hblk e1 e2 e3 e4 hrow hbl heq hnb hsm
      have hS : ∀ k, (k = p.blk ∨ sliceBlock p.b.v = some k) → own' k ≠ .no := fun k hk => by
        rcases hk with e | e
        · rw [e, hw.ow]; simp
        · rw [hw.ob k e]; simp
      have hm : ¬ (m = p.blk ∨ sliceBlock p.b.v = some m) := fun hk => by
        rcases hk with e | e
        · have h1 := hw.ow; rw [← e, hh1.om] at h1; cases h1
        · have h1 := hw.ob m e; rw [hh1.om] at h1; cases h1
      have hr2 : ¬ (r = p.blk ∨ sliceBlock p.b.v = some r) := fun hk => hS r hk hr'
      have hmp : mptr (fun j => if j = i then some p' else P' j) = mptr P' := by
        funext j
        unfold mptr
        by_cases hj : j = i
        · subst hj; simp only [if_true, hp, Option.map_some, e1]
        · simp only [if_neg hj]
      refine ⟨⟨todo', own2, _, _, by rw [hmp]; exact hit'.upd hu2 hm hr2, hh2, fun j hj => ?_, fun j hj => ?_, fun k hk => by rw [hown2 k (Nat.lt_of_lt_of_le hk hu1.size)]; exact hown k hk, hu1.trans' hu2 (fun k hk e => .inl (by have := hS k e; rwa [hown k hk] at this))⟩, by rw [rangeLeft_upd hit' hu2 hm hr2]; exact hleft⟩
      · have : j ≠ i := fun e => hnd.1 (e ▸ hj)
        simp only [if_neg this]
        exact hin j (hperm.mem_iff.2 (.tail _ hj))
      · by_cases e : j = i
        · subst e; simp only [if_true]; rw [hx', Option.map_some, hst]
        · simp only [if_neg e]
          exact hout j (fun hm => (List.mem_cons.1 (hperm.mem_iff.1 hm)).elim e hj)

/-- While a write goes round. -/
abbrev NRel (b m r : Nat) (own : Nat → Tg) (H : Hub) (rev : Int) (l : List Ev) (w0 wr : World) : Prop := GRel b m r own H (stepW H.room rev l) w0 wr

end Go.Proofs.Ytidpiojanajpoaa
