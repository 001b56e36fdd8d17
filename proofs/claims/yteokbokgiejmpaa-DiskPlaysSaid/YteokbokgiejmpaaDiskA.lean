/-
  The disk of the program: what its struct and its two maps hold, and the contracts of burn, check, stored, bytes.Clone.
-/
import Derived.Test.YteokbokgiejmpaaRows
import Derived.Test.YteokbokgiejmpaaBase
import Derived.BigQuiet
import Derived.Deep.QuietTactic
import Derived.Deep.RegionHeld3
import Derived.Shelf.Bytes.SlClone
namespace Go.Proofs.Yteokbokgiejmpaa
open Go.RowKit Go.Tb Go.MapKept Go.ChangeMaps
set_option linter.unusedVariables false

/-- What a disk is. -/
structure DS where
  size : Int
  pages : Int → Option (List UInt8)
  cache : Int → Option (List UInt8)
  fuse : Int
  dead : Bool
  done : Int

/-- Values that are pages: rows of 256 bytes in blocks of `I`. -/
def PagesOf (w : World) (f : Int → Option Value) (g : Int → Option (List UInt8)) (I : Nat → Prop) : Prop :=
  (∀ x, I x → x < w.heap.size) ∧ (∀ k, g k = none → f k = none) ∧ ∀ k l, g k = some l → l.length = 256 ∧ ∃ v, f k = some v ∧ Bytes w v l ∧ ∀ b, sliceBlock v = some b → I b
/-- A map of pages. -/
def PagesAt (w : World) (m : Nat) (g : Int → Option (List UInt8)) (I : Nat → Prop) : Prop :=
  ∃ f n, IsMap (Value.int .i64) w m f n ∧ PagesOf w f g I

structure IsDisk (w : World) (b mp mc : Nat) (D : DS) (I : Nat → Prop) : Prop where
  blk : w.heap[b]? = some (.cells #[.int .i64 D.size, .map (some mp), .map (some mc), .int .i64 D.fuse, .bool D.dead, .int .i64 D.done] 71 (0, 0))
  pg : PagesAt w mp D.pages I
  ch : PagesAt w mc D.cache I
  n1 : mp ≠ b
  n2 : mc ≠ b
  n3 : mp ≠ mc
  a1 : ¬ I b
  a2 : ¬ I mp
  a3 : ¬ I mc
  s1 : 8 ≤ D.size
  s2 : D.size ≤ 1024
  f1 : -1 ≤ D.fuse
  f2 : D.fuse ≤ 9223372036854775807

theorem PagesOf.upd {w w' : World} {f : Int → Option Value} {g : Int → Option (List UInt8)} {I : Nat → Prop} {S : Nat → Prop} (h : PagesOf w f g I) (hu : Upd S w w') (hi : ∀ b, I b → ¬ S b) : PagesOf w' f g I := by
  obtain ⟨h0, h2, h3⟩ := h
  refine ⟨fun x hx => Nat.lt_of_lt_of_le (h0 x hx) hu.size, h2, fun k l hk => ?_⟩
  obtain ⟨q1, v, q2, q3, q4⟩ := h3 k l hk
  exact ⟨q1, v, q2, q3.upd hu (fun b hb => hi b (q4 b hb)), q4⟩
theorem PagesAt.upd {w w' : World} {m : Nat} {g : Int → Option (List UInt8)} {I : Nat → Prop} {S : Nat → Prop} (h : PagesAt w m g I) (hu : Upd S w w') (hm : ¬ S m) (hi : ∀ b, I b → ¬ S b) : PagesAt w' m g I := by
  obtain ⟨f, n, h1, h2⟩ := h
  exact ⟨f, n, h1.upd hu hm, h2.upd hu hi⟩
theorem PagesOf.wider {w : World} {f : Int → Option Value} {g : Int → Option (List UInt8)} {I J : Nat → Prop} (h : PagesOf w f g I) (hi : ∀ b, I b → J b) (hJ : ∀ x, J x → x < w.heap.size) : PagesOf w f g J := by
  obtain ⟨h0, h2, h3⟩ := h
  refine ⟨hJ, h2, fun k l hk => ?_⟩
  obtain ⟨q1, v, q2, q3, q4⟩ := h3 k l hk
  exact ⟨q1, v, q2, q3, fun b hb => hi b (q4 b hb)⟩
theorem PagesAt.wider {w : World} {m : Nat} {g : Int → Option (List UInt8)} {I J : Nat → Prop} (h : PagesAt w m g I) (hi : ∀ b, I b → J b) (hJ : ∀ x, J x → x < w.heap.size) : PagesAt w m g J := by
  obtain ⟨f, n, h1, h2⟩ := h
  exact ⟨f, n, h1, h2.wider hi hJ⟩
theorem PagesAt.lt {w : World} {m : Nat} {g : Int → Option (List UInt8)} {I : Nat → Prop} (h : PagesAt w m g I) : m < w.heap.size := by
  obtain ⟨f, n, h1, h2⟩ := h
  exact h1.lt
theorem PagesAt.bound {w : World} {m : Nat} {g : Int → Option (List UInt8)} {I : Nat → Prop} (h : PagesAt w m g I) : ∀ x, I x → x < w.heap.size := by
  obtain ⟨f, n, h1, h2⟩ := h
  exact h2.1

theorem IsDisk.upd {w w' : World} {b mp mc : Nat} {D : DS} {I : Nat → Prop} {S : Nat → Prop} (h : IsDisk w b mp mc D I) (hu : Upd S w w') (hb : ¬ S b) (hp : ¬ S mp) (hc : ¬ S mc) (hi : ∀ b, I b → ¬ S b) : IsDisk w' b mp mc D I :=
  { h with blk := hu.heap h.blk hb, pg := h.pg.upd hu hp hi, ch := h.ch.upd hu hc hi }

theorem IsDisk.drew {w : World} {b mp mc : Nat} {D : DS} {I : Nat → Prop} (h : IsDisk w b mp mc D I) : IsDisk w.drew b mp mc D I :=
  h.upd ((Upd.refl (fun _ => False) w).drew) (fun x => x) (fun x => x) (fun x => x) (fun _ _ x => x)

def DS.burn (D : DS) : DS :=
  { D with done := wrap64 (D.done + 1), fuse := if 0 < D.fuse then D.fuse - 1 else D.fuse, dead := (if 0 < D.fuse then D.fuse - 1 else D.fuse) == 0 }
/-- The number of the error of asking for a page. -/
def DS.check (D : DS) (page : Int) : Int := if D.dead = true then 10 else if page < 0 ∨ D.size ≤ page then 2 else 0

theorem run_add (a : Addr) (x y : Int) (w : World) (hc : w.cell? a = some (.int .i64 x)) (hz : w.frozen? a = false) :
    (callFunc 53 #[.pointer (some a), .int .i64 y]).run Try.prog w = .ok (.value (.int .i64 (IntKind.i64.wrap (x + y)))) (w.setCell a (.int .i64 (IntKind.i64.wrap (x + y)))) :=
  run_call_add Try.func53 (by kernel_rfl) (by kernel_rfl) (by kernel_rfl) .i64 (by kernel_rfl) hc hz rfl

set_option maxHeartbeats 400000 in
theorem burn_calls (b : Nat) (c0 c1 c2 : Value) (fuse done : Int) (dead : Bool) (w : World) (hf1 : -1 ≤ fuse) (hf2 : fuse ≤ 9223372036854775807)
   (hb : w.heap[b]? = some (.cells #[c0, c1, c2, .int .i64 fuse, .bool dead, .int .i64 done] 71 (0, 0))) :
   Calls Try.prog 34 #[.pointer (some ⟨b, 0, none⟩)] w fun e w' => e = .returned (.tuple #[]) ∧
     w'.heap[b]? = some (.cells #[c0, c1, c2, .int .i64 (if 0 < fuse then fuse - 1 else fuse), .bool ((if 0 < fuse then fuse - 1 else fuse) == 0), .int .i64 (wrap64 (done + 1))] 71 (0, 0)) ∧ Upd (fun k => k = b) w w' ∧ w'.heap.size = w.heap.size := by
  have h3 : w.cell? ⟨b, 3, none⟩ = some (.int .i64 fuse) := cell_of hb 3
  have h4 : w.cell? ⟨b, 4, none⟩ = some (.bool dead) := cell_of hb 4
  have h5 : w.cell? ⟨b, 5, none⟩ = some (.int .i64 done) := cell_of hb 5
  have f3 := free_of hb 3
  have f4 := free_of hb 4
  have f5 := free_of hb 5
  have hadd := run_add ⟨b, 5, none⟩ done 1 w h5 f5
  by_cases hf : 0 < fuse
  · go_enter Try.func34, Try.ntmps34
    go_wp2_with go_in
    go_end0
    refine ⟨rfl, ?_, ?_, by simp⟩
    · rw [heap_setCell_at (heap_setCell_at (heap_setCell_at hb _ _) _ _) _ _]
      simp
    · exact (((Upd.refl _ _).setCell (by simp) _).setCell (by simp) _).setCell (by simp) _
  · go_enter Try.func34, Try.ntmps34
    go_wp2_with go_in
    go_end0
    refine ⟨rfl, ?_, ?_, by simp⟩
    · rw [heap_setCell_at (heap_setCell_at hb _ _) _ _]
      simp
    · exact ((Upd.refl _ _).setCell (by simp) _).setCell (by simp) _

theorem IsDisk.burned {w w' : World} {b mp mc : Nat} {D : DS} {I : Nat → Prop} (h : IsDisk w b mp mc D I) (hu : Upd (fun k => k = b) w w')
    (hb : w'.heap[b]? = some (.cells #[.int .i64 D.size, .map (some mp), .map (some mc), .int .i64 (if 0 < D.fuse then D.fuse - 1 else D.fuse), .bool ((if 0 < D.fuse then D.fuse - 1 else D.fuse) == 0), .int .i64 (wrap64 (D.done + 1))] 71 (0, 0))) :
    IsDisk w' b mp mc D.burn I :=
  { blk := hb, pg := h.pg.upd hu h.n1 (fun x hx e => h.a1 (e ▸ hx)), ch := h.ch.upd hu h.n2 (fun x hx e => h.a1 (e ▸ hx)), n1 := h.n1, n2 := h.n2, n3 := h.n3, a1 := h.a1, a2 := h.a2, a3 := h.a3, s1 := h.s1, s2 := h.s2,
    f1 := by have := h.f1; simp only [DS.burn]; split <;> omega
    f2 := by have := h.f2; simp only [DS.burn]; split <;> omega }

/-- check at the disk that there isn't. -/
theorem check_nil (page : Int) (w : World) : Calls Try.prog 32 #[.pointer none, .int .i64 page] w fun e w' => e = .returned (.int .i64 1) ∧ w = w' := by
  go_enter Try.func32, Try.ntmps32
  go_wp2
  go_ret
  exact ⟨rfl, rfl⟩

set_option maxHeartbeats 400000 in
theorem check_calls (b : Nat) (c1 c2 c3 c5 : Value) (page size : Int) (dead : Bool) (w : World)
    (hb : w.heap[b]? = some (.cells #[.int .i64 size, c1, c2, c3, .bool dead, c5] 71 (0, 0))) :
    Calls Try.prog 32 #[.pointer (some ⟨b, 0, none⟩), .int .i64 page] w fun e w' => e = .returned (.int .i64 (if dead = true then 10 else if page < 0 ∨ size ≤ page then 2 else 0)) ∧ w = w' := by
  have h0 : w.cell? ⟨b, 0, none⟩ = some (.int .i64 size) := cell_of hb 0
  have h4 : w.cell? ⟨b, 4, none⟩ = some (.bool dead) := cell_of hb 4
  cases dead
  · by_cases h1 : page < 0
    · go_enter Try.func32, Try.ntmps32
      go_wp2
      go_ret
      exact ⟨by simp, rfl⟩
    · by_cases h2 : size ≤ page
      · go_enter Try.func32, Try.ntmps32
        go_wp2
        go_ret
        exact ⟨by simp, rfl⟩
      · go_enter Try.func32, Try.ntmps32
        go_wp2
        go_ret
        exact ⟨by simp, rfl⟩
  · go_enter Try.func32, Try.ntmps32
    go_wp2
    go_ret
    exact ⟨by simp, rfl⟩

end Go.Proofs.Yteokbokgiejmpaa
