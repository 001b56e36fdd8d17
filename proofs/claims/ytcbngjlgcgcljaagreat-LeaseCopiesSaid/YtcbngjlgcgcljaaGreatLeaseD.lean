/-
  A lessor: how two leases stand by their deadlines.
-/
import Derived.Deep.RegionHeld3
import Derived.Test.YtcbngjlgcgcljaaGreatLeaseB
import Derived.Test.YtcbngjlgcgcljaaGreatSort1
import Derived.Test.YtcbngjlgcgcljaaGreatCmpI
import Derived.Test.YtcbngjlgcgcljaaGreatBase
namespace Go.Proofs.YtcbngjlgcgcljaaGreat
open Go.RowKit Go.Tb Go.MapKept Go.ChangeMaps Go.Lib
set_option linter.unusedVariables false

/-- A lease's deadline (0: there is none). -/
def LS.due (L : LS) (id : Int) : Int := ((L.l id).map (·.2)).getD 0
/-- How two leases stand. -/
def LS.cmp (L : LS) (x y : Int) : Int := orI (compareInt (L.due x) (L.due y)) (compareInt x y)

theorem run_field (t d : Int) (w : World) : (Instr.field 67 (.agg #[.int .i64 t, .int .i64 d]) 1).run Tryz.prog w = .ok (.int .i64 d) w := by kernel_rfl

theorem due_held (L : LS) (id : Int) : ∃ t, ((L.l id).map heldV).getD (.agg #[.int .i64 0, .int .i64 0]) = .agg #[.int .i64 t, .int .i64 (L.due id)] := by
  unfold LS.due heldV
  cases L.l id with
  | none => exact ⟨_, rfl⟩
  | some x => exact ⟨x.1, rfl⟩

set_option maxRecDepth 100000 in
set_option maxHeartbeats 1000000 in
theorem clos_calls (B b ml mk : Nat) (L : LS) (x y : Int) (w : World) (h : IsLs w b ml mk L) (hB : w.cell? ⟨B, 0, none⟩ = some (.pointer (some ⟨b, 0, none⟩))) :
    Calls Tryz.prog 35 #[.int .i64 x, .int .i64 y, .pointer (some ⟨B, 0, none⟩)] w fun e w' => e = .returned (.int .i64 (L.cmp x y)) ∧ Upd (fun _ => False) w w' ∧ ∃ q, w'.drawn = w.drawn + q := by
  obtain ⟨tx, hx⟩ := due_held L x
  obtain ⟨ty, hy⟩ := due_held L y
  have lx := fun W (hu : Upd (fun _ => False) w W) => (h.grow hu).look x false
  have ly := fun W (hu : Upd (fun _ => False) w W) => (h.grow hu).look y false
  simp only [Bool.false_eq_true, if_false, hx, hy] at lx ly
  have c2 : w.cell? ⟨b, 2, none⟩ = some (.map (some ml)) := cell_of h.blk 2
  have hd : Upd (fun _ => False) w w.drew := (Upd.refl _ _).drew
  have hbB := World.block_lt_of_cell? w ⟨B, 0, none⟩ hB
  have hbl := lt_of_heap h.blk
  have HE := Lib.hid (show L.cmp x y = orI (compareInt (L.due x) (L.due y)) (compareInt x y) from rfl)
  have LX := Lib.hid lx
  have LY := Lib.hid ly
  have lx1 := lx _ hd
  have ly1 := ly _ hd
  clear h hx hy lx ly
  generalize L.due x = dx at *
  generalize L.due y = dy at *
  have hor := fun (n : Int) => or_calls w.heap.size n (compareInt x y) 3 (w.alloc (.cells #[.int .i64 n, .int .i64 (compareInt x y)] 3)).drew (heap_alloc w (.cells #[.int .i64 n, .int .i64 (compareInt x y)] 3)).1
  have HOR := Lib.hid hor
  clear hor
  have hfx := fun w => run_field tx dx w
  have hfy := fun w => run_field ty dy w
  go_enter Tryz.func35, Tryz.ntmps35
  go_wp2
  go_region_held3 (fun w' => w'.cell? ⟨B, 0, none⟩ = some (.pointer (some ⟨b, 0, none⟩)) ∧ w'.cell? ⟨b, 2, none⟩ = some (.map (some ml)) ∧ (Instr.lookup 48 (.map (some ml)) (.int .i64 x) false).run Tryz.prog w' = .ok (.agg #[.int .i64 tx, .int .i64 dx]) w' ∧ (Instr.lookup 48 (.map (some ml)) (.int .i64 y) false).run Tryz.prog w' = .ok (.agg #[.int .i64 ty, .int .i64 dy]) w')
    (first | exact ⟨hB, c2, lx1, ly1⟩ | (have hal := hd.alloc (.cells #[.int .i64 (compareInt dx dy), .int .i64 (compareInt x y)] 3); exact ⟨hal.cell hB (fun x => x), hal.cell c2 (fun x => x), LX.out _ hal, LY.out _ hal⟩))
    (first | (go_at_call 37; (with_reducible refine (compare_calls _ _ _).mono ?_); rintro e9 w9 ⟨rfl, rfl⟩) | (go_at_call 36; (with_reducible refine (HOR.out _).mono ?_); rintro e9 w9 ⟨rfl, rfl⟩))
  all_goals go_wp2
  all_goals go_ret
  all_goals exact ⟨by rw [HE.out]; rfl, (upd_alloc _ _ _).drew, 1, rfl⟩

/-- Which leases are due. -/
def LS.isDue (L : LS) (id : Int) : Prop := ∃ x, L.l id = some x ∧ x.2 ≤ L.now

def DueRel (b ml R base : Nat) (L : LS) (w : World) (v : Value) (wr : World) : Prop :=
  ∃ (todo xs : List Int), Iter (Value.int .i64) wr R ml (fun i => (L.l i).map heldV) todo ∧ wr.ownsRow base 2 1 v xs.length (xs.flatMap nenc) ∧ (todo ++ xs).length ≤ 64 ∧ xs.Nodup ∧ (∀ i, i ∈ xs ↔ i ∉ todo ∧ L.isDue i) ∧ Upd (fun _ => False) w wr

theorem DueRel.drew {b ml R base : Nat} {L : LS} {w : World} {v : Value} {wr : World} (h : DueRel b ml R base L w v wr) : DueRel b ml R base L w v wr.drew := by
  obtain ⟨todo, xs, h1, h2, h3, h4, h5, h6⟩ := h
  have hd : Upd (fun _ => False) wr wr.drew := (Upd.refl _ _).drew
  exact ⟨todo, xs, h1.upd hd (fun x => x) (fun x => x), own_grow h2 hd, h3, h4, h5, h6.drew⟩

/-- .. and one lease more is due. -/
def DueRel2 (b ml R base : Nat) (L : LS) (w : World) (v : Value) (k : Int) (wr : World) : Prop :=
  ∃ (todo xs : List Int), Iter (Value.int .i64) wr R ml (fun i => (L.l i).map heldV) todo ∧ wr.ownsRow base 2 1 v xs.length (xs.flatMap nenc) ∧ (todo ++ xs).length + 1 ≤ 64 ∧ (xs ++ [k]).Nodup ∧ (∀ i, i ∈ xs ++ [k] ↔ i ∉ todo ∧ L.isDue i) ∧ Upd (fun _ => False) w wr
theorem DueRel2.drew {b ml R base : Nat} {L : LS} {w : World} {v : Value} {k : Int} {wr : World} (h : DueRel2 b ml R base L w v k wr) : DueRel2 b ml R base L w v k wr.drew := by
  obtain ⟨todo, xs, h1, h2, h3, h4, h5, h6⟩ := h
  have hd : Upd (fun _ => False) wr wr.drew := (Upd.refl _ _).drew
  exact ⟨todo, xs, h1.upd hd (fun x => x) (fun x => x), own_grow h2 hd, h3, h4, h5, h6.drew⟩

theorem nenc_one (x : Int) : ∀ u ∈ nenc x, u.oneCell' = true := fun u hu => by rw [List.mem_singleton.1 hu]; rfl
theorem info_i64 : (Tryz.prog.info? 2).map (fun i => (i.zero, i.size, i.bytes)) = some (some (.int .i64 0), 1, 8) := by kernel_rfl

theorem DueRel2.app {b ml R base : Nat} {L : LS} {w : World} {oa : Option Addr} {on oc : Nat} {k : Int} {wr : World} (h : DueRel2 b ml R base L w (.slice oa on oc) k wr) (hb : base ≤ wr.heap.size ∧ ml < R ∧ R < base ∧ w.heap.size ≤ base) :
    ∃ a c w', (∀ ty, (Builtin.append_ #[45, 45] ty #[.slice oa on oc, .slice (some ⟨wr.heap.size, 0, none⟩) 1 1]).run Tryz.prog (wr.alloc (.cells #[.int .i64 k] 2)) = .ok (.slice a (on + 1) c) w') ∧
      DueRel b ml R base L w (.slice a (on + 1) c) w' ∧ Upd (fun g => base ≤ g) wr w' := by
  obtain ⟨todo, xs, h1, h2, h3, h4, h5, h6⟩ := h
  have hua := upd_alloc (fun _ => False) wr (.cells #[.int .i64 k] 2)
  obtain rfl : xs.length = on := (sl_of_own nenc_length h2).1.size
  obtain ⟨a', c', w5, hap, g1, g2, g3⟩ := run_append_one (P := Tryz.prog) (w := wr.alloc (.cells #[.int .i64 k] 2)) (t := 45) (z := .int .i64 0) Tryz.underlying45 info_i64 rfl (by decide) nenc_length nenc_one k (own_grow h2 hua) (heap_alloc wr _).1 (Nat.le_trans hb.1 hua.size) (by unfold maxLen; simp at h3; omega) (by simp at h3; omega)
  have hge := own_ge h2
  have hu : Upd (fun g => base ≤ g) wr w5 := (hua.weak _).trans' g2 (fun x _ e => (hge x e).1)
  refine ⟨a', c', w5, hap, ⟨todo, xs ++ [k], h1.upd hu (by omega) (by omega), ?_, by simp at h3 ⊢; omega, h4, h5, h6.trans' hu (fun x hx e => by omega)⟩, hu⟩
  exact g1

end Go.Proofs.YtcbngjlgcgcljaaGreat
