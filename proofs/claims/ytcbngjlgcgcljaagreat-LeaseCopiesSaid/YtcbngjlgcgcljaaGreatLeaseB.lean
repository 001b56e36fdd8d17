/-
  A lessor: find, Grant, Keep.
-/
import Derived.Test.YtcbngjlgcgcljaaGreatLeaseA
namespace Go.Proofs.YtcbngjlgcgcljaaGreat
open Go.RowKit Go.Tb Go.MapKept Go.ChangeMaps Go.Lib
set_option linter.unusedVariables false

theorem zero_held (w : World) : (zeroValue 67).run Tryz.prog w = .ok (.agg #[.int .i64 0, .int .i64 0]) w := by kernel_rfl

/-- `m[id]` of a lessor's leases. -/
theorem IsLs.look {w : World} {b ml mk : Nat} {L : LS} (h : IsLs w b ml mk L) (id : Int) (c : Bool) :
    (Instr.lookup 48 (.map (some ml)) (.int .i64 id) c).run Tryz.prog w = .ok (if c then .tuple #[((L.l id).map heldV).getD (.agg #[.int .i64 0, .int .i64 0]), .bool (L.l id).isSome] else ((L.l id).map heldV).getD (.agg #[.int .i64 0, .int .i64 0])) w := by
  have := h.lm.lookup (P := Tryz.prog) (keyT_int .i64) Tryz.underlying48 Tryz.underlying2 (zero_held w) id c
  rw [this]; simp

theorem find_nil (id : Int) (w : World) : Calls Tryz.prog 39 #[.pointer none, .int .i64 id] w fun e w' => e = .returned (.tuple #[.agg #[.int .i64 0, .int .i64 0], .int .i64 1]) ∧ Upd (fun _ => False) w w' := by
  go_enter Tryz.func39, Tryz.ntmps39
  go_wp2
  refine bodyPost_ret (v := .tuple #[.agg #[.int .i64 0, .int .i64 0], .int .i64 1]) (by simp [results, Tryz.results39, go_sem]) rfl ⟨rfl, ?_⟩
  exact upd_alloc _ _ _

theorem find_no (b ml mk : Nat) (L : LS) (id : Int) (w : World) (h : IsLs w b ml mk L) (hn : L.l id = none) :
    Calls Tryz.prog 39 #[.pointer (some ⟨b, 0, none⟩), .int .i64 id] w fun e w' => e = .returned (.tuple #[.agg #[.int .i64 0, .int .i64 0], .int .i64 17]) ∧ Upd (fun _ => False) w w' := by
  have hl := (h.grow (upd_alloc _ w (.cells #[.int .i64 0, .int .i64 0] 67))).look id true
  rw [hn] at hl
  simp only [if_true, Option.map_none, Option.getD_none, Option.isSome_none] at hl
  have c2 : w.cell? ⟨b, 2, none⟩ = some (.map (some ml)) := cell_of h.blk 2
  have hb := lt_of_heap h.blk
  clear h hn
  go_enter Tryz.func39, Tryz.ntmps39
  go_wp2
  refine bodyPost_ret (v := .tuple #[.agg #[.int .i64 0, .int .i64 0], .int .i64 17]) (by simp [results, Tryz.results39, go_sem]) rfl ⟨rfl, ?_⟩
  exact (upd_alloc _ _ _).alloc _

theorem find_yes (b ml mk : Nat) (L : LS) (id : Int) (x : Int × Int) (w : World) (h : IsLs w b ml mk L) (hn : L.l id = some x) :
    Calls Tryz.prog 39 #[.pointer (some ⟨b, 0, none⟩), .int .i64 id] w fun e w' => e = .returned (.tuple #[.agg #[.int .i64 x.1, .int .i64 x.2], .int .i64 0]) ∧ Upd (fun _ => False) w w' := by
  have hl := (h.grow (upd_alloc _ w (.cells #[.int .i64 0, .int .i64 0] 67))).look id true
  rw [hn] at hl
  simp only [if_true, Option.map_some, Option.getD_some, Option.isSome_some, heldV] at hl
  have c2 : w.cell? ⟨b, 2, none⟩ = some (.map (some ml)) := cell_of h.blk 2
  have hb := lt_of_heap h.blk
  obtain ⟨x1, x2⟩ := x
  clear h hn
  go_enter Tryz.func39, Tryz.ntmps39
  go_wp2
  refine bodyPost_ret (v := .tuple #[.agg #[.int .i64 x1, .int .i64 x2], .int .i64 0]) (by simp [results, Tryz.results39, go_sem]) rfl ⟨rfl, ?_⟩
  (first | exact upd_alloc _ _ _ | exact (upd_alloc _ _ _).alloc _ | exact ((upd_alloc _ _ _).alloc _).alloc _ | exact (((upd_alloc _ _ _).alloc _).alloc _).alloc _)

/-- The number of a grant's error. -/
def LS.grantE (L : LS) (id ttl : Int) : Int :=
  if id < 0 ∨ topT < id ∨ ttl < 1 ∨ topT < ttl then 1 else if (L.l id).isSome = true then 8 else if 64 ≤ L.n ∨ (id = 0 ∧ L.last = topT) then 15 else 0
def LS.gid (L : LS) (id : Int) : Int := if id = 0 then L.last + 1 else id
def LS.granted (L : LS) (id ttl : Int) : LS :=
  { L with last := max L.last (L.gid id), l := fun k => if k = L.gid id then some (ttl, laterI L.now ttl) else L.l k, n := L.n + 1 }

theorem grant_nil (id ttl : Int) (w : World) : Calls Tryz.prog 12 #[.pointer none, .int .i64 id, .int .i64 ttl] w fun e w' => e = .returned (.tuple #[.agg #[.int .i64 0, .int .i64 0], .int .i64 1]) ∧ Upd (fun _ => False) w w' := by
  go_enter Tryz.func12, Tryz.ntmps12
  go_wp2
  refine bodyPost_ret (v := .tuple #[.agg #[.int .i64 0, .int .i64 0], .int .i64 1]) (by simp [results, Tryz.results12, go_sem]) rfl ⟨rfl, ?_⟩
  exact upd_alloc _ _ _

theorem grant_arg (b : Nat) (id ttl : Int) (w : World) (h : id < 0 ∨ topT < id ∨ ttl < 1 ∨ topT < ttl) :
    Calls Tryz.prog 12 #[.pointer (some ⟨b, 0, none⟩), .int .i64 id, .int .i64 ttl] w fun e w' => e = .returned (.tuple #[.agg #[.int .i64 0, .int .i64 0], .int .i64 1]) ∧ Upd (fun _ => False) w w' := by
  have hc : id < 0 ∨ (0 ≤ id ∧ 4611686018427387904 < id) ∨ (0 ≤ id ∧ id ≤ 4611686018427387904 ∧ ttl < 1) ∨ (0 ≤ id ∧ id ≤ 4611686018427387904 ∧ 1 ≤ ttl ∧ 4611686018427387904 < ttl) := by unfold topT at h; omega
  clear h
  rcases hc with h1 | ⟨h0, h1⟩ | ⟨h0, h1, h2⟩ | ⟨h0, h1, h2, h3⟩
  all_goals
    go_enter Tryz.func12, Tryz.ntmps12
    go_wp2
    refine bodyPost_ret (v := .tuple #[.agg #[.int .i64 0, .int .i64 0], .int .i64 1]) (by simp [results, Tryz.results12, go_sem]) rfl ⟨rfl, ?_⟩
    exact upd_alloc _ _ _

set_option maxRecDepth 100000 in
theorem grant_exist (b ml mk : Nat) (L : LS) (id ttl : Int) (x : Int × Int) (w : World) (h : IsLs w b ml mk L) (h0 : 0 ≤ id) (h1 : id ≤ topT) (h2 : 1 ≤ ttl) (h3 : ttl ≤ topT) (hn : L.l id = some x) :
    Calls Tryz.prog 12 #[.pointer (some ⟨b, 0, none⟩), .int .i64 id, .int .i64 ttl] w fun e w' => e = .returned (.tuple #[.agg #[.int .i64 0, .int .i64 0], .int .i64 8]) ∧ Upd (fun _ => False) w w' := by
  unfold topT at h1 h3
  have hl := (h.grow (upd_alloc _ w (.cells #[.int .i64 0, .int .i64 0] 41))).look id true
  rw [hn] at hl
  simp only [if_true, Option.map_some, Option.getD_some, Option.isSome_some, heldV] at hl
  have c2 : w.cell? ⟨b, 2, none⟩ = some (.map (some ml)) := cell_of h.blk 2
  have hb := lt_of_heap h.blk
  obtain ⟨x1, x2⟩ := x
  clear h hn
  go_enter Tryz.func12, Tryz.ntmps12
  go_wp2
  refine bodyPost_ret (v := .tuple #[.agg #[.int .i64 0, .int .i64 0], .int .i64 8]) (by simp [results, Tryz.results12, go_sem]) rfl ⟨rfl, ?_⟩
  (first | exact upd_alloc _ _ _ | exact (upd_alloc _ _ _).alloc _ | exact ((upd_alloc _ _ _).alloc _).alloc _ | exact (((upd_alloc _ _ _).alloc _).alloc _).alloc _)

set_option maxRecDepth 100000 in
theorem grant_many (b ml mk : Nat) (L : LS) (id ttl : Int) (w : World) (h : IsLs w b ml mk L) (h0 : 0 ≤ id) (h1 : id ≤ topT) (h2 : 1 ≤ ttl) (h3 : ttl ≤ topT) (hn : L.l id = none) (hm : 64 ≤ L.n ∨ (id = 0 ∧ L.last = topT)) :
    Calls Tryz.prog 12 #[.pointer (some ⟨b, 0, none⟩), .int .i64 id, .int .i64 ttl] w fun e w' => e = .returned (.tuple #[.agg #[.int .i64 0, .int .i64 0], .int .i64 15]) ∧ Upd (fun _ => False) w w' := by
  unfold topT at h1 h3
  have hl := (h.grow (upd_alloc _ w (.cells #[.int .i64 0, .int .i64 0] 41))).look id true
  rw [hn] at hl
  simp only [if_true, Option.map_none, Option.getD_none, Option.isSome_none] at hl
  have c2 : w.cell? ⟨b, 2, none⟩ = some (.map (some ml)) := cell_of h.blk 2
  have c1 : w.cell? ⟨b, 1, none⟩ = some (.int .i64 L.last) := cell_of h.blk 1
  have hb := lt_of_heap h.blk
  have hlen := fun W (hu : Upd (fun _ => False) w W) ty => (h.grow hu).lm.len (P := Tryz.prog) Tryz.underlying48 ty
  have hlen1 := hlen _ ((upd_alloc _ w (.cells #[.int .i64 0, .int .i64 0] 41)).alloc (.cells #[.int .i64 0, .int .i64 0] 67))
  clear hlen h hn
  by_cases h64 : 64 ≤ L.n
  · have h64' : (64 : Int) ≤ (L.n : Int) := by omega
    generalize L.n = n at *
    clear hm
    go_enter Tryz.func12, Tryz.ntmps12
    go_wp2
    refine bodyPost_ret (v := .tuple #[.agg #[.int .i64 0, .int .i64 0], .int .i64 15]) (by simp [results, Tryz.results12, go_sem]) rfl ⟨rfl, ?_⟩
    (first | exact upd_alloc _ _ _ | exact (upd_alloc _ _ _).alloc _ | exact ((upd_alloc _ _ _).alloc _).alloc _ | exact (((upd_alloc _ _ _).alloc _).alloc _).alloc _)
  · obtain ⟨rfl, hlast⟩ := hm.resolve_left h64
    rw [show L.last = 4611686018427387904 from hlast] at c1
    have h64' : (L.n : Int) < (64 : Int) := by omega
    generalize L.n = n at *
    clear hm h64 hlast
    go_enter Tryz.func12, Tryz.ntmps12
    go_wp2
    refine bodyPost_ret (v := .tuple #[.agg #[.int .i64 0, .int .i64 0], .int .i64 15]) (by simp [results, Tryz.results12, go_sem]) rfl ⟨rfl, ?_⟩
    (first | exact upd_alloc _ _ _ | exact (upd_alloc _ _ _).alloc _ | exact ((upd_alloc _ _ _).alloc _).alloc _ | exact (((upd_alloc _ _ _).alloc _).alloc _).alloc _)

end Go.Proofs.YtcbngjlgcgcljaaGreat
