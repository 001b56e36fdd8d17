/-
  lives, do.
-/
import Derived.Test.YteokbokgiejmpaaDiskF
namespace Go.Proofs.Yteokbokgiejmpaa
open Go.RowKit Go.Tb Go.MapKept Go.ChangeMaps
set_option linter.unusedVariables false

/-- A method was called on a disk: it is `D` now; of what was there only its own blocks have turned. -/
def DiskStep (w w' : World) (b mp mc : Nat) (D : DS) (I : Nat → Prop) : Prop :=
  (∃ J : Nat → Prop, IsDisk w' b mp mc D J ∧ ∀ x, J x → I x ∨ w.heap.size ≤ x) ∧ Upd (fun k => k = b ∨ k = mp ∨ k = mc) w w'

theorem write_step (b mp mc : Nat) (D : DS) (I : Nat → Prop) (page : Int) (v : Value) (l : List UInt8) (w : World) (h : IsDisk w b mp mc D I) (hv : Bytes w v l) (hl : l.length = 256) :
    Calls Try.prog 12 #[.pointer (some ⟨b, 0, none⟩), .int .i64 page, v] w fun e w' => e = .returned (.int .i64 (D.check page)) ∧ DiskStep w w' b mp mc (if D.check page = 0 then D.write page l else D) I := by
  by_cases hc : D.check page = 0
  · refine (write_ok b mp mc D I page v l w h hv hl hc).mono ?_
    rintro e w' ⟨rfl, hJ, hu⟩
    rw [if_pos hc, hc]
    exact ⟨rfl, hJ, hu.mono (fun _ _ h => h.elim .inl (fun h => .inr (.inr h)))⟩
  · refine (write_no b mp mc D I page v w h hc).mono ?_
    rintro e w' ⟨rfl, rfl⟩
    rw [if_neg hc]
    exact ⟨rfl, ⟨I, h, fun _ => .inl⟩, Upd.refl _ _⟩

/-- The number of the error of a sync. -/
def DS.syncE (D : DS) : Int := if D.dead = true then 10 else 0
def DS.synced (D : DS) : DS := if D.dead = true then D else D.sync

theorem sync_step (b mp mc : Nat) (D : DS) (I : Nat → Prop) (w : World) (h : IsDisk w b mp mc D I) :
    Calls Try.prog 14 #[.pointer (some ⟨b, 0, none⟩)] w fun e w' => e = .returned (.int .i64 D.syncE) ∧ DiskStep w w' b mp mc D.synced I := by
  by_cases hc : D.dead = true
  · refine (sync_dead b mp mc D I w h hc).mono ?_
    rintro e w' ⟨rfl, rfl⟩
    rw [DS.syncE, DS.synced, if_pos hc, if_pos hc]
    exact ⟨rfl, ⟨I, h, fun _ => .inl⟩, Upd.refl _ _⟩
  · refine (sync_ok b mp mc D I w h (by simpa using hc)).mono ?_
    rintro e w' ⟨rfl, hd, hu⟩
    rw [DS.syncE, DS.synced, if_neg hc, if_neg hc]
    exact ⟨rfl, ⟨I, hd, fun _ => .inl⟩, hu⟩

theorem fuse_step (b mp mc : Nat) (D : DS) (I : Nat → Prop) (n : Int) (w : World) (h : IsDisk w b mp mc D I) (hn : n ≤ 9223372036854775807) :
    Calls Try.prog 19 #[.pointer (some ⟨b, 0, none⟩), .int .i64 n] w fun e w' => e = .returned (.tuple #[]) ∧ DiskStep w w' b mp mc (D.setFuse n) I := by
  refine (fuse_calls b mp mc D I n w h hn).mono ?_
  rintro e w' ⟨rfl, hd, hu⟩
  exact ⟨rfl, ⟨I, hd, fun _ => .inl⟩, hu.mono (fun _ _ => .inl)⟩

theorem crash_step (b mp mc : Nat) (D : DS) (I : Nat → Prop) (ks : List (Int × Int)) (v : Value) (w : World) (h : IsDisk w b mp mc D I) (hkl : ks.length < 1000) (hk : KeepAt w v ks) :
    Calls Try.prog 16 #[.pointer (some ⟨b, 0, none⟩), v] w fun e w' => e = .returned (.tuple #[]) ∧ DiskStep w w' b mp mc (D.crash ks) I := by
  refine (crash_calls b mp mc D I ks v w h hkl hk).mono ?_
  rintro e w' ⟨rfl, hJ, hu⟩
  exact ⟨rfl, hJ, hu⟩

theorem fill_bytes {w w' : World} {v : Value} {x : UInt8} (h : w'.ownsRow w.heap.size 5 1 v 256 ((fill x).map u8v)) : Bytes w' v (fill x) ∧ ∀ b, sliceBlock v = some b → w.heap.size ≤ b :=
  bytes_of_own (by rw [fill_length]; exact h)

set_option maxRecDepth 100000 in
set_option maxHeartbeats 400000 in
theorem lives_calls (w : World) : Calls Try.prog 11 #[] w fun e w' => e = .returned (.bool true) ∧ Upd (fun _ => False) w w' := by
  have hnew := new_ok 8 w (by decide) (by decide)
  have hdone : ((DS.start 8).write 3 (fill 1)).done = 1 := by show wrap64 (0 + 1) = 1; unfold wrap64; omega
  have hread : ((DS.start 8).write 3 (fill 1)).read 3 = fill 1 := by simp [DS.read, DS.write, DS.burn]
  have hck : ((DS.start 8).write 3 (fill 1)).check 3 = 0 := rfl
  go_enter Try.func11, Try.ntmps11
  go_wp2_with (first
    | (go_at_call 10; refine hnew.mono ?_; rintro e w1 ⟨b, mp, mc, rfl, hd1, hlb, hlp, hlc, hu1⟩)
    | (go_at_call 13; refine (filled_calls 1 w1).mono ?_; rintro e w2 ⟨v2, rfl, ho2, hu2⟩)
    | (go_at_call 12; refine (write_ok b mp mc (DS.start 8) (fun _ => False) 3 v2 (fill 1) w2 (hd1.upd hu2 (fun x => x) (fun x => x) (fun x => x) (fun _ _ x => x)) (fill_bytes ho2).1 (fill_length 1) rfl).mono ?_; rintro e w3 ⟨rfl, ⟨J3, hd3, hJ3⟩, hu3⟩)
    | (go_at_call 17; refine (read_ok b mp mc _ J3 3 w3 hd3 hck).mono ?_; rintro e w4 ⟨v4, rfl, hv4, hf4, hu4⟩; rw [hread] at hv4)
    | (go_at_call 13; refine (filled_calls 1 w4).mono ?_; rintro e w5 ⟨v5, rfl, ho5, hu5⟩)
    | (go_at_call 18; refine (same_calls v4 v5 _ _ w5 (hv4.upd hu5 (fun _ _ x => x)) (fill_bytes ho5).1).mono ?_; rintro e w6 ⟨rfl, rfl⟩; rw [beq_self_eq_true])
    | (go_at_call 20; refine (done_calls b mp mc _ J3 w5 ((hd3.upd hu4 (fun x => x) (fun x => x) (fun x => x) (fun _ _ x => x)).upd hu5 (fun x => x) (fun x => x) (fun x => x) (fun _ _ x => x))).mono ?_; rintro e w7 ⟨rfl, rfl⟩; rw [hdone]))
  go_ret
  exact ⟨rfl, ((((hu1.trans hu2).seq hu3 _ (fun _ _ x => x) (fun x hx e => by omega)).trans hu4).trans hu5)⟩

/-- What an act makes of a disk. -/
def DS.act (D : DS) (kind page n : Int) (x : UInt8) : DS :=
  if kind = 0 then (if D.check page = 0 then D.write page (fill x) else D)
  else if kind = 2 then D.synced
  else if kind = 3 then D.setFuse n
  else if kind = 4 then D.crash [(page, n)]
  else D

set_option maxRecDepth 100000 in
set_option maxHeartbeats 400000 in
theorem do_calls (b mp mc : Nat) (D : DS) (I : Nat → Prop) (kind page n : Int) (x : UInt8) (w : World) (h : IsDisk w b mp mc D I) (hn : n ≤ 9223372036854775807) :
    Calls Try.prog 15 #[.pointer (some ⟨b, 0, none⟩), .agg #[.int .i64 kind, .int .i64 page, .int .i64 n, .int .u8 (x.toNat : Int)]] w fun e w' => e = .returned (.tuple #[]) ∧ DiskStep w w' b mp mc (D.act kind page n x) I := by
  have hd1 : IsDisk (w.alloc (.cells #[.int .i64 kind, .int .i64 page, .int .i64 n, .int .u8 (x.toNat : Int)] 33)) b mp mc D I := h.upd (upd_alloc (fun _ => False) _ _) (fun x => x) (fun x => x) (fun x => x) (fun _ _ x => x)
  have hbw : b < w.heap.size := lt_of_heap h.blk
  have hpw : mp < w.heap.size := h.pg.lt
  have hcw : mc < w.heap.size := h.ch.lt
  generalize hw1 : w.alloc (.cells #[.int .i64 kind, .int .i64 page, .int .i64 n, .int .u8 (x.toNat : Int)] 33) = wa at *
  have hbox : wa.heap[w.heap.size]? = some (.cells #[.int .i64 kind, .int .i64 page, .int .i64 n, .int .u8 (x.toNat : Int)] 33 (0, 0)) := by rw [← hw1]; exact (MapKept.heap_alloc w _).1
  have hua : Upd (fun _ => False) w wa := by rw [← hw1]; exact upd_alloc _ _ _
  have c0 : wa.cell? ⟨w.heap.size, 0, none⟩ = some (.int .i64 kind) := cell_of hbox 0
  have c1 : wa.cell? ⟨w.heap.size, 1, none⟩ = some (.int .i64 page) := cell_of hbox 1
  have c2 : wa.cell? ⟨w.heap.size, 2, none⟩ = some (.int .i64 n) := cell_of hbox 2
  have c3 : wa.cell? ⟨w.heap.size, 3, none⟩ = some (.int .u8 (x.toNat : Int)) := cell_of hbox 3
  have fin : ∀ w', (∃ D', D' = D.act kind page n x ∧ DiskStep wa w' b mp mc D' I) → DiskStep w w' b mp mc (D.act kind page n x) I := by
    rintro w' ⟨D', rfl, ⟨J, hd, hJ⟩, hu⟩
    exact ⟨⟨J, hd, fun x hx => (hJ x hx).imp id (Nat.le_trans hua.size)⟩, hua.seq hu _ (fun _ _ h => h.elim) (fun _ _ h => h)⟩
  have Hbox := Lib.hid hbox; clear hbox
  by_cases k0 : kind = 0
  · subst k0
    go_enter Try.func15, Try.ntmps15
    go_wp2_with fail
    go_region_held3 (fun w' => w'.cell? ⟨w.heap.size, 1, none⟩ = some (.int .i64 page) ∧ w'.cell? ⟨w.heap.size, 3, none⟩ = some (.int .u8 (x.toNat : Int))) (first | exact ⟨c1, c3⟩ | exact ⟨hu1.cell c1 (fun x => x), hu1.cell c3 (fun x => x)⟩ | exact ⟨hu2.cell (hu1.cell c1 (fun x => x)) (by simp; omega), hu2.cell (hu1.cell c3 (fun x => x)) (by simp; omega)⟩)
      (first | (go_at_call 13; refine (filled_calls x wa.drew).mono ?_; rintro e w1 ⟨v1, rfl, ho1, hu1⟩)
             | (go_at_call 12; refine (write_step b mp mc D I page v1 (fill x) w1 (hd1.upd hu1.undrew (fun x => x) (fun x => x) (fun x => x) (fun _ _ x => x)) (fill_bytes ho1).1 (fill_length x)).mono ?_; rintro e w2 ⟨rfl, hJ2, hu2⟩))
    go_wp2
    go_end0
    exact ⟨rfl, fin _ ⟨_, by simp [DS.act], hJ2.imp fun J hJ => ⟨hJ.1, fun y hy => (hJ.2 y hy).imp id (Nat.le_trans hu1.size)⟩, hu1.undrew.seq hu2 _ (fun _ _ h => h.elim) (fun _ _ h => h)⟩⟩
  · by_cases k2 : kind = 2
    · subst k2
      go_enter Try.func15, Try.ntmps15
      go_wp2_with (go_at_call 14; refine (sync_step b mp mc D I wa hd1).mono ?_; rintro e w2 ⟨rfl, hJ2⟩)
      go_end0
      exact ⟨rfl, fin _ ⟨_, by simp [DS.act], hJ2⟩⟩
    · by_cases k3 : kind = 3
      · subst k3
        go_enter Try.func15, Try.ntmps15
        go_wp2_with (go_at_call 19; refine (fuse_step b mp mc D I n wa hd1 hn).mono ?_; rintro e w2 ⟨rfl, hJ2⟩)
        go_end0
        exact ⟨rfl, fin _ ⟨_, by simp [DS.act], hJ2⟩⟩
      · by_cases k4 : kind = 4
        · subst k4
          go_enter Try.func15, Try.ntmps15
          have hkeep : KeepAt (wa.alloc (Obj.cells #[Value.int .i64 page, Value.int .i64 n] 50)) (.slice (some ⟨wa.heap.size, 0, none⟩) 1 1) [(page, n)] := by
            refine .inr ⟨wa.heap.size, 0, 1, rfl, by simp, fun i hi => ?_⟩
            obtain rfl : i = 0 := by simpa using hi
            exact ⟨cell_of (MapKept.heap_alloc wa _).1 0, cell_of (MapKept.heap_alloc wa _).1 1⟩
          have hub : Upd (fun _ => False) wa (wa.alloc (Obj.cells #[Value.int .i64 page, Value.int .i64 n] 50)) := upd_alloc _ _ _
          have hcr := crash_step b mp mc D I [(page, n)] _ _ (hd1.upd hub (fun x => x) (fun x => x) (fun x => x) (fun _ _ x => x)) (by simp) hkeep
          go_wp2_with (go_at_call 16; refine hcr.mono ?_; rintro e w2 ⟨rfl, hJ2⟩)
          go_end0
          exact ⟨rfl, fin _ ⟨_, by simp [DS.act], hJ2.1.imp fun J hJ => ⟨hJ.1, fun y hy => (hJ.2 y hy).imp id (Nat.le_trans hub.size)⟩, hub.seq hJ2.2 _ (fun _ _ h => h.elim) (fun _ _ h => h)⟩⟩
        · have e0 : (kind == 0) = false := by simpa using k0
          have e2 : (kind == 2) = false := by simpa using k2
          have e3 : (kind == 3) = false := by simpa using k3
          have e4 : (kind == 4) = false := by simpa using k4
          go_enter Try.func15, Try.ntmps15
          go_wp2
          go_end0
          exact ⟨rfl, fin _ ⟨_, by simp [DS.act, k0, k2, k3, k4], ⟨I, hd1, fun _ => .inl⟩, Upd.refl _ _⟩⟩

end Go.Proofs.Yteokbokgiejmpaa
