/-
  The order of a query.
-/
import Derived.Test.YtpbenicglhccmaaSiftA
namespace Go.Proofs.Ytpbenicglhccmaa
open Go.RowKit Go.Tb Go.MapKept Go.ChangeMaps Go.Lib
set_option linter.unusedVariables false

def orI (n m : Int) : Int := if n = 0 then m else n

set_option maxRecDepth 100000 in
set_option maxHeartbeats 1000000 in
theorem or_calls (b : Nat) (n m : Int) (t : TypeId) (w : World) (h : w.heap[b]? = some (.cells #[.int .i64 n, .int .i64 m] t (0, 0))) :
    Calls Try.prog 27 #[.slice (some ⟨b, 0, none⟩) 2 2] w fun e w' => e = .returned (.int .i64 (orI n m)) ∧ w = w' := by
  have c0 : w.cell? ⟨b, 0, none⟩ = some (.int .i64 n) := cell_of h 0
  have c1 : w.cell? ⟨b, 1, none⟩ = some (.int .i64 m) := cell_of h 1
  clear h
  have hcell : ∀ k : Nat, k < 2 → w.cell? ⟨b, k, none⟩ = some (.int .i64 (if k = 0 then n else m)) := fun k hk => by
    match k, hk with
    | 0, _ => exact c0
    | 1, _ => exact c1
  have Hc := Lib.hid hcell
  clear hcell c0 c1
  go_enter Try.func27, Try.ntmps27
  go_wp2
  go_loopw [8] (fun i wr => ∃ k : Nat, k ≤ 2 ∧ i = .int .i64 k ∧ (0 < k → n = 0) ∧ (1 < k → m = 0) ∧ w = wr) (fun i _ => 2 - (intOf i).toNat)
  case atStart => exact ⟨0, Nat.zero_le _, rfl, fun h => absurd h (by decide), fun h => absurd h (by decide), rfl⟩
  case round =>
    obtain ⟨k, hk, rfl, h0, h1, rfl⟩ := hrel
    have H0 := Lib.hid h0
    have H1 := Lib.hid h1
    clear h0 h1
    by_cases hlt : k < 2
    · have q := Hc.out k hlt
      by_cases hz : (if k = 0 then n else m) = 0
      · rw [hz] at q
        have Hz := Lib.hid hz
        clear hz
        go_wp2
        go_roundw
        case rel => exact ⟨k + 1, by omega, by go_num, fun _ => by
          by_cases e : k = 0
          · have := Hz.out; rwa [if_pos e] at this
          · exact H0.out (by omega), fun hk1 => by have := Hz.out; rwa [if_neg (by omega)] at this, by trivial⟩
        case measure => simp [intOf]; omega
      · have Hz := Lib.hid hz
        have He := Lib.hid (show orI n m = if k = 0 then n else m by
          unfold orI
          by_cases e : k = 0
          · rw [if_pos e] at hz ⊢; rw [if_neg hz]
          · rw [if_neg e, if_pos (H0.out (by omega))])
        generalize (if k = 0 then n else m) = z at *
        go_wp2
        go_ret
        exact ⟨by rw [He.out]; rfl, rfl⟩
    · have He := Lib.hid (show orI n m = 0 by unfold orI; rw [if_pos (H0.out (by omega)), H1.out (by omega)])
      go_wp2
      go_ret
      exact ⟨by rw [He.out]; rfl, rfl⟩

/-- How two records stand, by a sort. -/
def cmpQ (sort : Int) (a b : KV) : Int :=
  orI (if sort = 1 then compareInt a.version b.version else if sort = 2 then compareInt a.create b.create else if sort = 3 then compareInt a.mod b.mod else if sort = 4 then compareBytes a.val b.val else 0) (compareBytes a.key b.key)

theorem drawn_alloc (w : World) (o : Obj) : (w.alloc o).drawn = w.drawn := rfl

set_option maxRecDepth 100000 in
set_option maxHeartbeats 2000000 in
theorem cmpq_calls (sort : Int) (p q : KvP) (I J : Nat → Prop) (w : World) (hp : p.Ok w I) (hq : q.Ok w J) :
    Calls Try.prog 19 #[.int .i64 sort, .agg (kvenc p).toArray, .agg (kvenc q).toArray] w fun e w' => e = .returned (.int .i64 (cmpQ sort p.x q.x)) ∧ Upd (fun _ => False) w w' ∧ w'.drawn = w.drawn := by
  obtain ⟨⟨k1, v1, r1, m1, n1, l1⟩, s1, s2⟩ := p
  obtain ⟨⟨k2, v2, r2, m2, n2, l2⟩, s3, s4⟩ := q
  show Calls Try.prog 19 #[.int .i64 sort, .agg #[s1.v, s2.v, .int .i64 r1, .int .i64 m1, .int .i64 n1, .int .i64 l1], .agg #[s3.v, s4.v, .int .i64 r2, .int .i64 m2, .int .i64 n2, .int .i64 l2]] w fun e w' => e = .returned (.int .i64 (orI (if sort = 1 then compareInt n1 n2 else if sort = 2 then compareInt r1 r2 else if sort = 3 then compareInt m1 m2 else if sort = 4 then compareBytes v1 v2 else 0) (compareBytes k1 k2))) ∧ Upd (fun _ => False) w w' ∧ w'.drawn = w.drawn
  have h1 := fun (W : World) (hu : Upd (fun _ => False) w W) => bcompare_calls W s1.v s3.v k1 k2 (hp.k.upd hu (fun _ _ x => x)) (hq.k.upd hu (fun _ _ x => x))
  have h2 := fun (W : World) (hu : Upd (fun _ => False) w W) => bcompare_calls W s2.v s4.v v1 v2 (hp.v.upd hu (fun _ _ x => x)) (hq.v.upd hu (fun _ _ x => x))
  clear hp hq
  generalize s1.v = a1 at *
  generalize s2.v = a2 at *
  generalize s3.v = a3 at *
  generalize s4.v = a4 at *
  have hu := (upd_alloc (fun _ => False) w (.cells #[a1, a2, .int .i64 r1, .int .i64 m1, .int .i64 n1, .int .i64 l1] 37)).alloc (.cells #[a3, a4, .int .i64 r2, .int .i64 m2, .int .i64 n2, .int .i64 l2] 37)
  have hk := h1 _ hu
  have hv := h2 _ hu
  have hor := fun (n : Int) => or_calls _ n (compareBytes k1 k2) 3 _ (heap_alloc ((w.alloc (.cells #[a1, a2, .int .i64 r1, .int .i64 m1, .int .i64 n1, .int .i64 l1] 37)).alloc (.cells #[a3, a4, .int .i64 r2, .int .i64 m2, .int .i64 n2, .int .i64 l2] 37)) (.cells #[.int .i64 n, .int .i64 (compareBytes k1 k2)] 3)).1
  have hsz : ((w.alloc (.cells #[a1, a2, .int .i64 r1, .int .i64 m1, .int .i64 n1, .int .i64 l1] 37)).alloc (.cells #[a3, a4, .int .i64 r2, .int .i64 m2, .int .i64 n2, .int .i64 l2] 37)).heap.size = w.heap.size + 2 := by simp
  rw [hsz] at hor
  have Hor := Lib.hid hor
  have Hfin := Lib.hid (fun o => (show Upd (fun _ => False) w (((w.alloc (.cells #[a1, a2, .int .i64 r1, .int .i64 m1, .int .i64 n1, .int .i64 l1] 37)).alloc (.cells #[a3, a4, .int .i64 r2, .int .i64 m2, .int .i64 n2, .int .i64 l2] 37)).alloc o) from hu.alloc o))
  generalize compareBytes k1 k2 = kk at *
  generalize compareBytes v1 v2 = vv at *
  clear h1 h2 hu hsz hor
  by_cases e1 : sort = 1
  · subst e1
    rw [if_pos rfl]
    have hor := Hor.out (compareInt n1 n2)
    clear hv
    go_enter Try.func19, Try.ntmps19
    go_wp2_with (first | (go_at_call 25; (with_reducible refine (compare_calls _ _ _).mono ?_); rintro e w' ⟨rfl, rfl⟩) | (go_at_call 26; (with_reducible refine hk.mono ?_); rintro e w' ⟨rfl, rfl⟩) | (go_at_call 27; (with_reducible refine hor.mono ?_); rintro e w' ⟨rfl, rfl⟩))
    go_ret
    exact ⟨rfl, Hfin.out _, rfl⟩
  · by_cases e2 : sort = 2
    · subst e2
      rw [if_neg e1, if_pos rfl]
      have hor := Hor.out (compareInt r1 r2)
      clear hv e1
      go_enter Try.func19, Try.ntmps19
      go_wp2_with (first | (go_at_call 25; (with_reducible refine (compare_calls _ _ _).mono ?_); rintro e w' ⟨rfl, rfl⟩) | (go_at_call 26; (with_reducible refine hk.mono ?_); rintro e w' ⟨rfl, rfl⟩) | (go_at_call 27; (with_reducible refine hor.mono ?_); rintro e w' ⟨rfl, rfl⟩))
      go_ret
      exact ⟨rfl, Hfin.out _, rfl⟩
    · by_cases e3 : sort = 3
      · subst e3
        rw [if_neg e1, if_neg e2, if_pos rfl]
        have hor := Hor.out (compareInt m1 m2)
        clear hv e1 e2
        go_enter Try.func19, Try.ntmps19
        go_wp2_with (first | (go_at_call 25; (with_reducible refine (compare_calls _ _ _).mono ?_); rintro e w' ⟨rfl, rfl⟩) | (go_at_call 26; (with_reducible refine hk.mono ?_); rintro e w' ⟨rfl, rfl⟩) | (go_at_call 27; (with_reducible refine hor.mono ?_); rintro e w' ⟨rfl, rfl⟩))
        go_ret
        exact ⟨rfl, Hfin.out _, rfl⟩
      · by_cases e4 : sort = 4
        · subst e4
          rw [if_neg e1, if_neg e2, if_neg e3, if_pos rfl]
          have hor := Hor.out vv
          clear e1 e2 e3
          go_enter Try.func19, Try.ntmps19
          go_wp2_with (first | (go_at_call 25; (with_reducible refine (compare_calls _ _ _).mono ?_); rintro e w' ⟨rfl, rfl⟩) | (go_at_call 26; (with_reducible refine hk.mono ?_); rintro e w' ⟨rfl, rfl⟩) | (go_at_call 27; (with_reducible refine hor.mono ?_); rintro e w' ⟨rfl, rfl⟩) | (go_at_call 26; (with_reducible refine hv.mono ?_); rintro e w' ⟨rfl, rfl⟩))
          go_ret
          exact ⟨rfl, Hfin.out _, rfl⟩
        · rw [if_neg e1, if_neg e2, if_neg e3, if_neg e4]
          have hor := Hor.out 0
          have z1 : (sort == 1) = false := by simpa using e1
          have z2 : (sort == 2) = false := by simpa using e2
          have z3 : (sort == 3) = false := by simpa using e3
          have z4 : (sort == 4) = false := by simpa using e4
          clear hv e1 e2 e3 e4
          go_enter Try.func19, Try.ntmps19
          go_wp2_with (first | (go_at_call 25; (with_reducible refine (compare_calls _ _ _).mono ?_); rintro e w' ⟨rfl, rfl⟩) | (go_at_call 26; (with_reducible refine hk.mono ?_); rintro e w' ⟨rfl, rfl⟩) | (go_at_call 27; (with_reducible refine hor.mono ?_); rintro e w' ⟨rfl, rfl⟩))
          go_ret
          exact ⟨rfl, Hfin.out _, rfl⟩

end Go.Proofs.Ytpbenicglhccmaa
