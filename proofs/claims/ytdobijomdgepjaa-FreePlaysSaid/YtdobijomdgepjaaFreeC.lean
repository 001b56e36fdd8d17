/-
  The list of spare and held pages: what its struct holds, and the contracts of its methods.
-/
import Derived.Test.YtdobijomdgepjaaFreeB
namespace Go.Proofs.Ytdobijomdgepjaa
open Go.RowKit Go.Tb Go.MapKept Go.ChangeMaps Go.Lib
set_option linter.unusedVariables false

/-- Numbers that rise, one more among them. -/
def insl (x : Int) (l : List Int) : List Int := l.take (l.countP (· < x)) ++ x :: l.drop (l.countP (· < x))

theorem countP_le_length' (l : List Int) (x : Int) : l.countP (· < x) ≤ l.length := List.countP_le_length

theorem insl_perm (x : Int) (l : List Int) : (insl x l).Perm (x :: l) := by
  unfold insl
  refine List.perm_middle.trans ?_
  rw [List.take_append_drop]
theorem mem_insl {x y : Int} {l : List Int} : y ∈ insl x l ↔ y = x ∨ y ∈ l := by
  rw [(insl_perm x l).mem_iff, List.mem_cons]
theorem insl_length (x : Int) (l : List Int) : (insl x l).length = l.length + 1 := by
  rw [(insl_perm x l).length_eq, List.length_cons]
theorem insl_cons (x a : Int) (l : List Int) (h : (a :: l).Pairwise (· < ·)) (hx : x ∉ a :: l) : insl x (a :: l) = if a < x then a :: insl x l else x :: a :: l := by
  obtain ⟨h1, h2⟩ := List.pairwise_cons.1 h
  unfold insl
  by_cases hax : a < x
  · rw [if_pos hax, List.countP_cons_of_pos (by simpa using hax), List.take_succ_cons, List.drop_succ_cons, List.cons_append]
  · rw [if_neg hax, List.countP_cons_of_neg (by simpa using hax)]
    have hz : l.countP (· < x) = 0 := by
      rw [List.countP_eq_zero]
      intro y hy
      have := h1 y hy
      simp; omega
    rw [hz]; rfl
theorem insl_sorted {x : Int} {l : List Int} (h : l.Pairwise (· < ·)) (hx : x ∉ l) : (insl x l).Pairwise (· < ·) := by
  induction l with
  | nil => simp [insl]
  | cons a r ih =>
    rw [insl_cons x a r h hx]
    obtain ⟨h1, h2⟩ := List.pairwise_cons.1 h
    simp only [List.mem_cons, not_or] at hx
    split
    · rename_i hax
      refine List.pairwise_cons.2 ⟨fun y hy => ?_, ih h2 hx.2⟩
      rcases mem_insl.1 hy with rfl | hy
      · exact hax
      · exact h1 y hy
    · rename_i hax
      refine List.pairwise_cons.2 ⟨fun y hy => ?_, h⟩
      rcases List.mem_cons.1 hy with rfl | hy
      · omega
      · have := h1 y hy; omega

theorem sorted_length {l : List Int} {lo hi : Int} (h : l.Pairwise (· < ·)) (hb : ∀ x ∈ l, lo ≤ x ∧ x < hi) (hle : lo ≤ hi) : (l.length : Int) ≤ hi - lo := by
  induction l generalizing lo with
  | nil => simp; omega
  | cons a r ih =>
    obtain ⟨h1, h2⟩ := List.pairwise_cons.1 h
    have ha := hb a (.head _)
    have := ih (lo := a + 1) h2 (fun x hx => by have := h1 x hx; have := hb x (.tail _ hx); omega) (by omega)
    simp; omega

structure LS where
  size : Int
  spare : List Int
  held : List Int

/-- What is true of each list. -/
structure LS.Ok (L : LS) : Prop where
  s1 : 8 ≤ L.size
  s2 : L.size ≤ 1024
  ss : L.spare.Pairwise (· < ·)
  sh : L.held.Pairwise (· < ·)
  rs : ∀ x ∈ L.spare, 2 ≤ x ∧ x < L.size
  rh : ∀ x ∈ L.held, 2 ≤ x ∧ x < L.size
theorem LS.Ok.ls {L : LS} (h : L.Ok) : L.spare.length ≤ 1022 := by
  have := sorted_length h.ss h.rs (by have := h.s1; omega); have := h.s2; omega
theorem LS.Ok.lh {L : LS} (h : L.Ok) : L.held.length ≤ 1022 := by
  have := sorted_length h.sh h.rh (by have := h.s1; omega); have := h.s2; omega

structure IsList (w : World) (b : Nat) (vs vh : Value) (L : LS) (I : Nat → Prop) : Prop where
  blk : w.heap[b]? = some (.cells #[.int .i64 L.size, vs, vh] 53 (0, 0))
  sp : Sl ienc w vs L.spare
  hd : Sl ienc w vh L.held
  is : ∀ k, sliceBlock vs = some k → I k
  ih : ∀ k, sliceBlock vh = some k → I k
  bd : ∀ k, I k → k < w.heap.size
  nb : ¬ I b
  ok : L.Ok

theorem IsList.upd {w w' : World} {b : Nat} {vs vh : Value} {L : LS} {I S : Nat → Prop} (h : IsList w b vs vh L I) (hu : Upd S w w') (hb : ¬ S b) (hi : ∀ k, I k → ¬ S k) : IsList w' b vs vh L I :=
  { h with blk := hu.heap h.blk hb, sp := h.sp.upd hu (fun k hk => hi k (h.is k hk)), hd := h.hd.upd hu (fun k hk => hi k (h.ih k hk)), bd := fun k hk => Nat.lt_of_lt_of_le (h.bd k hk) hu.size }
theorem IsList.grow {w w' : World} {b : Nat} {vs vh : Value} {L : LS} {I : Nat → Prop} (h : IsList w b vs vh L I) (hu : Upd (fun _ => False) w w') : IsList w' b vs vh L I := h.upd hu (fun x => x) (fun _ _ x => x)

/-- The error of a page that is to be spare or held. -/
def LS.check (L : LS) (id : Int) : Int := if 2 ≤ id ∧ id < L.size then (if id ∈ L.spare ∨ id ∈ L.held then 8 else 0) else 2

theorem in_calls (b : Nat) (c1 c2 : Value) (size id : Int) (w : World) (hb : w.heap[b]? = some (.cells #[.int .i64 size, c1, c2] 53 (0, 0))) :
    Calls Try.prog 25 #[.pointer (some ⟨b, 0, none⟩), .int .i64 id] w fun e w' => e = .returned (.bool (decide (2 ≤ id ∧ id < size))) ∧ w' = w := by
  have h0 : w.cell? ⟨b, 0, none⟩ = some (.int .i64 size) := cell_of hb 0
  by_cases h1 : 2 ≤ id
  · go_enter Try.func25, Try.ntmps25
    go_wp2
    go_ret
    exact ⟨by simp [h1], rfl⟩
  · go_enter Try.func25, Try.ntmps25
    go_wp2
    go_ret
    exact ⟨by simp; omega, rfl⟩

theorem has_calls (v : Value) (l : List Int) (x : Int) (w : World) (h : Sl ienc w v l) (hs : l.Pairwise (· < ·)) (hbig : l.length ≤ 1022) :
    Calls Try.prog 30 #[v, .int .i64 x] w fun e w' => e = .returned (.bool (decide (x ∈ l))) ∧ w' = w := by
  have hc := search_calls v l x w h hs (by omega)
  go_enter Try.func30, Try.ntmps30
  go_wp2_with (go_at_call 31; refine hc.mono ?_; rintro e w' ⟨rfl, rfl⟩)
  go_ret
  exact ⟨by simp, rfl⟩

set_option maxHeartbeats 1000000 in
theorem with_calls (v : Value) (l : List Int) (x : Int) (w : World) (h : Sl ienc w v l) (hs : l.Pairwise (· < ·)) (hbig : l.length ≤ 1022) :
    Calls Try.prog 27 #[v, .int .i64 x] w fun e w' => ∃ v', e = .returned v' ∧ Sl ienc w' v' (insl x l) ∧ (∀ b, sliceBlock v' = some b → w.heap.size ≤ b) ∧ Upd (fun _ => False) w w' := by
  have hc := search_calls v l x w h hs (by omega)
  have hcl := clone_calls v l w h (by omega)
  have Hlen := Lib.hid hbig; clear hbig hs h
  have Hi := Lib.hid (countP_le_length' l x)
  generalize hk : l.countP (· < x) = k at hc Hi
  have Hk := Lib.hid hk; clear hk
  go_enter Try.func27, Try.ntmps27
  go_wp2_with (first
    | (go_at_call 31; refine hc.mono ?_; rintro e w' ⟨rfl, rfl⟩)
    | (go_at_call 28; refine hcl.mono ?_; rintro e w1 ⟨v1, rfl, ho1, hu1⟩)
    | (go_at_call 32; refine (insert_calls w'.heap.size v1 w1.heap.size k l x (w1.alloc (.cells #[.int .i64 x] 3)) Hi.out (own_grow ho1 (upd_alloc _ _ _)) (Nat.le_trans hu1.size (upd_alloc (fun _ => False) _ _).size) (by have := Hlen.out; omega) (heap_alloc w1 _).1 (fun e => by have := (ho1.lt _ e).2; omega)).mono ?_; rintro e w2 ⟨v2, rfl, hs2, hb2, hu2⟩))
  go_ret
  refine ⟨_, rfl, ?_, hb2, ?_⟩
  · unfold insl; rw [Hk.out]; exact hs2
  · exact (hu1.alloc _).trans' hu2 (fun y hy e => by omega)

theorem check_nil (id : Int) (w : World) : Calls Try.prog 26 #[.pointer none, .int .i64 id] w fun e w' => e = .returned (.int .i64 1) ∧ w' = w := by
  go_enter Try.func26, Try.ntmps26
  go_wp2
  go_ret
  exact ⟨rfl, rfl⟩

set_option maxHeartbeats 1000000 in
theorem check_calls (b : Nat) (vs vh : Value) (L : LS) (I : Nat → Prop) (id : Int) (w : World) (h : IsList w b vs vh L I) :
    Calls Try.prog 26 #[.pointer (some ⟨b, 0, none⟩), .int .i64 id] w fun e w' => e = .returned (.int .i64 (L.check id)) ∧ w' = w := by
  have hin := in_calls b vs vh L.size id w h.blk
  have h1 := has_calls vs L.spare id w h.sp h.ok.ss h.ok.ls
  have h2 := has_calls vh L.held id w h.hd h.ok.sh h.ok.lh
  have c1 : w.cell? ⟨b, 1, none⟩ = some vs := cell_of h.blk 1
  have c2 : w.cell? ⟨b, 2, none⟩ = some vh := cell_of h.blk 2
  clear h
  unfold LS.check
  by_cases hi : 2 ≤ id ∧ id < L.size
  · rw [if_pos hi]
    have Hi := Lib.hid hi
    have hd : decide (2 ≤ id ∧ id < L.size) = true := decide_eq_true hi
    rw [hd] at hin
    clear hi hd
    by_cases hs : id ∈ L.spare
    · rw [decide_eq_true hs] at h1
      rw [if_pos (.inl hs)]
      clear hs h2
      go_enter Try.func26, Try.ntmps26
      go_wp2_with (first | (go_at_call 25; refine hin.mono ?_; rintro e w' ⟨rfl, rfl⟩) | (go_at_call 30; refine h1.mono ?_; rintro e w' ⟨rfl, rfl⟩))
      go_ret
      exact ⟨rfl, rfl⟩
    · rw [decide_eq_false hs] at h1
      by_cases hh : id ∈ L.held
      · rw [decide_eq_true hh] at h2
        rw [if_pos (.inr hh)]
        clear hs hh
        go_enter Try.func26, Try.ntmps26
        go_wp2_with (first | (go_at_call 25; refine hin.mono ?_; rintro e w' ⟨rfl, rfl⟩) | (go_at_call 30; with_reducible refine h1.mono ?_; rintro e w' ⟨rfl, rfl⟩) | (go_at_call 30; with_reducible refine h2.mono ?_; rintro e w' ⟨rfl, rfl⟩))
        go_ret
        exact ⟨rfl, rfl⟩
      · rw [decide_eq_false hh] at h2
        rw [if_neg (fun h => h.elim hs hh)]
        clear hs hh
        go_enter Try.func26, Try.ntmps26
        go_wp2_with (first | (go_at_call 25; refine hin.mono ?_; rintro e w' ⟨rfl, rfl⟩) | (go_at_call 30; with_reducible refine h1.mono ?_; rintro e w' ⟨rfl, rfl⟩) | (go_at_call 30; with_reducible refine h2.mono ?_; rintro e w' ⟨rfl, rfl⟩))
        go_ret
        exact ⟨rfl, rfl⟩
  · rw [if_neg hi]
    have hd : decide (2 ≤ id ∧ id < L.size) = false := decide_eq_false hi
    rw [hd] at hin
    clear hi hd h1 h2
    go_enter Try.func26, Try.ntmps26
    go_wp2_with (go_at_call 25; refine hin.mono ?_; rintro e w' ⟨rfl, rfl⟩)
    go_ret
    exact ⟨rfl, rfl⟩

end Go.Proofs.Ytdobijomdgepjaa
