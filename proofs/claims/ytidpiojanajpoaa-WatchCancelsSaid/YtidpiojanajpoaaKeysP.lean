/-
  The keys of a map of numbers, as the library's contracts want them (no program in sight).
-/
import Derived.Test.YtidpiojanajpoaaBase
import Derived.Shelf.SlIterI.Nil
namespace Go.Tb
open Go.RowKit Go.MapKept Go.WideElems
set_option linter.unusedVariables false

theorem intKeys_perm (l : List (Lit × DataW Unit)) : (intKeys (.map (l.foldr DataW.insert []))).Perm (l.map fun p => Go.intOf p.1) :=
  ((Go.WideShapes.sorted_perm l).map _)

theorem wf_i64 {a : Int} (h : -9223372036854775808 ≤ a ∧ a ≤ 9223372036854775807) : (Lit.int .i64 a).wf = true := by
  have e1 : IntKind.i64.min = -9223372036854775808 := by decide
  have e2 : IntKind.i64.max = 9223372036854775807 := by decide
  simp only [Lit.wf, e1, e2, Bool.and_eq_true, decide_eq_true_eq]
  exact h

/-- A map of numbers, as the library's contracts name it. -/
theorem own_of_isMap {P : Program} {k : TypeId} (hk : P.underlying k = some (.int .i64)) {w : World} {m n : Nat} {f : Int → Option Value} (h : IsMap (Value.int .i64) w m f n) (hn : n ≤ maxLen)
    (hr : ∀ a, (f a).isSome = true → -9223372036854775808 ≤ a ∧ a ≤ 9223372036854775807) :
    ∃ D0 : DataW Unit, w.ownsMap P k (fun _ => some (.nil, [])) m n D0 ∧ (∀ x, x ∈ intKeys D0 ↔ (f x).isSome = true) ∧ (intKeys D0).Nodup ∧ Maps.size D0 = n ∧ (intKeys D0).length = n := by
  obtain ⟨es, clock, hb, ok⟩ := h
  have hrd : ∀ x ∈ es.toList, ∃ a, x.key = .int .i64 a ∧ rd P k (fun _ => some (DataW.nil (H := Unit), [])) x = some (.int .i64 a, .nil) ∧ (f a).isSome = true := fun x hx => by
    obtain ⟨a, ha⟩ := ok.keys x hx
    have hs : (f a).isSome = true := by rw [(ok.tells a x.val).2 ⟨x, hx, ha, rfl⟩]; rfl
    refine ⟨a, ha, ?_, hs⟩
    have := Go.Maps.keyOf_int_mk (P := P) (k := k) hk (wf_i64 (hr a hs))
    simp [rd, ha, this]
  have hfit : Fit P k (fun _ => some (DataW.nil (H := Unit), [])) es clock := ⟨by rw [ok.size]; exact hn, ok.st, fun x hx => by obtain ⟨a, _, h, _⟩ := hrd x hx; exact ⟨_, h⟩⟩
  have hmap : (es.toList.map (rg P k (fun _ => some (DataW.nil (H := Unit), [])))).map (fun p => Value.int .i64 (Go.intOf p.1)) = es.toList.map (·.key) := by
    rw [List.map_map]
    refine List.map_congr_left (fun x hx => ?_)
    obtain ⟨a, ha, h, _⟩ := hrd x hx
    simp only [Function.comp, rg_of h, ha]
    rfl
  have hp := intKeys_perm (es.toList.map (rg P k (fun _ => some (DataW.nil (H := Unit), []))))
  have hinj : ((es.toList.map (rg P k (fun _ => some (DataW.nil (H := Unit), [])))).map fun p => Go.intOf p.1).map (Value.int .i64) = es.toList.map (·.key) := by
    rw [← hmap, List.map_map]; rfl
  refine ⟨_, ⟨es, clock, hb, hfit, by rw [ok.size]; exact Nat.le_refl _, rfl⟩, fun x => ?_, ?_, ?_, ?_⟩
  · rw [hp.mem_iff]
    constructor
    · intro hx
      obtain ⟨p, hp1, hp2⟩ := List.mem_map.1 hx
      obtain ⟨y, hy, rfl⟩ := List.mem_map.1 hp1
      obtain ⟨a, ha, h, hs⟩ := hrd y hy
      rw [rg_of h] at hp2
      cases hp2
      exact hs
    · intro hs
      obtain ⟨v, hv⟩ := Option.isSome_iff_exists.1 hs
      obtain ⟨y, hy, hky, _⟩ := (ok.tells x v).1 hv
      obtain ⟨a, ha, h, _⟩ := hrd y hy
      have : a = x := by rw [ha] at hky; cases hky; rfl
      subst this
      exact List.mem_map.2 ⟨_, List.mem_map.2 ⟨y, hy, rfl⟩, by rw [rg_of h]; rfl⟩
  · rw [hp.nodup_iff]
    have hnd := ok.st.2.2
    rw [← hinj] at hnd
    exact (List.Pairwise.of_map (Value.int .i64) (fun a b h e => h (by rw [e])) hnd)
  · have := (Go.WideShapes.sorted_perm (es.toList.map (rg P k (fun _ => some (DataW.nil (H := Unit), []))))).length_eq
    rw [List.length_map] at this
    rw [← ok.size]
    show ((es.toList.map (rg P k (fun _ => some (DataW.nil (H := Unit), [])))).foldr DataW.insert []).length = es.size
    rw [this]; simp
  · have := hp.length_eq
    rw [this, List.length_map, List.length_map, ← ok.size]; simp

/-- What is sorted rises, if nothing stands twice. -/
theorem sorted_rises {ss : List Int} (hn : ss.Nodup) : (ss.mergeSort fun x y => decide (x ≤ y)).Pairwise (· < ·) := by
  have tr : ∀ a b c : Int, decide (a ≤ b) = true → decide (b ≤ c) = true → decide (a ≤ c) = true := fun a b c h1 h2 => by simp only [decide_eq_true_eq] at *; omega
  have to : ∀ a b : Int, (decide (a ≤ b) || decide (b ≤ a)) = true := fun a b => by simp only [Bool.or_eq_true, decide_eq_true_eq]; omega
  have h1 := List.pairwise_mergeSort tr to ss
  have h2 : (ss.mergeSort fun x y => decide (x ≤ y)).Nodup := (List.mergeSort_perm ss _).nodup_iff.2 hn
  refine (h1.and h2).imp (fun {a b} h => ?_)
  have := h.1
  simp only [decide_eq_true_eq] at this
  have := h.2
  omega

theorem rising_short {N : Int} : ∀ (l : List Int) (lo : Int), l.Pairwise (· < ·) → (∀ x ∈ l, lo ≤ x ∧ x < N) → l.length ≤ (N - lo).toNat
  | [], _, _, _ => Nat.zero_le _
  | a :: r, lo, hp, h => by
    obtain ⟨h1, h2⟩ := List.pairwise_cons.1 hp
    have ha := h a (.head _)
    have := rising_short r (a + 1) h2 (fun x hx => ⟨by have := h1 x hx; omega, (h x (.tail _ hx)).2⟩)
    rw [List.length_cons]; omega
/-- A map of few keys is small. -/
theorem IsMap.small {w : World} {m n : Nat} {f : Int → Option Value} (h : IsMap (Value.int .i64) w m f n) (N : Int) (hr : ∀ a, (f a).isSome = true → 0 ≤ a ∧ a < N) : n ≤ N.toNat := by
  obtain ⟨es, clock, hb, ok⟩ := h
  have hk : ∃ ks : List Int, es.toList.map (·.key) = ks.map (Value.int .i64) ∧ ∀ x ∈ ks, (f x).isSome = true := by
    have : ∀ (l : List MapEntry), (∀ x ∈ l, x ∈ es.toList) → ∃ ks : List Int, l.map (·.key) = ks.map (Value.int .i64) ∧ ∀ x ∈ ks, (f x).isSome = true := by
      intro l
      induction l with
      | nil => exact fun _ => ⟨[], rfl, fun x hx => by cases hx⟩
      | cons e r ih =>
        intro hl
        obtain ⟨ks, h1, h2⟩ := ih (fun x hx => hl x (.tail _ hx))
        obtain ⟨a, ha⟩ := ok.keys e (hl e (.head _))
        refine ⟨a :: ks, by simp [h1, ha], fun x hx => ?_⟩
        rcases List.mem_cons.1 hx with rfl | hx
        · rw [(ok.tells x e.val).2 ⟨e, hl e (.head _), ha, rfl⟩]; rfl
        · exact h2 x hx
    exact this _ (fun _ h => h)
  obtain ⟨ks, h1, h2⟩ := hk
  have hnd : ks.Nodup := by
    have := ok.st.2.2
    rw [h1] at this
    exact (List.Pairwise.of_map (Value.int .i64) (fun a b h e => h (by rw [e])) this)
  have hs := rising_short (N := N) _ 0 (sorted_rises hnd) (fun x hx => hr x (h2 x ((List.mergeSort_perm ks _).mem_iff.1 hx)))
  rw [List.length_mergeSort] at hs
  have hl := congrArg List.length h1
  simp at hl
  rw [← ok.size]
  omega

end Go.Tb
