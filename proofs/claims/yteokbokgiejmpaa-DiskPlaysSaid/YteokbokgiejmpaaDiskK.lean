/-
  Cached.
-/
import Derived.Test.YteokbokgiejmpaaDiskJ
import Derived.Test.YteokbokgiejmpaaKeysC
namespace Go.Proofs.Yteokbokgiejmpaa
open Go.RowKit Go.Tb Go.MapKept Go.ChangeMaps
set_option linter.unusedVariables false

/-- What lies in the cache are pages of the disk. -/
def DS.In (D : DS) : Prop := ∀ k, (D.cache k).isSome = true → 0 ≤ k ∧ k < D.size
theorem DS.In.burn {D : DS} (h : D.In) : D.burn.In := h
theorem DS.In.write {D : DS} (h : D.In) {page : Int} {l : List UInt8} (hc : D.check page = 0) : (D.write page l).In := by
  intro k hk
  have hr : 0 ≤ page ∧ page < D.size := by
    unfold DS.check at hc
    split at hc
    · cases hc
    · split at hc
      · cases hc
      · omega
  show 0 ≤ k ∧ k < D.size
  simp only [DS.write, DS.burn] at hk
  by_cases e : k = page
  · subst e; exact hr
  · rw [if_neg e] at hk; exact h k hk
theorem DS.In.synced {D : DS} (h : D.In) : D.synced.In := by
  unfold DS.synced
  split
  · exact h
  · intro k hk; cases hk
theorem DS.In.fused {D : DS} (h : D.In) (n : Int) : (D.setFuse n).In := h
theorem DS.In.crash {D : DS} (ks : List (Int × Int)) : (D.crash ks).In := by
  intro k hk; cases hk
theorem DS.In.act {D : DS} (h : D.In) (kind page n : Int) (x : UInt8) : (D.act kind page n x).In := by
  unfold DS.act
  split
  · split
    · rename_i hc; exact h.write hc
    · exact h
  · split
    · exact h.synced
    · split
      · exact h.fused n
      · split
        · exact DS.In.crash _
        · exact h
theorem DS.In.start (n : Int) : (DS.start n).In := by intro k hk; cases hk

theorem cached_nil (w : World) : Calls Try.prog 23 #[.pointer none] w fun e w' => e = .returned (.slice none 0 0) ∧ w = w' := by
  go_enter Try.func23, Try.ntmps23
  go_wp2
  go_ret
  exact ⟨rfl, rfl⟩

/-- The pages in the cache. -/
theorem cached_calls (b mp mc : Nat) (D : DS) (I : Nat → Prop) (w : World) (h : IsDisk w b mp mc D I) (hi : D.In) :
    Calls Try.prog 23 #[.pointer (some ⟨b, 0, none⟩)] w fun e w' => ∃ a c l, e = .returned (.slice a l.length c) ∧ l.Pairwise (· < ·) ∧ (∀ x, x ∈ l ↔ (D.cache x).isSome = true) ∧ Sl zenc w' (.slice a l.length c) l ∧ (∀ g, sliceBlock (.slice a l.length c) = some g → w.heap.size ≤ g) ∧ Upd (fun _ => False) w w' := by
  have h2 : w.cell? ⟨b, 2, none⟩ = some (.map (some mc)) := cell_of h.blk 2
  have h1024 := h.s2
  have hs0 := h.s1
  obtain ⟨f, n, hm, hp0, hp1, hp2⟩ := h.ch
  have hf : ∀ x, (f x).isSome = true ↔ (D.cache x).isSome = true := fun x => by
    cases hc : D.cache x with
    | none => rw [hp1 x hc]; simp
    | some l => obtain ⟨_, v, hv, _⟩ := hp2 x l hc; rw [hv]; simp
  have hr : ∀ x, (f x).isSome = true → 0 ≤ x ∧ x < D.size := fun x hx => hi x ((hf x).1 hx)
  have hn := hm.small D.size hr
  have ha := heap_alloc w (.cells #[.map (some mc)] 64)
  have hB : (w.alloc (.cells #[.map (some mc)] 64)).cell? ⟨w.heap.size, 0, none⟩ = some (.map (some mc)) := cell_of ha.1 0
  have hso := sorted_calls w.heap.size mc n f _ hB (hm.upd (upd_alloc (fun _ => False) _ _) (fun x => x)) (by omega) (fun x hx => by have := hr x hx; omega)
  have Hf := Lib.hid hf
  clear h hm hp0 hp1 hp2 hf hr ha hB
  go_enter Try.func23, Try.ntmps23
  go_wp2_with (first
    | (go_at_call 41; refine (mkeys_calls _ _).mono ?_; rintro e w1 ⟨rfl, rfl⟩)
    | (go_at_call 40; refine hso.mono ?_; rintro e w2 ⟨a, c, l, rfl, hl, hpw, hmem, hsl, hg, hu⟩))
  go_ret
  subst hl
  exact ⟨a, c, l, rfl, hpw, fun x => (hmem x).trans (Hf.out x), hsl, fun g hgg => Nat.le_trans (upd_alloc (fun _ => False) w _).size (hg g hgg), (upd_alloc _ _ _).trans hu⟩

end Go.Proofs.Yteokbokgiejmpaa
