/-
  A hub: Watchers.
-/
import Derived.Deep.Cut
import Derived.Test.YtidpiojanajpoaaHubA
import Derived.Test.YtidpiojanajpoaaKeysH
namespace Go.Proofs.Ytidpiojanajpoaa
open Go.RowKit Go.Tb Go.MapKept Go.ChangeMaps
set_option linter.unusedVariables false

set_option maxRecDepth 100000 in
/-- The numbers of the watchers, rising. -/
theorem watchers_calls (b m : Nat) (own : Nat → Tg) (P : Int → Option WrP) (H : Hub) (w : World) (h : IsHub w b m own P H) (hn : H.n ≤ 1000000) (hr : ∀ i, (H.f i).isSome = true → -9223372036854775808 ≤ i ∧ i ≤ 9223372036854775807) :
    Calls Try.prog 24 #[.pointer (some ⟨b, 0, none⟩)] w fun e w' => ∃ a c l, e = .returned (.slice a H.n c) ∧ l.length = H.n ∧ l.Pairwise (· < ·) ∧ (∀ x, x ∈ l ↔ (H.f x).isSome = true) ∧ Sl zenc w' (.slice a H.n c) l ∧ (∀ g, sliceBlock (.slice a H.n c) = some g → w.heap.size ≤ g) ∧ Upd (fun _ => False) w w' := by
  have hiff : ∀ i, (mptr P i).isSome = true ↔ (H.f i).isSome = true := fun i => by
    unfold mptr
    cases hp : P i with
    | none => rw [h.nn i hp]; simp
    | some p => obtain ⟨x, hx, -⟩ := h.wt i p hp; rw [hx]; simp
  have c4 : w.cell? ⟨b, 4, none⟩ = some (.map (some m)) := cell_of h.hub 4
  have hua := upd_alloc (fun _ => False) w (.cells #[.map (some m)] 66)
  have hB := (heap_alloc w (.cells #[.map (some m)] 66)).1
  have hmk := mkeys_calls (some m) w
  have hso := sorted_calls w.heap.size m H.n (mptr P) _ (cell_of hB 0) (h.grow hua).map hn (fun i hi => hr i ((hiff i).1 hi))
  have HI := Lib.hid hiff
  have HU := Lib.hid hua
  clear h hr hiff hua hB
  go_enter Try.func24, Try.ntmps24
  go_wp2_with (first
    | (go_at_call 40; (with_reducible refine hmk.mono ?_); rintro e w1 ⟨rfl, rfl⟩)
    | (go_at_call 39; (with_reducible refine hso.mono ?_); rintro e w2 ⟨a, c, l, rfl, h1, h2, h3, h4, h5, h6⟩; have H1 := Lib.hid h1; have H2 := Lib.hid h2; have H3 := Lib.hid h3; have H4 := Lib.hid h4; have H5 := Lib.hid h5; have H6 := Lib.hid h6; clear h1 h2 h3 h4 h5 h6))
  go_ret
  exact ⟨a, c, l, rfl, H1.out, H2.out, fun x => (H3.out x).trans (HI.out x), H4.out, fun g hg => Nat.le_trans HU.out.size (H5.out g hg), HU.out.trans H6.out⟩

end Go.Proofs.Ytidpiojanajpoaa
