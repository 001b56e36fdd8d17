/-
  The keys of a map of numbers, sorted.
-/
import Derived.Test.YtidpiojanajpoaaKeysP
import Derived.Test.YtidpiojanajpoaaKeys
import Derived.Test.YtidpiojanajpoaaProg
namespace Go.Proofs.Ytidpiojanajpoaa
open Go.RowKit Go.Tb Go.MapKept Go.ChangeMaps Go.Shelf
set_option linter.unusedVariables false

def zenc (x : Int) : List Value := [.int .i64 x]
theorem zenc_length (x : Int) : (zenc x).length = 1 := rfl
theorem under_key : Try.prog.underlying 2 = some (.int .i64) := Try.underlying2

theorem sorts_in (m : Nat) : AnyZI.SortsIn Try.prog Try.laysSorted_ren Fence.wide m :=
  ⟨fun blk off cap ss W hH hblk hsz => callsIn_wide.2 (AnyM.slices_Sort_int Try.laysSortI blk off cap ss W hH hblk hsz),
   fun p cap W => callsIn_wide.2 (AnyM.slices_Sort_int_none Try.laysSortI p cap W)⟩

theorem mkeys_calls (v : Option Nat) (W : World) : Calls Try.prog 40 #[.map v] W fun e w' => e = .returned (.func (.func 55) #[] #[.pointer (some ⟨W.heap.size, 0, none⟩)]) ∧ w' = W.alloc (.cells #[.map v] 66) :=
  (callsIn_wide (n := 5)).1 (AnyZI.keys_in Try.laysKeys Fence.wide 5 trivial rfl v W)

/-- slices.Sorted(maps.Keys(m)): the keys, rising, in a slice of the call's own. -/
theorem sorted_calls (B b n : Nat) (f : Int → Option Value) (w : World) (hB : w.cell? ⟨B, 0, none⟩ = some (.map (some b))) (h : IsMap (Value.int .i64) w b f n) (hn : n ≤ 1000000)
    (hr : ∀ a, (f a).isSome = true → -9223372036854775808 ≤ a ∧ a ≤ 9223372036854775807) :
    Calls Try.prog 39 #[.func (.func 55) #[] #[.pointer (some ⟨B, 0, none⟩)]] w fun e w' => ∃ a c l, e = .returned (.slice a n c) ∧ l.length = n ∧ l.Pairwise (· < ·) ∧ (∀ x, x ∈ l ↔ (f x).isSome = true) ∧ Sl zenc w' (.slice a n c) l ∧ (∀ g, sliceBlock (.slice a n c) = some g → w.heap.size ≤ g) ∧ Upd (fun _ => False) w w' := by
  obtain ⟨D0, hown, hmem, hnd, hsz, hlen⟩ := own_of_isMap (P := Try.prog) under_key h (by unfold maxLen; omega) hr
  have hBl : B < w.heap.size := World.block_lt_of_cell? w ⟨B, 0, none⟩ hB
  have hseq : SeqGives Fence.wide 2 Try.prog 55 #[.pointer (some ⟨B, 0, none⟩)] encZ (fun ss => ss.Perm (intKeys D0)) (Maps.size D0) w :=
    AnyZI.keys_gives (ρ := Try.laysKeys_ren) { Try.laysKeys with } Fence.wide _ trivial rfl (by omega) B b n D0 w hBl hB hown
  have hc := AnyZI.sorted_in Try.laysSorted Fence.wide 5 trivial trivial trivial trivial rfl (by omega) (sorts_in _) (enters_of Try.func54 (by kernel_rfl) rfl) 55 #[.pointer (some ⟨B, 0, none⟩)] trivial (enters_of Try.func55 (by kernel_rfl) rfl) _ _ (by rw [hsz]; unfold maxLen; omega) (by rw [hsz]; omega) _ hseq
  change CallsIn _ _ Try.prog 39 _ _ _ at hc
  refine (callsIn_wide.1 hc).mono ?_
  rintro e w' ⟨v, ss, rfl, hp, ho, hnil, hb⟩
  have hl : ss.length = n := by rw [hp.length_eq, hlen]
  have hml : (ss.mergeSort fun x y => decide (x ≤ y)).length = ss.length := List.length_mergeSort _
  have ho' : w'.ownsRow w.heap.size 2 1 v (ss.mergeSort fun x y => decide (x ≤ y)).length ((ss.mergeSort fun x y => decide (x ≤ y)).flatMap zenc) := by
    have e : (ss.mergeSort fun x y => decide (x ≤ y)).flatMap zenc = (ss.mergeSort fun x y => decide (x ≤ y)).map encZ := flat_one _
    rw [e, hml]; exact ho
  obtain ⟨hs, hg⟩ := sl_of_own zenc_length ho'
  obtain ⟨a, c, rfl, hc⟩ := hs.shape
  rw [hml, hl] at hs hg ⊢
  refine ⟨a, c, _, rfl, hml.trans hl, sorted_rises (hp.nodup_iff.2 hnd), fun x => ?_, hs, hg, Upd.ofBelow hb⟩
  rw [(List.mergeSort_perm ss _).mem_iff, hp.mem_iff, hmem]

end Go.Proofs.Ytidpiojanajpoaa
