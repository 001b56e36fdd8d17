/-
  The keys of a map of texts, sorted.
-/
import Derived.Test.YtcbngjlgcgcljaaGreatBase
import Derived.Test.YtcbngjlgcgcljaaGreatKeysT
import Derived.Test.YtcbngjlgcgcljaaGreatProg
import Derived.Shelf.SlIter.Nil
import Derived.StringKeys
namespace Go.Tb
open Go.RowKit Go.MapKept Go.WideElems
set_option linter.unusedVariables false

theorem strKeys_perm (l : List (Lit × DataW Unit)) : (strKeys (.map (l.foldr DataW.insert []))).Perm (l.map fun p => strOf p.1) :=
  ((Go.WideShapes.sorted_perm l).map _)

/-- A map of texts, as the library's contracts name it. -/
theorem own_of_isMapS {P : Program} {k : TypeId} (hk : P.underlying k = some .string) {w : World} {m n : Nat} {f : List UInt8 → Option Value} (h : IsMap skey w m f n) (hn : n ≤ maxLen)
    (hr : ∀ a, (f a).isSome = true → a.length ≤ maxLen) :
    ∃ D0 : DataW Unit, w.ownsMap P k (fun _ => some (.nil, [])) m n D0 ∧ (∀ x, x ∈ strKeys D0 ↔ (f x).isSome = true) ∧ (strKeys D0).Nodup ∧ Maps.size D0 = n ∧ (strKeys D0).length = n := by
  obtain ⟨es, clock, hb, ok⟩ := h
  have hrd : ∀ x ∈ es.toList, ∃ a, x.key = skey a ∧ rd P k (fun _ => some (DataW.nil (H := Unit), [])) x = some (.string a, .nil) ∧ (f a).isSome = true := fun x hx => by
    obtain ⟨a, ha⟩ := ok.keys x hx
    have hs : (f a).isSome = true := by rw [(ok.tells a x.val).2 ⟨x, hx, ha, rfl⟩]; rfl
    refine ⟨a, ha, ?_, hs⟩
    have hl : (strB a).size ≤ maxLen := by have := hr a hs; simpa [strB, ByteArray.size] using this
    have := Go.WideMaps.keyOf_string_mk (P := P) (k := k) hk hl
    have ek : x.key = .string (strB a) := ha
    simp [Go.WideElems.rd, ek, this]
    rfl
  have hfit : Fit P k (fun _ => some (DataW.nil (H := Unit), [])) es clock := ⟨by rw [ok.size]; exact hn, ok.st, fun x hx => by obtain ⟨a, _, h, _⟩ := hrd x hx; exact ⟨_, h⟩⟩
  have hmap : (es.toList.map (rg P k (fun _ => some (DataW.nil (H := Unit), [])))).map (fun p => skey (strOf p.1)) = es.toList.map (·.key) := by
    rw [List.map_map]
    refine List.map_congr_left (fun x hx => ?_)
    obtain ⟨a, ha, h, _⟩ := hrd x hx
    simp only [Function.comp, rg_of h, ha]
    rfl
  have hp := strKeys_perm (es.toList.map (rg P k (fun _ => some (DataW.nil (H := Unit), []))))
  have hinj : ((es.toList.map (rg P k (fun _ => some (DataW.nil (H := Unit), [])))).map fun p => strOf p.1).map skey = es.toList.map (·.key) := by
    rw [← hmap, List.map_map]; rfl
  refine ⟨_, ⟨es, clock, hb, hfit, by rw [ok.size]; exact Nat.le_refl _, rfl⟩, fun x => ?_, ?_, ?_, ?_⟩
  · rw [hp.mem_iff]
    constructor
    · intro hx
      obtain ⟨p, hp1, hp2⟩ := List.mem_map.1 hx
      obtain ⟨y, hy, rfl⟩ := List.mem_map.1 hp1
      obtain ⟨a, ha, h, hs⟩ := hrd y hy
      rw [rg_of h] at hp2
      cases hp2
      exact hs
    · intro hs
      obtain ⟨v, hv⟩ := Option.isSome_iff_exists.1 hs
      obtain ⟨y, hy, hky, _⟩ := (ok.tells x v).1 hv
      obtain ⟨a, ha, h, _⟩ := hrd y hy
      have : a = x := keyT_skey.inj _ _ (ha.symm.trans hky)
      subst this
      exact List.mem_map.2 ⟨_, List.mem_map.2 ⟨y, hy, rfl⟩, by rw [rg_of h]; rfl⟩
  · rw [hp.nodup_iff]
    have hnd := ok.st.2.2
    rw [← hinj] at hnd
    exact (List.Pairwise.of_map skey (fun a b h e => h (by rw [e])) hnd)
  · have := (Go.WideShapes.sorted_perm (es.toList.map (rg P k (fun _ => some (DataW.nil (H := Unit), []))))).length_eq
    rw [List.length_map] at this
    rw [← ok.size]
    show ((es.toList.map (rg P k (fun _ => some (DataW.nil (H := Unit), [])))).foldr DataW.insert []).length = es.size
    rw [this]; simp
  · have := hp.length_eq
    rw [this, List.length_map, List.length_map, ← ok.size]; simp

/-- What is sorted rises, if nothing stands twice. -/
theorem sorted_risesS {ss : List (List UInt8)} (hn : ss.Nodup) : (ss.mergeSort fun x y => decide (x ≤ y)).Pairwise (· < ·) := by
  have tr : ∀ a b c : List UInt8, decide (a ≤ b) = true → decide (b ≤ c) = true → decide (a ≤ c) = true := fun a b c h1 h2 => by simp only [decide_eq_true_eq] at *; exact List.le_trans h1 h2
  have to : ∀ a b : List UInt8, (decide (a ≤ b) || decide (b ≤ a)) = true := fun a b => by simp only [Bool.or_eq_true, decide_eq_true_eq]; exact List.le_total a b
  have h1 := List.pairwise_mergeSort tr to ss
  have h2 : (ss.mergeSort fun x y => decide (x ≤ y)).Nodup := (List.mergeSort_perm ss _).nodup_iff.2 hn
  refine (h1.and h2).imp (fun {a b} h => ?_)
  have h3 := h.1
  simp only [decide_eq_true_eq] at h3
  exact Std.lt_of_le_of_ne h3 h.2

end Go.Tb
namespace Go.Proofs.YtcbngjlgcgcljaaGreat
open Go.RowKit Go.Tb Go.MapKept Go.ChangeMaps Go.Shelf Go.Sort
set_option linter.unusedVariables false

def sskey (x : List UInt8) : List Value := [skey x]
theorem sskey_length (x : List UInt8) : (sskey x).length = 1 := rfl

theorem sortsS_in (m : Nat) : AnyZ.SortsIn Tryz.prog Tryz.laysSortedS_ren Fence.wide m :=
  ⟨fun blk off cap ss W hH hblk hsz => callsIn_wide.2 (AnyM.slices_Sort_string Tryz.laysSortS blk off cap ss W hH hblk hsz),
   fun p cap W => callsIn_wide.2 (AnyM.slices_Sort_string_none Tryz.laysSortS p cap W)⟩

theorem mkeysS_calls (v : Option Nat) (W : World) : Calls Tryz.prog 50 #[.map v] W fun e w' => e = .returned (.func (.func 66) #[] #[.pointer (some ⟨W.heap.size, 0, none⟩)]) ∧ w' = W.alloc (.cells #[.map v] 49) :=
  (callsIn_wide (n := 5)).1 (AnyZ.keys_in Tryz.laysKeysS Fence.wide 5 trivial rfl v W)

/-- slices.Sorted(maps.Keys(m)): the keys, rising, in a slice of the call's own. -/
theorem sortedS_calls (B b n : Nat) (f : List UInt8 → Option Value) (w : World) (hB : w.cell? ⟨B, 0, none⟩ = some (.map (some b))) (h : IsMap skey w b f n) (hn : n ≤ 1000000)
    (hr : ∀ a, (f a).isSome = true → a.length ≤ maxLen) :
    Calls Tryz.prog 49 #[.func (.func 66) #[] #[.pointer (some ⟨B, 0, none⟩)]] w fun e w' => ∃ a c l, e = .returned (.slice a n c) ∧ l.length = n ∧ l.Pairwise (· < ·) ∧ (∀ x, x ∈ l ↔ (f x).isSome = true) ∧ Sl sskey w' (.slice a n c) l ∧ (∀ g, sliceBlock (.slice a n c) = some g → w.heap.size ≤ g) ∧ Upd (fun _ => False) w w' := by
  obtain ⟨D0, hown, hmem, hnd, hsz, hlen⟩ := own_of_isMapS (P := Tryz.prog) (k := 9) Tryz.underlying9 h (by unfold maxLen; omega) hr
  have hBl : B < w.heap.size := World.block_lt_of_cell? w ⟨B, 0, none⟩ hB
  have hseq : SeqGives Fence.wide 2 Tryz.prog 66 #[.pointer (some ⟨B, 0, none⟩)] encStr (fun ss => ss.Perm (strKeys D0)) (Maps.size D0) w :=
    AnyZ.keys_gives (ρ := Tryz.laysKeysS_ren) { Tryz.laysKeysS with } Fence.wide _ trivial rfl (by omega) B b n D0 w hBl hB hown
  have hc := AnyZ.sorted_in Tryz.laysSortedS Fence.wide 5 trivial trivial trivial trivial rfl (by omega) (sortsS_in _) (enters_of Tryz.func65 (by kernel_rfl) rfl) 66 #[.pointer (some ⟨B, 0, none⟩)] trivial (enters_of Tryz.func66 (by kernel_rfl) rfl) _ _ (by rw [hsz]; unfold maxLen; omega) (by rw [hsz]; omega) _ hseq
  change CallsIn _ _ Tryz.prog 49 _ _ _ at hc
  refine (callsIn_wide.1 hc).mono ?_
  rintro e w' ⟨v, ss, rfl, hp, ho, hnil, hb⟩
  have hl : ss.length = n := by rw [hp.length_eq, hlen]
  have hml : (ss.mergeSort fun x y => decide (x ≤ y)).length = ss.length := List.length_mergeSort _
  have ho' : w'.ownsRow w.heap.size 9 1 v (ss.mergeSort fun x y => decide (x ≤ y)).length ((ss.mergeSort fun x y => decide (x ≤ y)).flatMap sskey) := by
    have e : (ss.mergeSort fun x y => decide (x ≤ y)).flatMap sskey = (ss.mergeSort fun x y => decide (x ≤ y)).map encStr := flat_one _
    rw [e, hml]; exact ho
  obtain ⟨hs, hg⟩ := sl_of_own sskey_length ho'
  obtain ⟨a, c, rfl, hc⟩ := hs.shape
  rw [hml, hl] at hs hg ⊢
  refine ⟨a, c, _, rfl, hml.trans hl, sorted_risesS (hp.nodup_iff.2 hnd), fun x => ?_, hs, hg, Upd.ofBelow hb⟩
  rw [(List.mergeSort_perm ss _).mem_iff, hp.mem_iff, hmem]

end Go.Proofs.YtcbngjlgcgcljaaGreat
