/-
  The document's All.
-/
import Derived.Test.YtdobijomdgepjaaRefC
namespace Go.Proofs.Ytdobijomdgepjaa
open Go.RowKit Go.Tb Go.MapKept Go.ChangeMaps
set_option linter.unusedVariables false

theorem allTo_length (L : LS) (s : Int) (k : Nat) : (allTo L s k).length ≤ k := by
  unfold allTo
  rw [List.length_map]
  exact Nat.le_trans (List.length_filter_le _ _) (by simp)

set_option maxRecDepth 100000 in
set_option maxHeartbeats 1000000 in
theorem rall_calls (b g : Nat) (L : LS) (s : Int) (sg : List Int) (w : World) (hsg : sg = signs L) (h : IsRef w b g sg) (hbig : sg.length ≤ 1024) :
    Calls Try.prog 23 #[.pointer (some ⟨b, 0, none⟩), .int .i64 s] w fun e w' => ∃ v, e = .returned v ∧ Sl ienc w' v (allTo L s sg.length) ∧ (∀ k, sliceBlock v = some k → w.heap.size ≤ k) ∧ Upd (fun _ => False) w w' := by
  have c0 : w.cell? ⟨b, 0, none⟩ = some (.slice (some ⟨g, 0, none⟩) sg.length sg.length) := cell_of h.blk 0
  have c0' := (upd_alloc (fun _ => False) w (.cells #[] 3)).cell c0 (fun x => x)
  have H := Lib.hid h
  have hstart := Lib.hid (show (w.alloc (.cells #[] 3)).ownsRow w.heap.size 3 1 (.slice (some ⟨w.heap.size, 0, none⟩) 0 0) (allTo L s 0).length ((allTo L s 0).flatMap ienc) from World.ownsRow_made w #[] 0 (Nat.le_refl _) (Nat.zero_le _) (by simp))
  have HS := Lib.hid hsg
  clear h hsg
  go_enter Try.func23, Try.ntmps23
  go_wp2
  go_loopw [5, 14] (fun v i wr => ∃ (k : Nat) (a : Option Addr) (n c : Nat), k ≤ sg.length ∧ i = .int .i64 k ∧ v = .slice a n c ∧ wr.ownsRow w.heap.size 3 1 (.slice a n c) (allTo L s k).length ((allTo L s k).flatMap ienc) ∧ Upd (fun _ => False) w wr) (fun _ i _ => sg.length - (intOf i).toNat)
  case atStart => exact ⟨0, _, _, _, Nat.zero_le _, rfl, rfl, hstart.out, upd_alloc _ _ _⟩
  case round =>
    clear hstart
    obtain ⟨k, a, n, c, hk, rfl, rfl, ho, hu⟩ := hrel
    by_cases hlt : k < sg.length
    · have c1 := hu.cell (H.out.at k hlt) (fun x => x)
      have hget : sg[k] = signOf L (k : Int) := (by have hh := HS.out; subst hh; exact signs_get L k hlt)
      rw [hget] at c1
      clear hget
      have Hs := Lib.hid (allTo_succ L s k)
      have Hlen := Lib.hid (allTo_length L s k)
      by_cases hz : signOf L (k : Int) = s
      · rw [hz] at c1
        have He := Lib.hid (show allTo L s (k + 1) = allTo L s k ++ [(k : Int)] by rw [Hs.out, if_pos hz])
        have hal := upd_alloc (fun _ => False) wr (.cells #[.int .i64 (k : Int)] 3)
        obtain ⟨v', w', hap, ho', hg', -⟩ := run_append_sl (P := Try.prog) (t := 22) (z := .int .i64 0) under_ints info_int rfl (by decide) ienc_length ienc_one (own_grow ho hal) (sl_one (enc := ienc) (x := (k : Int)) (heap_alloc wr (.cells #[.int .i64 (k : Int)] 3)).1) (Nat.le_trans hu.size hal.size) (by have := Hlen.out; simp [maxLen]; omega) (by have := Hlen.out; simp; omega)
        have hu' : Upd (fun _ => False) w w' := (hu.trans hal).trans' (Upd.ofGrown hg') (fun x hx e => by have := ((own_grow ho hal).lt x e.symm).1; omega)
        obtain ⟨a2, c2, hv, -⟩ := (sl_of_own ienc_length ho').1.shape
        generalize (allTo L s k ++ [(k : Int)]).length = m at hv
        subst hv
        have Ho := Lib.hid (show w'.ownsRow w.heap.size 3 1 (.slice a2 m c2) (allTo L s (k + 1)).length ((allTo L s (k + 1)).flatMap ienc) by rw [He.out]; exact ho')
        clear ho ho' hg' hz hal Hs
        go_wp2_with (at_builtin; refine wpList_append hap rfl rfl rfl rfl ?_)
        go_roundw
        case rel => exact ⟨k + 1, _, _, _, by omega, by go_num, rfl, Ho.out, hu'⟩
        case measure => simp [intOf]; omega
      · have Ho := Lib.hid (show wr.ownsRow w.heap.size 3 1 (.slice a n c) (allTo L s (k + 1)).length ((allTo L s (k + 1)).flatMap ienc) by rw [Hs.out, if_neg hz]; exact ho)
        clear ho Hs
        generalize signOf L (k : Int) = z at *
        go_wp2
        go_roundw
        case rel => exact ⟨k + 1, _, _, _, by omega, by go_num, rfl, Ho.out, hu⟩
        case measure => simp [intOf]; omega
    · have hke : k = sg.length := by omega
      have Hs := Lib.hid (sl_of_own ienc_length ho)
      rw [hke] at Hs
      clear ho hke
      go_wp2
      go_ret
      exact ⟨_, rfl, Hs.out.1, Hs.out.2, hu⟩

end Go.Proofs.Ytdobijomdgepjaa
