/-
  append([]int{}, ids...).
-/
import Derived.Test.YtdobijomdgepjaaPlaysA
import Derived.Test.YtdobijomdgepjaaOrdersW
namespace Go.Tb
open Go.RowKit Go.MapKept Go.ChangeMaps
theorem run_append_zero {P : Program} {w : World} {t e : TypeId} {z : Value} {k bytes : Nat} (ht : P.underlying t = some (.slice e)) (hi : (P.info? e).map (fun i => (i.zero, i.size, i.bytes)) = some (some z, k, bytes)) (a a2 : Option Addr) (n cap c2 : Nat) (hc : n ≤ cap) :
    ∀ ty, (Builtin.append_ #[t, t] ty #[.slice a n cap, .slice a2 0 c2]).run P w = .ok (.slice a n cap) w := by
  obtain ⟨i0, hi0, hz0, hz1, hz2⟩ := info_parts hi
  intro ty
  cases a <;> cases a2 <;> simp [Builtin.append_, run_underlying ht, sizeOf, typeInfo, hi0, Builtin.lenOf, Builtin.firstCells, loadCells, loadCellsFrom, hc, Result.andThen, storeCells]
end Go.Tb
namespace Go.Proofs.Ytdobijomdgepjaa
open Go.RowKit Go.Tb Go.MapKept Go.ChangeMaps

/-- A copy of the numbers that were handed in. -/
theorem own_ints (a : Option Addr) (cap : Nat) (l : List Int) (w1 : World) (h : IntsOf w1 a l) (hc : l.length ≤ cap) (hlen : l.length ≤ 1000000) :
    ∃ a' c' w2, (∀ ty, (Builtin.append_ #[22, 22] ty #[.slice (some ⟨w1.heap.size, 0, none⟩) 0 0, .slice a l.length cap]).run Try.prog (w1.alloc (.cells #[] 3)) = .ok (.slice a' l.length c') w2) ∧ w2.ownsRow w1.heap.size 3 1 (.slice a' l.length c') l.length (l.flatMap ienc) ∧ Upd (fun _ => False) w1 w2 := by
  have hown0 : (w1.alloc (.cells #[] 3)).ownsRow w1.heap.size 3 1 (.slice (some ⟨w1.heap.size, 0, none⟩) 0 0) ([] : List Int).length (([] : List Int).flatMap ienc) := World.ownsRow_made w1 #[] 0 (Nat.le_refl _) (Nat.zero_le _) (by simp)
  have hua : Upd (fun _ => False) w1 (w1.alloc (.cells #[] 3)) := upd_alloc _ _ _
  by_cases h0 : l = []
  · subst h0
    exact ⟨_, _, _, run_append_zero under_ints info_int _ _ _ _ _ (Nat.le_refl _), hown0, hua⟩
  · have hpos : 0 < l.length := List.length_pos_iff.2 h0
    obtain ⟨b, off, rfl, hc0⟩ := h 0 hpos
    have hs : Sl ienc w1 (.slice (some ⟨b, off, none⟩) l.length cap) l := by
      refine .inr ⟨b, off, cap, rfl, hc, World.block_lt_of_cell? w1 _ hc0, fun j v hj => ?_⟩
      have e : l.flatMap ienc = l.map (Value.int .i64) := flat_one l
      rw [e, List.getElem?_map] at hj
      obtain ⟨x, hx, rfl⟩ := Option.map_eq_some_iff.1 hj
      obtain ⟨hlt, rfl⟩ := List.getElem?_eq_some_iff.1 hx
      obtain ⟨b', off', he, hcc⟩ := h j hlt
      cases he; exact hcc
    obtain ⟨v3, w3, hap1, ho1, hg1, -⟩ := run_append_sl (P := Try.prog) (t := 22) (z := .int .i64 0) under_ints info_int rfl (by decide) ienc_length ienc_one hown0 (hs.grow hua) hua.size (by simp [maxLen]; omega) (by simp; omega)
    rw [List.nil_append] at ho1
    obtain ⟨a', c', rfl, -⟩ := (sl_of_own ienc_length ho1).1.shape
    exact ⟨a', c', w3, hap1, ho1, hua.trans' (Upd.ofGrown hg1) (fun x hx e => by simp [Value.ownBlock] at e; omega)⟩

theorem own_intsOf {w : World} {base : Nat} {a : Option Addr} {c : Nat} {l : List Int} (h : w.ownsRow base 3 1 (.slice a l.length c) l.length (l.flatMap ienc)) : IntsOf w a l := fun i hi => ints_at (sl_of_own ienc_length h).1 i hi

end Go.Proofs.Ytdobijomdgepjaa
