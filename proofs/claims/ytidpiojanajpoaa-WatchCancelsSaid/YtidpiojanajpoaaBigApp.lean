/-
  Appends onto rows that are nearly as long as there can be (no program in sight).
-/
import Derived.Test.YtidpiojanajpoaaBase
namespace Go.Tb
open Go.RowKit Go.MapKept Go.ChangeMaps
set_option linter.unusedVariables false

/-- What a row grows to, more narrowly than the double. -/
theorem cap_fifth {need old : Nat} (h : old < need) : Builtin.nextslicecap need old ≤ need + need / 4 + 512 := by
  unfold Builtin.nextslicecap
  by_cases h1 : need > 2 * old
  · rw [if_pos h1]; omega
  · rw [if_neg h1]
    by_cases h2 : old < 256
    · rw [if_pos h2]; omega
    · rw [if_neg h2, growBy_four]
      repeat' split
      all_goals omega
theorem cap_fits {need old bytes : Nat} (h : old < need) (hb : need * bytes ≤ 175921860444160) (h2 : bytes ≤ 4096) : Builtin.nextslicecap need old * bytes ≤ 281474976710656 := by
  have h1 := Nat.mul_le_mul_right bytes (cap_fifth h)
  have h3 : (need + need / 4 + 512) * bytes = need * bytes + need / 4 * bytes + 512 * bytes := by rw [Nat.add_mul, Nat.add_mul]
  have h4 : need / 4 * bytes * 4 ≤ need * bytes := by
    rw [Nat.mul_right_comm]
    exact Nat.mul_le_mul_right _ (Nat.div_mul_le_self _ _)
  omega

section
variable {α : Type} {enc : α → List Value} {w w' : World} {v : Value} {l : List α} {k : Nat}

theorem run_append_far {P : Program} {t e : TypeId} {z : Value} {bytes : Nat} (ht : P.underlying t = some (.slice e)) (hi : (P.info? e).map (fun i => (i.zero, i.size, i.bytes)) = some (some z, k, bytes)) (hz : z.cells.size = k) (hk0 : 0 < k)
    (hk : ∀ x, (enc x).length = k) (h1 : ∀ x, ∀ u ∈ enc x, u.oneCell' = true)
    {base : Nat} {v2 : Value} {l2 : List α} (hown : w.ownsRow base e k v l.length (l.flatMap enc)) (h2 : Sl enc w v2 l2) (hbase : base ≤ w.heap.size)
    (hm : l.length + l2.length ≤ 9000000000000000) (hb : (l.length + l2.length) * bytes ≤ 175921860444160) (hby : bytes ≤ 4096) :
    ∃ a c w', (∀ ty, (Builtin.append_ #[t, t] ty #[v, v2]).run P w = .ok (.slice a (l ++ l2).length c) w') ∧ w'.ownsRow base e k (.slice a (l ++ l2).length c) (l ++ l2).length ((l ++ l2).flatMap enc) ∧ Upd (fun b => sliceBlock v = some b) w w' ∧
      (sliceBlock (.slice a (l ++ l2).length c) = sliceBlock v ∨ sliceBlock (.slice a (l ++ l2).length c) = some w.heap.size) := by
  have hmax : l.length + l2.length ≤ maxLen := by unfold maxLen; omega
  by_cases hsm : (l.length + l2.length) * bytes ≤ 140737488355328
  · exact run_append_any ht hi hz hk0 hk h1 hown h2 hbase hmax hsm
  rcases h2 with ⟨rfl, rfl⟩ | ⟨b, off, cap, rfl, hc, hbb, hcells⟩
  · obtain ⟨a, c, rfl, hle⟩ := own_shape hown
    rw [List.append_nil]
    exact ⟨a, c, w, run_append_nil' ht hi a l.length c hle, hown, Upd.refl _ _, .inl rfl⟩
  · obtain ⟨i0, hi0, hz0, hz1, hz2⟩ := info_parts hi
    subst hz1 hz2
    have hl2 := flat_length hk l2
    have hl1 := flat_length hk l
    have hlen : (l ++ l2).length = l.length + l2.length := List.length_append
    have hflat : ((l ++ l2).flatMap enc).length = (l.length + l2.length) * i0.size := by rw [flat_length hk, hlen]
    have hcell : ∀ (j : Nat) (u : Value), (l2.flatMap enc)[j]? = some u → w.cell? ((⟨b, off, none⟩ : Addr).add j) = some u := fun j u hj => by
      rw [show (⟨b, off, none⟩ : Addr).add j = ⟨b, off + j, none⟩ from Addr.add_lit b off j]; exact hcells j u hj
    have hones : ∀ u ∈ l2.flatMap enc, u.oneCell' = true := fun u hu => by obtain ⟨x, _, hx⟩ := List.mem_flatMap.1 hu; exact h1 x u hx
    -- a block that was just made holds both
    have fresh : ∀ old, old < l.length + l2.length →
        (w.drew.alloc (.cells ((l.flatMap enc).toArray ++ (l2.flatMap enc).toArray ++ Builtin.zeroCells z.cells (grownCap w (l.length + l2.length) old e - (l.length + l2.length))) e)).ownsRow base e i0.size
          (.slice (some ⟨w.heap.size, 0, none⟩) (l ++ l2).length (grownCap w (l.length + l2.length) old e)) (l ++ l2).length ((l ++ l2).flatMap enc) := fun old ho => by
      have g1 := grownCap_ge w (l.length + l2.length) old e
      have g2 : grownCap w (l.length + l2.length) old e ≤ maxLen := grownCap_le_maxLen w (l.length + l2.length) old e hmax
      rw [hlen]
      refine ⟨hflat, .inr ⟨w.heap.size, _, _, rfl, hbase, (heap_alloc w.drew _).1, g1, g2, ?_, ?_⟩⟩
      · rw [Array.size_append, Array.size_append, size_zeroCells, hz, List.size_toArray, List.size_toArray, hl1, hl2, ← Nat.add_mul, ← Nat.add_mul]
        congr 1; omega
      · rw [Array.toList_append, Array.toList_append, List.flatMap_append]
        exact List.take_left' (by rw [List.length_append, hl1, hl2, ← Nat.add_mul])
    rcases hown.2 with ⟨rfl, h0⟩ | ⟨g, gcap, cur, rfl, hbg, hg, hnc, hcm, hcs, htake⟩
    · obtain rfl : l = [] := List.eq_nil_of_length_eq_zero h0
      have hr := fun ty => run_append_nil (P := P) w t ty e i0 z ht hi0 hz0 ⟨b, off, none⟩ l2.length cap (l2.flatMap enc) hl2 hcell (by
        rcases Nat.eq_zero_or_pos l2.length with q | q
        · rw [q] at hsm; simp at hsm
        · exact q) (by simp at hm; omega) (by simp at hb; omega)
      have hf := fresh 0 (by
        rcases Nat.eq_zero_or_pos l2.length with q | q
        · rw [q] at hsm; simp at hsm
        · simpa using q)
      refine ⟨_, _, _, fun ty => ?_, hf, (Upd.refl _ _).drew.alloc _, .inr rfl⟩
      rw [hr ty]
      simp
    · by_cases hroom : l.length + l2.length ≤ gcap
      · have hr := fun ty => run_append_room (P := P) w t ty e i0 ht hi0 g l.length gcap cur hg ⟨b, off, none⟩ l2.length cap (l2.flatMap enc) hl2 hcell hones hroom (by rw [hl2, hcs, ← Nat.add_mul]; exact Nat.mul_le_mul_right _ hroom)
        refine ⟨some ⟨g, 0, none⟩, gcap, _, fun ty => by rw [hr ty, hlen], ⟨by rw [hflat, hlen], .inr ⟨g, gcap, _, rfl, hbg, setRow_heap w g cur _ e _ hg, by rw [hlen]; exact hroom, hcm, ?_, ?_⟩⟩, ⟨rfl, rfl, rfl, by simp, fun q _ hq => setRow_other w g q _ (fun e => hq (by simp [Value.ownBlock, e]))⟩, .inl rfl⟩
        · have h5 : (l.length + l2.length) * i0.size ≤ gcap * i0.size := Nat.mul_le_mul_right _ hroom
          rw [Nat.add_mul] at h5
          simp only [List.size_toArray, List.length_append, List.length_take, List.length_drop, Array.length_toList, hl2, hcs]
          omega
        · rw [htake, List.flatMap_append, hlen]
          exact List.take_left' (by rw [List.length_append, hl1, hl2, ← Nat.add_mul])
      · have hold : ∀ j u, (l.flatMap enc)[j]? = some u → w.cell? ((⟨g, 0, none⟩ : Addr).add j) = some u := hown.cells (g := g) rfl
        have hr := fun ty => run_append_grow (P := P) w t ty e i0 z ht hi0 hz0 ⟨g, 0, none⟩ l.length gcap (l.flatMap enc) hl1 hold ⟨b, off, none⟩ l2.length cap (l2.flatMap enc) hl2 hcell (by omega) (by omega) (cap_fits (by omega) hb hby)
        exact ⟨_, _, _, fun ty => by rw [hr ty, hlen], fresh gcap (by omega), (Upd.refl _ _).drew.alloc _, .inr rfl⟩
end

end Go.Tb
