/-
  Settle, Copy.
-/
import Derived.Test.YtdobijomdgepjaaFreeF
import Derived.Deep.RegionLaw
namespace Go.Proofs.Ytdobijomdgepjaa
open Go.RowKit Go.Tb Go.MapKept Go.ChangeMaps
set_option linter.unusedVariables false

theorem settle_nil (w : World) : Calls Try.prog 16 #[.pointer none] w fun e w' => e = .returned (.tuple #[]) ∧ w' = w := by
  go_enter Try.func16, Try.ntmps16
  go_wp2
  refine bodyPost_ret (results_none rfl _ _ _) rfl ?_
  exact ⟨rfl, rfl⟩
theorem copy_nil (w : World) : Calls Try.prog 19 #[.pointer none] w fun e w' => e = .returned (.pointer none) ∧ w' = w := by
  go_enter Try.func19, Try.ntmps19
  go_wp2
  go_ret
  exact ⟨rfl, rfl⟩

set_option maxRecDepth 100000 in
set_option maxHeartbeats 1000000 in
theorem settle_calls (b : Nat) (vs vh : Value) (L : LS) (I : Nat → Prop) (w : World) (h : IsList w b vs vh L I) (hdj : Dj L) :
    Calls Try.prog 16 #[.pointer (some ⟨b, 0, none⟩)] w fun e w' => e = .returned (.tuple #[]) ∧ ListStep w w' b L.settle I := by
  have c1 : w.cell? ⟨b, 1, none⟩ = some vs := cell_of h.blk 1
  have c2 : w.cell? ⟨b, 2, none⟩ = some vh := cell_of h.blk 2
  have f1 : w.frozen? ⟨b, 1, none⟩ = false := free_of h.blk 1
  have hbw := lt_of_heap h.blk
  have hcl := clone_calls vs L.spare w.drew (h.sp.grow (Upd.refl _ w).drew) (by have := h.ok.ls; omega)
  have H := Lib.hid h
  have Hok := Lib.hid (h.ok.settle hdj)
  have Hls := Lib.hid h.ok.ls
  have Hlh := Lib.hid h.ok.lh
  have Hal := Lib.hid (fun (w1 : World) (v1 : Value) (ho : w1.ownsRow w.heap.size 3 1 v1 L.spare.length (L.spare.flatMap ienc)) (hu : Upd (fun _ => False) w w1) => append_any ho (h.hd.grow hu) hu.size (by have := h.ok.ls; have := h.ok.lh; omega))
  clear h hdj
  go_enter Try.func16, Try.ntmps16
  go_wp2
  go_region_law (first | (refine step_append hap (by rfl) (by rfl) (by rfl) (by rfl) ?_) | (go_simp; go_at_call 28; refine hcl.mono ?_; rintro e w1 ⟨v1, rfl, ho1, hu1⟩; obtain ⟨v2, w2, hap, ho2, hu2⟩ := Hal.out w1 v1 ho1 hu1.undrew; obtain ⟨a2, p2, hv2, -⟩ := (sl_of_own ienc_length ho2).1.shape; generalize hnn : (L.spare ++ L.held).length = n at hv2; have HN := Lib.hid hnn; clear hnn; subst hv2; have hbn : ¬ some b = v1.ownBlock := (fun e => by have hh : w.heap.size ≤ b := (ho1.lt b e.symm).1; omega); have hc2' := hu1.undrew.cell c2 (fun x => x); have hc1' := hu1.undrew.cell c1 (fun x => x); have hc2 := hu2.cell hc2' hbn; have hc1 := hu2.cell hc1' hbn; have hf1 := free_of (hu2.heap (hu1.undrew.heap H.out.blk (fun x => x)) hbn) 1))
  all_goals
    have hblk2 := hu2.heap (hu1.undrew.heap H.out.blk (fun x => x)) hbn
    have hne : ∀ k, sliceBlock (.slice a2 n p2) = some k → k ≠ b := fun k hk e => by
      have := (sl_of_own ienc_length ho2).2 k hk
      omega
    have hu3 : Upd (fun k => k = b) w2 (w2.setCell ⟨b, 1, none⟩ (.slice a2 n p2)) := upd_setCell _ _ _ _ rfl
    have hblk3 : (w2.setCell ⟨b, 1, none⟩ (.slice a2 n p2)).heap[b]? = some (.cells #[.int .i64 L.size, .slice a2 n p2, vh] 53 (0, 0)) := by rw [heap_setCell_at hblk2]; rfl
    have hc3 : (w2.setCell ⟨b, 1, none⟩ (.slice a2 n p2)).cell? ⟨b, 1, none⟩ = some (.slice a2 n p2) := cell_of hblk3 1
    have hst := sort_calls w.heap.size _ (L.spare ++ L.held) _ (own_upd' ho2 hu3 hne) (by rw [List.length_append]; have := Hls.out; have := Hlh.out; omega)
    have hu13 : Upd (fun k => k = b) w (w2.setCell ⟨b, 1, none⟩ (.slice a2 n p2)) := (hu1.undrew.trans' hu2 (fun x hx e => by have hh : w.heap.size ≤ x := (ho1.lt x e.symm).1; omega)).seq hu3 _ (fun _ _ h => h.elim) (fun _ _ h => h)
    have Hne := Lib.hid hne
    have Hlt := Lib.hid (fun k hk => (sl_of_own ienc_length ho2).2 k hk)
    generalize w2.setCell ⟨b, 1, none⟩ (.slice a2 n p2) = w3 at *
    clear hap ho2 ho1 hu1 hu2 hu3 hc1 hc2 hc1' hc2' hf1 hblk2 hne hbn hcl
    go_wp2_with (go_at_call 29; refine hst.mono ?_; rintro e w4 ⟨rfl, hs4, hu4⟩; have hblk4 := hu4.heap hblk3 (fun e => Hne.out b e.symm rfl); have q2 := cell_of hblk4 2; have z2 := free_of hblk4 2)
    go_end0
    have hu5 : Upd (fun k => k = b) w4 (w4.setCell ⟨b, 2, none⟩ (.slice none 0 0)) := upd_setCell _ _ _ _ rfl
    refine ⟨rfl, ⟨.slice a2 n p2, .slice none 0 0, fun x => sliceBlock (.slice a2 n p2) = some x, ?_, fun x hx => .inr (Hlt.out x hx)⟩, ?_⟩
    · exact { blk := by rw [heap_setCell_at hblk4]; rfl
              sp := hs4.upd hu5 Hne.out
              hd := sl_nil _ _
              is := fun k hk => hk
              ih := fun k hk => (by cases hk)
              bd := fun k hk => Nat.lt_of_lt_of_le (hs4.lt hk) hu5.size
              nb := fun hk => Hne.out b hk rfl
              ok := Hok.out }
    · exact (hu13.trans' hu4 (fun x hx e => by have hh := Hlt.out x e.symm; omega)).trans hu5

set_option maxRecDepth 100000 in
set_option maxHeartbeats 1000000 in
theorem copyl_calls (b : Nat) (vs vh : Value) (L : LS) (I : Nat → Prop) (w : World) (h : IsList w b vs vh L I) :
    Calls Try.prog 19 #[.pointer (some ⟨b, 0, none⟩)] w fun e w' => ∃ b' vs' vh' J, e = .returned (.pointer (some ⟨b', 0, none⟩)) ∧ IsList w' b' vs' vh' L J ∧ w.heap.size ≤ b' ∧ (∀ x, J x → w.heap.size ≤ x) ∧ Upd (fun _ => False) w w' := by
  have c0 : w.cell? ⟨b, 0, none⟩ = some (.int .i64 L.size) := cell_of h.blk 0
  have c1 : w.cell? ⟨b, 1, none⟩ = some vs := cell_of h.blk 1
  have c2 : w.cell? ⟨b, 2, none⟩ = some vh := cell_of h.blk 2
  have hbw := lt_of_heap h.blk
  have H := Lib.hid h
  have hcs := clone_calls vs L.spare w.drew (h.sp.grow (Upd.refl _ w).drew) (by have := h.ok.ls; omega)
  have hch := fun w1 (hu : Upd (fun _ => False) w w1) => clone_calls vh L.held w1 (h.hd.grow hu) (by have := h.ok.lh; omega)
  clear h
  go_enter Try.func19, Try.ntmps19
  go_wp2
  go_region_held3 (fun w' => w'.cell? ⟨b, 0, none⟩ = some (.int .i64 L.size) ∧ w'.cell? ⟨b, 1, none⟩ = some vs ∧ w'.cell? ⟨b, 2, none⟩ = some vh)
    (first | exact ⟨c0, c1, c2⟩ | exact ⟨hu1.cell c0 (fun x => x), hu1.cell c1 (fun x => x), hu1.cell c2 (fun x => x)⟩ | exact ⟨hu2.cell (hu1.cell c0 (fun x => x)) (fun x => x), hu2.cell (hu1.cell c1 (fun x => x)) (fun x => x), hu2.cell (hu1.cell c2 (fun x => x)) (fun x => x)⟩ | exact ⟨(upd_alloc (fun _ => False) w2 _).cell (hu2.cell (hu1.cell c0 (fun x => x)) (fun x => x)) (fun x => x), (upd_alloc (fun _ => False) w2 _).cell (hu2.cell (hu1.cell c1 (fun x => x)) (fun x => x)) (fun x => x), (upd_alloc (fun _ => False) w2 _).cell (hu2.cell (hu1.cell c2 (fun x => x)) (fun x => x)) (fun x => x)⟩)
    (first | (go_at_call 28; refine hcs.mono ?_; rintro e w1 ⟨v1, rfl, ho1, hu1⟩; obtain ⟨a1, p1, rfl, -⟩ := (sl_of_own ienc_length ho1).1.shape) | (go_at_call 28; (with_reducible refine (hch w1 hu1.undrew).mono ?_); rintro e w2 ⟨v2, rfl, ho2, hu2⟩; obtain ⟨a2, p2, rfl, -⟩ := (sl_of_own ienc_length ho2).1.shape))
  all_goals
    have s1 := sl_of_own ienc_length ho1
    have s2 := sl_of_own ienc_length ho2
    have hblk := (heap_alloc w2 (.cells #[.int .i64 L.size, .slice a1 L.spare.length p1, .slice a2 L.held.length p2] 53)).1
    have hu3 := upd_alloc (fun _ => False) w2 (.cells #[.int .i64 L.size, .slice a1 L.spare.length p1, .slice a2 L.held.length p2] 53)
    have Hf := Lib.hid (And.intro s1 (And.intro s2 (And.intro hblk hu3)))
    clear s1 s2 hblk hu3
    generalize w2.alloc (.cells #[.int .i64 L.size, .slice a1 L.spare.length p1, .slice a2 L.held.length p2] 53) = w3 at *
    go_wp2
    go_ret
    obtain ⟨s1, s2, hblk, hu3⟩ := Hf.out
    have hs12 := hu2.size
    have hs01 : w.heap.size ≤ w1.heap.size := hu1.size
    refine ⟨w2.heap.size, .slice a1 L.spare.length p1, .slice a2 L.held.length p2, fun x => sliceBlock (.slice a1 L.spare.length p1) = some x ∨ sliceBlock (.slice a2 L.held.length p2) = some x, rfl, ?_, by omega, ?_, (hu1.undrew.trans hu2).trans hu3⟩
    · exact { blk := hblk
              sp := (s1.1.grow hu2).grow hu3
              hd := s2.1.grow hu3
              is := fun k hk => .inl hk
              ih := fun k hk => .inr hk
              bd := fun k hk => hk.elim (fun e => Nat.lt_of_lt_of_le (s1.1.lt e) (Nat.le_trans hs12 hu3.size)) (fun e => Nat.lt_of_lt_of_le (s2.1.lt e) hu3.size)
              nb := fun hk => hk.elim (fun e => by have := s1.1.lt e; omega) (fun e => by have := s2.1.lt e; omega)
              ok := H.out.ok }
    · exact fun x hx => hx.elim (fun e => s1.2 x e) (fun e => Nat.le_trans hs01 (s2.2 x e))

end Go.Proofs.Ytdobijomdgepjaa
