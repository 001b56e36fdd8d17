/-
  Give, Hold, Take, Room, Spare, Held.
-/
import Derived.Test.YtdobijomdgepjaaFreeC
namespace Go.Proofs.Ytdobijomdgepjaa
open Go.RowKit Go.Tb Go.MapKept Go.ChangeMaps Go.Lib
set_option linter.unusedVariables false

/-- A method was called on a list: it is `L` now; of what was there only its struct has turned. -/
def ListStep (w w' : World) (b : Nat) (L : LS) (I : Nat → Prop) : Prop :=
  (∃ vs vh J, IsList w' b vs vh L J ∧ ∀ x, J x → I x ∨ w.heap.size ≤ x) ∧ Upd (fun k => k = b) w w'

def LS.give (L : LS) (id : Int) : LS := if L.check id = 0 then { L with spare := insl id L.spare } else L
def LS.hold (L : LS) (id : Int) : LS := if L.check id = 0 then { L with held := insl id L.held } else L
def LS.take (L : LS) : LS := { L with spare := L.spare.drop 1 }
def LS.takes (L : LS) : Value := .tuple #[.int .i64 (L.spare.headD 0), .int .i64 (match L.spare with | [] => 9 | _ => 0)]

theorem check_zero {L : LS} {id : Int} (h : L.check id = 0) : (2 ≤ id ∧ id < L.size) ∧ id ∉ L.spare ∧ id ∉ L.held := by
  unfold LS.check at h
  split at h
  · rename_i hr
    split at h
    · cases h
    · rename_i hn
      exact ⟨hr, fun x => hn (.inl x), fun x => hn (.inr x)⟩
  · cases h

theorem LS.Ok.give {L : LS} (h : L.Ok) (id : Int) : (L.give id).Ok := by
  unfold LS.give
  split
  · rename_i hc
    obtain ⟨hr, h1, h2⟩ := check_zero hc
    exact ⟨h.s1, h.s2, insl_sorted h.ss h1, h.sh, fun x hx => (mem_insl.1 hx).elim (fun e => e ▸ hr) (fun hx => h.rs x hx), h.rh⟩
  · exact h
theorem LS.Ok.hold {L : LS} (h : L.Ok) (id : Int) : (L.hold id).Ok := by
  unfold LS.hold
  split
  · rename_i hc
    obtain ⟨hr, h1, h2⟩ := check_zero hc
    exact ⟨h.s1, h.s2, h.ss, insl_sorted h.sh h2, h.rs, fun x hx => (mem_insl.1 hx).elim (fun e => e ▸ hr) (fun hx => h.rh x hx)⟩
  · exact h
theorem LS.Ok.take {L : LS} (h : L.Ok) : L.take.Ok :=
  { s1 := h.s1, s2 := h.s2, sh := h.sh, rh := h.rh, ss := h.ss.sublist (List.drop_sublist 1 _), rs := fun x hx => h.rs x (List.mem_of_mem_drop hx) }

theorem give_nil (id : Int) (w : World) : Calls Try.prog 12 #[.pointer none, .int .i64 id] w fun e w' => e = .returned (.int .i64 1) ∧ w' = w := by
  go_enter Try.func12, Try.ntmps12
  go_wp2_with (go_at_call 26; refine (check_nil id w).mono ?_; rintro e w' ⟨rfl, rfl⟩)
  go_ret
  exact ⟨rfl, rfl⟩

set_option maxHeartbeats 1000000 in
theorem give_calls (b : Nat) (vs vh : Value) (L : LS) (I : Nat → Prop) (id : Int) (w : World) (h : IsList w b vs vh L I) :
    Calls Try.prog 12 #[.pointer (some ⟨b, 0, none⟩), .int .i64 id] w fun e w' => e = .returned (.int .i64 (L.check id)) ∧ ListStep w w' b (L.give id) I := by
  have hck := check_calls b vs vh L I id w h
  have c1 : w.cell? ⟨b, 1, none⟩ = some vs := cell_of h.blk 1
  have f1 : w.frozen? ⟨b, 1, none⟩ = false := free_of h.blk 1
  have hwt := with_calls vs L.spare id w h.sp h.ok.ss h.ok.ls
  have hok := h.ok.give id
  by_cases hz : L.check id = 0
  · rw [hz] at hck
    have hg : L.give id = { L with spare := insl id L.spare } := if_pos hz
    rw [hg] at hok ⊢
    rw [hz]
    have H := Lib.hid h
    have Hok := Lib.hid hok
    have Hb := Lib.hid (lt_of_heap h.blk)
    clear h hz hg hok
    go_enter Try.func12, Try.ntmps12
    go_wp2_with (first
      | (go_at_call 26; refine hck.mono ?_; rintro e w' ⟨rfl, rfl⟩)
      | (go_at_call 27; refine hwt.mono ?_; rintro e w1 ⟨v1, rfl, hs1, hb1, hu1⟩; have c1' := hu1.cell c1 (fun x => x); have f1' := free_of (hu1.heap H.out.blk (fun x => x)) 1; have B1 := Lib.hid hb1; clear hb1; obtain ⟨va, vc, hv1, _⟩ := hs1.shape; generalize (insl id _).length = vn at hv1; subst hv1))
    go_ret
    have hl := H.out.grow hu1
    refine ⟨rfl, ⟨.slice va vn vc, vh, fun x => I x ∨ sliceBlock (.slice va vn vc) = some x, ?_, ?_⟩, ?_⟩
    · have hu2 : Upd (fun k => k = b) w1 (w1.setCell ⟨b, 1, none⟩ (.slice va vn vc)) := upd_setCell _ _ _ _ rfl
      have hne : ∀ k, sliceBlock (.slice va vn vc) = some k → k ≠ b := fun k hk e => by have := B1.out k hk; have := Hb.out; omega
      have hI : ∀ k, I k → k ≠ b := fun k hk e => hl.nb (e ▸ hk)
      exact { blk := by rw [heap_setCell_at hl.blk]; rfl
              sp := hs1.upd hu2 hne
              hd := hl.hd.upd hu2 (fun k hk => hI k (hl.ih k hk))
              is := fun k hk => .inr hk
              ih := fun k hk => .inl (hl.ih k hk)
              bd := fun k hk => Nat.lt_of_lt_of_le (hk.elim (hl.bd k) (fun e => hs1.lt e)) hu2.size
              nb := fun hk => hk.elim hl.nb (fun e => hne b e rfl)
              ok := Hok.out }
    · exact fun x hx => hx.imp (fun h => h) (fun e => B1.out x e)
    · exact (hu1.weak _).trans (upd_setCell _ _ _ _ rfl)
  · have hg : L.give id = L := if_neg hz
    rw [hg]
    have H := Lib.hid h
    clear h hg hok hwt
    generalize L.check id = n at *
    go_enter Try.func12, Try.ntmps12
    go_wp2_with (go_at_call 26; refine hck.mono ?_; rintro e w' ⟨rfl, rfl⟩)
    go_ret
    exact ⟨rfl, ⟨vs, vh, I, H.out, fun x => .inl⟩, Upd.refl _ _⟩

theorem hold_nil (id : Int) (w : World) : Calls Try.prog 15 #[.pointer none, .int .i64 id] w fun e w' => e = .returned (.int .i64 1) ∧ w' = w := by
  go_enter Try.func15, Try.ntmps15
  go_wp2_with (go_at_call 26; refine (check_nil id w).mono ?_; rintro e w' ⟨rfl, rfl⟩)
  go_ret
  exact ⟨rfl, rfl⟩

set_option maxHeartbeats 1000000 in
theorem hold_calls (b : Nat) (vs vh : Value) (L : LS) (I : Nat → Prop) (id : Int) (w : World) (h : IsList w b vs vh L I) :
    Calls Try.prog 15 #[.pointer (some ⟨b, 0, none⟩), .int .i64 id] w fun e w' => e = .returned (.int .i64 (L.check id)) ∧ ListStep w w' b (L.hold id) I := by
  have hck := check_calls b vs vh L I id w h
  have c1 : w.cell? ⟨b, 2, none⟩ = some vh := cell_of h.blk 2
  have f1 : w.frozen? ⟨b, 2, none⟩ = false := free_of h.blk 2
  have hwt := with_calls vh L.held id w h.hd h.ok.sh h.ok.lh
  have hok := h.ok.hold id
  by_cases hz : L.check id = 0
  · rw [hz] at hck
    have hg : L.hold id = { L with held := insl id L.held } := if_pos hz
    rw [hg] at hok ⊢
    rw [hz]
    have H := Lib.hid h
    have Hok := Lib.hid hok
    have Hb := Lib.hid (lt_of_heap h.blk)
    clear h hz hg hok
    go_enter Try.func15, Try.ntmps15
    go_wp2_with (first
      | (go_at_call 26; refine hck.mono ?_; rintro e w' ⟨rfl, rfl⟩)
      | (go_at_call 27; refine hwt.mono ?_; rintro e w1 ⟨v1, rfl, hs1, hb1, hu1⟩; have c1' := hu1.cell c1 (fun x => x); have f1' := free_of (hu1.heap H.out.blk (fun x => x)) 2; have B1 := Lib.hid hb1; clear hb1; obtain ⟨va, vc, hv1, _⟩ := hs1.shape; generalize (insl id _).length = vn at hv1; subst hv1))
    go_ret
    have hl := H.out.grow hu1
    refine ⟨rfl, ⟨vs, .slice va vn vc, fun x => I x ∨ sliceBlock (.slice va vn vc) = some x, ?_, ?_⟩, ?_⟩
    · have hu2 : Upd (fun k => k = b) w1 (w1.setCell ⟨b, 2, none⟩ (.slice va vn vc)) := upd_setCell _ _ _ _ rfl
      have hne : ∀ k, sliceBlock (.slice va vn vc) = some k → k ≠ b := fun k hk e => by have := B1.out k hk; have := Hb.out; omega
      have hI : ∀ k, I k → k ≠ b := fun k hk e => hl.nb (e ▸ hk)
      exact { blk := by rw [heap_setCell_at hl.blk]; rfl
              hd := hs1.upd hu2 hne
              sp := hl.sp.upd hu2 (fun k hk => hI k (hl.is k hk))
              ih := fun k hk => .inr hk
              is := fun k hk => .inl (hl.is k hk)
              bd := fun k hk => Nat.lt_of_lt_of_le (hk.elim (hl.bd k) (fun e => hs1.lt e)) hu2.size
              nb := fun hk => hk.elim hl.nb (fun e => hne b e rfl)
              ok := Hok.out }
    · exact fun x hx => hx.imp (fun h => h) (fun e => B1.out x e)
    · exact (hu1.weak _).trans (upd_setCell _ _ _ _ rfl)
  · have hg : L.hold id = L := if_neg hz
    rw [hg]
    have H := Lib.hid h
    clear h hg hok hwt
    generalize L.check id = n at *
    go_enter Try.func15, Try.ntmps15
    go_wp2_with (go_at_call 26; refine hck.mono ?_; rintro e w' ⟨rfl, rfl⟩)
    go_ret
    exact ⟨rfl, ⟨vs, vh, I, H.out, fun x => .inl⟩, Upd.refl _ _⟩

theorem take_nil (w : World) : Calls Try.prog 10 #[.pointer none] w fun e w' => e = .returned (.tuple #[.int .i64 0, .int .i64 1]) ∧ w' = w := by
  go_enter Try.func10, Try.ntmps10
  go_wp2
  go_ret2
  exact ⟨rfl, rfl⟩

set_option maxHeartbeats 1000000 in
theorem take_calls (b : Nat) (vs vh : Value) (L : LS) (I : Nat → Prop) (w : World) (h : IsList w b vs vh L I) :
    Calls Try.prog 10 #[.pointer (some ⟨b, 0, none⟩)] w fun e w' => e = .returned L.takes ∧ ListStep w w' b L.take I := by
  have c1 : w.cell? ⟨b, 1, none⟩ = some vs := cell_of h.blk 1
  have f1 : w.frozen? ⟨b, 1, none⟩ = false := free_of h.blk 1
  cases hs : L.spare with
  | nil =>
    have h1 := h.sp
    rw [hs] at h1
    obtain ⟨a, cap, rfl, hc⟩ := h1.shape
    have H := Lib.hid h
    have Hs := Lib.hid hs
    clear h hs h1
    go_enter Try.func10, Try.ntmps10
    go_wp2
    go_ret2
    refine ⟨?_, ⟨.slice a ([] : List Int).length cap, vh, I, ?_, fun x => .inl⟩, Upd.refl _ _⟩
    · unfold LS.takes; rw [Hs.out]; rfl
    · have e : L.take = L := by unfold LS.take; rw [Hs.out]; simp only [List.drop_nil]; rw [← Hs.out]
      rw [e]; exact H.out
  | cons x r =>
    have h1 := h.sp
    rw [hs] at h1
    obtain ⟨rb, off, cap, rfl, hc, hlt, hcs⟩ := h1.block (by simp)
    have hx : w.cell? ⟨rb, off, none⟩ = some (.int .i64 x) := by simpa using ints_cell h1 0 (by simp)
    obtain ⟨o1, n1, c1', hsl, hsd⟩ := Sl.slice_from (P := Try.prog) (t := 51) (e := 3) under_rising (by obtain ⟨i0, hi0, h0, h1, h2⟩ := info_parts info_int; rw [hi0]; simp [h1]) h1 ienc_length hc 1 (by simp)
    have H := Lib.hid h
    have Hs := Lib.hid hs
    have Hsd := Lib.hid hsd
    have hlp : ¬ (((x :: r).length : Nat) : Int) = 0 := by rw [List.length_cons]; omega
    have hlq : (0 : Int) < (((x :: r).length : Nat) : Int) := by rw [List.length_cons]; omega
    generalize (x :: r).length = n at *
    clear h hs h1 hcs hsd hlt
    have hsl' : ∀ w, (Instr.slice 51 (.slice (some ⟨rb, off, none⟩) n cap) (some (.int .i64 1)) none none).run Try.prog w = .ok (.slice (some ⟨rb, o1, none⟩) n1 c1') w := hsl
    clear hsl
    go_enter Try.func10, Try.ntmps10
    go_wp2
    go_ret2
    have hu2 : Upd (fun k => k = b) w (w.setCell ⟨b, 1, none⟩ (.slice (some ⟨rb, o1, none⟩) n1 c1')) := upd_setCell _ _ _ _ rfl
    have hl := H.out
    have hI : ∀ k, I k → k ≠ b := fun k hk e => hl.nb (e ▸ hk)
    refine ⟨?_, ⟨.slice (some ⟨rb, o1, none⟩) n1 c1', vh, I, ?_, fun x => .inl⟩, hu2⟩
    · unfold LS.takes; rw [Hs.out]; rfl
    · exact { blk := by rw [heap_setCell_at hl.blk]; rfl
              sp := by
                have e : L.take.spare = (x :: r).drop 1 := by unfold LS.take; rw [Hs.out]
                rw [e]
                exact Hsd.out.upd hu2 (fun k hk => hI k (hl.is k (by cases hk; rfl)))
              hd := hl.hd.upd hu2 (fun k hk => hI k (hl.ih k hk))
              is := fun k hk => hl.is k (by cases hk; rfl)
              ih := hl.ih
              bd := fun k hk => Nat.lt_of_lt_of_le (hl.bd k hk) hu2.size
              nb := hl.nb
              ok := hl.ok.take }

theorem room_nil (w : World) : Calls Try.prog 11 #[.pointer none] w fun e w' => e = .returned (.int .i64 0) ∧ w' = w := by
  go_enter Try.func11, Try.ntmps11
  go_wp2
  go_ret
  exact ⟨rfl, rfl⟩
theorem room_calls (b : Nat) (vs vh : Value) (L : LS) (I : Nat → Prop) (w : World) (h : IsList w b vs vh L I) :
    Calls Try.prog 11 #[.pointer (some ⟨b, 0, none⟩)] w fun e w' => e = .returned (.int .i64 (L.spare.length : Nat)) ∧ w' = w := by
  have c1 : w.cell? ⟨b, 1, none⟩ = some vs := cell_of h.blk 1
  obtain ⟨a, cap, rfl, hc⟩ := h.sp.shape
  clear h
  go_enter Try.func11, Try.ntmps11
  go_wp2
  go_ret
  exact ⟨rfl, rfl⟩

theorem spare_nil (w : World) : Calls Try.prog 14 #[.pointer none] w fun e w' => e = .returned (.slice none 0 0) ∧ w' = w := by
  go_enter Try.func14, Try.ntmps14
  go_wp2
  go_ret
  exact ⟨rfl, rfl⟩
theorem spare_calls (b : Nat) (vs vh : Value) (L : LS) (I : Nat → Prop) (w : World) (h : IsList w b vs vh L I) :
    Calls Try.prog 14 #[.pointer (some ⟨b, 0, none⟩)] w fun e w' => ∃ v, e = .returned v ∧ Sl ienc w' v L.spare ∧ (∀ k, sliceBlock v = some k → w.heap.size ≤ k) ∧ Upd (fun _ => False) w w' := by
  have c1 : w.cell? ⟨b, 1, none⟩ = some vs := cell_of h.blk 1
  have hcl := clone_calls vs L.spare w h.sp (by have := h.ok.ls; omega)
  clear h
  go_enter Try.func14, Try.ntmps14
  go_wp2_with (go_at_call 28; refine hcl.mono ?_; rintro e w1 ⟨v1, rfl, ho1, hu1⟩)
  go_ret
  have := sl_of_own ienc_length ho1
  exact ⟨_, rfl, this.1, this.2, hu1⟩
theorem held_nil (w : World) : Calls Try.prog 17 #[.pointer none] w fun e w' => e = .returned (.slice none 0 0) ∧ w' = w := by
  go_enter Try.func17, Try.ntmps17
  go_wp2
  go_ret
  exact ⟨rfl, rfl⟩
theorem held_calls (b : Nat) (vs vh : Value) (L : LS) (I : Nat → Prop) (w : World) (h : IsList w b vs vh L I) :
    Calls Try.prog 17 #[.pointer (some ⟨b, 0, none⟩)] w fun e w' => ∃ v, e = .returned v ∧ Sl ienc w' v L.held ∧ (∀ k, sliceBlock v = some k → w.heap.size ≤ k) ∧ Upd (fun _ => False) w w' := by
  have c1 : w.cell? ⟨b, 2, none⟩ = some vh := cell_of h.blk 2
  have hcl := clone_calls vh L.held w h.hd (by have := h.ok.lh; omega)
  clear h
  go_enter Try.func17, Try.ntmps17
  go_wp2_with (go_at_call 28; refine hcl.mono ?_; rintro e w1 ⟨v1, rfl, ho1, hu1⟩)
  go_ret
  have := sl_of_own ienc_length ho1
  exact ⟨_, rfl, this.1, this.2, hu1⟩

end Go.Proofs.Ytdobijomdgepjaa
