/-
  An act on a lessor and on the document's: Tick, Grant, Keep, Revoke.
-/
import Derived.Test.YtcbngjlgcgcljaaGreatRelS
import Derived.Deep.RegionHeld3
import Derived.StillTailTactics
namespace Go.Proofs.YtcbngjlgcgcljaaGreat
open Go.RowKit Go.Tb Go.MapKept Go.ChangeMaps Go.Lib
set_option linter.unusedVariables false

def DoSays (F : Nat → Prop) (b ml mk rb j : Nat) (w : World) (e : Ending) (w' : World) : Prop :=
  e = .returned (.bool true) ∧ (∃ L R, Both F w' b ml mk rb L R j) ∧ Upd (fun k => k = b ∨ k = ml ∨ k = mk ∨ k = rb) w w'

theorem Both.says {F : Nat → Prop} {w w1 w2 : World} {b ml mk rb : Nat} {L L' : LS} {R R' : RS} {j i : Nat} (h : Both F w b ml mk rb L R j) (hls : IsLs w1 b ml mk L') (hu1 : Upd (fun k => k = b ∨ k = ml ∨ k = mk) w w1) (hu2 : Upd (fun k => k = rb) w1 w2)
    (href : IsRef F w2 rb R') (hok : LOk L') (hkok : KOk L') (hnk : L'.nk ≤ i) (hrel : Rel L' R') : DoSays F b ml mk rb i w (.returned (.bool true)) w2 :=
  ⟨rfl, ⟨L', R', h.fin hls hu1 hu2 href hok hkok hnk hrel⟩, (hu1.mono (fun _ _ e => by rcases e with e | e | e; exact .inl e; exact .inr (.inl e); exact .inr (.inr (.inl e)))).trans (hu2.mono (fun _ _ e => .inr (.inr (.inr e))))⟩
theorem Both.same {F : Nat → Prop} {w w2 : World} {b ml mk rb : Nat} {L : LS} {R : RS} {j i : Nat} (h : Both F w b ml mk rb L R j) (hi : j ≤ i) (hu : Upd (fun _ => False) w w2) : DoSays F b ml mk rb i w (.returned (.bool true)) w2 :=
  ⟨rfl, ⟨L, R, (h.more hi).grow hu⟩, hu.weak _⟩

/-- The document's clock goes on. -/
theorem IsRef.tick {F : Nat → Prop} {w : World} {rb : Nat} {R : RS} (h : IsRef F w rb R) (n : Int) : IsRef F (w.setCell ⟨rb, 0, none⟩ (.int .i64 n)) rb { R with now := n } := by
  obtain ⟨v, h1, h2, h3⟩ := h.blk
  have hu := upd_setCell (fun k => k = rb) w ⟨rb, 0, none⟩ (.int .i64 n) rfl
  refine { blk := ⟨v, by rw [heap_setCell_at h1 0 _]; rfl, h2.upd hu (fun g hg e => h3 g hg (e ▸ h.self)), h3⟩, ok := fun r hr => (h.ok r hr).upd hu (fun k _ e => e ▸ h.self), self := h.self }

theorem rlater_any (now n : Int) (w : World) (h0 : 0 ≤ now) (h1 : now ≤ topT) (h2 : 0 ≤ n) : Calls Tryz.prog 16 #[.int .i64 now, .int .i64 n] w fun e w' => e = .returned (.int .i64 (laterI now n)) ∧ w' = w := by
  by_cases h3 : n ≤ 9223372036854775807
  · exact (rlater_calls now n w h0 h1 h2 h3).mono fun e w' ⟨a, b⟩ => ⟨a, b.symm⟩
  · unfold topT at h1
    have a2 : (4611686018427387904 : Int) ≤ n := by omega
    have e : laterI now n = 4611686018427387904 := by unfold laterI topT; split <;> omega
    rw [e]; clear e h3
    by_cases a1 : (4611686018427387904 : Int) ≤ now
    all_goals
      go_enter Tryz.func16, Tryz.ntmps16
      go_wp2
      go_ret
      exact ⟨rfl, rfl⟩

set_option maxRecDepth 100000 in
set_option maxHeartbeats 1000000 in
theorem do_tick (F : Nat → Prop) (b ml mk rb j : Nat) (L : LS) (R : RS) (id n : Int) (ka : Option Addr) (kn kc : Nat) (w : World) (h : Both F w b ml mk rb L R j) :
    Calls Tryz.prog 8 #[.pointer (some ⟨b, 0, none⟩), .pointer (some ⟨rb, 0, none⟩), .agg #[.int .i64 0, .int .i64 id, .int .i64 n, .slice ka kn kc]] w (DoSays F b ml mk rb (j + 1) w) := by
  have hua := upd_alloc (fun _ => False) w (.cells #[.int .i64 0, .int .i64 id, .int .i64 n, .slice ka kn kc] 34)
  have ha := heap_alloc w (.cells #[.int .i64 0, .int .i64 id, .int .i64 n, .slice ka kn kc] 34)
  have h1 := h.grow hua
  have H := Lib.hid h
  have H1 := Lib.hid h1
  have HUA := Lib.hid hua
  by_cases hn : n < 0
  · have htk := tick_neg b n (w.alloc (.cells #[.int .i64 0, .int .i64 id, .int .i64 n, .slice ka kn kc] 34)) hn
    have hdn : decide (0 ≤ n) = false := by simp; omega
    clear h h1 hua ha
    go_enter Tryz.func8, Tryz.ntmps8
    go_wp2_with (go_at_call 13; (with_reducible refine htk.mono ?_); rintro e1 w1 ⟨rfl, rfl⟩)
    go_ret
    exact H.out.same (Nat.le_succ _) HUA.out
  · have hn0 : 0 ≤ n := by omega
    have htk := tick_calls b ml mk L n (w.alloc (.cells #[.int .i64 0, .int .i64 id, .int .i64 n, .slice ka kn kc] 34)) h1.ls h1.ok hn0
    have hg : b ≠ w.heap.size ∧ rb ≠ w.heap.size := by
      have h1 := h.hF b h.fb; have h2 := h.hF rb h.ref.self; omega
    have hrl := fun W => rlater_any L.now n W h.ok.now0 h.ok.now1 hn0
    have hbb := h.nb
    clear h h1 hua
    have HA := Lib.hid ha.1
    clear ha
    have hdn : decide (0 ≤ n) = true := by simpa using hn0
    go_enter Tryz.func8, Tryz.ntmps8
    go_upto_region 1 with (fail)
    generalize w.alloc (.cells #[.int .i64 0, .int .i64 id, .int .i64 n, .slice ka kn kc] 34) = w0 at *
    generalize w.heap.size = g at *
    have a2 := cell_of HA.out 2
    have a0 := cell_of HA.out 0
    have hgb := hg.1
    have hgr := hg.2
    go_upto_region 5 with (go_at_call 13; (with_reducible refine htk.mono ?_); rintro e1 w1 ⟨rfl, hl1, hu1⟩; have HL1 := Lib.hid hl1; have HU1 := Lib.hid hu1; have a2 := hu1.cell a2 (by simp; omega); clear hl1 hu1)
    have hu1 : Upd (fun k => k = b ∨ k = ml ∨ k = mk) w w1 := (HUA.out.weak _).trans (HU1.out.mono (fun _ _ e => .inl e))
    have HUW := Lib.hid hu1
    obtain ⟨hr1, hF1⟩ := H.out.step hu1
    have HR1 := Lib.hid hr1
    obtain ⟨v, hb1, -, -⟩ := hr1.blk
    have f0 := free_of hb1 0
    have c0 := cell_of hb1 0
    have c0 : w1.cell? ⟨rb, 0, none⟩ = some (.int .i64 L.now) := by rw [← H.out.rel.now]; exact c0
    have hlt := hrl w1.drew
    clear htk hu1 hF1 hr1 hb1 a0
    have c0 : w1.drew.cell? ⟨rb, 0, none⟩ = some (.int .i64 L.now) := c0
    have a2 : w1.drew.cell? ⟨g, 2, none⟩ = some (.int .i64 n) := a2
    have f0 : w1.drew.frozen? ⟨rb, 0, none⟩ = false := f0
    refine wp_region_still_tail 10 (by kernel_rfl) (by kernel_rfl) ?_
    simp only [List.take_succ_cons, List.take_zero, List.drop_succ_cons, List.drop_zero]
    change wpStill _ _ w1.drew _ _ _
    generalize hw2 : w1.drew = w2 at *
    have HW2 := Lib.hid hw2
    clear hw2
    repeat still_step
    still_call hlt
    repeat still_step
    refine wpStill_nil ?_
    change wpList _ _ _ _ _ w1.drew
    rw [HW2.out]
    have HU2 := Lib.hid (show Upd (fun k => k = b ∨ k = ml ∨ k = mk) w w2 by rw [← HW2.out]; exact HUW.out.drew)
    have HL2 := Lib.hid (show IsLs w2 b ml mk (L.ticked n) by rw [← HW2.out]; exact HL1.out.grow (Upd.refl _ _).drew)
    have HR2 := Lib.hid (show IsRef F w2 rb R by rw [← HW2.out]; exact HR1.out.grow (Upd.refl _ _).drew)
    clear hlt
    go_wp2
    go_ret
    refine H.out.says (j := j) (HL2.out) HU2.out (upd_setCell _ _ _ _ rfl) (HR2.out.tick (laterI L.now n)) (H.out.ok.ticked hn0) ⟨H.out.kok.len, H.out.kok.there⟩ (Nat.le_succ_of_le H.out.nk) ?_
    have hrel := H.out.rel.ticked n
    rw [H.out.rel.now] at hrel
    exact hrel

set_option maxRecDepth 100000 in
set_option maxHeartbeats 1000000 in
theorem do_grant (F : Nat → Prop) (b ml mk rb j : Nat) (L : LS) (R : RS) (id n : Int) (ka : Option Addr) (kn kc : Nat) (w : World) (h : Both F w b ml mk rb L R j) :
    Calls Tryz.prog 8 #[.pointer (some ⟨b, 0, none⟩), .pointer (some ⟨rb, 0, none⟩), .agg #[.int .i64 1, .int .i64 id, .int .i64 n, .slice ka kn kc]] w (DoSays F b ml mk rb (j + 1) w) := by
  have hua := upd_alloc (fun _ => False) w (.cells #[.int .i64 1, .int .i64 id, .int .i64 n, .slice ka kn kc] 34)
  have ha := heap_alloc w (.cells #[.int .i64 1, .int .i64 id, .int .i64 n, .slice ka kn kc] 34)
  have h1 := h.grow hua
  have hgr0 := grant_calls b ml mk L id n (w.alloc (.cells #[.int .i64 1, .int .i64 id, .int .i64 n, .slice ka kn kc] 34)) h1.ls h1.ok
  have hg : (b ≠ w.heap.size ∧ ml ≠ w.heap.size) ∧ rb ≠ w.heap.size := by
    have h1 := h.hF b h.fb; have h2 := h.hF rb h.ref.self; have h3 := h.hF ml h.fl; omega
  have H := Lib.hid h
  have HUA := Lib.hid hua
  have HA := Lib.hid ha.1
  have hrb : rb < w.heap.size := h.hF rb h.ref.self
  by_cases hE : L.grantE id n = 0
  · have hgr := hgr0.mono fun e w' hs => (show e = .returned (.tuple #[.agg #[.int .i64 (L.gid id), .int .i64 n], .int .i64 0]) ∧ IsLs w' b ml mk (L.granted id n) ∧ LOk (L.granted id n) ∧ Upd (fun k => k = b ∨ k = ml) (w.alloc (.cells #[.int .i64 1, .int .i64 id, .int .i64 n, .slice ka kn kc] 34)) w' by unfold GrantSays at hs; rw [if_pos hE] at hs; exact hs)
    clear hgr0
    have HE := Lib.hid hE
    generalize hgid : L.gid id = gid at *
    have HGID := Lib.hid hgid
    clear h h1 hua ha hE hgid
    go_enter Tryz.func8, Tryz.ntmps8
    go_upto_region 1 with (fail)
    generalize w.alloc (.cells #[.int .i64 1, .int .i64 id, .int .i64 n, .slice ka kn kc] 34) = w0 at *
    generalize w.heap.size = g at *
    have a1 := cell_of HA.out 1
    have a2 := cell_of HA.out 2
    have a0 := cell_of HA.out 0
    go_upto_region 9 with (go_at_call 12; (with_reducible refine hgr.mono ?_); rintro e1 w1 ⟨rfl, hl1, hok1, hu1⟩; have HL1 := Lib.hid hl1; have HOK1 := Lib.hid hok1; have HU1 := Lib.hid hu1; clear hl1 hok1 hu1)
    have hu1 : Upd (fun k => k = b ∨ k = ml ∨ k = mk) w w1 := (HUA.out.weak _).trans (HU1.out.mono (fun _ _ e => e.elim .inl (fun e => .inr (.inl e))))
    have hu2 := hu1.alloc (.cells #[.int .i64 gid, .int .i64 n] 41)
    have hl2 := HL1.out.grow (upd_alloc (fun _ => False) w1 (.cells #[.int .i64 gid, .int .i64 n] 41))
    have hg1 : g ≠ b ∧ g ≠ ml := by have := hg.1; omega
    have hub := (HU1.out.alloc (.cells #[.int .i64 gid, .int .i64 n] 41))
    have a1 := hub.cell a1 (by simp; omega)
    have a2 := hub.cell a2 (by simp; omega)
    have hl := heap_alloc w1 (.cells #[.int .i64 gid, .int .i64 n] 41)
    have hgl : rb < w1.heap.size := Nat.lt_of_lt_of_le (by have := H.out.hF rb H.out.ref.self; exact this) hu1.size
    obtain ⟨hr2, hF2⟩ := H.out.step hu2
    have HU2 := Lib.hid hu2
    have HL2 := Lib.hid hl2
    have hrg := rgrant_yes (id := id) (ttl := n) hr2 hF2 H.out.rel H.out.ok H.out.kok HE.out
    rw [HGID.out] at hrg
    have HLW := Lib.hid hl.1
    clear hu1 hu2 hl2 hr2 hF2 hub hgr HA hl a0
    generalize w1.alloc (.cells #[.int .i64 gid, .int .i64 n] 41) = w2 at *
    generalize w1.heap.size = gl at *
    go_upto_region 10 with (go_at_call 15; (with_reducible refine hrg.mono ?_); rintro e3 w3 ⟨rfl, ⟨R', hr3, hrel3⟩, hu3⟩; have HR3 := Lib.hid hr3; have HREL3 := Lib.hid hrel3; have HU3 := Lib.hid hu3; clear hr3 hrel3 hu3)
    have a1 := HU3.out.cell a1 (by have := hg.2; simp; omega)
    have a2 := HU3.out.cell a2 (by have := hg.2; simp; omega)
    have l0 := HU3.out.cell (cell_of HLW.out 0) (by simp; omega)
    have l1 := HU3.out.cell (cell_of HLW.out 1) (by simp; omega)
    go_wp2
    go_ret
    exact H.out.says HL2.out HU2.out HU3.out HR3.out HOK1.out ((KInv.of H.out.ok H.out.kok).granted id n HOK1.out).k (Nat.le_succ_of_le H.out.nk) HREL3.out
  · have hgr := hgr0.mono fun e w' hs => (show e = .returned (.tuple #[.agg #[.int .i64 0, .int .i64 0], .int .i64 (L.grantE id n)]) ∧ Upd (fun _ => False) (w.alloc (.cells #[.int .i64 1, .int .i64 id, .int .i64 n, .slice ka kn kc] 34)) w' by unfold GrantSays at hs; rw [if_neg hE] at hs; exact hs)
    clear hgr0
    have hrg := fun W hr => rgrant_no (F := F) (rb := rb) (w := W) (id := id) (ttl := n) hr h.rel h.ok hE
    generalize hee : L.grantE id n = eE at *
    clear hee
    have hne : (eE != 0) = true := by simpa using hE
    have hne2 : (eE == 0) = false := by simpa using hE
    have HRG := Lib.hid hrg
    clear h h1 hua ha hE hrg
    go_enter Tryz.func8, Tryz.ntmps8
    go_upto_region 1 with (fail)
    generalize w.alloc (.cells #[.int .i64 1, .int .i64 id, .int .i64 n, .slice ka kn kc] 34) = w0 at *
    generalize w.heap.size = g at *
    have a1 := cell_of HA.out 1
    have a2 := cell_of HA.out 2
    have a0 := cell_of HA.out 0
    go_upto_region 9 with (go_at_call 12; (with_reducible refine hgr.mono ?_); rintro e1 w1 ⟨rfl, hu1⟩; have HU1 := Lib.hid hu1; clear hu1)
    have hub := (HU1.out.alloc (.cells #[.int .i64 0, .int .i64 0] 41))
    have a1 := hub.cell a1 (by simp)
    have a2 := hub.cell a2 (by simp)
    have HL := Lib.hid (heap_alloc w1 (.cells #[.int .i64 0, .int .i64 0] 41)).1
    have hu2 := HUA.out.trans hub
    have HU2 := Lib.hid hu2
    have hrg := HRG.out _ (H.out.ref.grow hu2)
    clear hub hu2 hgr a0
    generalize w1.alloc (.cells #[.int .i64 0, .int .i64 0] 41) = w2 at *
    generalize w1.heap.size = gl at *
    have l0 := cell_of HL.out 0
    have l1 := cell_of HL.out 1
    go_wp2_with (go_at_call 15; (with_reducible refine hrg.mono ?_); rintro e3 w3 ⟨rfl, rfl⟩)
    go_ret
    exact H.out.same (Nat.le_succ _) HU2.out

end Go.Proofs.YtcbngjlgcgcljaaGreat
