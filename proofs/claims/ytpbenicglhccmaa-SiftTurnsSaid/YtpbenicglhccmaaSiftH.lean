/-
  Sift: where it counts alone; the chapter's example.
-/
import Derived.Lib.SlBytesConst
import Derived.Test.YtpbenicglhccmaaSiftF
namespace Go.Proofs.Ytpbenicglhccmaa
open Go.RowKit Go.Tb Go.MapKept Go.ChangeMaps Go.Lib
set_option linter.unusedVariables false

set_option maxRecDepth 100000 in
set_option maxHeartbeats 2000000 in
theorem sift_count (k e : Value) (q : Qr) (a : Option Addr) (n c : Nat) (w : World) (hq : rightQ q = true) (hc : q.count = true) :
    Calls Try.prog 10 #[.agg (qcells k e q), .slice a n c] w fun e w' => e = .returned (.agg #[.slice none 0 0, .int .i64 (n : Int), .bool false]) ∧ Upd (fun _ => False) w w' := by
  have hr := right_calls k e q
  rw [hq] at hr
  obtain ⟨h1, h2, h3, h4⟩ := sift_start k e q w
  have H1 := Lib.hid h1
  have H2 := Lib.hid h2
  have H3 := Lib.hid h3
  have Hr := Lib.hid hr
  have Hc := Lib.hid hc
  clear hr hq h1 h2 h3 h4 hc
  go_enter Try.func10, Try.ntmps10
  go_wp2_with (first
    | ((with_reducible refine wpl_load (ty := 24) H1.out Try.underlying24 ?_ ?_ ?_ ?_); rfl; rfl; kernel_rfl)
    | (go_at_call 9; (with_reducible refine (Hr.out _).mono ?_); rintro e1 w1 ⟨rfl, hu1⟩; have G1 := Lib.hid (hu1.heap H1.out (fun x => x)); have G2 := Lib.hid ((upd_alloc (fun _ => False) w1 (.cells #[.slice none 0 0, .int .i64 (n : Int), .bool false] 30)).heap (hu1.heap H2.out (fun x => x)) (fun x => x)); have U1 := Lib.hid hu1; have hzz : w.heap.size + 1 < w1.heap.size := lt_of_heap (hu1.heap H2.out (fun x => x)); have G3 := Lib.hid (heap_alloc w1 (.cells #[.slice none 0 0, .int .i64 (n : Int), .bool false] 30)).1; have c7' : (w1.alloc (.cells #[.slice none 0 0, .int .i64 (n : Int), .bool false] 30)).cell? ⟨w.heap.size, 7, none⟩ = some (.bool true) := (upd_alloc (fun _ => False) _ _).cell (show w1.cell? ⟨w.heap.size, 7, none⟩ = some (.bool true) by { rw [cell_of G1.out 7]; simp [qcells, Hc.out] }) (fun x => x); clear hu1)
    | ((with_reducible refine wpl_load (ty := 30) G3.out Try.underlying30 ?_ ?_ ?_ ?_); rfl; rfl; kernel_rfl)
    | ((with_reducible refine wpl_store (ty := 30) (cs := #[.slice none 0 0, .int .i64 (n : Int), .bool false]) G2.out ?_ ?_ ?_ ?_ ?_ ?_); rfl; rfl; rfl; kernel_rfl; rfl; intro w2 hb2 hu2 hs2 hd2))
  refine bodyPost_ret (results_cell_row Try.results10 _ _ _ _ _ _ _ (by rfl) hb2 Try.underlying30 rfl (by kernel_rfl)) rfl ?_
  exact ⟨rfl, ((H3.out.trans U1.out).trans (upd_alloc _ _ _)).trans' hu2 (fun x hx e => by omega)⟩

/-! the chapter's example -/
def exQ : Qr := ⟨0, 2, 1, true, false, false, 0, 0, 0, 0⟩
def exKV (b : UInt8) (v : Int) : KV := ⟨[b], [], 0, 0, v, 0⟩
theorem ex_first {S : List KV} (hp : S.Perm [exKV 97 3, exKV 98 1, exKV 99 3]) (hs : S.Pairwise fun a b => ¬ cmpD exQ b a < 0) : ∃ r, S = exKV 99 3 :: r ∧ r.length = 2 := by
  cases S with
  | nil => have := hp.length_eq; simp at this
  | cons x r =>
    have hl := hp.length_eq
    have hx : x ∈ [exKV 97 3, exKV 98 1, exKV 99 3] := hp.mem_iff.1 (.head _)
    have hc : exKV 99 3 ∈ x :: r := hp.mem_iff.2 (by simp)
    have hxc : x = exKV 99 3 := by
      rcases List.mem_cons.1 hc with h | h
      · exact h.symm
      · have h1 := (List.pairwise_cons.1 hs).1 _ h
        simp only [List.mem_cons, List.not_mem_nil, or_false] at hx
        rcases hx with rfl | rfl | rfl
        · exact absurd (by decide) h1
        · exact absurd (by decide) h1
        · rfl
    subst hxc
    exact ⟨r, rfl, by simpa using hl⟩

def exP (g : Nat) (b : UInt8) (v : Int) : KvP := ⟨exKV b v, ⟨some ⟨g, 0, none⟩, 1, 1⟩, ⟨none, 0, 0⟩⟩
theorem exP_ok {W : World} {g : Nat} {b : UInt8} {v : Int} {I : Nat → Prop} (h : W.heap[g]? = some (.cells #[.int .u8 (b.toNat : Int)] 5 (1, 2))) (hi : I g) : (exP g b v).Ok W I :=
  ⟨.inl (.inr ⟨g, 0, 1, rfl, Nat.le_refl _, lt_of_heap h, fun i hi => by
      obtain rfl : i = 0 := by simp [exP, exKV] at hi; omega
      rw [cell_of h]; rfl⟩), .inl (.inl ⟨rfl, rfl⟩), fun b hb => by cases hb; exact hi, fun b hb => by cases hb⟩

/-- The world in which the example calls Sift. -/
abbrev exW (w : World) : World := (((w.alloc (.cells #[.int .u8 97] 5 (1, 2))).alloc (.cells #[.int .u8 98] 5 (1, 2))).alloc (.cells #[.int .u8 99] 5 (1, 2))).alloc (.cells #[.slice (some ⟨w.heap.size, 0, none⟩) 1 1, .slice none 0 0, .int .i64 0, .int .i64 0, .int .i64 3, .int .i64 0, .slice (some ⟨w.heap.size + 1, 0, none⟩) 1 1, .slice none 0 0, .int .i64 0, .int .i64 0, .int .i64 1, .int .i64 0, .slice (some ⟨w.heap.size + 1 + 1, 0, none⟩) 1 1, .slice none 0 0, .int .i64 0, .int .i64 0, .int .i64 3, .int .i64 0] 37)
theorem exW_u (w : World) : Upd (fun _ => False) w (exW w) := (((upd_alloc _ _ _).alloc _).alloc _).alloc _
theorem exW_1 (w : World) : (exW w).heap[w.heap.size]? = some (.cells #[.int .u8 97] 5 (1, 2)) := ((((upd_alloc (fun _ => False) _ _).alloc _).alloc _)).heap (heap_alloc w (.cells #[.int .u8 97] 5 (1, 2))).1 (fun x => x)
theorem exW_2 (w : World) : (exW w).heap[w.heap.size + 1]? = some (.cells #[.int .u8 98] 5 (1, 2)) := by
  have h := (heap_alloc (w.alloc (.cells #[.int .u8 97] 5 (1, 2))) (.cells #[.int .u8 98] 5 (1, 2))).1
  rw [show (w.alloc (.cells #[.int .u8 97] 5 (1, 2))).heap.size = w.heap.size + 1 by simp] at h
  exact ((upd_alloc (fun _ => False) _ _).alloc _).heap h (fun x => x)
theorem exW_3 (w : World) : (exW w).heap[w.heap.size + 1 + 1]? = some (.cells #[.int .u8 99] 5 (1, 2)) := by
  have h := (heap_alloc ((w.alloc (.cells #[.int .u8 97] 5 (1, 2))).alloc (.cells #[.int .u8 98] 5 (1, 2))) (.cells #[.int .u8 99] 5 (1, 2))).1
  rw [show ((w.alloc (.cells #[.int .u8 97] 5 (1, 2))).alloc (.cells #[.int .u8 98] 5 (1, 2))).heap.size = w.heap.size + 1 + 1 by simp] at h
  exact (upd_alloc (fun _ => False) _ _).heap h (fun x => x)
theorem exW_4 (w : World) : CellsAt (exW w) (w.heap.size + 1 + 1 + 1) 0 ([exP w.heap.size 97 3, exP (w.heap.size + 1) 98 1, exP (w.heap.size + 1 + 1) 99 3].flatMap kvenc) ∧ w.heap.size + 1 + 1 + 1 < (exW w).heap.size := by
  refine ⟨?_, by simp⟩
  have h := (heap_alloc (((w.alloc (.cells #[.int .u8 97] 5 (1, 2))).alloc (.cells #[.int .u8 98] 5 (1, 2))).alloc (.cells #[.int .u8 99] 5 (1, 2))) (.cells #[.slice (some ⟨w.heap.size, 0, none⟩) 1 1, .slice none 0 0, .int .i64 0, .int .i64 0, .int .i64 3, .int .i64 0, .slice (some ⟨w.heap.size + 1, 0, none⟩) 1 1, .slice none 0 0, .int .i64 0, .int .i64 0, .int .i64 1, .int .i64 0, .slice (some ⟨w.heap.size + 1 + 1, 0, none⟩) 1 1, .slice none 0 0, .int .i64 0, .int .i64 0, .int .i64 3, .int .i64 0] 37)).1
  rw [show (((w.alloc (.cells #[.int .u8 97] 5 (1, 2))).alloc (.cells #[.int .u8 98] 5 (1, 2))).alloc (.cells #[.int .u8 99] 5 (1, 2))).heap.size = w.heap.size + 1 + 1 + 1 by simp] at h
  intro j u hj
  rw [Nat.zero_add, cell_of h]
  simpa [kvenc, exP, exKV, Sv.v] using hj

/-- What the example's Sift says. -/
def ExSays (w : World) (e : Ending) (w' : World) : Prop :=
  ∃ (b off c : Nat) (u : Value), e = .returned (.agg #[.slice (some ⟨b, off, none⟩) 2 c, .int .i64 3, .bool true]) ∧ w'.cell? ⟨b, off, none⟩ = some u ∧ (convert 22 9 u).run Try.prog w' = .ok (.string ⟨#[99]⟩) w' ∧ Bytes w' u [99] ∧ Upd (fun _ => False) w w'

theorem ex_says (g1 g2 g3 g4 : Nat) (w : World) (h1 : w.heap[g1]? = some (.cells #[.int .u8 97] 5 (1, 2))) (h2 : w.heap[g2]? = some (.cells #[.int .u8 98] 5 (1, 2))) (h3 : w.heap[g3]? = some (.cells #[.int .u8 99] 5 (1, 2)))
    (h4 : CellsAt w g4 0 ([exP g1 97 3, exP g2 98 1, exP g3 99 3].flatMap kvenc)) (hg4 : g4 < w.heap.size) :
    Calls Try.prog 10 #[.agg (qcells (.slice none 0 0) (.slice none 0 0) exQ), .slice (some ⟨g4, 0, none⟩) 3 3] w (ExSays w) := by
  have hs := sift_ok (.slice none 0 0) (.slice none 0 0) exQ (some ⟨g4, 0, none⟩) 3 [exP g1 97 3, exP g2 98 1, exP g3 99 3] (fun _ => True) w (by decide) rfl
    ⟨.inr ⟨g4, 0, 3, rfl, Nat.le_refl _, hg4, h4⟩, fun p hp => by
      simp only [List.mem_cons, List.not_mem_nil, or_false] at hp
      rcases hp with rfl | rfl | rfl
      · exact exP_ok h1 trivial
      · exact exP_ok h2 trivial
      · exact exP_ok h3 trivial⟩ (by simp) (fun p hp => by
      simp only [List.mem_cons, List.not_mem_nil, or_false] at hp
      rcases hp with rfl | rfl | rfl <;> exact ⟨by simp [exP, exKV], by simp [exP, exKV]⟩)
  refine hs.mono ?_
  rintro e w' ⟨a, c, rs, S, rfl, hp, hsrt, hrs, hk, hb, hu⟩
  have hp' : S.Perm [exKV 97 3, exKV 98 1, exKV 99 3] := hp.trans (show ([exKV 97 3, exKV 98 1, exKV 99 3].filter (keepsQ exQ)).Perm [exKV 97 3, exKV 98 1, exKV 99 3] by decide)
  obtain ⟨r, rfl, hr⟩ := ex_first hp' hsrt
  have hc : cutQ exQ (exKV 99 3 :: r).length = true := by rw [List.length_cons, hr]; decide
  have hf : rs.map KvP.x = exKV 99 3 :: r.take 1 := by
    rw [hrs]; unfold finQ; rw [if_pos hc]
    simp [exQ]
  cases rs with
  | nil => cases hf
  | cons p rs =>
    rw [List.map_cons] at hf
    obtain ⟨hp0, hp1⟩ := List.cons.inj hf
    have hl : rs.length = 1 := by have := congrArg List.length hp1; simpa [hr] using this
    obtain ⟨b, off, rfl, hrg⟩ := hk.range 0 (by simp)
    have hpk := (hk.2 p (.head _)).k
    rw [hp0] at hpk
    have hcv := run_to_str (src := 22) (dst := 9) Try.underlying22 Try.underlying5 Try.underlying9 hpk
    refine ⟨b, off, c, p.k.v, by rw [List.length_cons, hl, hc]; rfl, ?_, hcv, hpk, hu⟩
    have := hrg 0 p.k.v rfl
    simpa using this

theorem conv_at (W : World) (g : Nat) (hg : W.heap.size = g) (x : Int) : (convert 22 22 (.slice (some ⟨g, 0, none⟩) 1 1)).run Try.prog (W.alloc (.cells #[.int .u8 x] 5)) = .ok (.slice (some ⟨g, 0, none⟩) 1 1) (W.alloc (.cells #[.int .u8 x] 5 (1, 2))) := by
  subst hg
  exact Lib.run_convert_bytes_const (P := Try.prog) W 22 5 #[.int .u8 x] 1 1 Try.underlying22 Try.underlying5

set_option maxRecDepth 100000 in
set_option maxHeartbeats 2000000 in
theorem lives_calls (w : World) : Calls Try.prog 7 #[] w fun e w' => e = .returned (.bool true) ∧ Upd (fun _ => False) w w' := by
  have k1 := conv_at w w.heap.size rfl 97
  have k2 := conv_at (w.alloc (.cells #[.int .u8 97] 5 (1, 2))) (w.heap.size + 1) (by simp) 98
  have k3 := conv_at ((w.alloc (.cells #[.int .u8 97] 5 (1, 2))).alloc (.cells #[.int .u8 98] 5 (1, 2))) (w.heap.size + 1 + 1) (by simp) 99
  have hex := ex_says w.heap.size (w.heap.size + 1) (w.heap.size + 1 + 1) (w.heap.size + 1 + 1 + 1) (exW w) (exW_1 w) (exW_2 w) (exW_3 w) (exW_4 w).1 (exW_4 w).2
  have hex' : Calls Try.prog 10 #[.agg #[.slice none 0 0, .slice none 0 0, .int .i64 0, .int .i64 2, .int .i64 1, .bool true, .bool false, .bool false, .int .i64 0, .int .i64 0, .int .i64 0, .int .i64 0], .slice (some ⟨w.heap.size + 1 + 1 + 1, 0, none⟩) 3 3] (exW w) (ExSays (exW w)) := hex
  have Hu := Lib.hid (exW_u w)
  clear hex
  go_enter Try.func7, Try.ntmps7
  go_wp2_with (go_at_call 10; refine hex'.mono ?_; rintro e w1 ⟨b, off, c, u, rfl, hcell, hcv, hby, hu1⟩; obtain ⟨ua, un, uc, rfl⟩ := Bytes.form hby; have Hu1 := Lib.hid hu1; have hcell2 := (upd_alloc (fun _ => False) w1 (.cells #[.slice (some ⟨b, off, none⟩) 2 c, .int .i64 3, .bool true] 30)).cell hcell (fun x => x); have hcv2 : (convert 22 9 (.slice ua un uc)).run Try.prog (w1.alloc (.cells #[.slice (some ⟨b, off, none⟩) 2 c, .int .i64 3, .bool true] 30)) = .ok (.string ⟨#[99]⟩) (w1.alloc (.cells #[.slice (some ⟨b, off, none⟩) 2 c, .int .i64 3, .bool true] 30)) := run_to_str (src := 22) (dst := 9) Try.underlying22 Try.underlying5 Try.underlying9 (hby.upd (upd_alloc (fun _ => False) _ _) (fun _ _ x => x)); clear hcell hcv hby hu1)
  go_ret
  exact ⟨rfl, (Hu.out.trans Hu1.out).trans (upd_alloc _ _ _)⟩

end Go.Proofs.Ytpbenicglhccmaa
