/-
  A lessor: the keys of a lease.
-/
import Derived.Test.YtcbngjlgcgcljaaGreatLeaseK
import Derived.Test.YtcbngjlgcgcljaaGreatKeysS
import Derived.Test.YtcbngjlgcgcljaaGreatBase
namespace Go.Proofs.YtcbngjlgcgcljaaGreat
open Go.RowKit Go.Tb Go.MapKept Go.ChangeMaps Go.Lib
set_option linter.unusedVariables false

/-- A row of bytes: where it lies, and what it reads as. -/
abbrev KRow := (Option Addr × Nat) × List UInt8
def KRow.val (r : KRow) : Value := .slice r.1.1 r.2.length r.1.2
def renc (r : KRow) : List Value := [.slice r.1.1 r.2.length r.1.2]
theorem renc_length (r : KRow) : (renc r).length = 1 := rfl
theorem renc_one (r : KRow) : ∀ u ∈ renc r, u.oneCell' = true := fun u hu => by
  rw [List.mem_singleton.1 hu]; rfl
theorem info_bytes : (Tryz.prog.info? 32).map (fun i => (i.zero, i.size, i.bytes)) = some (some (.slice none 0 0), 1, 24) := by kernel_rfl

/-- Rows read as they say, and lie at `base` or behind it. -/
def RowsOk (base : Nat) (w : World) (rows : List KRow) : Prop := ∀ r ∈ rows, Go.Tb.Bytes w r.val r.2 ∧ ∀ b, sliceBlock r.val = some b → base ≤ b
theorem RowsOk.upd {S : Nat → Prop} {base : Nat} {w w' : World} {rows : List KRow} (h : RowsOk base w rows) (hu : Upd S w w') (hn : ∀ b, base ≤ b → ¬ S b) : RowsOk base w' rows :=
  fun r hr => ⟨Go.Tb.Bytes.upd (h r hr).1 hu (fun b hb => hn b ((h r hr).2 b hb)), (h r hr).2⟩
theorem RowsOk.grow {base : Nat} {w w' : World} {rows : List KRow} (h : RowsOk base w rows) (hu : Upd (fun _ => False) w w') : RowsOk base w' rows := h.upd hu (fun _ _ x => x)

/-- What of says: rows of the call's own. -/
structure OfRows (L : LS) (id : Int) (w : World) (v : Value) (rows : List KRow) (w' : World) : Prop where
  pw : (rows.map (·.2)).Pairwise (· < ·)
  mem : ∀ s, s ∈ rows.map (·.2) ↔ L.keys s = some id
  len : rows.length ≤ L.nk
  sl : Sl renc w' v rows
  ok : RowsOk w.heap.size w' rows
  ge : ∀ g, sliceBlock v = some g → w.heap.size ≤ g
theorem OfRows.base {L : LS} {id : Int} {w w1 w' : World} {v : Value} {rows : List KRow} (h : OfRows L id w1 v rows w') (hu : w.heap.size ≤ w1.heap.size) : OfRows L id w v rows w' :=
  { h with ok := fun r hr => ⟨(h.ok r hr).1, fun b hb => Nat.le_trans hu ((h.ok r hr).2 b hb)⟩, ge := fun g hg => Nat.le_trans hu (h.ge g hg) }
theorem OfRows.upd {S : Nat → Prop} {L : LS} {id : Int} {w w1 w2 : World} {v : Value} {rows : List KRow} (h : OfRows L id w v rows w1) (hu : Upd S w1 w2) (hS : ∀ k, w.heap.size ≤ k → ¬ S k) : OfRows L id w v rows w2 :=
  { h with sl := h.sl.upd hu (fun b hb => hS b (h.ge b hb)), ok := h.ok.upd hu hS }

def OfSays (L : LS) (id : Int) (w : World) (e : Ending) (w' : World) : Prop :=
  ∃ a c, ∃ rows : List KRow, e = .returned (.slice a rows.length c) ∧ OfRows L id w (.slice a rows.length c) rows w' ∧ Upd (fun _ => False) w w'

def OfRel (L : LS) (id : Int) (ks : List (List UInt8)) (W : World) (j : Nat) (v : Value) (wr : World) : Prop :=
  ∃ rows : List KRow, rows.map (·.2) = (ks.take j).filter (fun s => decide (L.keys s = some id)) ∧ wr.ownsRow W.heap.size 32 1 v rows.length (rows.flatMap renc) ∧
    RowsOk W.heap.size wr rows ∧ (∀ r ∈ rows, ∀ b, sliceBlock r.val = some b → sliceBlock v ≠ some b) ∧ Upd (fun _ => False) W wr

theorem OfRel.skip {L : LS} {id : Int} {ks : List (List UInt8)} {W wr w2 : World} {j : Nat} {v : Value} (h : OfRel L id ks W j v wr) (hj : j < ks.length) (hn : L.keys ks[j] ≠ some id) (hu : Upd (fun _ => False) wr w2) : OfRel L id ks W (j + 1) v w2 := by
  obtain ⟨rows, h1, h2, h3, h4, h5⟩ := h
  refine ⟨rows, ?_, own_grow h2 hu, h3.grow hu, h4, h5.trans hu⟩
  rw [h1, List.take_succ_eq_append_getElem hj, List.filter_append]
  simp [hn]

/-- A row more: a key turned into bytes, a slice of one, an append. -/
theorem OfRel.more {L : LS} {id : Int} {ks : List (List UInt8)} {W wr : World} {j : Nat} {a : Option Addr} {n c0 : Nat} (h : OfRel L id ks W j (.slice a n c0) wr) (hj : j < ks.length) (hn : L.keys ks[j] = some id) (hsz : ks.length ≤ 1000000) :
    ∃ c w1 a2 c2 w3, (convert 9 32 (.string (strB ks[j]))).run Tryz.prog wr = .ok (.slice (some ⟨wr.heap.size, 0, none⟩) ks[j].length c) w1 ∧
      (∀ ty, (Builtin.append_ #[58, 58] ty #[.slice a n c0, .slice (some ⟨w1.heap.size, 0, none⟩) 1 1]).run Tryz.prog (w1.alloc (.cells #[.slice (some ⟨wr.heap.size, 0, none⟩) ks[j].length c] 32)) = .ok (.slice a2 (n + 1) c2) w3) ∧
      OfRel L id ks W (j + 1) (.slice a2 (n + 1) c2) w3 := by
  obtain ⟨rows, h1, h2, h3, h4, h5⟩ := h
  obtain ⟨c, w1, hcv, hby, hu1, hsz1⟩ := to_bytes (src := 9) (dst := 32) Tryz.underlying9 Tryz.underlying32 Tryz.underlying5 wr ks[j]
  have hge := own_ge h2
  obtain ⟨a', c', e, hle⟩ := own_shape h2
  injection e with e1 e2 e3
  subst e1 e3 e2
  have hlen : rows.length ≤ 1000000 := by
    have e := congrArg List.length h1
    rw [List.length_map] at e
    rw [e]
    exact Nat.le_trans (List.length_filter_le _ _) (by rw [List.length_take]; omega)
  obtain ⟨a2, c2, w3, hap, hown3, hu3, hbl⟩ := run_append_one (P := Tryz.prog) (w := w1.alloc (.cells #[.slice (some ⟨wr.heap.size, 0, none⟩) ks[j].length c] 32)) (t := 58) (z := .slice none 0 0) Tryz.underlying58 info_bytes rfl (by decide) renc_length renc_one (l := rows) (v := .slice a rows.length c0) (base := W.heap.size) ((some ⟨wr.heap.size, 0, none⟩, c), ks[j]) (own_grow h2 (hu1.alloc _)) (heap_alloc w1 _).1 (Nat.le_trans h5.size (Nat.le_trans hu1.size (by simp))) (by unfold maxLen; omega) (by omega)
  refine ⟨c, w1, a2, c2, w3, hcv, hap, rows ++ [((some ⟨wr.heap.size, 0, none⟩, c), ks[j])], ?_, ?_, ?_, ?_, ?_⟩
  · rw [List.map_append, h1, List.take_succ_eq_append_getElem hj, List.filter_append]
    simp [hn]
  · exact hown3
  · have hold : ∀ r ∈ rows, Go.Tb.Bytes w3 r.val r.2 ∧ ∀ b, sliceBlock r.val = some b → W.heap.size ≤ b := fun r hr =>
      ⟨Go.Tb.Bytes.upd (Go.Tb.Bytes.upd (h3 r hr).1 (hu1.alloc _) (fun _ _ x => x)) hu3 (fun b hb hb2 => h4 r hr b hb hb2), (h3 r hr).2⟩
    intro r hr
    rcases List.mem_append.1 hr with hr | hr
    · exact hold r hr
    · rw [List.mem_singleton.1 hr]
      refine ⟨Go.Tb.Bytes.upd (Go.Tb.Bytes.upd hby ((Upd.refl _ _).alloc _) (fun _ _ x => x)) hu3 (fun b hb hb2 => ?_), fun b hb => ?_⟩
      · cases hb
        exact absurd (hge _ hb2).2 (Nat.lt_irrefl _)
      · cases hb
        exact h5.size
  · intro r hr b hb hb2
    have hlt : b < w1.heap.size := by
      rcases List.mem_append.1 hr with hr | hr
      · have := Go.Tb.Bytes.lt (h3 r hr).1 hb
        omega
      · rw [List.mem_singleton.1 hr] at hb
        cases hb
        omega
    have hne : sliceBlock (.slice a rows.length c0) ≠ some b := by
      rcases List.mem_append.1 hr with hr | hr
      · exact h4 r hr b hb
      · rw [List.mem_singleton.1 hr] at hb
        cases hb
        intro e
        exact absurd (hge _ e).2 (Nat.lt_irrefl _)
    rcases hbl with e | e
    · rw [hb2] at e; exact hne e.symm
    · rw [hb2] at e
      injection e with e
      have : b = w1.heap.size + 1 := by rw [e]; simp
      omega
  · exact (h5.trans (hu1.alloc _)).trans' hu3 (fun x hx e => by have := (hge x e).1; omega)

set_option maxRecDepth 100000 in
set_option maxHeartbeats 1000000 in
theorem of_calls (b ml mk : Nat) (L : LS) (id : Int) (w : World) (h : IsLs w b ml mk L) (hk : KOk L) (hnk : L.nk ≤ 1000) :
    Calls Tryz.prog 40 #[.pointer (some ⟨b, 0, none⟩), .int .i64 id] w (OfSays L id w) := by
  have c3 : w.cell? ⟨b, 3, none⟩ = some (.map (some mk)) := cell_of h.blk 3
  have hb := heap_alloc w (.cells #[.map (some mk)] 49)
  have hua := upd_alloc (fun _ => False) w (.cells #[.map (some mk)] 49)
  have hs := sortedS_calls w.heap.size mk L.nk (fun s => (L.keys s).map (Value.int .i64)) (w.alloc (.cells #[.map (some mk)] 49)) (cell_of hb.1 0) (h.km.upd hua (fun x => x)) (by omega) (fun s hs => by
    cases e : L.keys s with
    | none => rw [e] at hs; cases hs
    | some x => have := hk.len s x e; unfold maxLen; omega)
  have hm := mkeysS_calls (some mk) w
  have H := Lib.hid h
  have HUA := Lib.hid hua
  clear h hk hb hua
  generalize hn : L.nk = n at *
  have HN := Lib.hid hn
  clear hn
  go_enter Tryz.func40, Tryz.ntmps40
  go_wp2_with (first
    | (go_at_call 50; (with_reducible refine hm.mono ?_); rintro e1 w1 ⟨rfl, rfl⟩)
    | (go_at_call 49; (with_reducible refine hs.mono ?_); rintro e2 w2 ⟨a, c, ks, rfl, hl0, hpw, hmem, hsl, hge, hu⟩; have HL0 := Lib.hid hl0; have HPW := Lib.hid hpw; have HMEM := Lib.hid hmem; have HSL := Lib.hid hsl; have HU2 := Lib.hid (HUA.out.trans hu); clear hl0 hpw hmem hsl hge hu))
  clear hs hm c3
  go_loopw [5, 15] (fun v i wr => ∃ j : Nat, j ≤ n ∧ i = .int .i64 j ∧ ∃ oa on oc, v = .slice oa on oc ∧ on ≤ j ∧ OfRel L id ks w2 j (.slice oa on oc) wr) (fun _ i _ => n - (intOf i).toNat)
  case atStart => exact ⟨0, Nat.zero_le _, rfl, none, 0, 0, rfl, Nat.le_refl _, [], rfl, ⟨rfl, .inl ⟨rfl, rfl⟩⟩, fun r hr => (List.not_mem_nil hr).elim, fun r hr => (List.not_mem_nil hr).elim, Upd.refl _ _⟩
  case round =>
    obtain ⟨j, hj, rfl, oa, on, oc, rfl, hon, hr⟩ := hrel
    have HR := Lib.hid hr
    have hu : Upd (fun _ => False) w2 wr := by obtain ⟨_, _, _, _, _, hu⟩ := hr; exact hu
    by_cases hlt : j < n
    · have hlt' : j < ks.length := by rw [HL0.out]; exact hlt
      obtain ⟨bk, off, cap, hee, hcap, hbk, -⟩ := (show Sl sskey wr (.slice a ks.length c) ks by rw [HL0.out]; exact HSL.out.grow hu).block (by omega)
      cases hee
      have q0 := (show Sl sskey wr (.slice (some ⟨bk, off, none⟩) n c) ks from HSL.out.grow hu).at sskey_length j hlt' 0 (by decide) _ rfl
      rw [Nat.mul_one, Nat.add_zero] at q0
      unfold skey at q0
      have hLw := H.out.grow (HU2.out.trans hu)
      have hlk := hLw.km.lookup (P := Tryz.prog) keyT_skey Tryz.underlying49 Tryz.underlying9 (zero_key wr) ks[j] false
      unfold skey at hlk
      have c3 : wr.cell? ⟨b, 3, none⟩ = some (.map (some mk)) := cell_of hLw.blk 3
      have hin : (L.keys ks[j]).isSome = true := by
        have := (HMEM.out ks[j]).1 (List.getElem_mem _)
        rw [some_map] at this
        exact this
      obtain ⟨i, hi⟩ := Option.isSome_iff_exists.1 hin
      simp only [hi, Option.map_some, Option.getD_some, Bool.false_eq_true, if_false] at hlk
      clear hin hLw
      by_cases hid : i = id
      · obtain ⟨c5, w5, a6, c6, w6, hcv, hap, hrel6⟩ := hr.more hlt' (by rw [hi, hid]) (by rw [HL0.out]; have := HN.out; omega)
        have HREL := Lib.hid hrel6
        clear hr hrel6 hu hi
        subst hid
        generalize ks[j] = key at *
        clear hlt'
        go_wp2_with (at_builtin; refine wpList_append hap rfl rfl rfl rfl ?_)
        go_roundw
        case rel => exact ⟨j + 1, by omega, by go_num, a6, on + 1, c6, rfl, by omega, HREL.out⟩
        case measure => simp [intOf]; omega
      · have hrel6 := hr.skip hlt' (by rw [hi]; intro e; injection e with e; exact hid e) (Upd.refl _ _)
        have HREL := Lib.hid hrel6
        clear hr hrel6 hu hi
        generalize ks[j] = key at *
        clear hlt'
        go_wp2
        go_roundw
        case rel => exact ⟨j + 1, by omega, by go_num, oa, on, oc, rfl, by omega, HREL.out⟩
        case measure => simp [intOf]; omega
    · obtain rfl : j = n := by omega
      clear hr hu
      go_wp2
      go_ret
      obtain ⟨rows, h1, h2, h3, h4, h5⟩ := HR.out
      have htk : ks.take j = ks := List.take_of_length_le (by rw [HL0.out]; exact Nat.le_refl _)
      rw [htk] at h1
      obtain ⟨a', c', e, hle⟩ := own_shape h2
      injection e with e1 e2 e3
      subst e2
      obtain ⟨hsl, hge⟩ := sl_of_own renc_length h2
      refine ⟨oa, oc, rows, rfl, ⟨by rw [h1]; exact HPW.out.filter _, fun s => ?_, by rw [HN.out]; exact hon, hsl, fun r hr => ⟨(h3 r hr).1, fun b hb => Nat.le_trans HU2.out.size ((h3 r hr).2 b hb)⟩, fun g hg => Nat.le_trans HU2.out.size (hge g hg)⟩, HU2.out.trans h5⟩
      rw [h1, List.mem_filter, decide_eq_true_eq]
      constructor
      · exact fun x => x.2
      · intro x
        exact ⟨(HMEM.out s).2 (by rw [some_map, x]; rfl), x⟩

end Go.Proofs.YtcbngjlgcgcljaaGreat
