/-
  Same, Twin, Ahead, SameKeys, SameNums; Has.
-/
import Derived.Test.YtcbngjlgcgcljaaGreatRefL
import Derived.Deep.RegionHeld3
namespace Go.Proofs.YtcbngjlgcgcljaaGreat
open Go.RowKit Go.Tb Go.MapKept Go.ChangeMaps Go.Lib
set_option linter.unusedVariables false

theorem rsame_calls (va vb : Value) (a b : List UInt8) (w : World) (ha : Bytes w va a) (hb : Bytes w vb b) :
    Calls Tryz.prog 41 #[va, vb] w fun e w' => e = .returned (.bool (a == b)) ∧ w = w' := by
  have h1 := run_to_str (src := 32) (dst := 9) Tryz.underlying32 Tryz.underlying5 Tryz.underlying9 ha
  have h2 := run_to_str (src := 32) (dst := 9) Tryz.underlying32 Tryz.underlying5 Tryz.underlying9 hb
  go_enter Tryz.func41, Tryz.ntmps41
  go_wp2
  go_ret
  have e : ∀ l, (strB l).toList = l := fun l => by rw [ByteArray.toList_eq]; simp [strB]
  exact ⟨by show Ending.returned (.bool ((strB a).toList == (strB b).toList)) = _; rw [e, e], rfl⟩

theorem info_u8 : (Tryz.prog.info? 5).map (fun i => (i.zero, i.size, i.bytes)) = some (some (.int .u8 0), 1, 1) := by kernel_rfl
def uenc (x : UInt8) : List Value := [u8v x]
theorem uenc_length (x : UInt8) : (uenc x).length = 1 := rfl
theorem uenc_one (x : UInt8) : ∀ u ∈ uenc x, u.oneCell' = true := fun u hu => by rw [List.mem_singleton.1 hu]; rfl

/-- Twin: the same bytes, in a block of its own. -/
def TwinSays (l : List UInt8) (w : World) (e : Ending) (w' : World) : Prop :=
  ∃ g c, e = .returned (.slice (some ⟨g, 0, none⟩) l.length c) ∧ Go.Tb.Bytes w' (.slice (some ⟨g, 0, none⟩) l.length c) l ∧ w.heap.size ≤ g ∧ Upd (fun _ => False) w w' ∧ ∃ cur, w'.heap[g]? = some (.cells cur 5 (0, 0))

theorem bytes_sl {w : World} {v : Value} {l : List UInt8} (h : Go.Tb.Bytes w v l) : Sl uenc w v l := by
  rcases h with h | ⟨b, off, cap, rfl, hc, hb, hx⟩
  · exact .inl h
  · refine .inr ⟨b, off, cap, rfl, hc, hb, fun j u hj => ?_⟩
    have e : l.flatMap uenc = l.map u8v := flat_one l
    rw [e, List.getElem?_map] at hj
    obtain ⟨x, hx2, rfl⟩ := Option.map_eq_some_iff.1 hj
    obtain ⟨hlt, rfl⟩ := List.getElem?_eq_some_iff.1 hx2
    exact hx j hlt

set_option maxRecDepth 100000 in
theorem rtwin_calls (v : Value) (l : List UInt8) (w : World) (h : Bytes w v l) (hl : l.length ≤ 1000000) : Calls Tryz.prog 22 #[v] w (TwinSays l w) := by
  have hu1 : Upd (fun _ => False) w (w.alloc (.cells #[] 5)) := upd_alloc _ _ _
  have hown0 := own_empty (enc := uenc) (k := 1) uenc_length (heap_alloc w (.cells #[] 5)).1 (Nat.le_refl _)
  have key : ∃ g c w', (∀ ty, (Builtin.append_ #[32, 32] ty #[.slice (some ⟨w.heap.size, 0, none⟩) 0 0, v]).run Tryz.prog (w.alloc (.cells #[] 5)) = .ok (.slice (some ⟨g, 0, none⟩) l.length c) w') ∧ Go.Tb.Bytes w' (.slice (some ⟨g, 0, none⟩) l.length c) l ∧ w.heap.size ≤ g ∧ Upd (fun _ => False) w w' ∧ ∃ cur, w'.heap[g]? = some (.cells cur 5 (0, 0)) := by
    rcases h with h | ⟨rfl, a, rfl⟩
    · obtain ⟨a2, n2, w2, hap, hown, hu2, hbl⟩ := run_append_any (P := Tryz.prog) (t := 32) Tryz.underlying32 info_u8 rfl (by decide) uenc_length uenc_one hown0 (bytes_sl (Go.Tb.Bytes.upd h hu1 (fun _ _ x => x))) (by simp) (by simp [maxLen]; omega) (by simp; omega)
      have e0 : ([] ++ l : List UInt8) = l := rfl
      rw [e0] at hap hown hbl
      have e1 : l.flatMap uenc = l.map u8v := flat_one l
      have hown' := hown
      rw [e1] at hown'
      obtain ⟨hby, hge⟩ := bytes_of_own hown'
      have hu : Upd (fun _ => False) w w2 := hu1.trans' hu2 (fun x hx e => by cases e; simp at hx)
      rcases hown.2 with ⟨q, q2⟩ | ⟨g, cap', cur, q, hg, hheap, _⟩
      · exfalso
        injection q with q3
        subst q3
        rcases hbl with q | q <;> cases q
      · injection q with q3 q4 q5
        subst q3
        exact ⟨g, n2, w2, hap, hby, hg, hu, cur, hheap⟩
    · refine ⟨w.heap.size, 0, w.alloc (.cells #[] 5), fun ty => ?_, .inr ⟨w.heap.size, 0, 0, rfl, Nat.le_refl _, by simp, fun i hi => absurd hi (Nat.not_lt_zero _)⟩, Nat.le_refl _, hu1, #[], (heap_alloc w _).1⟩
      obtain ⟨i0, hi0, hz0, hz1, hz2⟩ := info_parts info_u8
      simp [Builtin.append_, run_underlying Tryz.underlying32, sizeOf, typeInfo, hi0, Builtin.lenOf, Builtin.firstCells, loadCells, loadCellsFrom, Result.andThen, storeCells, hz1]
  obtain ⟨g, c, w', hap, hby, hge, hu, hcur⟩ := key
  have HP := Lib.hid (show TwinSays l w (.returned (.slice (some ⟨g, 0, none⟩) l.length c)) w' from ⟨g, c, rfl, hby, hge, hu, hcur⟩)
  clear h hu1 hown0 hby hge hu hcur
  go_enter Tryz.func22, Tryz.ntmps22
  go_wp2_with (at_builtin; refine wpList_append hap rfl rfl rfl rfl ?_)
  go_ret
  exact HP.out

theorem lt_append (p a b : List UInt8) : p ++ a < p ++ b ↔ a < b := by
  induction p with
  | nil => rfl
  | cons x r ih => rw [List.cons_append, List.cons_append, List.cons_lt_cons_iff]; simp [ih]

set_option maxRecDepth 100000 in
theorem has_yes (b ml mk : Nat) (L : LS) (id : Int) (x : Int × Int) (w : World) (h : IsLs w b ml mk L) (hn : L.l id = some x) :
    Calls Tryz.prog 32 #[.pointer (some ⟨b, 0, none⟩), .int .i64 id] w fun e w' => e = .returned (.bool true) ∧ Upd (fun _ => False) w w' := by
  have hf := find_yes b ml mk L id x w h hn
  clear h hn
  obtain ⟨ttl, due⟩ := x
  go_enter Tryz.func32, Tryz.ntmps32
  go_wp2_with (go_at_call 39; (with_reducible refine hf.mono ?_); rintro e1 w1 ⟨rfl, hu1⟩)
  go_ret
  exact ⟨rfl, hu1.alloc _⟩

end Go.Proofs.YtcbngjlgcgcljaaGreat

/-
  SameKeys and SameNums of what is the same; Ahead.
-/
namespace Go.Proofs.YtcbngjlgcgcljaaGreat
open Go.RowKit Go.Tb Go.MapKept Go.ChangeMaps Go.Lib
set_option linter.unusedVariables false

set_option maxRecDepth 100000 in
set_option maxHeartbeats 1000000 in
theorem samekeys_calls (a1 a2 : Option Addr) (c1 c2 : Nat) (r1 r2 : List KRow) (w : World) (h1 : Sl renc w (.slice a1 r1.length c1) r1) (h2 : Sl renc w (.slice a2 r2.length c2) r2) (b1 : ∀ k ∈ r1, Go.Tb.Bytes w k.val k.2) (b2 : ∀ k ∈ r2, Go.Tb.Bytes w k.val k.2)
    (he : r1.map (·.2) = r2.map (·.2)) (hn : r1.length ≤ 1000000) :
    Calls Tryz.prog 19 #[.slice a1 r1.length c1, .slice a2 r2.length c2] w fun e w' => e = .returned (.bool true) ∧ Upd (fun _ => False) w w' := by
  have hl : r2.length = r1.length := by have := congrArg List.length he; simpa using this.symm
  have H1 := Lib.hid h1
  have H2 := Lib.hid (show Sl renc w (.slice a2 r1.length c2) r2 by rw [← hl]; exact h2)
  have B1 := Lib.hid b1
  have B2 := Lib.hid b2
  have HE := Lib.hid he
  have HL := Lib.hid hl
  rw [hl]
  clear h1 h2 b1 b2 he hl
  generalize hn1 : r1.length = n at *
  have HN := Lib.hid hn1
  clear hn1
  go_enter Tryz.func19, Tryz.ntmps19
  go_wp2
  go_loopw [13] (fun i wr => ∃ j : Nat, j ≤ n ∧ i = .int .i64 j ∧ Upd (fun _ => False) w wr) (fun i _ => n - (intOf i).toNat)
  case atStart => exact ⟨0, Nat.zero_le _, rfl, Upd.refl _ _⟩
  case round =>
    obtain ⟨j, hj, rfl, hu⟩ := hrel
    have HU := Lib.hid hu
    by_cases hlt : j < n
    · have hd : Upd (fun _ => False) w wr.drew := hu.drew
      have hj1 : j < r1.length := by rw [HN.out]; exact hlt
      have hj2 : j < r2.length := by rw [HL.out]; exact hlt
      obtain ⟨k1, o1, cap1, e1, hc1, -, -⟩ := (show Sl renc w (.slice a1 r1.length c1) r1 by rw [HN.out]; exact H1.out).block (by omega)
      cases e1
      obtain ⟨k2, o2, cap2, e2, hc2, -, -⟩ := (show Sl renc w (.slice a2 r2.length c2) r2 by rw [HL.out]; exact H2.out).block (by omega)
      cases e2
      have q1 := (show Sl renc wr.drew (.slice (some ⟨k1, o1, none⟩) n c1) r1 from H1.out.grow hd).at renc_length j hj1 0 (by decide) _ rfl
      have q2 := (show Sl renc wr.drew (.slice (some ⟨k2, o2, none⟩) n c2) r2 from H2.out.grow hd).at renc_length j hj2 0 (by decide) _ rfl
      rw [Nat.mul_one, Nat.add_zero] at q1 q2
      have y1 : Bytes wr.drew (.slice r1[j].1.1 r1[j].2.length r1[j].1.2) r1[j].2 := .inl (Go.Tb.Bytes.upd (B1.out _ (List.getElem_mem hj1)) hd (fun _ _ x => x))
      have y2 : Bytes wr.drew (.slice r2[j].1.1 r2[j].2.length r2[j].1.2) r2[j].2 := .inl (Go.Tb.Bytes.upd (B2.out _ (List.getElem_mem hj2)) hd (fun _ _ x => x))
      have e12 : r1[j].2 = r2[j].2 := by
        have h3 : (r1.map (·.2))[j]? = (r2.map (·.2))[j]? := by rw [HE.out]
        rw [List.getElem?_map, List.getElem?_map, List.getElem?_eq_getElem hj1, List.getElem?_eq_getElem hj2] at h3
        exact Option.some.inj h3
      have hsm := rsame_calls _ _ _ _ _ y1 y2
      rw [e12, beq_self_eq_true] at hsm
      rw [e12] at q1
      clear y1 y2 e12 hd hu
      generalize r2[j].2.length = n2 at *
      generalize r1[j].1.1 = z1 at *
      generalize r1[j].1.2 = z2 at *
      generalize r2[j].1.1 = z3 at *
      generalize r2[j].1.2 = z4 at *
      clear hj1 hj2
      go_upto_region 6 with (fail)
      go_region_held3 (fun w' => w'.cell? ⟨k1, o1 + j, none⟩ = some (.slice z1 n2 z2) ∧ w'.cell? ⟨k2, o2 + j, none⟩ = some (.slice z3 n2 z4)) (exact ⟨q1, q2⟩) (first | (go_at_call 41; (with_reducible refine hsm.mono ?_); rintro e wx ⟨rfl, rfl⟩))
      go_wp2
      go_roundw
      case rel => exact ⟨j + 1, by omega, by go_num, HU.out.drew⟩
      case measure => simp [intOf]; omega
    · obtain rfl : j = n := by omega
      go_wp2
      go_ret
      exact ⟨rfl, HU.out⟩

set_option maxRecDepth 100000 in
set_option maxHeartbeats 1000000 in
theorem samenums_calls (a1 a2 : Option Addr) (c1 c2 : Nat) (l : List Int) (w : World) (h1 : Sl nenc w (.slice a1 l.length c1) l) (h2 : Sl nenc w (.slice a2 l.length c2) l) (hn : l.length ≤ 1000000) :
    Calls Tryz.prog 29 #[.slice a1 l.length c1, .slice a2 l.length c2] w fun e w' => e = .returned (.bool true) ∧ Upd (fun _ => False) w w' := by
  have H1 := Lib.hid h1
  have H2 := Lib.hid h2
  clear h1 h2
  generalize hn1 : l.length = n at *
  have HN := Lib.hid hn1
  clear hn1
  go_enter Tryz.func29, Tryz.ntmps29
  go_wp2
  go_loopw [13] (fun i wr => ∃ j : Nat, j ≤ n ∧ i = .int .i64 j ∧ Upd (fun _ => False) w wr) (fun i _ => n - (intOf i).toNat)
  case atStart => exact ⟨0, Nat.zero_le _, rfl, Upd.refl _ _⟩
  case round =>
    obtain ⟨j, hj, rfl, hu⟩ := hrel
    have HU := Lib.hid hu
    by_cases hlt : j < n
    · have hd : Upd (fun _ => False) w wr.drew := hu.drew
      have hj1 : j < l.length := by rw [HN.out]; exact hlt
      obtain ⟨k1, o1, cap1, e1, hc1, -, -⟩ := (show Sl nenc w (.slice a1 l.length c1) l by rw [HN.out]; exact H1.out).block (by omega)
      cases e1
      obtain ⟨k2, o2, cap2, e2, hc2, -, -⟩ := (show Sl nenc w (.slice a2 l.length c2) l by rw [HN.out]; exact H2.out).block (by omega)
      cases e2
      have q1 := (show Sl nenc wr.drew (.slice (some ⟨k1, o1, none⟩) n c1) l from H1.out.grow hd).at nenc_length j hj1 0 (by decide) _ rfl
      have q2 := (show Sl nenc wr.drew (.slice (some ⟨k2, o2, none⟩) n c2) l from H2.out.grow hd).at nenc_length j hj1 0 (by decide) _ rfl
      rw [Nat.mul_one, Nat.add_zero] at q1 q2
      clear hd hu
      generalize l[j] = x at *
      clear hj1
      go_upto_region 6 with (fail)
      go_region_held3 (fun w' => w'.cell? ⟨k1, o1 + j, none⟩ = some (.int .i64 x) ∧ w'.cell? ⟨k2, o2 + j, none⟩ = some (.int .i64 x)) (exact ⟨q1, q2⟩) (fail)
      go_wp2
      go_roundw
      case rel => exact ⟨j + 1, by omega, by go_num, HU.out.drew⟩
      case measure => simp [intOf]; omega
    · obtain rfl : j = n := by omega
      go_wp2
      go_ret
      exact ⟨rfl, HU.out⟩

end Go.Proofs.YtcbngjlgcgcljaaGreat

/-
  Ahead: the order of keys.
-/
namespace Go.Proofs.YtcbngjlgcgcljaaGreat
open Go.RowKit Go.Tb Go.MapKept Go.ChangeMaps Go.Lib
set_option linter.unusedVariables false

theorem Bytes.cell {w : World} {a : Option Addr} {n c : Nat} {l : List UInt8} (h : Bytes w (.slice a n c) l) {j : Nat} (hj : j < l.length) : ∃ b off, a = some ⟨b, off, none⟩ ∧ w.cell? ⟨b, off + j, none⟩ = some (.int .u8 (l[j].toNat : Int)) := by
  rcases h with (⟨_, rfl⟩ | ⟨b, off, cap, e, hc, hb, hx⟩) | ⟨rfl, _⟩
  · exact absurd hj (Nat.not_lt_zero _)
  · cases e
    exact ⟨b, off, rfl, hx j hj⟩
  · exact absurd hj (Nat.not_lt_zero _)

theorem lt_at {a b : List UInt8} {j : Nat} (h1 : j < a.length) (h2 : j < b.length) (ht : a.take j = b.take j) (hne : a[j] ≠ b[j]) : a < b ↔ a[j].toNat < b[j].toNat := by
  have ea : a = a.take j ++ a[j] :: a.drop (j + 1) := by simp
  have eb : b = a.take j ++ b[j] :: b.drop (j + 1) := by rw [ht]; simp
  have h3 : a < b ↔ a.take j ++ a[j] :: a.drop (j + 1) < a.take j ++ b[j] :: b.drop (j + 1) := by rw [← ea, ← eb]
  rw [h3, lt_append, List.cons_lt_cons_iff]
  constructor
  · rintro (h | h)
    · exact h
    · exact absurd h.1 hne
  · exact fun h => .inl h
theorem lt_short {a b : List UInt8} (h2 : a.length < b.length) (ht : a = b.take a.length) : a < b := by
  have eb : b = a ++ b.drop a.length := by
    have := List.take_append_drop a.length b
    rw [← ht] at this
    exact this.symm
  have ea : a = a ++ [] := by simp
  rw [eb, show (a < a ++ b.drop a.length) = (a ++ [] < a ++ b.drop a.length) by rw [List.append_nil], lt_append]
  cases h : b.drop a.length with
  | nil => have := congrArg List.length h; simp at this; omega
  | cons x r => exact List.nil_lt_cons _ _
theorem lt_long {a b : List UInt8} (ht : a.take b.length = b) : ¬ a < b := by
  have ea : a = b ++ a.drop b.length := by
    have := List.take_append_drop b.length a
    rw [ht] at this
    exact this.symm
  rw [ea, show (b ++ a.drop b.length < b) = (b ++ a.drop b.length < b ++ []) by rw [List.append_nil], lt_append]
  exact List.not_lt_nil _

set_option maxRecDepth 100000 in
set_option maxHeartbeats 1000000 in
theorem rahead_calls (va vb : Value) (a b : List UInt8) (w : World) (ha : Bytes w va a) (hb : Bytes w vb b) (hla : a.length ≤ 1000000) (hlb : b.length ≤ 1000000) :
    Calls Tryz.prog 42 #[va, vb] w fun e w' => e = .returned (.bool (decide (a < b))) ∧ Upd (fun _ => False) w w' := by
  obtain ⟨xa, ca, rfl⟩ := ha.form
  obtain ⟨xb, cb, rfl⟩ := hb.form
  have HA := Lib.hid ha
  have HB := Lib.hid hb
  clear ha hb
  generalize hna : a.length = na at *
  generalize hnb : b.length = nb at *
  have HNA := Lib.hid hna
  have HNB := Lib.hid hnb
  clear hna hnb
  generalize hrb : decide (a < b) = rb
  have HRB := Lib.hid hrb
  clear hrb
  go_enter Tryz.func42, Tryz.ntmps42
  go_wp2
  go_loopw [5] (fun i wr => ∃ j : Nat, j ≤ nb ∧ j ≤ na ∧ i = .int .i64 j ∧ a.take j = b.take j ∧ Upd (fun _ => False) w wr) (fun i _ => nb - (intOf i).toNat)
  case atStart => exact ⟨0, Nat.zero_le _, Nat.zero_le _, rfl, by simp, Upd.refl _ _⟩
  case round =>
    obtain ⟨j, hjb, hja, rfl, htk, hu⟩ := hrel
    have HU := Lib.hid hu
    have HT := Lib.hid htk
    clear htk
    by_cases hlt : j < nb
    · by_cases hlt2 : j < na
      · have hd : Upd (fun _ => False) w wr.drew := hu.drew
        have h1 : j < a.length := by rw [HNA.out]; exact hlt2
        have h2 : j < b.length := by rw [HNB.out]; exact hlt
        obtain ⟨k1, o1, rfl, q1⟩ := (HA.out.grow hd).cell h1
        obtain ⟨k2, o2, rfl, q2⟩ := (HB.out.grow hd).cell h2
        have HLT := Lib.hid (fun hne => lt_at h1 h2 HT.out hne)
        have HNX := Lib.hid (show a[j] = b[j] → a.take (j + 1) = b.take (j + 1) from fun e => by rw [List.take_succ_eq_append_getElem h1, List.take_succ_eq_append_getElem h2, HT.out, e])
        have hx1 := a[j].toNat_lt
        have hx2 := b[j].toNat_lt
        have HINJ := Lib.hid (show a[j].toNat = b[j].toNat → a[j] = b[j] from fun e => UInt8.toNat_inj.1 e)
        have HINE := Lib.hid (show ¬ a[j].toNat = b[j].toNat → a[j] ≠ b[j] from fun h e => h (by rw [e]))
        generalize a[j] = x1 at *
        generalize b[j] = x2 at *
        generalize x1.toNat = y1 at *
        generalize x2.toNat = y2 at *
        clear h1 h2 hd hu
        go_upto_region 6 with (fail)
        by_cases he : y1 = y2
        · subst he
          go_region_held3 (fun w' => w'.cell? ⟨k1, o1 + j, none⟩ = some (.int .u8 (y1 : Int)) ∧ w'.cell? ⟨k2, o2 + j, none⟩ = some (.int .u8 (y1 : Int))) (exact ⟨q1, q2⟩) (fail)
          go_wp2
          go_roundw
          case rel => exact ⟨j + 1, by omega, by omega, by go_num, HNX.out (HINJ.out rfl), HU.out.drew⟩
          case measure => simp [intOf]; omega
        · have hne : ¬ ((y1 : Int) = (y2 : Int)) := by omega
          go_region_held3 (fun w' => w'.cell? ⟨k1, o1 + j, none⟩ = some (.int .u8 (y1 : Int)) ∧ w'.cell? ⟨k2, o2 + j, none⟩ = some (.int .u8 (y2 : Int))) (exact ⟨q1, q2⟩) (fail)
          go_upto_region 7 with (fail)
          go_region_held3 (fun w' => w'.cell? ⟨k1, o1 + j, none⟩ = some (.int .u8 (y1 : Int)) ∧ w'.cell? ⟨k2, o2 + j, none⟩ = some (.int .u8 (y2 : Int))) (exact ⟨q1, q2⟩) (fail)
          go_wp2
          go_ret
          refine ⟨?_, HU.out.drew.drew⟩
          have hx : x1 ≠ x2 := HINE.out he
          have e : rb = decide (y1 < y2) := by rw [← HRB.out, decide_eq_decide, HLT.out hx]
          rw [e]
          rfl
      · obtain rfl : j = na := by omega
        clear hu
        have hlt3 : a < b := lt_short (by rw [HNA.out, HNB.out]; exact hlt) (by have := HT.out; rw [HNA.out, ← this]; exact (List.take_of_length_le (by rw [HNA.out]; exact Nat.le_refl _)).symm)
        have HR2 := Lib.hid (show rb = true by rw [← HRB.out]; exact decide_eq_true hlt3)
        clear hlt3
        go_wp2
        go_ret
        exact ⟨by rw [HR2.out]; rfl, HU.out⟩
    · obtain rfl : j = nb := by omega
      clear hu
      have hlt3 : ¬ a < b := lt_long (by rw [HNB.out, HT.out]; exact List.take_of_length_le (by rw [HNB.out]; exact Nat.le_refl _))
      have HR2 := Lib.hid (show rb = false by rw [← HRB.out]; exact decide_eq_false hlt3)
      clear hlt3
      go_wp2
      go_ret
      exact ⟨by rw [HR2.out]; rfl, HU.out⟩

end Go.Proofs.YtcbngjlgcgcljaaGreat
