/-
  The document's lessor: Due.
-/
import Derived.Test.YtcbngjlgcgcljaaGreatRefK
import Derived.Test.YtcbngjlgcgcljaaGreatLeaseD
import Derived.Deep.RegionHeld3
import Derived.Deep.QuietTactic
import Derived.BigQuiet
namespace Go.Proofs.YtcbngjlgcgcljaaGreat
open Go.RowKit Go.Tb Go.MapKept Go.ChangeMaps Go.Lib
set_option linter.unusedVariables false

/-- An element put into a list, by new rows: `append(append(append([]T{}, l[:m]...), y), l[m:]...)`. -/
theorem ins_runs {W : World} {v : Value} {l : List RL} (hsl : Sl rlenc W v l) (m : Nat) (hm : m ≤ l.length) (hlen : l.length < 1000) (y : RL) :
    ∃ a1 c1 w2 a2 c2 w4 a4 c4 a5 c5 w6 a6 c6, (∀ w, (Instr.slice 52 v none (some (.int .i64 (m : Int))) none).run Tryz.prog w = .ok (.slice a1 m c1) w) ∧
      (∀ ty, (Builtin.append_ #[52, 52] ty #[.slice (some ⟨W.heap.size, 0, none⟩) 0 0, .slice a1 m c1]).run Tryz.prog (W.alloc (.cells #[] 73)) = .ok (.slice a2 m c2) w2) ∧
      (∀ ty, (Builtin.append_ #[52, 52] ty #[.slice a2 m c2, .slice (some ⟨w2.heap.size, 0, none⟩) 1 1]).run Tryz.prog (w2.alloc (.cells #[.int .i64 y.id, .int .i64 y.ttl, .int .i64 y.due, .slice y.ka y.rows.length y.kc] 73)) = .ok (.slice a4 (m + 1) c4) w4) ∧
      (∀ w, (Instr.slice 52 v (some (.int .i64 (m : Int))) none none).run Tryz.prog w = .ok (.slice a5 (l.length - m) c5) w) ∧
      (∀ ty, (Builtin.append_ #[52, 52] ty #[.slice a4 (m + 1) c4, .slice a5 (l.length - m) c5]).run Tryz.prog w4 = .ok (.slice a6 (l.length + 1) c6) w6) ∧
      Upd (fun _ => False) W w2 ∧ Upd (fun _ => False) W w4 ∧ Upd (fun _ => False) W w6 ∧ Sl rlenc w6 (.slice a6 (l.length + 1) c6) (l.take m ++ [y] ++ l.drop m) := by
  obtain ⟨a1, c1, hs1, hsl1, -⟩ := hsl.upto (P := Tryz.prog) Tryz.underlying52 size_RLease rlenc_length m hm
  obtain ⟨a5, c5, hs5, hsl5, -⟩ := hsl.from_ (P := Tryz.prog) Tryz.underlying52 size_RLease rlenc_length m hm
  have hu1 : Upd (fun _ => False) W (W.alloc (.cells #[] 73)) := upd_alloc _ _ _
  have hown0 := own_empty (enc := rlenc) (k := 4) rlenc_length (heap_alloc W (.cells #[] 73)).1 (Nat.le_refl _)
  obtain ⟨a2, c2, w2, hap1, hown1, hu2, hbl2⟩ := run_append_any (P := Tryz.prog) (t := 52) Tryz.underlying52 info_RLease rfl (by decide) rlenc_length rlenc_one hown0 (hsl1.grow hu1) (by simp) (by simp [maxLen]; omega) (by simp; omega)
  have e1 : ([] ++ l.take m : List RL) = l.take m := rfl
  have l1 : (l.take m).length = m := by rw [List.length_take]; omega
  rw [e1] at hap1 hown1 hbl2
  have hu2' : Upd (fun _ => False) W w2 := hu1.trans' hu2 (fun x hx e => by cases e; simp at hx)
  have hge1 := own_ge hown1
  have hua := upd_alloc (fun _ => False) w2 (.cells #[.int .i64 y.id, .int .i64 y.ttl, .int .i64 y.due, .slice y.ka y.rows.length y.kc] 73)
  obtain ⟨a4, c4, w4, hap2, hown2, hu4, hbl4⟩ := run_append_one (P := Tryz.prog) (w := w2.alloc (.cells #[.int .i64 y.id, .int .i64 y.ttl, .int .i64 y.due, .slice y.ka y.rows.length y.kc] 73)) (t := 52) Tryz.underlying52 info_RLease rfl (by decide) rlenc_length rlenc_one y (own_grow hown1 hua) (heap_alloc w2 _).1 (Nat.le_trans hu2'.size (by simp)) (by rw [l1]; unfold maxLen; omega) (by rw [l1]; omega)
  have hu4' : Upd (fun _ => False) W w4 := (hu2'.trans hua).trans' hu4 (fun x hx e => by have := (hge1 x e).1; omega)
  have hge2 := own_ge hown2
  have l2 : (l.take m ++ [y]).length = m + 1 := by rw [List.length_append, l1]; rfl
  rw [l1] at hap2 hge2
  have hown2' : w4.ownsRow W.heap.size 73 4 (.slice a4 (m + 1) c4) (l.take m ++ [y]).length ((l.take m ++ [y]).flatMap rlenc) := by rw [l1] at hown2; exact hown2
  obtain ⟨a6, c6, w6, hap3, hown3, hu6, hbl6⟩ := run_append_any (P := Tryz.prog) (t := 52) Tryz.underlying52 info_RLease rfl (by decide) rlenc_length rlenc_one hown2' (hsl5.grow hu4') hu4'.size (by rw [l2, List.length_drop]; unfold maxLen; omega) (by rw [l2, List.length_drop]; omega)
  have hu6' : Upd (fun _ => False) W w6 := hu4'.trans' hu6 (fun x hx e => by have := (hge2 x e).1; omega)
  have l3 : (l.take m ++ [y] ++ l.drop m).length = l.length + 1 := by rw [List.length_append, l2, List.length_drop]; omega
  obtain ⟨hsl6, hge6⟩ := sl_of_own rlenc_length hown3
  rw [l3] at hap3 hsl6 hge6
  rw [l1] at hap1
  exact ⟨a1, c1, w2, a2, c2, w4, a4, c4, a5, c5, w6, a6, c6, hs1, hap1, hap2, hs5, hap3, hu2', hu4', hu6', hsl6⟩

def RL.lt (x y : RL) : Prop := x.due < y.due ∨ (x.due = y.due ∧ x.id < y.id)

/-- What is due, as Due puts it together. -/
structure DueL (now : Int) (l acc : List RL) : Prop where
  pw : acc.Pairwise RL.lt
  mem : ∀ r, r ∈ acc ↔ r ∈ l ∧ r.due ≤ now

theorem DueL.skip {now : Int} {l acc : List RL} {y : RL} (h : DueL now l acc) (hy : ¬ y.due ≤ now) : DueL now (l ++ [y]) acc :=
  ⟨h.pw, fun r => by
    rw [h.mem r, List.mem_append, List.mem_singleton]
    constructor
    · exact fun ⟨a, b⟩ => ⟨.inl a, b⟩
    · rintro ⟨a | rfl, b⟩
      · exact ⟨a, b⟩
      · exact absurd b hy⟩
theorem DueL.put {now : Int} {l acc : List RL} {y : RL} (h : DueL now l acc) (hy : y.due ≤ now) (hid : ∀ r ∈ l, r.id < y.id) (m : Nat) (hm : m ≤ acc.length) (hhi : ∀ k (hk : k < acc.length), m ≤ k → y.due < acc[k].due) (hlo : ∀ h : 0 < m, acc[m - 1].due ≤ y.due) :
    DueL now (l ++ [y]) (acc.take m ++ [y] ++ acc.drop m) := by
  have hmem : ∀ r, r ∈ acc.take m ++ [y] ++ acc.drop m ↔ r ∈ acc ∨ r = y := fun r => by
    have e : r ∈ acc ↔ r ∈ acc.take m ∨ r ∈ acc.drop m := by rw [← List.mem_append, List.take_append_drop]
    rw [List.mem_append, List.mem_append, List.mem_singleton, e]
    constructor
    · rintro ((q | q) | q)
      · exact .inl (.inl q)
      · exact .inr q
      · exact .inl (.inr q)
    · rintro ((q | q) | q)
      · exact .inl (.inl q)
      · exact .inr q
      · exact .inl (.inr q)
  have hpw := List.pairwise_iff_getElem.1 h.pw
  have hle : ∀ r ∈ acc.take m, r.lt y := fun r hr => by
    have hin : r ∈ acc := List.mem_of_mem_take hr
    have hrid := hid r ((h.mem r).1 hin).1
    obtain ⟨i, hi, rfl⟩ := List.getElem_of_mem hr
    rw [List.length_take] at hi
    rw [List.getElem_take] at hrid ⊢
    have h1 := hlo (by omega)
    by_cases e : i = m - 1
    · subst e
      unfold RL.lt; omega
    · have h2 := hpw i (m - 1) (by omega) (by omega) (by omega)
      unfold RL.lt at *; omega
  have hge : ∀ r ∈ acc.drop m, y.lt r := fun r hr => by
    obtain ⟨i, hi, rfl⟩ := List.getElem_of_mem hr
    rw [List.length_drop] at hi
    rw [List.getElem_drop]
    exact .inl (hhi (m + i) (by omega) (by omega))
  refine ⟨?_, fun r => ?_⟩
  · rw [List.pairwise_append, List.pairwise_append]
    refine ⟨⟨h.pw.sublist (List.take_sublist _ _), by simp, fun a ha b hb => ?_⟩, h.pw.sublist (List.drop_sublist _ _), fun a ha b hb => ?_⟩
    · rw [List.mem_singleton.1 hb]; exact hle a ha
    · rcases List.mem_append.1 ha with ha | ha
      · have h1 := hle a ha
        have h2 := hge b hb
        unfold RL.lt at *; omega
      · rw [List.mem_singleton.1 ha]; exact hge b hb
  · rw [hmem, h.mem, List.mem_append, List.mem_singleton]
    constructor
    · rintro (⟨a, b⟩ | rfl)
      · exact ⟨.inl a, b⟩
      · exact ⟨.inr rfl, hy⟩
    · rintro ⟨a | rfl, b⟩
      · exact .inl ⟨a, b⟩
      · exact .inr rfl

theorem _root_.Go.Tb.Upd.drewN {S : Nat → Prop} {a w : World} (h : Upd S a w) (n : Nat) : Upd S a (w.drewN n) := ⟨h.os, h.tape, h.output, h.size, h.block⟩

/-- What Due says. -/
def RDueSays (now : Int) (l : List RL) (w : World) (e : Ending) (w' : World) : Prop :=
  ∃ a c acc, e = .returned (.slice a (List.length acc) c) ∧ DueL now l acc ∧ Sl nenc w' (.slice a acc.length c) (acc.map (·.id)) ∧ Upd (fun _ => False) w w'

set_option maxRecDepth 100000 in
set_option maxHeartbeats 4000000 in
theorem rdue_calls (F : Nat → Prop) (b : Nat) (R : RS) (w : World) (h : IsRef F w b R) (hlen : R.l.length < 1000) (hp : (R.l.map (·.id)).Pairwise (· < ·)) :
    Calls Tryz.prog 30 #[.pointer (some ⟨b, 0, none⟩)] w (RDueSays R.now R.l w) := by
  obtain ⟨v, hblk, hsl, -⟩ := h.blk
  obtain ⟨a, c, rfl, -⟩ := hsl.shape
  have c2 : w.cell? ⟨b, 2, none⟩ = some (.slice a R.l.length c) := cell_of hblk 2
  have HSL := Lib.hid hsl
  have HBLK := Lib.hid hblk
  have hbw : b < w.heap.size := lt_of_heap hblk
  have HP := Lib.hid (show ∀ j s, R.l[j]? = some s → ∀ r ∈ R.l.take j, r.id < s.id from fun j s hs r hr => by
    obtain ⟨hj, rfl⟩ := List.getElem?_eq_some_iff.1 hs
    obtain ⟨i, hi, rfl⟩ := List.getElem_of_mem hr
    rw [List.length_take] at hi
    rw [List.getElem_take]
    have := List.pairwise_iff_getElem.1 hp i j (by simp; omega) (by simp; omega) (by omega)
    simpa using this)
  clear h hblk hsl hp
  generalize hl : R.l = l at *
  have HL := Lib.hid hl
  generalize hnow : R.now = now at *
  have HNOW := Lib.hid hnow
  clear hl hnow
  generalize hn : l.length = n at *
  have HN := Lib.hid hn
  clear hn
  go_enter Tryz.func30, Tryz.ntmps30
  go_upto_region 3 with (fail)
  have hu0 := upd_alloc (fun _ => False) w (.cells #[] 73)
  have HU0 := Lib.hid hu0
  have hs0 : Sl rlenc (w.alloc (.cells #[] 73)) (.slice (some ⟨w.heap.size, 0, none⟩) 0 0) [] := (sl_of_own rlenc_length (own_empty (base := w.heap.size) rlenc_length (heap_alloc w (.cells #[] 73)).1 (Nat.le_refl _))).1
  have HS0 := Lib.hid hs0
  clear hs0 hu0
  generalize w.alloc (.cells #[] 73) = w0 at *
  go_loopw [3, 17] (fun v i wr => ∃ j : Nat, j ≤ n ∧ i = .int .i64 j ∧ ∃ oa on oc, v = .slice oa on oc ∧ on ≤ j ∧ ∃ acc : List RL, on = acc.length ∧ DueL now (l.take j) acc ∧ Sl rlenc wr (.slice oa on oc) acc ∧ Upd (fun _ => False) w wr) (fun _ i _ => n - (intOf i).toNat)
  case atStart => exact ⟨0, Nat.zero_le _, rfl, _, _, _, rfl, Nat.le_refl _, [], rfl, ⟨.nil, fun r => by simp⟩, HS0.out, HU0.out⟩
  case round =>
    clear HS0 HU0
    obtain ⟨j, hj, rfl, oa, on, oc, rfl, hon, acc, hacc, hd, hsa, hu⟩ := hrel
    have HACC := Lib.hid hacc
    clear hacc
    have HD := Lib.hid hd
    have HSA := Lib.hid hsa
    have HU := Lib.hid hu
    clear hd hsa
    by_cases hlt : j < n
    · have hlt' : j < l.length := by rw [HN.out]; exact hlt
      obtain ⟨bk, off, cap, hee, hcap, hbk, -⟩ := (show Sl rlenc w (.slice a l.length c) l by rw [HN.out]; exact HSL.out).block (by omega)
      cases hee
      have hslr : Sl rlenc wr (.slice (some ⟨bk, off, none⟩) n c) l := HSL.out.grow hu
      have q0 := hslr.at rlenc_length j hlt' 0 (by decide) _ rfl
      have q1 := hslr.at rlenc_length j hlt' 1 (by decide) _ rfl
      have q2 := hslr.at rlenc_length j hlt' 2 (by decide) _ rfl
      have q3 := hslr.at rlenc_length j hlt' 3 (by decide) _ rfl
      rw [Nat.add_zero] at q0
      have HTK := Lib.hid (List.take_succ_eq_append_getElem hlt')
      have HPJ := Lib.hid (HP.out j _ (List.getElem?_eq_getElem hlt'))
      clear hslr
      generalize l[j] = y at *
      generalize hyi : y.id = yid at *
      generalize hyt : y.ttl = yt at *
      generalize hyd : y.due = yd at *
      generalize hya : y.ka = ya at *
      generalize hyc : y.kc = yc at *
      generalize hym : y.rows.length = ym at *
      have HYI := Lib.hid (And.intro hyi (And.intro hyt (And.intro hyd (And.intro hya (And.intro hyc hym)))))
      clear hyi hyt hyd hya hyc hym
      have hW1 := heap_alloc wr (.cells #[.int .i64 yid, .int .i64 yt, .int .i64 yd, .slice ya ym yc] 73)
      have hu1 := upd_alloc (fun _ => False) wr (.cells #[.int .i64 yid, .int .i64 yt, .int .i64 yd, .slice ya ym yc] 73)
      go_upto_region 5 with (fail)
      generalize wr.alloc (.cells #[.int .i64 yid, .int .i64 yt, .int .i64 yd, .slice ya ym yc] 73) = W1 at *
      have hw1 := hu.trans hu1
      have HW1 := Lib.hid hW1.1
      have HU1 := Lib.hid hu1
      have HUW1 := Lib.hid hw1
      have e2 : W1.drew.cell? ⟨wr.heap.size, 2, none⟩ = some (.int .i64 yd) := cell_of HW1.out 2
      have c0 : W1.drew.cell? ⟨b, 0, none⟩ = some (.int .i64 now) := cell_of (hw1.drew.heap HBLK.out (fun x => x)) 0
      clear q0 q1 q2 q3 hW1 hu1 hw1 hu
      generalize wr.heap.size = g at *
      by_cases hdue : now < yd
      · go_region_held3 (fun w' => w'.cell? ⟨b, 0, none⟩ = some (.int .i64 now) ∧ w'.cell? ⟨g, 2, none⟩ = some (.int .i64 yd)) (exact ⟨c0, e2⟩) (fail)
        go_wp2
        go_roundw
        case rel => exact ⟨j + 1, by omega, by go_num, _, _, _, rfl, by omega, acc, HACC.out, by rw [HTK.out]; exact HD.out.skip (by have := HYI.out.2.2.1; omega), HSA.out.grow (HU1.out.trans (Upd.refl _ _).drew), HUW1.out.drew⟩
        case measure => simp [intOf]; omega
      · go_region_held3 (fun w' => w'.cell? ⟨b, 0, none⟩ = some (.int .i64 now) ∧ w'.cell? ⟨g, 2, none⟩ = some (.int .i64 yd)) (exact ⟨c0, e2⟩) (fail)
        go_upto_region 7 with (fail)
        have HD1 := Lib.hid hdue
        clear hdue e2 c0
        obtain ⟨wo, hwo⟩ : ∃ wo : World, wo = wr := ⟨_, rfl⟩
        subst hwo
        go_loopw [6] (fun v wr => ∃ m : Nat, m ≤ on ∧ v = .int .i64 m ∧ (∀ k (hk : k < acc.length), m ≤ k → y.due < acc[k].due) ∧ Upd (fun _ => False) W1 wr) (fun v _ => (intOf v).toNat)
        case atStart => exact ⟨on, Nat.le_refl _, rfl, fun k hk h => by have := HACC.out; omega, (Upd.refl _ _).drew⟩
        case round =>
          obtain ⟨m, hm, rfl, hhi, hu⟩ := hrel
          have HHI := Lib.hid hhi
          have HU2 := Lib.hid hu
          have e2 : wr.cell? ⟨g, 2, none⟩ = some (.int .i64 yd) := cell_of (hu.heap HW1.out (fun x => x)) 2
          have hsw := HSA.out.grow (HU1.out.trans hu)
          clear hhi
          by_cases hmp : 0 < m
          case neg =>
            clear hsw
            go_upto_region 7 with (fail)
            have HNM := Lib.hid (show m = 0 by omega)
            go_quiet (fail)
            go_upto_region 9 with (fail)
            clear hmp
            have hml : m ≤ acc.length := by have := HACC.out; omega
            have HLO := Lib.hid (show ∀ h : 0 < m, acc[m - 1].due ≤ y.due from fun h => absurd HNM.out (Nat.pos_iff_ne_zero.1 h))
            obtain ⟨a1, c1, w2, a2, c2', w4, a4, c4, a5, c5, w6, a6, c6, hs1, hap1, hap2, hs5, hap3, hu2, hu4, hu6, hsl6⟩ := ins_runs (W := wr.drewN nq) (v := .slice oa on oc) (l := acc) (HSA.out.grow ((HU1.out.trans HU2.out).drewN nq)) (m) (by have := HACC.out; omega) (by have := HACC.out; omega) y
            rw [← HACC.out] at hs5 hap3 hsl6
            rw [HYI.out.1, HYI.out.2.1, HYI.out.2.2.1, HYI.out.2.2.2.1, HYI.out.2.2.2.2.1, HYI.out.2.2.2.2.2] at hap2
            have HUW := Lib.hid (HUW1.out.trans (HU2.out.drewN nq))
            have hb2 := ((HU2.out.drewN nq).trans hu2).heap HW1.out (fun x => x)
            have e0 := cell_of hb2 0
            have e1 := cell_of hb2 1
            have e2 := cell_of hb2 2
            have e3 := cell_of hb2 3
            have HSL6 := Lib.hid hsl6
            have HU6 := Lib.hid hu6
            clear hu2 hu4 hu6 hsl6 hb2
            generalize wr.drewN nq = W at *
            go_upto_region 10 with (at_builtin; refine wpList_append hap1 rfl rfl rfl rfl ?_)
            go_upto_region 11 with (at_builtin; refine wpList_append hap2 rfl rfl rfl rfl ?_)
            go_wp2_with (at_builtin; refine wpList_append hap3 rfl rfl rfl rfl ?_)
            go_roundw
            case rel => exact ⟨j + 1, by omega, by go_num, _, _, _, rfl, by omega, acc.take (m) ++ [y] ++ acc.drop (m), by have := HACC.out; simp; omega, by rw [HTK.out]; exact HD.out.put (by have := HD1.out; have := HYI.out.2.2.1; omega) (fun r hr => by rw [HYI.out.1]; exact HPJ.out r hr) _ (by have := HACC.out; omega) HHI.out HLO.out, HSL6.out, HUW.out.trans HU6.out⟩
            case measure => simp [intOf]; omega
          case pos =>
            have hm1 : m - 1 < acc.length := by have := HACC.out; omega
            obtain ⟨bq, oq, capq, hee2, -, -, -⟩ := (show Sl rlenc wr (.slice oa acc.length oc) acc by rw [← HACC.out]; exact hsw).block (by omega)
            cases hee2
            have q2 := (show Sl rlenc wr (.slice (some ⟨bq, oq, none⟩) on oc) acc from hsw).at rlenc_length (m - 1) hm1 2 (by decide) _ rfl
            have HNX := Lib.hid (show y.due < acc[m - 1].due → ∀ k (hk : k < acc.length), m - 1 ≤ k → y.due < acc[k].due from fun h k hk hk2 => by
              by_cases e : k = m - 1
              · subst e; exact h
              · exact HHI.out k hk (by omega))
            have HLO := Lib.hid (show ¬ y.due < acc[m - 1].due → ∀ h : 0 < m, acc[m - 1].due ≤ y.due from fun h _ => Int.not_lt.1 h)
            generalize hdm0 : acc[m - 1].due = dm at *
            have HDM := Lib.hid hdm0
            clear hdm0
            obtain ⟨p, hpm⟩ : ∃ p, m - 1 = p := ⟨_, rfl⟩
            rw [hpm] at q2 HNX
            have HPM := Lib.hid hpm
            clear hpm
            go_upto_region 7 with (fail)
            have hwp : IntKind.i64.wrap ((m : Int) - 1) = (p : Int) := by have := HPM.out; rw [IntWalk.i64_in _ (by omega)]; omega
            have hwq : (m : Int) - 1 = (p : Int) := by have := HPM.out; omega
            have hp2 : (p : Int) < (on : Int) := by have := HPM.out; omega
            by_cases hdm : yd < dm
            · go_quiet (fail)
              go_wp2
              go_roundw
              case rel => exact ⟨p, by have := HPM.out; omega, rfl, HNX.out (by have := HYI.out.2.2.1; omega), HU2.out.drewN nq⟩
              case measure => simp [intOf]; omega
            · go_quiet (fail)
              go_upto_region 9 with (fail)
              have HLO := Lib.hid (show ∀ h : 0 < m, acc[m - 1].due ≤ y.due from fun h => by rw [HDM.out]; exact HLO.out (by have := HYI.out.2.2.1; omega) h)
              clear hwp hwq hp2 hmp
              obtain ⟨a1, c1, w2, a2, c2', w4, a4, c4, a5, c5, w6, a6, c6, hs1, hap1, hap2, hs5, hap3, hu2, hu4, hu6, hsl6⟩ := ins_runs (W := wr.drewN nq) (v := .slice (some ⟨bq, oq, none⟩) on oc) (l := acc) (HSA.out.grow ((HU1.out.trans HU2.out).drewN nq)) (m) (by have := HACC.out; omega) (by have := HACC.out; omega) y
              rw [← HACC.out] at hs5 hap3 hsl6
              rw [HYI.out.1, HYI.out.2.1, HYI.out.2.2.1, HYI.out.2.2.2.1, HYI.out.2.2.2.2.1, HYI.out.2.2.2.2.2] at hap2
              have HUW := Lib.hid (HUW1.out.trans (HU2.out.drewN nq))
              have hb2 := ((HU2.out.drewN nq).trans hu2).heap HW1.out (fun x => x)
              have e0 := cell_of hb2 0
              have e1 := cell_of hb2 1
              have e2 := cell_of hb2 2
              have e3 := cell_of hb2 3
              have HSL6 := Lib.hid hsl6
              have HU6 := Lib.hid hu6
              clear hu2 hu4 hu6 hsl6 hb2
              generalize wr.drewN nq = W at *
              go_upto_region 10 with (at_builtin; refine wpList_append hap1 rfl rfl rfl rfl ?_)
              go_upto_region 11 with (at_builtin; refine wpList_append hap2 rfl rfl rfl rfl ?_)
              go_wp2_with (at_builtin; refine wpList_append hap3 rfl rfl rfl rfl ?_)
              go_roundw
              case rel => exact ⟨j + 1, by omega, by go_num, _, _, _, rfl, by omega, acc.take (m) ++ [y] ++ acc.drop (m), by have := HACC.out; simp; omega, by rw [HTK.out]; exact HD.out.put (by have := HD1.out; have := HYI.out.2.2.1; omega) (fun r hr => by rw [HYI.out.1]; exact HPJ.out r hr) _ (by have := HACC.out; omega) HHI.out HLO.out, HSL6.out, HUW.out.trans HU6.out⟩
              case measure => simp [intOf]; omega
    · obtain rfl : j = n := by omega
      have HDA := Lib.hid (show DueL now l acc by have := HD.out; rw [List.take_of_length_le (by rw [HN.out]; exact Nat.le_refl _)] at this; exact this)
      have hna : on ≤ 1000 := by omega
      have HUA := Lib.hid (hu.alloc (.cells #[] 2))
      have HSB := Lib.hid (HSA.out.grow (upd_alloc (fun _ => False) wr (.cells #[] 2)))
      have HOWN := Lib.hid (own_empty (enc := nenc) (k := 1) (base := wr.heap.size) nenc_length (heap_alloc wr (.cells #[] 2)).1 (Nat.le_refl _))
      have HB0 := Lib.hid (show w.heap.size ≤ wr.heap.size ∧ ∀ g, sliceBlock (.slice oa on oc) = some g → g < wr.heap.size from ⟨hu.size, fun g hg => HSA.out.lt hg⟩)
      clear hu
      go_upto_region 15 with (fail)
      clear HD HSA HU
      have HB1 := Lib.hid (show wr.heap.size ≤ (wr.alloc (.cells #[] 2)).heap.size by simp)
      generalize wr.alloc (.cells #[] 2) = w1 at *
      generalize wr.heap.size = B0 at *
      go_loopw [8, 63] (fun v i wr => ∃ k : Nat, k ≤ on ∧ i = .int .i64 k ∧ ∃ pa pc, v = .slice pa k pc ∧ wr.ownsRow B0 2 1 (.slice pa k pc) ((acc.map (·.id)).take k).length (((acc.map (·.id)).take k).flatMap nenc) ∧ Upd (fun x => B0 ≤ x) w1 wr) (fun _ i _ => on - (intOf i).toNat)
      case atStart => exact ⟨0, Nat.zero_le _, rfl, _, _, rfl, HOWN.out, Upd.refl _ _⟩
      case round =>
        clear HOWN
        obtain ⟨k, hk, rfl, pa, pc, rfl, hown, hu⟩ := hrel
        have hsl := HSB.out.upd hu (fun g hg e => by have := HB0.out.2 g hg; omega)
        have HOWN := Lib.hid hown
        have HU := Lib.hid hu
        clear hown hu
        by_cases hkt : k < on
        · have hk' : k < acc.length := by have := HACC.out; omega
          obtain ⟨bq, oq, capq, hee2, -, -, -⟩ := (show Sl rlenc wr (.slice oa acc.length oc) acc by rw [← HACC.out]; exact hsl).block (by omega)
          cases hee2
          have q0 := hsl.at rlenc_length k hk' 0 (by decide) _ rfl
          have q1 := hsl.at rlenc_length k hk' 1 (by decide) _ rfl
          have q2 := hsl.at rlenc_length k hk' 2 (by decide) _ rfl
          have q3 := hsl.at rlenc_length k hk' 3 (by decide) _ rfl
          rw [Nat.add_zero] at q0
          have hlk : ((acc.map (·.id)).take k).length = k := by rw [List.length_take, List.length_map]; omega
          have hu1 := ((upd_alloc (fun _ => False) wr (.cells #[.int .i64 acc[k].id, .int .i64 acc[k].ttl, .int .i64 acc[k].due, .slice acc[k].ka acc[k].rows.length acc[k].kc] 73)).alloc (.cells #[.int .i64 acc[k].id] 2))
          obtain ⟨a7, c7, w7, hap, hown7, hu7, -⟩ := run_append_one (P := Tryz.prog) (w := (wr.alloc (.cells #[.int .i64 acc[k].id, .int .i64 acc[k].ttl, .int .i64 acc[k].due, .slice acc[k].ka acc[k].rows.length acc[k].kc] 73)).alloc (.cells #[.int .i64 acc[k].id] 2)) (t := 45) Tryz.underlying45 info_i64 rfl (by decide) nenc_length nenc_one acc[k].id (own_grow HOWN.out hu1) (g := (wr.alloc (.cells #[.int .i64 acc[k].id, .int .i64 acc[k].ttl, .int .i64 acc[k].due, .slice acc[k].ka acc[k].rows.length acc[k].kc] 73)).heap.size) (heap_alloc _ _).1 (Nat.le_trans HB1.out (Nat.le_trans HU.out.size hu1.size)) (by rw [hlk]; unfold maxLen; omega) (by rw [hlk]; omega)
          have htk : (acc.map (·.id)).take (k + 1) = (acc.map (·.id)).take k ++ [acc[k].id] := by rw [List.take_succ_eq_append_getElem (by rw [List.length_map]; exact hk'), List.getElem_map]
          rw [hlk] at hap hown7
          rw [← htk] at hown7
          have HOWN7 := Lib.hid hown7
          have HU7 := Lib.hid (show Upd (fun x => B0 ≤ x) wr w7 from (hu1.weak _).trans (hu7.mono (fun x _ e => (own_ge HOWN.out x e).1)))
          have e0 := cell_of (heap_alloc wr (.cells #[.int .i64 acc[k].id, .int .i64 acc[k].ttl, .int .i64 acc[k].due, .slice acc[k].ka acc[k].rows.length acc[k].kc] 73)).1 0
          clear hown7 hu7 hu1 htk hlk hsl
          generalize acc[k].id = yid at *
          generalize acc[k].ttl = yt at *
          generalize acc[k].due = yd at *
          generalize acc[k].ka = ya at *
          generalize acc[k].kc = yc at *
          generalize acc[k].rows.length = ym at *
          go_upto_region 17 with (fail)
          generalize wr.alloc (.cells #[.int .i64 yid, .int .i64 yt, .int .i64 yd, .slice ya ym yc] 73) = W1 at *
          go_wp2_with (at_builtin; refine wpList_append hap rfl rfl rfl rfl ?_)
          go_roundw
          case rel => exact ⟨k + 1, by omega, by go_num, _, _, rfl, HOWN7.out, HU.out.trans HU7.out⟩
          case measure => simp [intOf]; omega
        · obtain rfl : k = on := by omega
          clear hsl
          go_wp2
          go_ret
          have htk : (acc.map (·.id)).take k = acc.map (·.id) := List.take_of_length_le (by rw [List.length_map]; have := HACC.out; omega)
          have h1 := (sl_of_own nenc_length HOWN.out).1
          rw [htk] at h1
          have hh := HACC.out
          subst hh
          exact ⟨pa, pc, acc, rfl, HDA.out, h1, HUA.out.trans' HU.out (fun x hx e => by have := HB0.out.1; omega)⟩

end Go.Proofs.YtcbngjlgcgcljaaGreat
