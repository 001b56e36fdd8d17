/-
  The document's lessor: Attach.
-/
import Derived.Test.YtcbngjlgcgcljaaGreatRefS
import Derived.Test.YtcbngjlgcgcljaaGreatRefN
namespace Go.Proofs.YtcbngjlgcgcljaaGreat
open Go.RowKit Go.Tb Go.MapKept Go.ChangeMaps Go.Lib
set_option linter.unusedVariables false

set_option maxRecDepth 100000 in
theorem rattach_no (F : Nat → Prop) (b : Nat) (R : RS) (id : Int) (v : Value) (w : World) (h : IsRef F w b R) (hlen : R.l.length ≤ 1000) (h0 : id ≠ 0) (hno : ∀ r ∈ R.l, r.id ≠ id) :
    Calls Tryz.prog 24 #[.pointer (some ⟨b, 0, none⟩), v, .int .i64 id] w fun e w' => e = .returned (.int .i64 17) ∧ w = w' := by
  have ha := rat_no F b R id w h hlen hno
  clear h hno
  go_enter Tryz.func24, Tryz.ntmps24
  go_wp2_with (go_at_call 38; (with_reducible refine ha.mono ?_); rintro e1 w1 ⟨rfl, rfl⟩)
  go_ret
  exact ⟨rfl, rfl⟩

/-- What Attach says. -/
def RAtt (F : Nat → Prop) (b : Nat) (R : RS) (key : List UInt8) (id : Int) (w : World) (e : Ending) (w' : World) : Prop :=
  e = .returned (.int .i64 0) ∧ (∃ l', Hung key id R.l l' ∧ IsRef F w' b { R with l := l' }) ∧ Upd (fun k => k = b) w w'

/-- What stands at the head of the inner loop. -/
def InRel (F : Nat → Prop) (W : World) (g : Nat) (key : List UInt8) (rows : List KRow) (d0 : Bool) (i : Nat) (v : Value) (n : Nat) (done : Bool) (wr : World) : Prop :=
  n ≤ 2 * i ∧ ∃ acc, Acc F W g v acc wr ∧ acc.map (·.2) ++ insRun key ((rows.drop i).map (·.2)) done = insRun key (rows.map (·.2)) d0

theorem run_keep {key : List UInt8} {acc rows : List KRow} {i : Nat} {done : Bool} {X : List (List UInt8)} (h : acc.map (·.2) ++ insRun key ((rows.drop i).map (·.2)) done = X) (hi : i < rows.length) (h1 : rows[i].2 ≠ key) (h2 : ¬ (done = false ∧ key < rows[i].2)) :
    (acc ++ [rows[i]]).map (·.2) ++ insRun key ((rows.drop (i + 1)).map (·.2)) done = X := by
  rw [← h, List.drop_eq_getElem_cons hi, List.map_cons]
  conv => rhs; unfold insRun
  rw [if_neg h1, if_neg h2]
  simp
theorem run_ins {key : List UInt8} {acc rows : List KRow} {i : Nat} {X : List (List UInt8)} (h : acc.map (·.2) ++ insRun key ((rows.drop i).map (·.2)) false = X) (hi : i < rows.length) (h1 : rows[i].2 ≠ key) (h2 : key < rows[i].2) (t : KRow) (ht : t.2 = key) :
    (acc ++ [t] ++ [rows[i]]).map (·.2) ++ insRun key ((rows.drop (i + 1)).map (·.2)) true = X := by
  rw [← h, List.drop_eq_getElem_cons hi, List.map_cons]
  conv => rhs; unfold insRun
  rw [if_neg h1, if_pos ⟨rfl, h2⟩]
  simp [ht]
theorem run_end {key : List UInt8} {acc rows : List KRow} {X : List (List UInt8)} {i : Nat} (hi : i = rows.length) (h : acc.map (·.2) ++ insRun key ((rows.drop i).map (·.2)) true = X) : acc.map (·.2) = X := by
  subst hi
  rw [← h]
  simp [insRun]
theorem run_last {key : List UInt8} {acc rows : List KRow} {X : List (List UInt8)} {i : Nat} (hi : i = rows.length) (h : acc.map (·.2) ++ insRun key ((rows.drop i).map (·.2)) false = X) (t : KRow) (ht : t.2 = key) : (acc ++ [t]).map (·.2) = X := by
  subst hi
  rw [← h]
  simp [insRun, ht]

theorem InRel.skip {F : Nat → Prop} {W : World} {g : Nat} {key : List UInt8} {rows : List KRow} {d0 : Bool} {i : Nat} {v : Value} {n : Nat} {done : Bool} {wr : World} (h : InRel F W g key rows d0 i v n done wr) (hi : i < rows.length) (e : rows[i].2 = key) {w2 : World} (hu : Upd (fun _ => False) wr w2) : InRel F W g key rows d0 (i + 1) v n done w2 := by
  obtain ⟨hn, acc, h1, h2⟩ := h
  refine ⟨by omega, acc, h1.grow hu, ?_⟩
  rw [← h2, List.drop_eq_getElem_cons hi, List.map_cons]
  conv => rhs; unfold insRun
  rw [if_pos e]

/-- One more of the keys that there were. -/
theorem InRel.keep {F : Nat → Prop} {W : World} {g : Nat} {key : List UInt8} {rows : List KRow} {d0 : Bool} {i : Nat} {a : Option Addr} {n c : Nat} {done : Bool} {wr w4 : World} (h : InRel F W g key rows d0 i (.slice a n c) n done wr) (hu : Upd (fun _ => False) wr w4) (hW : W.heap.size = g + 1)
    (hi : i < rows.length) (hsz : i ≤ 1000) (hb : Go.Tb.Bytes W rows[i].val rows[i].2) (hbF : ∀ b, sliceBlock rows[i].val = some b → ¬ F b ∧ b < g) (h1 : rows[i].2 ≠ key) (h2 : ¬ (done = false ∧ key < rows[i].2)) :
    ∃ a2 c2 w2, (∀ ty, (Builtin.append_ #[58, 58] ty #[.slice a n c, .slice (some ⟨w4.heap.size, 0, none⟩) 1 1]).run Tryz.prog (w4.alloc (.cells #[.slice rows[i].1.1 rows[i].2.length rows[i].1.2] 32)) = .ok (.slice a2 (n + 1) c2) w2) ∧
      InRel F W g key rows d0 (i + 1) (.slice a2 (n + 1) c2) (n + 1) done w2 := by
  obtain ⟨hn, acc, hacc, hrun⟩ := h
  have h4 := hacc.grow hu
  obtain ⟨a2, c2, w2, hap, hacc2⟩ := h4.push (by have := h4.hu.size; omega) rows[i] (Go.Tb.Bytes.upd hb h4.hu (fun b hb e => by have := (hbF b hb).2; omega)) (fun b hb => ⟨(hbF b hb).1, by have := (hbF b hb).2; omega, fun e => by have := (own_ge h4.own b e).1; have := (hbF b hb).2; omega⟩) (by omega)
  exact ⟨a2, c2, w2, hap, by omega, _, hacc2, run_keep hrun hi h1 h2⟩

/-- The new key. -/
theorem Acc.twin {F : Nat → Prop} {W : World} {g : Nat} {key : List UInt8} {a : Option Addr} {n c : Nat} {acc : List KRow} {wr w5 : World} (h : Acc F W g (.slice a n c) acc wr) (hW : W.heap.size = g + 1) (hF : ∀ x, F x → x ≤ g) (hn : n ≤ 10000) {g5 c5 : Nat} (hby : Go.Tb.Bytes w5 (.slice (some ⟨g5, 0, none⟩) key.length c5) key) (hg5 : wr.heap.size ≤ g5) (hu5 : Upd (fun _ => False) wr w5) :
    ∃ a2 c2 w6, (∀ ty, (Builtin.append_ #[58, 58] ty #[.slice a n c, .slice (some ⟨w5.heap.size, 0, none⟩) 1 1]).run Tryz.prog (w5.alloc (.cells #[.slice (some ⟨g5, 0, none⟩) key.length c5] 32)) = .ok (.slice a2 (n + 1) c2) w6) ∧
      Acc F W g (.slice a2 (n + 1) c2) (acc ++ [((some ⟨g5, 0, none⟩, c5), key)]) w6 := by
  have h5 := h.grow hu5
  have hs := h.hu.size
  exact h5.push (by have := hu5.size; omega) ((some ⟨g5, 0, none⟩, c5), key) hby (fun b hb => by
    have e0 : g5 = b := Option.some.inj hb
    subst e0
    exact ⟨fun e => by have := hF _ e; omega, by omega, fun e => by have := (own_ge h.own _ e).2; omega⟩) (by omega)

theorem InRel.ins {F : Nat → Prop} {W : World} {g : Nat} {key : List UInt8} {rows : List KRow} {d0 : Bool} {i : Nat} {a : Option Addr} {n c : Nat} {wr w5 : World} (h : InRel F W g key rows d0 i (.slice a n c) n false wr) (hW : W.heap.size = g + 1) (hF : ∀ x, F x → x ≤ g)
    (hi : i < rows.length) (hsz : i ≤ 1000) (hb : Go.Tb.Bytes W rows[i].val rows[i].2) (hbF : ∀ b, sliceBlock rows[i].val = some b → ¬ F b ∧ b < g) (h1 : rows[i].2 ≠ key) (h2 : key < rows[i].2)
    {g5 c5 : Nat} (hby : Go.Tb.Bytes w5 (.slice (some ⟨g5, 0, none⟩) key.length c5) key) (hg5 : wr.heap.size ≤ g5) (hu5 : Upd (fun _ => False) wr w5) :
    ∃ a2 c2 w6, (∀ ty, (Builtin.append_ #[58, 58] ty #[.slice a n c, .slice (some ⟨w5.heap.size, 0, none⟩) 1 1]).run Tryz.prog (w5.alloc (.cells #[.slice (some ⟨g5, 0, none⟩) key.length c5] 32)) = .ok (.slice a2 (n + 1) c2) w6) ∧
      ∃ a3 c3 w7, (∀ ty, (Builtin.append_ #[58, 58] ty #[.slice a2 (n + 1) c2, .slice (some ⟨w6.heap.size, 0, none⟩) 1 1]).run Tryz.prog (w6.alloc (.cells #[.slice rows[i].1.1 rows[i].2.length rows[i].1.2] 32)) = .ok (.slice a3 (n + 1 + 1) c3) w7) ∧
      InRel F W g key rows d0 (i + 1) (.slice a3 (n + 1 + 1) c3) (n + 1 + 1) true w7 := by
  obtain ⟨hn, acc, hacc, hrun⟩ := h
  obtain ⟨a2, c2, w6, hap, h6⟩ := hacc.twin hW hF (by omega) hby hg5 hu5
  obtain ⟨a3, c3, w7, hap7, h7⟩ := h6.push (by have := h6.hu.size; omega) rows[i] (Go.Tb.Bytes.upd hb h6.hu (fun b hb e => by have := (hbF b hb).2; omega)) (fun b hb => ⟨(hbF b hb).1, by have := (hbF b hb).2; omega, fun e => by have := (own_ge h6.own b e).1; have := (hbF b hb).2; omega⟩) (by omega)
  exact ⟨a2, c2, w6, hap, a3, c3, w7, hap7, by omega, _, h7, run_ins hrun hi h1 h2 _ rfl⟩

set_option maxRecDepth 100000 in
set_option maxHeartbeats 4000000 in
theorem rattach_yes (F : Nat → Prop) (b : Nat) (R : RS) (ka : Option Addr) (kc : Nat) (key : List UInt8) (id : Int) (w : World) (h : IsRef F w b R) (hF : ∀ k, F k → k < w.heap.size) (hlen : R.l.length ≤ 1000) (hp : (R.l.map (·.id)).Pairwise (· < ·)) (hv : Bytes w (.slice ka key.length kc) key) (hvl : key.length ≤ 1000) (hid : id = 0 ∨ ∃ r ∈ R.l, r.id = id)
    (hrows : ∀ r ∈ R.l, r.rows.length ≤ 1000 ∧ ∀ k ∈ r.rows, k.2.length ≤ 1000) :
    Calls Tryz.prog 24 #[.pointer (some ⟨b, 0, none⟩), .slice ka key.length kc, .int .i64 id] w (RAtt F b R key id w) := by
  obtain ⟨v, hblk, hsl, -⟩ := h.blk
  obtain ⟨a, c, rfl, -⟩ := hsl.shape
  have c2 : w.cell? ⟨b, 2, none⟩ = some (.slice a R.l.length c) := cell_of hblk 2
  have f2 := free_of hblk 2
  have hat : id ≠ 0 → ∃ jj : Nat, Calls Tryz.prog 38 #[.pointer (some ⟨b, 0, none⟩), .int .i64 id] w fun e w' => e = .returned (.int .i64 (jj : Nat)) ∧ w = w' := fun h0 => by
    rcases hid with rfl | ⟨r, hr, e⟩
    · exact absurd rfl h0
    · obtain ⟨jj, hj, rfl⟩ := List.getElem_of_mem hr
      exact ⟨jj, rat_yes F b R id w h hlen hp jj hj e⟩
  have HAT := Lib.hid hat
  have HSL := Lib.hid hsl
  have HBLK := Lib.hid hblk
  have HV := Lib.hid hv
  have HR := Lib.hid hrows
  have HF := Lib.hid hF
  have HH := Lib.hid h
  have hbw : b < w.heap.size := lt_of_heap hblk
  clear h hF hp hv hid hrows hblk hsl hat
  generalize hnk : key.length = nk at *
  have HNK := Lib.hid hnk
  clear hnk
  have HEND := Lib.hid (fun l2 v wr (h : Lst F w key id R.l R.l.length v l2 wr) => h.done HF.out HH.out)
  generalize hl : R.l = l at *
  have HL := Lib.hid hl
  clear hl
  generalize hn : l.length = n at *
  have HN := Lib.hid hn
  clear hn
  go_enter Tryz.func24, Tryz.ntmps24
  by_cases h0 : id = 0
  case' pos =>
    have hb0 : (id != 0) = false := by simp [h0]
    clear h0
    go_upto_region 5 with (fail)
  case' neg =>
    obtain ⟨jj, ha⟩ := HAT.out h0
    have hjj : ¬ ((jj : Int) < 0) := by omega
    go_upto_region 5 with (go_at_call 38; (with_reducible refine ha.mono ?_); rintro e1 w1 ⟨rfl, rfl⟩)
    clear ha hjj
  all_goals (
    clear HAT
    have hL0 : Lst F w key id l 0 (.slice (some ⟨w.heap.size, 0, none⟩) 0 0) [] (w.alloc (.cells #[] 73)) := 
      { own := own_empty rlenc_length (heap_alloc w (.cells #[] 73)).1 (Nat.le_refl _), len := rfl, each := fun i h1 h2 => absurd h2 (Nat.not_lt_zero _), ok := fun r hr => (List.not_mem_nil hr).elim, hu := upd_alloc _ _ _ }
    have HL0 := Lib.hid hL0
    clear hL0
    generalize w.alloc (.cells #[] 73) = w0 at *
    go_loopw [7, 28] (fun v i wr => ∃ j : Nat, j ≤ n ∧ i = .int .i64 j ∧ ∃ oa oc, v = .slice oa j oc ∧ ∃ l2, Lst F w key id l j (.slice oa j oc) l2 wr) (fun _ i _ => n - (intOf i).toNat)
    case atStart => exact ⟨0, Nat.zero_le _, rfl, _, _, rfl, [], HL0.out⟩
    case round =>
      clear HL0
      obtain ⟨j, hj, rfl, oa, oc, rfl, l2, hl2⟩ := hrel
      have HL2 := Lib.hid hl2
      clear hl2
      by_cases hlt : j < n
      · have hlt' : j < l.length := by rw [HN.out]; exact hlt
        obtain ⟨bk, off, cap, hee, hcap, hbk, -⟩ := (show Sl rlenc w (.slice a l.length c) l by rw [HN.out]; exact HSL.out).block (by omega)
        cases hee
        have hslr : Sl rlenc wr (.slice (some ⟨bk, off, none⟩) n c) l := HSL.out.grow HL2.out.hu
        have q0 := hslr.at rlenc_length j hlt' 0 (by decide) _ rfl
        have q1 := hslr.at rlenc_length j hlt' 1 (by decide) _ rfl
        have q2 := hslr.at rlenc_length j hlt' 2 (by decide) _ rfl
        have q3 := hslr.at rlenc_length j hlt' 3 (by decide) _ rfl
        rw [Nat.add_zero] at q0
        have HOK := Lib.hid (HH.out.ok _ (by rw [HL.out]; exact List.getElem_mem hlt'))
        have HRR := Lib.hid (HR.out _ (List.getElem_mem hlt'))
        have HCL := Lib.hid (fun W1 wr2 hu1 h1 pa pn pc acc hacc old hb d0 hd hX => Lst.close HL2.out HF.out hlt' (by omega) (W1 := W1) (wr := wr2) hu1 h1 (pa := pa) (pn := pn) (pc := pc) (acc := acc) hacc (old := old) hb (d0 := d0) hd hX)
        clear hslr
        generalize l[j] = y at *
        generalize hyi : y.id = yid at *
        generalize hyt : y.ttl = yt at *
        generalize hyd : y.due = yd at *
        generalize hya : y.ka = ya at *
        generalize hyc : y.kc = yc at *
        generalize hym : y.rows.length = ym at *
        have HYI := Lib.hid (And.intro hyi (And.intro hyt (And.intro hyd (And.intro hya (And.intro hyc hym)))))
        clear hyi hyt hyd hya hyc hym
        have hW1 := heap_alloc wr (.cells #[.int .i64 yid, .int .i64 yt, .int .i64 yd, .slice ya ym yc] 73)
        go_upto_region 7 with (fail)
        have hg1 : (wr.alloc (.cells #[.int .i64 yid, .int .i64 yt, .int .i64 yd, .slice ya ym yc] 73)).heap.size = wr.heap.size + 1 := by simp
        have HU1 := Lib.hid (upd_alloc (fun _ => False) wr (.cells #[.int .i64 yid, .int .i64 yt, .int .i64 yd, .slice ya ym yc] 73))
        have hgw : w.heap.size ≤ wr.heap.size := HL2.out.hu.size
        have HG1 := Lib.hid hg1
        generalize wr.alloc (.cells #[.int .i64 yid, .int .i64 yt, .int .i64 yd, .slice ya ym yc] 73) = W1 at *
        generalize hgg : wr.heap.size = g at *
        have HGG := Lib.hid hgg
        clear hgg q0 q1 q2 q3 hg1
        have hW2 := upd_alloc (fun _ => False) W1 (.cells #[] 32)
        have HB1 := Lib.hid hW1.1
        have e0 := hW2.cell (cell_of hW1.1 0) (fun x => x)
        have e3 := hW2.cell (cell_of hW1.1 3) (fun x => x)
        have hA0 : Acc (fun k => F k ∨ (w.heap.size ≤ k ∧ k ≤ g)) W1 g (.slice (some ⟨W1.heap.size, 0, none⟩) 0 0) [] (W1.alloc (.cells #[] 32)) :=
          { own := own_empty renc_length (heap_alloc W1 (.cells #[] 32)).1 (by rw [HG1.out]; exact Nat.le_refl _), by_ := fun k hk => (List.not_mem_nil hk).elim, byF := fun k hk => (List.not_mem_nil hk).elim, hu := hW2.weak _ }
        have HA0 := Lib.hid hA0
        clear hA0 hW2 hW1
        go_upto_region 8 with (fail)
        generalize W1.alloc (.cells #[] 32) = W2 at *
        obtain ⟨d0, hd0⟩ : ∃ d0, (yid != id) = d0 := ⟨_, rfl⟩
        go_upto_region 10 with (fail)
        have HD0 := Lib.hid hd0
        clear hd0
        have HE3 := Lib.hid e3
        have hlm : ∀ k ∈ y.rows, k.2.length ≤ 1000 := HRR.out.2
        have HLM := Lib.hid hlm
        have hm1000 : ym ≤ 1000 := HRR.out.1
        have hys : Sl renc w (.slice ya ym yc) y.rows := by
          have h1 := HOK.out.sl
          have h2 := HYI.out.2.2.2
          unfold RL.kv at h1
          rw [h2.1, h2.2.1, h2.2.2] at h1
          exact h1
        have HYS := Lib.hid hys
        have hwW : Upd (fun _ => False) w W1 := HL2.out.hu.trans HU1.out
        have HWW := Lib.hid hwW
        have hFg : ∀ x, (F x ∨ (w.heap.size ≤ x ∧ x ≤ g)) → x ≤ g := fun x hx => hx.elim (fun hx => Nat.le_of_lt (Nat.lt_of_lt_of_le (HF.out x hx) hgw)) (fun hx => hx.2)
        have HFG := Lib.hid hFg
        have hYB : ∀ k ∈ y.rows, Go.Tb.Bytes W1 k.val k.2 ∧ ∀ b, sliceBlock k.val = some b → ¬ (F b ∨ (w.heap.size ≤ b ∧ b ≤ g)) ∧ b < g := fun k hk =>
          ⟨Go.Tb.Bytes.upd (HOK.out.by_ k hk) hwW (fun _ _ x => x), fun b hb => ⟨fun e => e.elim (HOK.out.byF k hk b hb) (fun e => absurd (Go.Tb.Bytes.lt (HOK.out.by_ k hk) hb) (Nat.not_lt.2 e.1)), Nat.lt_of_lt_of_le (Go.Tb.Bytes.lt (HOK.out.by_ k hk) hb) hgw⟩⟩
        have HYB := Lib.hid hYB
        clear hys hwW hFg hYB
        obtain ⟨wo, hwo⟩ : ∃ wo : World, wo = wr := ⟨_, rfl⟩
        subst hwo
        clear hlm e0 e3 HRR
        go_loopw [10, 11, 40] (fun v d i wr2 => ∃ i' : Nat, i' ≤ ym ∧ i = .int .i64 i' ∧ ∃ done : Bool, d = .bool done ∧ ∃ pa pn pc, v = .slice pa pn pc ∧ InRel (fun k => F k ∨ (w.heap.size ≤ k ∧ k ≤ g)) W1 g key y.rows d0 i' (.slice pa pn pc) pn done wr2) (fun _ _ i _ => ym - (intOf i).toNat)
        case atStart => exact ⟨0, Nat.zero_le _, rfl, d0, rfl, _, _, _, rfl, Nat.zero_le _, [], HA0.out, rfl⟩
        case round =>
          clear HA0
          obtain ⟨i, hi, rfl, done, rfl, pa, pn, pc, rfl, hin⟩ := hrel
          have HIN := Lib.hid hin
          obtain ⟨hpn, acc, hacc, hrun⟩ := hin
          have hWr : Upd (fun _ => False) w wr := HWW.out.trans' hacc.hu (fun x hx e => by omega)
          have HWR := Lib.hid hWr
          by_cases hit : i < ym
          · have hi' : i < y.rows.length := by have := HYI.out.2.2.2.2.2; omega
            obtain ⟨bk2, off2, cap2, hee2, -, -, -⟩ := (show Sl renc w (.slice ya y.rows.length yc) y.rows by have := HYI.out.2.2.2.2.2; rw [this]; exact HYS.out).block (by omega)
            cases hee2
            have qk := (HYS.out.grow hWr).at renc_length i hi' 0 (by decide) _ rfl
            rw [Nat.mul_one, Nat.add_zero] at qk
            have hkb := HYB.out _ (List.getElem_mem hi')
            have hkl := HLM.out _ (List.getElem_mem hi')
            have hkw : Go.Tb.Bytes wr y.rows[i].val y.rows[i].2 := Go.Tb.Bytes.upd (HOK.out.by_ _ (List.getElem_mem hi')) hWr (fun _ _ x => x)
            have hkey : Bytes wr (.slice ka nk kc) key := HV.out.grow hWr
            have hsm := rsame_calls _ _ _ _ wr (.inl hkw) hkey
            have had := rahead_calls _ _ _ _ wr hkey (.inl hkw) (by have := HNK.out; omega) (by omega)
            have HKEEP := Lib.hid (fun w4 (hu : Upd (fun _ => False) wr w4) => InRel.keep HIN.out hu HG1.out hi' (by omega) hkb.1 hkb.2)
            have HINS := Lib.hid (fun (hd : done = false) h1 h2 w5 g5 c5 hby hg5 (hu5 : Upd (fun _ => False) wr w5) => InRel.ins (by rw [hd] at HIN; exact HIN.out) HG1.out HFG.out hi' (by omega) hkb.1 hkb.2 h1 h2 (w5 := w5) (g5 := g5) (c5 := c5) hby hg5 hu5)
            have HSKIP := Lib.hid (fun (h : y.rows[i].2 = key) => InRel.skip HIN.out hi' h (Upd.refl _ wr))
            clear hkb hkw hkl hacc hrun hpn HIN
            unfold KRow.val at hsm had
            generalize y.rows[i] = k at *
            generalize k.1.1 = z1 at *
            generalize k.1.2 = z3 at *
            generalize hz2 : k.2.length = z2 at *
            clear hz2
            generalize k.2 = kb at *
            clear hi'
            by_cases hsk : kb = key
            · have hin2 := Lib.hid (HSKIP.out hsk)
              rw [beq_iff_eq.2 hsk] at hsm
              clear hsk HSKIP HINS HKEEP had hkey hWr
              go_wp2_with (go_at_call 41; (with_reducible refine hsm.mono ?_); rintro e1 w1 ⟨rfl, rfl⟩)
              go_roundw
              case rel => exact ⟨i + 1, by omega, by go_num, done, rfl, pa, pn, pc, rfl, hin2.out⟩
              case measure => simp [intOf]; omega
            · rw [beq_eq_false_iff_ne.2 hsk] at hsm
              have HSK := Lib.hid hsk
              clear hsk HSKIP hkey hWr
              cases done with
              | true =>
                have HK2 := Lib.hid (fun w4 hu => HKEEP.out w4 hu HSK.out (fun q => absurd q.1 (by decide)))
                clear HKEEP HINS
                obtain ⟨a4, c4, w4, hap, hin4⟩ := HK2.out wr (Upd.refl _ _)
                have HIN4 := Lib.hid hin4
                clear hin4 had
                go_wp2_with (first
                  | (go_at_call 41; (with_reducible refine hsm.mono ?_); rintro e1 w1 ⟨rfl, rfl⟩)
                  | (at_builtin; refine wpList_append hap rfl rfl rfl rfl ?_))
                go_roundw
                case rel => exact ⟨i + 1, by omega, by go_num, true, rfl, _, _, _, rfl, HIN4.out⟩
                case measure => simp [intOf]; omega
              | false =>
                have HR2 := Lib.hid (HWR.out)
                by_cases hlt2 : key < kb
                · rw [decide_eq_true hlt2] at had
                  have HI2 := Lib.hid (HINS.out rfl HSK.out hlt2)
                  clear HKEEP HINS hlt2
                  go_upto_region 14 with (first
                    | (go_at_call 41; (with_reducible refine hsm.mono ?_); rintro e1 w1 ⟨rfl, rfl⟩)
                    | (go_at_call 42; (with_reducible refine had.mono ?_); rintro e1 w4 ⟨rfl, hu4⟩))
                  have HU4 := Lib.hid hu4
                  have htw := rtwin_calls _ key w4 (HV.out.grow (HWR.out.trans hu4)) (by have := HNK.out; omega)
                  clear hu4 hsm had
                  go_upto_region 15 with (first
                    | (go_at_call 22; (with_reducible refine htw.mono ?_); intro e5 w5 h5; obtain ⟨g5, c5, rfl, hby5, hg5, hu5, -⟩ := h5; obtain ⟨a6, c6, w6, hap6, a7, c7, w7, hap7, hin7⟩ := HI2.out w5 g5 c5 hby5 (Nat.le_trans HU4.out.size hg5) (HU4.out.trans hu5); have HIN7 := Lib.hid hin7; have HAP7 := Lib.hid hap7; clear hby5 hg5 hu5 hin7 hap7 htw)
                    | (at_builtin; refine wpList_append hap6 rfl rfl rfl rfl ?_))
                  have hap7 := HAP7.out
                  go_wp2_with (at_builtin; refine wpList_append hap7 rfl rfl rfl rfl ?_)
                  go_roundw
                  case rel => exact ⟨i + 1, by omega, by go_num, true, rfl, _, _, _, rfl, HIN7.out⟩
                  case measure => simp [intOf]; omega
                · rw [decide_eq_false hlt2] at had
                  have HK2 := Lib.hid (fun w4 hu => HKEEP.out w4 hu HSK.out (fun q => absurd q.2 hlt2))
                  clear HKEEP HINS hlt2
                  go_wp2_with (first
                    | (go_at_call 41; (with_reducible refine hsm.mono ?_); rintro e1 w1 ⟨rfl, rfl⟩)
                    | (go_at_call 42; (with_reducible refine had.mono ?_); rintro e1 w4 ⟨rfl, hu4⟩; obtain ⟨a5, c5, w5, hap, hin5⟩ := HK2.out w4 hu4; have HIN5 := Lib.hid hin5; clear hu4 hin5)
                    | (at_builtin; refine wpList_append hap rfl rfl rfl rfl ?_))
                  go_roundw
                  case rel => exact ⟨i + 1, by omega, by go_num, false, rfl, _, _, _, rfl, HIN5.out⟩
                  case measure => simp [intOf]; omega
          · obtain rfl : i = ym := by omega
            have hby := HV.out.grow hWr
            have HHW := Lib.hid (show wr.heap[g]? = some (.cells #[.int .i64 yid, .int .i64 yt, .int .i64 yd, .slice ya i yc] 73 (0, 0)) from hacc.hu.heap HB1.out (by omega))
            have HACC := Lib.hid hacc
            have HRUN := Lib.hid hrun
            have hpn2 : pn ≤ 2000 := by omega
            clear HIN hacc hrun hpn hWr
            cases done with
            | true =>
              obtain ⟨hW5, a6, c6, w6, hap, l3, hl3⟩ := HCL.out W1 wr HU1.out HG1.out pa pn pc acc HACC.out _ HHW.out d0 HD0.out (run_end HYI.out.2.2.2.2.2.symm HRUN.out)
              have HL3 := Lib.hid hl3
              have f3 := free_of HHW.out 3
              have e3 := cell_of HHW.out 3
              have HW5 := Lib.hid hW5
              clear hl3 hby hW5
              go_upto_region 21 with (fail)
              have e0 := cell_of HW5.out 0
              have e1 := cell_of HW5.out 1
              have e2 := cell_of HW5.out 2
              have e3 := cell_of HW5.out 3
              generalize wr.setCell ⟨g, 3, none⟩ (.slice pa pn pc) = W5 at *
              go_wp2_with (at_builtin; refine wpList_append hap rfl rfl rfl rfl ?_)
              go_roundw
              case rel => exact ⟨j + 1, by omega, by go_num, a6, c6, rfl, l3, HL3.out⟩
              case measure => simp [intOf]; omega
            | false =>
              have htw := rtwin_calls _ key wr hby (by have := HNK.out; omega)
              clear hby
              go_upto_region 20 with (first
                | (go_at_call 22; (with_reducible refine htw.mono ?_); intro e5 w5 h5; obtain ⟨g5, c5, rfl, hby5, hg5, hu5, -⟩ := h5; obtain ⟨a6, c6, w6, hap6, hacc6⟩ := HACC.out.twin HG1.out HFG.out (by omega) hby5 hg5 hu5; have HACC6 := Lib.hid hacc6; clear hby5 hg5 hu5 hacc6 htw)
                | (at_builtin; refine wpList_append hap6 rfl rfl rfl rfl ?_))
              have hhw6 := HACC6.out.hu.heap HB1.out (by omega)
              obtain ⟨hW5, a7, c7, w7, hap, l3, hl3⟩ := HCL.out W1 w6 HU1.out HG1.out a6 (pn + 1) c6 _ HACC6.out _ hhw6 d0 HD0.out (run_last HYI.out.2.2.2.2.2.symm HRUN.out _ rfl)
              have HL3 := Lib.hid hl3
              have f3 := free_of hhw6 3
              have e3 := cell_of hhw6 3
              have HW5 := Lib.hid hW5
              clear hl3 hW5 hhw6 hap6
              go_upto_region 21 with (fail)
              have e0 := cell_of HW5.out 0
              have e1 := cell_of HW5.out 1
              have e2 := cell_of HW5.out 2
              have e3 := cell_of HW5.out 3
              generalize w6.setCell ⟨g, 3, none⟩ (.slice a6 (pn + 1) c6) = W5 at *
              go_wp2_with (at_builtin; refine wpList_append hap rfl rfl rfl rfl ?_)
              go_roundw
              case rel => exact ⟨j + 1, by omega, by go_num, a7, c7, rfl, l3, HL3.out⟩
              case measure => simp [intOf]; omega
      · obtain rfl : j = n := by omega
        have hblkr := HL2.out.hu.heap HBLK.out (fun x => x)
        have c2r : wr.cell? ⟨b, 2, none⟩ = some (.slice a j c) := cell_of hblkr 2
        have f2r := free_of hblkr 2
        have HE := Lib.hid (HEND.out _ _ _ HL2.out)
        clear hblkr
        go_wp2
        go_ret
        exact ⟨rfl, ⟨l2, by rw [HL.out]; exact HE.out.1, HE.out.2.1⟩, HE.out.2.2⟩)

end Go.Proofs.YtcbngjlgcgcljaaGreat
