/-
  The document's disk: Crash.
-/
import Derived.Test.YteokbokgiejmpaaPDiskE
import Derived.Test.YteokbokgiejmpaaDiskE
import Derived.Deep.QuietTactic
import Derived.BigQuiet
namespace Go.Proofs.Yteokbokgiejmpaa
open Go.RowKit Go.Tb Go.MapKept Go.ChangeMaps
set_option linter.unusedVariables false

def ienc (x : Int) : List Value := [.int .i64 x]
theorem ienc_length (x : Int) : (ienc x).length = 1 := rfl
theorem sl_bytes {w : World} {v : Value} {l : List UInt8} (h : Sl uenc w v l) : Bytes w v l := by
  rcases h with h | ⟨b, off, cap, rfl, hc, hb, hx⟩
  · exact .inl h
  · refine .inr ⟨b, off, cap, rfl, hc, hb, fun i hi => hx i _ ?_⟩
    have e : l.flatMap uenc = l.map u8v := flat_one l
    rw [e, List.getElem?_map, List.getElem?_eq_getElem hi]; rfl
theorem _root_.Go.Tb.Upd.drewN {S : Nat → Prop} {a w : World} (h : Upd S a w) (n : Nat) : Upd S a (w.drewN n) := ⟨h.os, h.tape, h.output, h.size, h.block⟩

def keptN (ks : List (Int × Int)) (k : Int) : Nat := ((keptOf ks k).getD 0).toNat
theorem keptN_le (ks : List (Int × Int)) (k : Int) : keptN ks k ≤ 256 := by have := kept_range ks k; unfold keptN; omega
/-- A page, as a crash leaves it. -/
def crashRow (ks : List (Int × Int)) (k : Int) (old l : List UInt8) : List UInt8 := l.take (keptN ks k) ++ old.drop (keptN ks k)

/-- The pages behind a crash, the first `j` of the cache looked at. -/
structure CrashP (ks : List (Int × Int)) (c : List (Int × List UInt8)) (pages pg : List (List UInt8)) (j : Nat) : Prop where
  len : pg.length = pages.length
  at_ : ∀ k : Nat, k < pages.length → pg.getD k [] = match lookC (c.take j) (k : Int) with | none => pages.getD k [] | some l => crashRow ks k (pages.getD k []) l
theorem CrashP.start (ks : List (Int × Int)) (c : List (Int × List UInt8)) (pages : List (List UInt8)) : CrashP ks c pages pages 0 := ⟨rfl, fun k hk => rfl⟩
theorem CrashP.step {ks : List (Int × Int)} {c : List (Int × List UInt8)} {pages pg : List (List UInt8)} {j : Nat} (h : CrashP ks c pages pg j) (hnd : (c.map (·.1)).Nodup) (hj : j < c.length) (p : Nat) (hp : c[j].1 = (p : Int)) (hpl : p < pages.length) : CrashP ks c pages (pg.set p (crashRow ks p (pg.getD p []) c[j].2)) (j + 1) := by
  have hno : ∀ r ∈ c.take j, r.1 ≠ (p : Int) := fun r hr e => by
    obtain ⟨i, hi, rfl⟩ := List.getElem_of_mem hr
    rw [List.length_take] at hi
    rw [List.getElem_take] at e
    have : i = j := (List.getElem_inj (h₀ := by simp; omega) (h₁ := by simpa using hj) hnd).1 (by rw [List.getElem_map, List.getElem_map, e, hp])
    omega
  have hat := h.at_ p hpl
  rw [lookC_none hno] at hat
  refine ⟨by rw [List.length_set]; exact h.len, fun k hk => ?_⟩
  rw [List.take_succ_eq_append_getElem hj, lookC_append, lookC_cons, lookC_nil, hp]
  by_cases e : p = k
  · subst e
    rw [if_pos rfl, lookC_none hno, hat]
    simp only [List.getD_eq_getElem?_getD]
    rw [List.getElem?_set, if_pos rfl, if_pos (by rw [h.len]; exact hpl)]
    rfl
  · rw [if_neg (by omega)]
    have h2 := h.at_ k hk
    have h3 : (pg.set p (crashRow ks p (pg.getD p []) c[j].2)).getD k [] = pg.getD k [] := by
      simp only [List.getD_eq_getElem?_getD]
      rw [List.getElem?_set, if_neg e]
    rw [h3, h2]
    cases lookC (c.take j) (k : Int) <;> rfl

/-- What Crash says. -/
def RCrashSays (P : Nat → Prop) (b : Nat) (D : RD) (ks : List (Int × Int)) (w : World) (e : Ending) (w' : World) : Prop :=
  e = .returned (.tuple #[]) ∧ Upd P w w' ∧ ∃ pg, CrashP ks D.cache D.pages pg D.cache.length ∧ IsRD (PN P w w') w' b ({ D with pages := pg, cache := [], fuse := -1, dead := false } : RD)


set_option maxHeartbeats 1000000 in
theorem crash_row {P : Nat → Prop} {w w3 : World} {b : Nat} {D : RD} {pv cv : Value} {rows : List KRow} {cs : List WRow} (h : RDAt P w b D pv cv rows cs) {p : Nat} (hp : p < rows.length) (hu : Upd (fun _ => False) w w3) {B g c n : Nat} {m : List UInt8} (hm : m.length = n) (hn : n ≤ 256) (hB : w.heap.size ≤ B)
    (hown : w3.ownsRow B 5 1 (.slice (some ⟨g, 0, none⟩) n c) m.length (m.map u8v)) (hB3 : B ≤ w3.heap.size) :
    ∃ a1 c1 a6 c6 w6, (∀ w, (Instr.slice 29 (.slice rows[p].1.1 rows[p].2.length rows[p].1.2) (some (.int .i64 (n : Int))) none none).run Try.prog w = .ok (.slice a1 (256 - n) c1) w) ∧
      (∀ ty, (Builtin.append_ #[29, 29] ty #[.slice (some ⟨g, 0, none⟩) n c, .slice a1 (256 - n) c1]).run Try.prog w3 = .ok (.slice a6 256 c6) w6) ∧
      Upd (fun k => B ≤ k) w3 w6 ∧ RowsAt (PN P w w6) w6 b pv cv ((a6, c6), m ++ rows[p].2.drop n) := by
  have hr := h.pby _ (List.getElem_mem hp)
  have hs := (bytes_sl hr.by_)
  unfold KRow.val at hs
  obtain ⟨a1, c1, hs1, hsl1, -⟩ := hs.from_ (P := Try.prog) Try.underlying29 sz_u8 uenc_length n (by rw [hr.len]; exact hn)
  have hown2 : w3.ownsRow B 5 1 (.slice (some ⟨g, 0, none⟩) n c) m.length (m.flatMap uenc) := by
    have e : m.flatMap uenc = m.map u8v := flat_one m
    rw [e]; exact hown
  rw [show rows[p].2.length - n = 256 - n by rw [hr.len]] at hs1 hsl1
  have hld : (rows[p].2.drop n).length = 256 - n := by rw [List.length_drop, hr.len]
  obtain ⟨a6, c6, w6, hap, hown6, hu6, -⟩ := run_append_any (P := Try.prog) (t := 29) Try.underlying29 info_u8 rfl (by decide) uenc_length uenc_one hown2 (hsl1.grow hu) hB3 (by rw [hm, hld]; unfold maxLen; omega) (by rw [hm, hld]; omega)
  have hlen : (m ++ rows[p].2.drop n).length = 256 := by rw [List.length_append, hm, hld]; omega
  have e2 : (m ++ rows[p].2.drop n).flatMap uenc = (m ++ rows[p].2.drop n).map u8v := flat_one _
  have hb6 := bytes_of_own (l := m ++ rows[p].2.drop n) (by rw [← e2]; exact hown6)
  have hge := own_ge hown6
  rw [hlen] at hap hge
  have hq : RowsAt (PN P w w6) w6 b pv cv ((a6, c6), m ++ rows[p].2.drop n) := by
    refine { by_ := hb6.1, len := hlen, ap := fun k hk => ?_ }
    have hk2 : sliceBlock (.slice a6 256 c6) = some k := by rw [← hlen]; exact hk
    have := hge k hk2
    exact ⟨.inr ⟨by omega, this.2⟩, fun e => by have := h.lt b h.pb; omega, fun e => by have := h.lt k (h.pp k e); omega, fun e => by have := h.lt k (h.pc k e); omega⟩
  exact ⟨a1, c1, a6, c6, w6, hs1, hap, hu6.mono (fun k _ e => (own_ge hown k e).1), hq⟩

theorem keptN_snoc_eq (l : List (Int × Int)) (x : Int × Int) (p : Int) (h : x.1 = p) : ((keptN (l ++ [x]) p : Nat) : Int) = min (max x.2 0) 256 := by
  unfold keptN
  rw [keptOf_snoc, if_pos h.symm]
  simp only [Option.getD_some, clamp]
  omega
theorem keptN_snoc_ne (l : List (Int × Int)) (x : Int × Int) (p : Int) (h : x.1 ≠ p) : keptN (l ++ [x]) p = keptN l p := by
  unfold keptN
  rw [keptOf_snoc, if_neg (fun e => h e.symm)]

set_option maxRecDepth 100000 in
set_option maxHeartbeats 4000000 in
theorem rcrash_calls (P : Nat → Prop) (b : Nat) (D : RD) (ks : List (Int × Int)) (a1 a2 : Option Addr) (c1 c2 : Nat) (w : World) (h : IsRD P w b D) (hk1 : Sl ienc w (.slice a1 ks.length c1) (ks.map Prod.fst)) (hk2 : Sl ienc w (.slice a2 ks.length c2) (ks.map Prod.snd)) (hkP1 : ∀ k, sliceBlock (.slice a1 ks.length c1) = some k → ¬ P k) (hkP2 : ∀ k, sliceBlock (.slice a2 ks.length c2) = some k → ¬ P k) (hkl : ks.length ≤ 1000)
    (hlen : D.cache.length ≤ 100000) (hnd : (D.cache.map (·.1)).Nodup) (hin : ∀ r ∈ D.cache, 0 ≤ r.1 ∧ r.1 < (D.pages.length : Int)) :
    Calls Try.prog 30 #[.pointer (some ⟨b, 0, none⟩), .slice a1 ks.length c1, .slice a2 ks.length c2] w (RCrashSays P b D ks w) := by
  obtain ⟨pv, cv, rows, cs, h⟩ := h
  have hnc := h.nc
  have hbw := h.lt b h.pb
  obtain ⟨hsl, -⟩ := sl_of_own wenc_length h.cown
  obtain ⟨ca, cc, rfl, -⟩ := hsl.shape
  have cb1 : w.cell? ⟨b, 1, none⟩ = some (.slice ca cs.length cc) := cell_of h.blk 1
  have H := Lib.hid h
  have HND := Lib.hid hnd
  have HIN := Lib.hid hin
  have HK1 := Lib.hid hk1
  have HK2 := Lib.hid hk2
  have HKP := Lib.hid (And.intro hkP1 hkP2)
  clear hnd hin h hsl hk1 hk2 hkP1 hkP2
  generalize hn : cs.length = n at *
  have HN := Lib.hid hn
  have HNC := Lib.hid hnc
  clear hn hnc
  generalize hm : ks.length = m at *
  have HM := Lib.hid hm
  clear hm
  go_enter Try.func30, Try.ntmps30
  go_upto_region 1 with (fail)
  go_loopw [16] (fun i wr => ∃ j : Nat, j ≤ n ∧ i = .int .i64 j ∧ Upd P w wr ∧ ∃ pg rws, CrashP ks D.cache D.pages pg j ∧ RDAt (PN P w wr) wr b { D with pages := pg } pv (.slice ca n cc) rws cs) (fun i _ => n - (intOf i).toNat)
  case atStart => exact ⟨0, Nat.zero_le _, rfl, Upd.refl _ _, D.pages, rows, CrashP.start _ _ _, H.out.wider (fun k hk => .inl hk) (fun k hk => by rcases hk with hk | hk; exact H.out.lt k hk; exact hk.2)⟩
  case round =>
    obtain ⟨j, hj, rfl, hu, pg, rws, hsp, hr⟩ := hrel
    have HU := Lib.hid hu
    have HR := Lib.hid hr
    by_cases hlt : j < n
    · have hjc : j < cs.length := by rw [HN.out]; exact hlt
      have hjd : j < D.cache.length := by rw [← HNC.out]; exact hlt
      have hsl := (sl_of_own wenc_length hr.cown).1
      obtain ⟨bc, oc, capc, hee, -, -, -⟩ := (show Sl wenc wr (.slice ca cs.length cc) cs by rw [HN.out]; have := hsl; exact this).block (by omega)
      cases hee
      have q0 := (show Sl wenc wr (.slice (some ⟨bc, oc, none⟩) n cc) cs from hsl).at wenc_length j hjc 0 (by decide) _ rfl
      have q1 := (show Sl wenc wr (.slice (some ⟨bc, oc, none⟩) n cc) cs from hsl).at wenc_length j hjc 1 (by decide) _ rfl
      rw [Nat.add_zero] at q0
      have e0 : cs[j].1 = D.cache[j].1 ∧ cs[j].2.2 = D.cache[j].2 := by
        have h2 : (cs.map (fun c => (c.1, c.2.2)))[j]? = D.cache[j]? := by rw [H.out.cache]
        rw [List.getElem?_map, List.getElem?_eq_getElem hjc, List.getElem?_eq_getElem hjd] at h2
        have := Option.some.inj h2
        exact ⟨congrArg (·.1) this, congrArg (·.2) this⟩
      obtain ⟨i0, i1⟩ := HIN.out _ (List.getElem_mem hjd)
      obtain ⟨p, hp⟩ : ∃ p : Nat, D.cache[j].1 = (p : Int) := ⟨D.cache[j].1.toNat, by omega⟩
      have hpl : p < D.pages.length := by omega
      have hrl : rws.length = D.pages.length := by rw [hr.np]; exact hsp.len
      have hpr : p < rws.length := by omega
      have hst := hsp.step HND.out hjd p hp hpl
      rw [← e0.2] at hst
      have hpg : pg.getD p [] = rws[p].2 := by
        have h2 : (rws.map (·.2))[p]? = pg[p]? := by rw [hr.pages]
        rw [List.getElem?_map, List.getElem?_eq_getElem hpr] at h2
        simp only [List.getD_eq_getElem?_getD]
        rw [← h2]; rfl
      rw [hpg] at hst
      have HST := Lib.hid hst
      rw [e0.1, hp] at q0
      obtain ⟨bk, cap, cur, rfl, -, hcur⟩ := own_block hr.pown (by omega)
      have hcb := hr.cby _ (List.getElem_mem hjc)
      have HCB := Lib.hid hcb
      have hwu := upd_alloc (fun _ => False) wr (.cells #[.int .i64 (p : Int), .slice cs[j].2.1.1 cs[j].2.2.length cs[j].2.1.2] 87)
      have hg := heap_alloc wr (.cells #[.int .i64 (p : Int), .slice cs[j].2.1.1 cs[j].2.2.length cs[j].2.1.2] 87)
      have hsz1 : (wr.alloc (.cells #[.int .i64 (p : Int), .slice cs[j].2.1.1 cs[j].2.2.length cs[j].2.1.2] 87)).heap.size = wr.heap.size + 1 := by simp
      have HWU := Lib.hid hwu
      have HGB := Lib.hid hg.1
      have HSZ1 := Lib.hid hsz1
      clear hr hsl hcb hwu hg hst hsp hu i0 i1 hp hcur hrl hpl hsz1 hpg e0
      go_upto_region 5 with (fail)
      clear q0 q1 cb1
      generalize wr.alloc (.cells #[.int .i64 (p : Int), .slice cs[j].2.1.1 cs[j].2.2.length cs[j].2.1.2] 87) = W1 at *
      generalize hgg : wr.heap.size = g at *
      have HGG := Lib.hid hgg
      clear hgg
      obtain ⟨wo, hwo⟩ : ∃ wo : World, wo = wr := ⟨_, rfl⟩
      subst hwo
      go_loopw [8, 22] (fun nv iv wr => ∃ i : Nat, i ≤ m ∧ iv = .int .i64 i ∧ nv = .int .i64 ((keptN (ks.take i) (p : Int) : Nat) : Int) ∧ Upd (fun _ => False) W1 wr) (fun _ iv _ => m - (intOf iv).toNat)
      case atStart => exact ⟨0, Nat.zero_le _, rfl, rfl, Upd.refl _ _⟩
      case round =>
        obtain ⟨i, hi, rfl, rfl, hu⟩ := hrel
        have HUI := Lib.hid hu
        have g0 : wr.cell? ⟨g, 0, none⟩ = some (.int .i64 (p : Int)) := cell_of (hu.heap HGB.out (fun x => x)) 0
        have huw : Upd P w wr := HU.out.trans ((HWU.out.trans hu).weak P)
        by_cases hit : i < m
        · have hil : i < ks.length := by rw [HM.out]; exact hit
          have hl1 : i < (ks.map Prod.fst).length := by rw [List.length_map]; exact hil
          have hl2 : i < (ks.map Prod.snd).length := by rw [List.length_map]; exact hil
          have hs1 : Sl ienc wr (.slice a1 m c1) (ks.map Prod.fst) := HK1.out.upd huw (fun k hk => HKP.out.1 k hk)
          have hs2 : Sl ienc wr (.slice a2 m c2) (ks.map Prod.snd) := HK2.out.upd huw (fun k hk => HKP.out.2 k hk)
          obtain ⟨b1, o1, cp1, he1, -, -, -⟩ := (show Sl ienc wr (.slice a1 (ks.map Prod.fst).length c1) (ks.map Prod.fst) by rw [List.length_map, HM.out]; exact hs1).block (by omega)
          cases he1
          obtain ⟨b2, o2, cp2, he2, -, -, -⟩ := (show Sl ienc wr (.slice a2 (ks.map Prod.snd).length c2) (ks.map Prod.snd) by rw [List.length_map, HM.out]; exact hs2).block (by omega)
          cases he2
          have r1 := hs1.at ienc_length i hl1 0 (by decide) _ rfl
          have r2 := hs2.at ienc_length i hl2 0 (by decide) _ rfl
          rw [Nat.mul_one, Nat.add_zero, List.getElem_map] at r1 r2
          have HTK := Lib.hid (List.take_succ_eq_append_getElem hil)
          have HEQ := Lib.hid (keptN_snoc_eq (ks.take i) ks[i] (p : Int))
          have HNE := Lib.hid (keptN_snoc_ne (ks.take i) ks[i] (p : Int))
          rw [← HTK.out] at HEQ HNE
          generalize ks[i].1 = x1 at *
          generalize ks[i].2 = x2 at *
          clear hs1 hs2 hl1 hl2 HTK hil huw hu
          go_upto_region 7 with (fail)
          have hi0 : (0 : Int) ≤ (i : Int) := by omega
          have him : (i : Int) < (m : Int) := by omega
          by_cases hx : x1 = (p : Int)
          · have HX := Lib.hid (HEQ.out hx)
            subst hx
            go_quiet (fail)
            go_wp2
            go_roundw
            case rel => exact ⟨i + 1, by omega, by go_num, by rw [HX.out], HUI.out.drewN nq⟩
            case measure => simp [intOf]; omega
          · have HX := Lib.hid (HNE.out hx)
            go_quiet (fail)
            go_wp2
            go_roundw
            case rel => exact ⟨i + 1, by omega, by go_num, by rw [HX.out], HUI.out.drewN nq⟩
            case measure => simp [intOf]; omega
        · obtain rfl : i = m := by omega
          have hn0 : keptN (ks.take i) (p : Int) = keptN ks (p : Int) := by rw [List.take_of_length_le (by rw [HM.out]; exact Nat.le_refl _)]
          have hn256 := keptN_le ks (p : Int)
          have hcb := HCB.out
          have hslc := bytes_sl hcb.by_
          unfold KRow.val at hslc
          obtain ⟨a3, c3, hs3, hsl3, -⟩ := hslc.upto (P := Try.prog) Try.underlying29 sz_u8 uenc_length (keptN ks (p : Int)) (by rw [hcb.len]; exact hn256)
          have hlt3 : (cs[j].2.2.take (keptN ks (p : Int))).length = keptN ks (p : Int) := by rw [List.length_take, hcb.len]; omega
          have htw := rtwin_calls _ _ wr ((sl_bytes hsl3).upd (HWU.out.trans hu) (fun _ _ x => x)) (by rw [hlt3]; omega)
          have HCR := Lib.hid (fun w3 (hu3 : Upd (fun _ => False) wo w3) B g5 c5 (hB : wo.heap.size ≤ B) (hown : w3.ownsRow B 5 1 (.slice (some ⟨g5, 0, none⟩) (cs[j].2.2.take (keptN ks (p : Int))).length c5) (cs[j].2.2.take (keptN ks (p : Int))).length ((cs[j].2.2.take (keptN ks (p : Int))).map u8v)) (hB3 : B ≤ w3.heap.size) => crash_row HR.out hpr hu3 (B := B) (g := g5) (c := c5) (n := keptN ks (p : Int)) (m := cs[j].2.2.take (keptN ks (p : Int))) hlt3 hn256 hB (by have h9 := hown; rw [hlt3] at h9; rw [hlt3]; exact h9) hB3)
          have hslp := (sl_of_own renc_length HR.out.pown).1.at renc_length p hpr 0 (by decide) _ rfl
          rw [Nat.mul_one, Nat.add_zero, Nat.zero_add] at hslp
          have g1 : wr.cell? ⟨g, 1, none⟩ = some (.slice cs[j].2.1.1 cs[j].2.2.length cs[j].2.1.2) := cell_of (hu.heap HGB.out (fun x => x)) 1
          have HUI := Lib.hid hu
          have HLT3 := Lib.hid hlt3
          rw [hn0]
          clear hcb hslc hsl3 hu hn0
          generalize hnk : keptN ks (p : Int) = n0 at *
          have HNK := Lib.hid hnk
          clear hnk
          generalize hl3 : cs[j].2.2 = lc at *
          have HLC := Lib.hid hl3
          clear hl3
          generalize cs[j].2.1.1 = z1 at *
          generalize cs[j].2.1.2 = z3 at *
          generalize lc.length = z2 at *
          go_upto_region 11 with (go_at_call 44; (with_reducible refine htw.mono ?_); intro e3 w3 h3; obtain ⟨g5, c5, rfl, hown, hg, hu⟩ := h3; have HOWN := Lib.hid hown; have HU3 := Lib.hid hu; clear hown hg hu)
          have hown3 := HOWN.out
          have hwo3 : Upd (fun _ => False) wo w3.drew := ((HWU.out.trans HUI.out).trans HU3.out).drew
          have hws : wo.heap.size ≤ wr.heap.size := (HWU.out.trans HUI.out).size
          obtain ⟨a7, c7, a6, c6, w6, hs7, hap, hu6, hrow⟩ := HCR.out w3.drew hwo3 wr.heap.size g5 c5 hws hown3 HU3.out.size
          have hgw : g < wr.heap.size := Nat.lt_of_lt_of_le (lt_of_heap HGB.out) HUI.out.size
          have hblk3 := hwo3.heap HR.out.blk (fun x => x)
          have hb6 := hu6.heap hblk3 (by have := HR.out.lt b HR.out.pb; omega)
          have hbk6 : bk < wo.heap.size := HR.out.lt bk (HR.out.pp bk rfl)
          obtain ⟨bk', cap', cur', hbe, -, hcur'⟩ := own_block HR.out.pown (by omega)
          have hbe1 : bk' = bk := by injection hbe with h1; injection h1 with h1; injection h1 with h1; exact h1.symm
          subst hbe1
          have hcur6 := hu6.heap (hwo3.heap hcur' (fun x => x)) (by omega)
          have f1 : w6.frozen? ⟨bk', p, none⟩ = false := free_of hcur6 p
          have y0 := hwo3.cell hslp (fun x => x)
          have y6 := hu6.cell y0 (by simp; omega)
          have c0 : w3.drew.cell? ⟨b, 0, none⟩ = some (.slice (some ⟨bk', 0, none⟩) rws.length cap) := cell_of hblk3 0
          have c6' : w6.cell? ⟨b, 0, none⟩ = some (.slice (some ⟨bk', 0, none⟩) rws.length cap) := cell_of hb6 0
          have hgb3 := (HUI.out.trans HU3.out).heap HGB.out (fun x => x)
          have g0 : w3.drew.cell? ⟨g, 0, none⟩ = some (.int .i64 (p : Int)) := cell_of hgb3 0
          have g6 := hu6.cell g0 (by simp; omega)
          have hbk : b ≠ bk' := fun e => HR.out.s1 (by rw [e]; rfl)
          have hgk : g ≠ bk' := by have := HGG.out; omega
          have d0 := (World.cell?_setCell_far w6 ⟨bk', p, none⟩ ⟨b, 0, none⟩ (.slice a6 256 c6) (Ne.symm hbk)).trans c6'
          have d1 := (World.cell?_setCell_far w6 ⟨bk', p, none⟩ ⟨g, 0, none⟩ (.slice a6 256 c6) (Ne.symm hgk)).trans g6
          have hu36 : Upd (fun _ => False) wo w6 := hwo3.trans' hu6 (fun x hx e => by omega)
          have hQ : ∀ k, PN P w wo k → PN P w w6 k := fun k hk => hk.elim .inl (fun hk => .inr ⟨hk.1, Nat.lt_of_lt_of_le hk.2 hu36.size⟩)
          have hQl : ∀ k, PN P w w6 k → k < w6.heap.size := fun k hk => by
            rcases hk with hk | hk
            · have := HR.out.lt k (.inl hk); have := hu36.size; omega
            · exact hk.2
          have hrow2 : RowsAt (PN P w w6) w6 b (.slice (some ⟨bk', 0, none⟩) rws.length cap) (.slice (some ⟨bc, oc, none⟩) n cc) ((a6, c6), lc.take n0 ++ rws[p].2.drop n0) := { hrow with ap := fun k hk => ⟨by
            rcases (hrow.ap k hk).1 with q | q
            · exact hQ k q
            · exact .inr ⟨Nat.le_trans HU.out.size q.1, q.2⟩, (hrow.ap k hk).2⟩ }
          have hnew := HR.out.setP hu36 hQ hQl _ hrow2 p hpr
          have hl256 : (lc.take n0 ++ rws[p].2.drop n0).length = 256 := hrow2.len
          have HNEW := Lib.hid (show RDAt (PN P w w6) (w6.setCell ⟨bk', p, none⟩ (.slice a6 256 c6)) b { D with pages := pg.set p (lc.take n0 ++ rws[p].2.drop n0) } (.slice (some ⟨bk', 0, none⟩) rws.length cap) (.slice (some ⟨bc, oc, none⟩) n cc) (rws.set p ((a6, c6), lc.take n0 ++ rws[p].2.drop n0)) cs by
            have h9 := hnew
            simp only at h9
            rw [hl256] at h9
            exact h9)
          have HU7 := Lib.hid (show Upd P w (w6.setCell ⟨bk', p, none⟩ (.slice a6 256 c6)) from Upd.setCell (p := ⟨bk', p, none⟩) (HU.out.trans (hu36.weak P)) (fun _ => H.out.pp bk' rfl) _)
          have HSZ := Lib.hid (show (w6.setCell ⟨bk', p, none⟩ (.slice a6 256 c6)).heap.size = w6.heap.size by simp)
          have hpn : (p : Int) < (rws.length : Int) := by omega
          have hp0 : (0 : Int) ≤ (p : Int) := by omega
          have hnn : (0 : Int) ≤ (n0 : Int) := by omega
          clear hnew hrow2 hrow hQ hQl hu36 hb6 hblk3 hcur6 hcur' hbe hgb3 hu6 hwo3 hws hown3 htw hl256 hslp HCR HOWN hs3 g1 hgk
          generalize rws[p].1.1 = t1 at *
          generalize rws[p].1.2 = t3 at *
          generalize rws[p].2.length = t2 at *
          generalize rws[p].2 = ro at *
          clear hpr
          generalize hrn : rws.length = rn at *
          have HRN := Lib.hid hrn
          clear hrn
          clear hlt3
          go_region_law (first | (refine step_append hap (by rfl) (by rfl) (by rfl) (by rfl) ?_))
          all_goals (try go_wp2)
          all_goals (
            go_roundw
            case rel =>
              have hfin := HNEW.out.wider (Q := PN P w (w6.setCell ⟨bk', p, none⟩ (.slice a6 256 c6))) (fun k hk => hk.elim .inl (fun hk => .inr ⟨hk.1, by have := HSZ.out; omega⟩)) (fun k hk => by
                rcases hk with hk | hk
                · have := H.out.lt k hk; have := HU7.out.size; omega
                · exact hk.2)
              have h9 := HST.out
              unfold crashRow at h9
              rw [HNK.out] at h9
              rw [← HRN.out] at hfin
              exact ⟨j + 1, by omega, by go_num, HU7.out, _, _, h9, hfin⟩
            case measure => simp [intOf]; omega)
    · obtain rfl : j = n := by omega
      have hcl := hr.clearC
      have f1 := free_of hr.blk 1
      have x1 : wr.cell? ⟨b, 1, none⟩ = some (.slice ca j cc) := cell_of hr.blk 1
      have x2 : wr.cell? ⟨b, 2, none⟩ = some (.int .i64 D.fuse) := cell_of hr.blk 2
      have x3 : wr.cell? ⟨b, 3, none⟩ = some (.bool D.dead) := cell_of hr.blk 3
      have f2 := free_of hr.blk 2
      have f3 := free_of hr.blk 3
      have HCL := Lib.hid hcl
      have hb1 := heap_setCell_at hcl.blk 2 (.int .i64 (-1))
      have HB2 := Lib.hid (heap_setCell_at hb1 3 (.bool false))
      have HSP := Lib.hid hsp
      clear hcl hr hsp hu hb1
      go_wp2
      go_end0
      have hup : Upd P w (((wr.setCell ⟨b, 1, none⟩ (.slice none 0 0)).setCell ⟨b, 2, none⟩ (.int .i64 (-1))).setCell ⟨b, 3, none⟩ (.bool false)) := ((HU.out.setCell (p := ⟨b, 1, none⟩) (fun _ => H.out.pb) _).setCell (p := ⟨b, 2, none⟩) (fun _ => H.out.pb) _).setCell (p := ⟨b, 3, none⟩) (fun _ => H.out.pb) _
      have hu2 : Upd (fun k => k = b) (wr.setCell ⟨b, 1, none⟩ (.slice none 0 0)) (((wr.setCell ⟨b, 1, none⟩ (.slice none 0 0)).setCell ⟨b, 2, none⟩ (.int .i64 (-1))).setCell ⟨b, 3, none⟩ (.bool false)) := (upd_setCell (fun k => k = b) _ ⟨b, 2, none⟩ _ rfl).trans (upd_setCell (fun k => k = b) _ ⟨b, 3, none⟩ _ rfl)
      refine ⟨rfl, hup, pg, by rw [← HNC.out]; exact HSP.out, _, _, _, _, (HCL.out.field (D' := { D with pages := pg, cache := [], fuse := -1, dead := false }) ?_ hu2 rfl rfl).wider (fun k hk => hk.elim .inl (fun hk => .inr ⟨hk.1, by simp; exact hk.2⟩)) (fun k hk => ?_)⟩
      · rw [HB2.out]; rfl
      · rcases hk with hk | hk
        · have := H.out.lt k hk; have := hup.size; omega
        · exact hk.2

end Go.Proofs.Yteokbokgiejmpaa
