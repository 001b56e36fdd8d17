/-
  The document's disk: did, Set, Read.
-/
import Derived.Test.YteokbokgiejmpaaPDiskA
namespace Go.Proofs.Yteokbokgiejmpaa
open Go.RowKit Go.Tb Go.MapKept Go.ChangeMaps
set_option linter.unusedVariables false

theorem RDAt.field {P : Nat → Prop} {w w' : World} {b : Nat} {D D' : RD} {pv cv : Value} {rows : List KRow} {cs : List WRow} (h : RDAt P w b D pv cv rows cs) (hb : w'.heap[b]? = some (.cells #[pv, cv, .int .i64 D'.fuse, .bool D'.dead, .int .i64 D'.done] 62 (0, 0)))
    (hu : Upd (fun k => k = b) w w') (hp : D'.pages = D.pages) (hc : D'.cache = D.cache) : RDAt P w' b D' pv cv rows cs :=
  { blk := hb, pown := own_upd' h.pown hu (fun k hk e => h.s1 (e ▸ hk)), cown := own_upd' h.cown hu (fun k hk e => h.s2 (e ▸ hk)), pages := by rw [hp]; exact h.pages, cache := by rw [hc]; exact h.cache,
    pby := fun r hr => (h.pby r hr).upd hu (fun k hk e => ((h.pby r hr).ap k hk).2.1 e), cby := fun r hr => (h.cby r hr).upd hu (fun k hk e => ((h.cby r hr).ap k hk).2.1 e),
    s1 := h.s1, s2 := h.s2, s3 := h.s3, pb := h.pb, pp := h.pp, pc := h.pc, lt := fun k hk => Nat.lt_of_lt_of_le (h.lt k hk) hu.size }

def RD.did (D : RD) : RD := { D with done := D.done + 1, fuse := if 0 < D.fuse then D.fuse - 1 else D.fuse, dead := D.dead || decide (D.fuse = 1) }
def RD.set (D : RD) (n : Int) : RD := { D with fuse := if n < 0 then -1 else n, dead := D.dead || decide (n = 0) }

set_option maxRecDepth 100000 in
theorem rdid_calls (P : Nat → Prop) (b : Nat) (D : RD) (w : World) (pv cv : Value) (rows : List KRow) (cs : List WRow) (h : RDAt P w b D pv cv rows cs) (h1 : 0 ≤ D.done) (h2 : D.done ≤ 1000000) (h3 : D.fuse ≤ 9223372036854775807) :
    Calls Try.prog 45 #[.pointer (some ⟨b, 0, none⟩)] w fun e w' => e = .returned (.tuple #[]) ∧ RDAt P w' b D.did pv cv rows cs ∧ Upd (fun k => k = b) w w' := by
  have c4 : w.cell? ⟨b, 4, none⟩ = some (.int .i64 D.done) := cell_of h.blk 4
  have c2 : w.cell? ⟨b, 2, none⟩ = some (.int .i64 D.fuse) := cell_of h.blk 2
  have c3 : w.cell? ⟨b, 3, none⟩ = some (.bool D.dead) := cell_of h.blk 3
  have f4 := free_of h.blk 4
  have f2 := free_of h.blk 2
  have f3 := free_of h.blk 3
  have H := Lib.hid h
  have hb1 := heap_setCell_at h.blk 4 (.int .i64 (D.done + 1))
  have HB1 := Lib.hid hb1
  have hu1 := upd_setCell (fun k => k = b) w ⟨b, 4, none⟩ (.int .i64 (D.done + 1)) rfl
  have HU1 := Lib.hid hu1
  by_cases hf : 0 < D.fuse
  · have hb2 := heap_setCell_at hb1 2 (.int .i64 (D.fuse - 1))
    have HB2 := Lib.hid hb2
    have hu2 := hu1.trans (upd_setCell (fun k => k = b) (w.setCell ⟨b, 4, none⟩ (.int .i64 (D.done + 1))) ⟨b, 2, none⟩ (.int .i64 (D.fuse - 1)) rfl)
    have HU2 := Lib.hid hu2
    by_cases hf1 : D.fuse = 1
    · have HF1 := Lib.hid hf1
      have HB3 := Lib.hid (heap_setCell_at hb2 3 (.bool true))
      rw [hf1] at c2
      clear h hb1 hu1 hb2 hu2
      have HD := Lib.hid (show D.did = { D with done := D.done + 1, fuse := D.fuse - 1, dead := true } by unfold RD.did; rw [if_pos hf, decide_eq_true hf1, Bool.or_true])
      clear hf hf1
      go_enter Try.func45, Try.ntmps45
      go_wp2
      go_end0
      have hw : ((w.setCell ⟨b, 4, none⟩ (.int .i64 (D.done + 1))).setCell ⟨b, 2, none⟩ (.int .i64 0)).setCell ⟨b, 3, none⟩ (.bool true) = ((w.setCell ⟨b, 4, none⟩ (.int .i64 (D.done + 1))).setCell ⟨b, 2, none⟩ (.int .i64 (D.fuse - 1))).setCell ⟨b, 3, none⟩ (.bool true) := by rw [HF1.out]; rfl
      rw [hw]
      refine ⟨rfl, H.out.field (D' := D.did) ?_ (HU2.out.trans (upd_setCell _ _ _ _ rfl)) rfl rfl, HU2.out.trans (upd_setCell _ _ _ _ rfl)⟩
      rw [HB3.out, HD.out]; rfl
    · have hf2 : ¬ D.fuse - 1 = 0 := by omega
      have hf3 : (D.fuse - 1 == 0) = false := by simpa using hf2
      clear h hb1 hu1 hb2 hu2
      have HD := Lib.hid (show D.did = { D with done := D.done + 1, fuse := D.fuse - 1 } by unfold RD.did; rw [if_pos hf, decide_eq_false hf1, Bool.or_false])
      go_enter Try.func45, Try.ntmps45
      go_wp2
      go_end0
      refine ⟨rfl, H.out.field (D' := D.did) ?_ HU2.out rfl rfl, HU2.out⟩
      rw [HB2.out, HD.out]; rfl
  · clear h hb1 hu1
    have HD := Lib.hid (show D.did = { D with done := D.done + 1 } by unfold RD.did; rw [if_neg hf, decide_eq_false (by omega), Bool.or_false])
    go_enter Try.func45, Try.ntmps45
    go_wp2
    go_end0
    refine ⟨rfl, H.out.field (D' := D.did) ?_ HU1.out rfl rfl, HU1.out⟩
    rw [HB1.out, HD.out]; rfl

set_option maxRecDepth 100000 in
theorem rset_calls (P : Nat → Prop) (b : Nat) (D : RD) (n : Int) (w : World) (pv cv : Value) (rows : List KRow) (cs : List WRow) (h : RDAt P w b D pv cv rows cs) :
    Calls Try.prog 29 #[.pointer (some ⟨b, 0, none⟩), .int .i64 n] w fun e w' => e = .returned (.tuple #[]) ∧ RDAt P w' b (D.set n) pv cv rows cs ∧ Upd (fun k => k = b) w w' := by
  have c2 : w.cell? ⟨b, 2, none⟩ = some (.int .i64 D.fuse) := cell_of h.blk 2
  have c3 : w.cell? ⟨b, 3, none⟩ = some (.bool D.dead) := cell_of h.blk 3
  have f2 := free_of h.blk 2
  have f3 := free_of h.blk 3
  have H := Lib.hid h
  have hb1 := heap_setCell_at h.blk 2 (.int .i64 n)
  have HB1 := Lib.hid hb1
  have HB2 := Lib.hid (heap_setCell_at h.blk 2 (.int .i64 (-1)))
  have hu1 := upd_setCell (fun k => k = b) w ⟨b, 2, none⟩ (.int .i64 n) rfl
  have HU1 := Lib.hid hu1
  have HU2 := Lib.hid (upd_setCell (fun k => k = b) w ⟨b, 2, none⟩ (.int .i64 (-1)) rfl)
  by_cases hn : n < 0
  · have hn0 : (n == 0) = false := by simp; omega
    have HD := Lib.hid (show D.set n = { D with fuse := -1 } by unfold RD.set; rw [if_pos hn, decide_eq_false (by omega), Bool.or_false])
    have HBB := Lib.hid (heap_setCell_at hb1 2 (.int .i64 (-1)))
    clear h hb1 hu1
    go_enter Try.func29, Try.ntmps29
    go_wp2
    go_end0
    first
    | (refine ⟨rfl, H.out.field (D' := D.set n) ?_ HU2.out rfl rfl, HU2.out⟩; rw [HB2.out, HD.out]; rfl)
    | (refine ⟨rfl, H.out.field (D' := D.set n) ?_ (HU1.out.trans (upd_setCell _ _ _ _ rfl)) rfl rfl, HU1.out.trans (upd_setCell _ _ _ _ rfl)⟩; rw [HBB.out, HD.out]; rfl)
  · by_cases h0 : n = 0
    · subst h0
      have HD := Lib.hid (show D.set 0 = { D with fuse := 0, dead := true } by unfold RD.set; rw [if_neg hn, decide_eq_true rfl, Bool.or_true])
      have HB3 := Lib.hid (heap_setCell_at hb1 3 (.bool true))
      clear h hb1 hu1 hn
      go_enter Try.func29, Try.ntmps29
      go_wp2
      go_end0
      refine ⟨rfl, H.out.field (D' := D.set 0) ?_ (HU1.out.trans (upd_setCell _ _ _ _ rfl)) rfl rfl, HU1.out.trans (upd_setCell _ _ _ _ rfl)⟩
      rw [HB3.out, HD.out]; rfl
    · have hn0 : (n == 0) = false := by simpa using h0
      have HD := Lib.hid (show D.set n = { D with fuse := n } by unfold RD.set; rw [if_neg hn, decide_eq_false h0, Bool.or_false])
      clear h hb1 hu1
      go_enter Try.func29, Try.ntmps29
      go_wp2
      go_end0
      refine ⟨rfl, H.out.field (D' := D.set n) ?_ HU1.out rfl rfl, HU1.out⟩
      rw [HB1.out, HD.out]; rfl

/-- A page, as Read tells it. -/
def RD.look (D : RD) (page : Int) : List UInt8 := ((D.cache.find? fun c => c.1 == page).map (·.2)).getD (D.pages.getD page.toNat [])

set_option maxRecDepth 100000 in
theorem rread_no (P : Nat → Prop) (b : Nat) (D : RD) (page : Int) (w : World) (h : IsRD P w b D) (hc : D.check page ≠ 0) :
    Calls Try.prog 27 #[.pointer (some ⟨b, 0, none⟩), .int .i64 page] w fun e w' => e = .returned (.tuple #[.slice none 0 0, .int .i64 (D.check page)]) ∧ w = w' := by
  have hk := rcheck_calls P b D page w h
  generalize D.check page = e0 at *
  have hne : (e0 != 0) = true := by simpa using hc
  clear h hc
  go_enter Try.func27, Try.ntmps27
  go_wp2_with (go_at_call 42; (with_reducible refine hk.mono ?_); rintro e1 w1 ⟨rfl, rfl⟩)
  go_ret2
  exact ⟨rfl, rfl⟩

/-- What Read says. -/
def RReadSays (l : List UInt8) (w : World) (e : Ending) (w' : World) : Prop :=
  ∃ g c, e = .returned (.tuple #[.slice (some ⟨g, 0, none⟩) l.length c, .int .i64 0]) ∧ w'.ownsRow w.heap.size 5 1 (.slice (some ⟨g, 0, none⟩) l.length c) l.length (l.map u8v) ∧ Upd (fun _ => False) w w'

theorem check_zero {D : RD} {page : Int} (h : D.check page = 0) : D.dead = false ∧ 0 ≤ page ∧ page < (D.pages.length : Int) := by
  unfold RD.check at h
  split at h
  · cases h
  · rename_i h1
    split at h
    · cases h
    · exact ⟨by simpa using h1, by omega, by omega⟩

set_option maxRecDepth 100000 in
set_option maxHeartbeats 1000000 in
theorem rread_ok (P : Nat → Prop) (b : Nat) (D : RD) (page : Int) (w : World) (h : IsRD P w b D) (hc : D.check page = 0) (hlen : D.cache.length ≤ 1000000) (hnd : (D.cache.map (·.1)).Nodup) :
    Calls Try.prog 27 #[.pointer (some ⟨b, 0, none⟩), .int .i64 page] w (RReadSays (D.look page) w) := by
  obtain ⟨hd, hp0, hp1⟩ := check_zero hc
  have hk := rcheck_calls P b D page w h
  rw [hc] at hk
  have hat := rat_calls P b D page w h hlen
  obtain ⟨pv, cv, rows, cs, h⟩ := h
  have hfind : (∃ j, ∃ hj : j < D.cache.length, D.cache[j].1 = page ∧ D.look page = D.cache[j].2 ∧ Calls Try.prog 43 #[.pointer (some ⟨b, 0, none⟩), .int .i64 page] w fun e w' => e = .returned (.int .i64 (j : Nat)) ∧ w = w') ∨ (D.look page = D.pages.getD page.toNat [] ∧ Calls Try.prog 43 #[.pointer (some ⟨b, 0, none⟩), .int .i64 page] w fun e w' => e = .returned (.int .i64 (-1)) ∧ w = w') := by
    by_cases hx : ∃ r ∈ D.cache, r.1 = page
    · left
      obtain ⟨r, hr, hrp⟩ := hx
      obtain ⟨j, hj, rfl⟩ := List.getElem_of_mem hr
      have huniq : ∀ i (hi : i < D.cache.length), D.cache[i].1 = page → i = j := fun i hi e => (List.getElem_inj (h₀ := by simpa using hi) (h₁ := by simpa using hj) hnd).1 (by rw [List.getElem_map, List.getElem_map, e, hrp])
      refine ⟨j, hj, hrp, ?_, hat.mono fun e w' hs => ?_⟩
      · unfold RD.look
        have : D.cache.find? (fun c => c.1 == page) = some D.cache[j] := by
          rw [List.find?_eq_some_iff_getElem]
          exact ⟨by simpa using hrp, j, hj, rfl, fun i hi => by
            have hil : i < D.cache.length := by omega
            have : D.cache[i].1 ≠ page := fun e => by have := huniq i hil e; omega
            simpa using this⟩
        rw [this]; rfl
      · obtain ⟨hw, ⟨i, hi, e1, e2⟩ | ⟨hno, _⟩⟩ := hs
        · rw [huniq i hi e1] at e2; exact ⟨e2, hw⟩
        · exact absurd hrp (hno _ (List.getElem_mem hj))
    · right
      refine ⟨?_, hat.mono fun e w' hs => ?_⟩
      · unfold RD.look
        have : D.cache.find? (fun c => c.1 == page) = none := List.find?_eq_none.2 (fun r hr e => hx ⟨r, hr, by simpa using e⟩)
        rw [this]; rfl
      · obtain ⟨hw, ⟨i, hi, e1, e2⟩ | ⟨_, e2⟩⟩ := hs
        · exact absurd ⟨_, List.getElem_mem hi, e1⟩ hx
        · exact ⟨e2, hw⟩
  have hnp := h.np
  have hnc := h.nc
  rcases hfind with ⟨j, hj, hjp, hlk, hatj⟩ | ⟨hlk, hatn⟩
  · obtain ⟨hsl, -⟩ := sl_of_own wenc_length h.cown
    have hjc : j < cs.length := by rw [hnc]; exact hj
    obtain ⟨bk, off, cap, rfl, -, -, -⟩ := hsl.block (by omega)
    have c1 : w.cell? ⟨b, 1, none⟩ = some (.slice (some ⟨bk, off, none⟩) cs.length cap) := cell_of h.blk 1
    have q1 := hsl.at wenc_length j hjc 1 (by decide) _ rfl
    have hby := (h.cby _ (List.getElem_mem hjc)).by_
    have hle := (h.cby _ (List.getElem_mem hjc)).len
    have e2 : cs[j].2.2 = D.look page := by
      rw [hlk]
      have h2 : (cs.map (fun c => (c.1, c.2.2)))[j]? = D.cache[j]? := by rw [h.cache]
      rw [List.getElem?_map, List.getElem?_eq_getElem hjc, List.getElem?_eq_getElem hj] at h2
      exact congrArg (·.2) (Option.some.inj h2)
    have htw := rtwin_calls _ _ w hby (by omega)
    unfold KRow.val at htw
    rw [e2] at htw hle q1
    have hjn : (j : Int) < (cs.length : Int) := by omega
    have hj0 : (0 : Int) ≤ (j : Int) := by omega
    clear h hsl hat hc hnd hby e2 hlk hjp hnp hnc hle
    generalize D.look page = l at *
    generalize cs[j].2.1.1 = x1 at *
    generalize cs[j].2.1.2 = x2 at *
    generalize hn : cs.length = n at *
    clear hjc hn hj
    go_enter Try.func27, Try.ntmps27
    go_wp2_with (first
      | (go_at_call 42; (with_reducible refine hk.mono ?_); rintro e1 w1 ⟨rfl, rfl⟩)
      | (go_at_call 43; (with_reducible refine hatj.mono ?_); rintro e2 w2 ⟨rfl, rfl⟩)
      | (go_at_call 44; (with_reducible refine htw.mono ?_); intro e3 w3 h3; obtain ⟨g, c, rfl, hown, hg, hu⟩ := h3; have HO := Lib.hid hown; have HU := Lib.hid hu; clear hown hg hu))
    go_ret2
    exact ⟨g, c, rfl, HO.out, HU.out⟩
  · obtain ⟨hsl, -⟩ := sl_of_own renc_length h.pown
    obtain ⟨p, rfl⟩ : ∃ p : Nat, page = (p : Int) := ⟨page.toNat, by omega⟩
    have hpr : p < rows.length := by omega
    obtain ⟨bk, off, cap, rfl, -, -, -⟩ := hsl.block (by omega)
    have c0 : w.cell? ⟨b, 0, none⟩ = some (.slice (some ⟨bk, off, none⟩) rows.length cap) := cell_of h.blk 0
    have q0 := hsl.at renc_length p hpr 0 (by decide) _ rfl
    rw [Nat.mul_one, Nat.add_zero] at q0
    have hby := (h.pby _ (List.getElem_mem hpr)).by_
    have hle := (h.pby _ (List.getElem_mem hpr)).len
    have e2 : rows[p].2 = D.look (p : Int) := by
      rw [hlk]
      have h2 : (rows.map (·.2))[p]? = D.pages[p]? := by rw [h.pages]
      rw [List.getElem?_map, List.getElem?_eq_getElem hpr] at h2
      simp only [Int.toNat_natCast, List.getD_eq_getElem?_getD]
      rw [← h2]; rfl
    have htw := rtwin_calls _ _ w hby (by omega)
    unfold KRow.val at htw
    rw [e2] at htw hle q0
    have hjn : (p : Int) < (rows.length : Int) := by omega
    have hm1 : ¬ ((0 : Int) ≤ -1) := by decide
    clear h hsl hat hc hnd hby e2 hlk hnp hnc hp1 hle
    generalize D.look (p : Int) = l at *
    generalize rows[p].1.1 = x1 at *
    generalize rows[p].1.2 = x2 at *
    generalize hn : rows.length = n at *
    clear hpr hn
    go_enter Try.func27, Try.ntmps27
    go_wp2_with (first
      | (go_at_call 42; (with_reducible refine hk.mono ?_); rintro e1 w1 ⟨rfl, rfl⟩)
      | (go_at_call 43; (with_reducible refine hatn.mono ?_); rintro e2 w2 ⟨rfl, rfl⟩)
      | (go_at_call 44; (with_reducible refine htw.mono ?_); intro e3 w3 h3; obtain ⟨g, c, rfl, hown, hg, hu⟩ := h3; have HO := Lib.hid hown; have HU := Lib.hid hu; clear hown hg hu))
    go_ret2
    exact ⟨g, c, rfl, HO.out, HU.out⟩

end Go.Proofs.Yteokbokgiejmpaa
