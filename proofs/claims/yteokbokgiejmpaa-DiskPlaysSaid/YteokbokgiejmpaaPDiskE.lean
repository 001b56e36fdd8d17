/-
  The document's disk: Write that is refused; Sync.
-/
import Derived.Test.YteokbokgiejmpaaPDiskD
namespace Go.Proofs.Yteokbokgiejmpaa
open Go.RowKit Go.Tb Go.MapKept Go.ChangeMaps
set_option linter.unusedVariables false

set_option maxRecDepth 100000 in
theorem rwrite_no (P : Nat → Prop) (b : Nat) (D : RD) (page : Int) (v : Value) (w : World) (h : IsRD P w b D) (hc : D.check page ≠ 0) :
    Calls Try.prog 26 #[.pointer (some ⟨b, 0, none⟩), .int .i64 page, v] w fun e w' => e = .returned (.int .i64 (D.check page)) ∧ w = w' := by
  have hk := rcheck_calls P b D page w h
  generalize D.check page = e0 at *
  have hne : (e0 != 0) = true := by simpa using hc
  clear h hc
  go_enter Try.func26, Try.ntmps26
  go_wp2_with (go_at_call 42; (with_reducible refine hk.mono ?_); rintro e1 w1 ⟨rfl, rfl⟩)
  go_ret
  exact ⟨rfl, rfl⟩
set_option maxRecDepth 100000 in
theorem rwrite_form (P : Nat → Prop) (b : Nat) (D : RD) (page : Int) (a : Option Addr) (n c : Nat) (w : World) (h : IsRD P w b D) (hc : D.check page = 0) (hn : n ≠ 256) :
    Calls Try.prog 26 #[.pointer (some ⟨b, 0, none⟩), .int .i64 page, .slice a n c] w fun e w' => e = .returned (.int .i64 4) ∧ w = w' := by
  have hk := rcheck_calls P b D page w h
  rw [hc] at hk
  have hn1 : ((n : Int) != 256) = true := by simp; omega
  have hn2 : ¬ ((n : Int) = 256) := by omega
  clear h hc hn
  go_enter Try.func26, Try.ntmps26
  go_wp2_with (go_at_call 42; (with_reducible refine hk.mono ?_); rintro e1 w1 ⟨rfl, rfl⟩)
  go_ret
  exact ⟨rfl, rfl⟩

/-- A page is written over. -/
theorem RDAt.setP {P Q : Nat → Prop} {w w5 : World} {b : Nat} {D : RD} {cv : Value} {bk n cap : Nat} {rows : List KRow} {cs : List WRow} (h : RDAt P w b D (.slice (some ⟨bk, 0, none⟩) n cap) cv rows cs) (hu : Upd (fun _ => False) w w5) (hQ : ∀ k, P k → Q k) (hQl : ∀ k, Q k → k < w5.heap.size) (r : KRow) (hr : RowsAt Q w5 b (.slice (some ⟨bk, 0, none⟩) n cap) cv r) (p : Nat) (hp : p < rows.length) :
    RDAt Q (w5.setCell ⟨bk, p, none⟩ (.slice r.1.1 r.2.length r.1.2)) b { D with pages := D.pages.set p r.2 } (.slice (some ⟨bk, 0, none⟩) n cap) cv (rows.set p r) cs := by
  have h5 := (h.grow hu).wider hQ hQl
  have hset := upd_setCell (fun k => k = bk) w5 ⟨bk, p, none⟩ (.slice r.1.1 r.2.length r.1.2) rfl
  have hbb : b ≠ bk := fun e => h.s1 (by rw [e]; rfl)
  have hW : ∀ r, RowsAt Q w5 b (.slice (some ⟨bk, 0, none⟩) n cap) cv r → RowsAt Q (w5.setCell ⟨bk, p, none⟩ (.slice r.1.1 r.2.length r.1.2)) b (.slice (some ⟨bk, 0, none⟩) n cap) cv r := fun r hr => hr.upd (upd_setCell (fun k => k = bk) w5 _ _ rfl) (fun k hk e => (hr.ap k hk).2.2.1 (by rw [e]; rfl))
  have hW2 : ∀ q, RowsAt Q w5 b (.slice (some ⟨bk, 0, none⟩) n cap) cv q → RowsAt Q (w5.setCell ⟨bk, p, none⟩ (.slice r.1.1 r.2.length r.1.2)) b (.slice (some ⟨bk, 0, none⟩) n cap) cv q := fun q hq => hq.upd hset (fun k hk e => (hq.ap k hk).2.2.1 (by rw [e]; rfl))
  have hown := own_setCell renc_length h5.pown p 0 hp (by decide) (.slice r.1.1 r.2.length r.1.2) r rfl
  rw [Nat.mul_one, Nat.add_zero] at hown
  refine { blk := by rw [heap_setCell_ne _ (by exact hbb)]; exact h5.blk, pown := hown, cown := own_upd' h5.cown hset (fun k hk e => h.s3 bk rfl (by rw [← e]; exact hk)), pages := ?_, cache := h.cache, pby := fun q hq => ?_, cby := fun c hc => hW2 c.2 (h5.cby c hc), s1 := h.s1, s2 := h.s2, s3 := h.s3, pb := h5.pb, pp := h5.pp, pc := h5.pc, lt := fun k hk => by have := hQl k hk; simp; omega }
  · show (rows.set p r).map _ = D.pages.set p r.2
    rw [List.map_set, h.pages]
  · rcases List.mem_or_eq_of_mem_set hq with hq | rfl
    · exact hW2 q (h5.pby q hq)
    · exact hW2 _ hr

/-- The cache is gone. -/
theorem RDAt.clearC {P : Nat → Prop} {w : World} {b : Nat} {D : RD} {pv cv : Value} {rows : List KRow} {cs : List WRow} (h : RDAt P w b D pv cv rows cs) : RDAt P (w.setCell ⟨b, 1, none⟩ (.slice none 0 0)) b { D with cache := [] } pv (.slice none 0 0) rows [] := by
  have hset := upd_setCell (fun k => k = b) w ⟨b, 1, none⟩ (.slice none 0 0) rfl
  exact { blk := by rw [heap_setCell_at h.blk 1 _]; rfl, pown := own_upd' h.pown hset (fun k hk e => h.s1 (by rw [← e]; exact hk)), cown := ⟨rfl, .inl ⟨rfl, rfl⟩⟩, pages := h.pages, cache := rfl, pby := fun r hr => { by_ := (h.pby r hr).by_.upd hset (fun k hk e => ((h.pby r hr).ap k hk).2.1 e), len := (h.pby r hr).len, ap := fun k hk => ⟨((h.pby r hr).ap k hk).1, ((h.pby r hr).ap k hk).2.1, ((h.pby r hr).ap k hk).2.2.1, fun e => by cases e⟩ }, cby := fun c hc => (List.not_mem_nil hc).elim, s1 := h.s1, s2 := fun e => (by cases e), s3 := fun k hk e => (by cases e), pb := h.pb, pp := h.pp, pc := fun k hk => (by cases hk), lt := fun k hk => (by have := h.lt k hk; simp; omega) }

/-- The pages behind a sync of the first `j` of the cache. -/
structure SyncP (c : List (Int × List UInt8)) (pages pg : List (List UInt8)) (j : Nat) : Prop where
  len : pg.length = pages.length
  at_ : ∀ k : Nat, k < pages.length → pg.getD k [] = (lookC (c.take j) (k : Int)).getD (pages.getD k [])
theorem SyncP.start (c : List (Int × List UInt8)) (pages : List (List UInt8)) : SyncP c pages pages 0 := ⟨rfl, fun k hk => rfl⟩
theorem SyncP.step {c : List (Int × List UInt8)} {pages pg : List (List UInt8)} {j : Nat} (h : SyncP c pages pg j) (hnd : (c.map (·.1)).Nodup) (hj : j < c.length) (p : Nat) (hp : c[j].1 = (p : Int)) (hpl : p < pages.length) : SyncP c pages (pg.set p c[j].2) (j + 1) := by
  have hno : ∀ r ∈ c.take j, r.1 ≠ (p : Int) := fun r hr e => by
    obtain ⟨i, hi, rfl⟩ := List.getElem_of_mem hr
    rw [List.length_take] at hi
    rw [List.getElem_take] at e
    have : i = j := (List.getElem_inj (h₀ := by simp; omega) (h₁ := by simpa using hj) hnd).1 (by rw [List.getElem_map, List.getElem_map, e, hp])
    omega
  refine ⟨by rw [List.length_set]; exact h.len, fun k hk => ?_⟩
  rw [List.take_succ_eq_append_getElem hj, lookC_append, lookC_cons, lookC_nil, hp]
  simp only [List.getD_eq_getElem?_getD]
  rw [List.getElem?_set]
  by_cases e : p = k
  · subst e
    rw [if_pos rfl, if_pos (by rw [h.len]; exact hpl), if_pos rfl, lookC_none hno]
    rfl
  · rw [if_neg e, if_neg (by omega)]
    have := h.at_ k hk
    simp only [List.getD_eq_getElem?_getD] at this
    rw [this]
    cases lookC (c.take j) (k : Int) <;> rfl

/-- What Sync says. -/
def RSyncSays (P : Nat → Prop) (b : Nat) (D : RD) (w : World) (e : Ending) (w' : World) : Prop :=
  e = .returned (.int .i64 0) ∧ Upd P w w' ∧ ∃ pg, SyncP D.cache D.pages pg D.cache.length ∧ IsRD (PN P w w') w' b ({ D with pages := pg, cache := [] } : RD).did

set_option maxRecDepth 100000 in
theorem rsync_dead (P : Nat → Prop) (b : Nat) (D : RD) (w : World) (h : IsRD P w b D) (hd : D.dead = true) :
    Calls Try.prog 28 #[.pointer (some ⟨b, 0, none⟩)] w fun e w' => e = .returned (.int .i64 10) ∧ w = w' := by
  obtain ⟨pv, cv, rows, cs, h⟩ := h
  have c3 : w.cell? ⟨b, 3, none⟩ = some (.bool true) := by rw [← hd]; exact cell_of h.blk 3
  clear h hd
  go_enter Try.func28, Try.ntmps28
  go_wp2
  go_ret
  exact ⟨rfl, rfl⟩

set_option maxRecDepth 100000 in
set_option maxHeartbeats 2000000 in
theorem rsync_ok (P : Nat → Prop) (b : Nat) (D : RD) (w : World) (h : IsRD P w b D) (hd : D.dead = false) (hlen : D.cache.length ≤ 100000) (hnd : (D.cache.map (·.1)).Nodup) (hin : ∀ r ∈ D.cache, 0 ≤ r.1 ∧ r.1 < (D.pages.length : Int)) (d0 : 0 ≤ D.done) (d1 : D.done ≤ 1000000) (d2 : D.fuse ≤ 9223372036854775807) :
    Calls Try.prog 28 #[.pointer (some ⟨b, 0, none⟩)] w (RSyncSays P b D w) := by
  obtain ⟨pv, cv, rows, cs, h⟩ := h
  have hnc := h.nc
  have hnp := h.np
  have hbw := h.lt b h.pb
  obtain ⟨hsl, -⟩ := sl_of_own wenc_length h.cown
  obtain ⟨ca, cc, rfl, -⟩ := hsl.shape
  have c3 : w.cell? ⟨b, 3, none⟩ = some (.bool false) := by rw [← hd]; exact cell_of h.blk 3
  have c1 : w.cell? ⟨b, 1, none⟩ = some (.slice ca cs.length cc) := cell_of h.blk 1
  have H := Lib.hid h
  have HND := Lib.hid hnd
  have HIN := Lib.hid hin
  have HD := Lib.hid hd
  clear hnd hin hd h hsl
  generalize hn : cs.length = n at *
  have HN := Lib.hid hn
  have HNC := Lib.hid hnc
  clear hn hnc
  go_enter Try.func28, Try.ntmps28
  go_upto_region 4 with (fail)
  go_loopw [14] (fun i wr => ∃ j : Nat, j ≤ n ∧ i = .int .i64 j ∧ Upd P w wr ∧ ∃ pg rws, SyncP D.cache D.pages pg j ∧ RDAt (PN P w wr) wr b { D with pages := pg } pv (.slice ca n cc) rws cs) (fun i _ => n - (intOf i).toNat)
  case atStart => exact ⟨0, Nat.zero_le _, rfl, Upd.refl _ _, D.pages, rows, SyncP.start _ _, H.out.wider (fun k hk => .inl hk) (fun k hk => by rcases hk with hk | hk; exact H.out.lt k hk; exact hk.2)⟩
  case round =>
    obtain ⟨j, hj, rfl, hu, pg, rws, hsp, hr⟩ := hrel
    have HU := Lib.hid hu
    have HSP := Lib.hid hsp
    have HR := Lib.hid hr
    by_cases hlt : j < n
    · have hjc : j < cs.length := by rw [HN.out]; exact hlt
      have hjd : j < D.cache.length := by rw [← HNC.out]; exact hlt
      have hsl := (sl_of_own wenc_length hr.cown).1
      obtain ⟨bc, oc, capc, hee, -, -, -⟩ := (show Sl wenc wr (.slice ca cs.length cc) cs by rw [HN.out]; have := hsl; exact this).block (by omega)
      cases hee
      have q0 := (show Sl wenc wr (.slice (some ⟨bc, oc, none⟩) n cc) cs from hsl).at wenc_length j hjc 0 (by decide) _ rfl
      have q1 := (show Sl wenc wr (.slice (some ⟨bc, oc, none⟩) n cc) cs from hsl).at wenc_length j hjc 1 (by decide) _ rfl
      rw [Nat.add_zero] at q0
      have e0 : cs[j].1 = D.cache[j].1 ∧ cs[j].2.2 = D.cache[j].2 := by
        have h2 : (cs.map (fun c => (c.1, c.2.2)))[j]? = D.cache[j]? := by rw [H.out.cache]
        rw [List.getElem?_map, List.getElem?_eq_getElem hjc, List.getElem?_eq_getElem hjd] at h2
        have := Option.some.inj h2
        exact ⟨congrArg (·.1) this, congrArg (·.2) this⟩
      obtain ⟨i0, i1⟩ := HIN.out _ (List.getElem_mem hjd)
      obtain ⟨p, hp⟩ : ∃ p : Nat, D.cache[j].1 = (p : Int) := ⟨D.cache[j].1.toNat, by omega⟩
      have hpl : p < D.pages.length := by omega
      have hrl : rws.length = D.pages.length := by rw [hr.np]; exact hsp.len
      have hpr : p < rws.length := by omega
      obtain ⟨bk, cap, cur, rfl, -, hcur⟩ := own_block hr.pown (by omega)
      have hst := hsp.step HND.out hjd p hp hpl
      rw [← e0.2] at hst
      have HST := Lib.hid hst
      rw [e0.1, hp] at q0
      have hwu := upd_alloc (fun _ => False) wr (.cells #[.int .i64 (p : Int), .slice cs[j].2.1.1 cs[j].2.2.length cs[j].2.1.2] 87)
      have hsz1 : (wr.alloc (.cells #[.int .i64 (p : Int), .slice cs[j].2.1.1 cs[j].2.2.length cs[j].2.1.2] 87)).heap.size = wr.heap.size + 1 := by simp
      have hQl : ∀ k, PN P w (wr.alloc (.cells #[.int .i64 (p : Int), .slice cs[j].2.1.1 cs[j].2.2.length cs[j].2.1.2] 87)).drew k → k < (wr.alloc (.cells #[.int .i64 (p : Int), .slice cs[j].2.1.1 cs[j].2.2.length cs[j].2.1.2] 87)).drew.heap.size := fun k hk => by
        have h9 : (wr.alloc (.cells #[.int .i64 (p : Int), .slice cs[j].2.1.1 cs[j].2.2.length cs[j].2.1.2] 87)).drew.heap.size = wr.heap.size + 1 := hsz1
        rcases hk with hk | hk
        · have := hr.lt k (.inl hk); omega
        · exact hk.2
      have hQ : ∀ k, PN P w wr k → PN P w (wr.alloc (.cells #[.int .i64 (p : Int), .slice cs[j].2.1.1 cs[j].2.2.length cs[j].2.1.2] 87)).drew k := fun k hk => by
        have h9 : (wr.alloc (.cells #[.int .i64 (p : Int), .slice cs[j].2.1.1 cs[j].2.2.length cs[j].2.1.2] 87)).drew.heap.size = wr.heap.size + 1 := hsz1
        rcases hk with hk | hk
        · exact .inl hk
        · exact .inr ⟨hk.1, by omega⟩
      have hrow := (hr.cby _ (List.getElem_mem hjc)).upd hwu.drew (fun _ _ x => x)
      have hnew := hr.setP hwu.drew hQ hQl cs[j].2 { hrow with ap := fun k hk => ⟨hQ k (hrow.ap k hk).1, (hrow.ap k hk).2⟩ } p hpr
      have HNEW := Lib.hid hnew
      have b1 := hwu.drew.heap hr.blk (fun x => x)
      have c0 := cell_of b1 0
      have hsp2 := (sl_of_own renc_length hr.pown).1.at renc_length p hpr 0 (by decide) _ rfl
      rw [Nat.mul_one, Nat.add_zero, Nat.zero_add] at hsp2
      obtain ⟨u1, y1⟩ : ∃ u, (wr.alloc (.cells #[.int .i64 (p : Int), .slice cs[j].2.1.1 cs[j].2.2.length cs[j].2.1.2] 87)).drew.cell? ⟨bk, p, none⟩ = some u := ⟨_, hwu.drew.cell hsp2 (fun x => x)⟩
      have f1 : (wr.alloc (.cells #[.int .i64 (p : Int), .slice cs[j].2.1.1 cs[j].2.2.length cs[j].2.1.2] 87)).drew.frozen? ⟨bk, p, none⟩ = false := free_of (hwu.drew.heap hcur (fun x => x)) p
      have hg := heap_alloc wr (.cells #[.int .i64 (p : Int), .slice cs[j].2.1.1 cs[j].2.2.length cs[j].2.1.2] 87)
      have hbk : b ≠ bk := fun e => hr.s1 (by rw [e]; rfl)
      have hgk : wr.heap.size ≠ bk := by have := lt_of_heap hcur; omega
      have hP : P bk := H.out.pp bk rfl
      have HU2 := Lib.hid (show Upd P w ((wr.alloc (.cells #[.int .i64 (p : Int), .slice cs[j].2.1.1 cs[j].2.2.length cs[j].2.1.2] 87)).drew.setCell ⟨bk, p, none⟩ (.slice cs[j].2.1.1 cs[j].2.2.length cs[j].2.1.2)) from Upd.setCell (p := ⟨bk, p, none⟩) (hu.trans ((hwu.drew).weak P)) (fun _ => hP) _)
      have hpn : (p : Int) < (rws.length : Int) := by omega
      have hp0 : (0 : Int) ≤ (p : Int) := by omega
      have g0 : (wr.alloc (.cells #[.int .i64 (p : Int), .slice cs[j].2.1.1 cs[j].2.2.length cs[j].2.1.2] 87)).drew.cell? ⟨wr.heap.size, 0, none⟩ = some (.int .i64 (p : Int)) := cell_of hg.1 0
      have g1 : (wr.alloc (.cells #[.int .i64 (p : Int), .slice cs[j].2.1.1 cs[j].2.2.length cs[j].2.1.2] 87)).drew.cell? ⟨wr.heap.size, 1, none⟩ = some (.slice cs[j].2.1.1 cs[j].2.2.length cs[j].2.1.2) := cell_of hg.1 1
      have x0 := (World.cell?_setCell_far ((wr.alloc (.cells #[.int .i64 (p : Int), .slice cs[j].2.1.1 cs[j].2.2.length cs[j].2.1.2] 87)).drew) ⟨bk, p, none⟩ ⟨b, 0, none⟩ (.slice cs[j].2.1.1 cs[j].2.2.length cs[j].2.1.2) (Ne.symm hbk)).trans c0
      have x1 := (World.cell?_setCell_far ((wr.alloc (.cells #[.int .i64 (p : Int), .slice cs[j].2.1.1 cs[j].2.2.length cs[j].2.1.2] 87)).drew) ⟨bk, p, none⟩ ⟨wr.heap.size, 0, none⟩ (.slice cs[j].2.1.1 cs[j].2.2.length cs[j].2.1.2) (Ne.symm hgk)).trans g0
      have x2 := (World.cell?_setCell_far ((wr.alloc (.cells #[.int .i64 (p : Int), .slice cs[j].2.1.1 cs[j].2.2.length cs[j].2.1.2] 87)).drew) ⟨bk, p, none⟩ ⟨wr.heap.size, 1, none⟩ (.slice cs[j].2.1.1 cs[j].2.2.length cs[j].2.1.2) (Ne.symm hgk)).trans g1
      have c0' : (wr.alloc (.cells #[.int .i64 (p : Int), .slice cs[j].2.1.1 cs[j].2.2.length cs[j].2.1.2] 87)).drew.cell? ⟨b, 0, none⟩ = some (.slice (some ⟨bk, 0, none⟩) rws.length cap) := c0
      have HSZ := Lib.hid (show ((wr.alloc (.cells #[.int .i64 (p : Int), .slice cs[j].2.1.1 cs[j].2.2.length cs[j].2.1.2] 87)).drew.setCell ⟨bk, p, none⟩ (.slice cs[j].2.1.1 cs[j].2.2.length cs[j].2.1.2)).heap.size = wr.heap.size + 1 by simp)
      clear hr hsl hsp2 hwu hQl hQ hrow hnew b1 hg hst hsp hu e0 i0 i1 hp hcur c0 c1 c3 hrl hpl hsz1 hP
      generalize cs[j].2.1.1 = z1 at *
      generalize cs[j].2.1.2 = z3 at *
      generalize hz2 : cs[j].2.2.length = z2 at *
      clear hz2
      clear hpr
      generalize rws.length = rn at *
      go_upto_region 6 with (fail)
      go_region_held3 (fun w' => w'.cell? ⟨b, 0, none⟩ = some (.slice (some ⟨bk, 0, none⟩) rn cap) ∧ w'.cell? ⟨wr.heap.size, 0, none⟩ = some (.int .i64 (p : Int)) ∧ w'.cell? ⟨wr.heap.size, 1, none⟩ = some (.slice z1 z2 z3)) (first | exact ⟨c0', g0, g1⟩ | exact ⟨x0, x1, x2⟩) (fail)
      go_wp2
      go_roundw
      case rel => exact ⟨j + 1, by omega, by go_num, HU2.out, _, _, HST.out, HNEW.out.wider (fun k hk => hk.elim .inl (fun hk => .inr ⟨hk.1, by have := HSZ.out; have h9 := hk.2; simp at h9 ⊢; omega⟩)) (fun k hk => by
        rcases hk with hk | hk
        · have := H.out.lt k hk; have := HU2.out.size; omega
        · exact hk.2)⟩
      case measure => simp [intOf]; omega
    · obtain rfl : j = n := by omega
      have hcl := hr.clearC
      have f1 := free_of hr.blk 1
      have x1 : wr.cell? ⟨b, 1, none⟩ = some (.slice ca j cc) := cell_of hr.blk 1
      have hdd := rdid_calls _ b _ _ pv _ rws [] hcl d0 d1 d2
      have hsz : (wr.setCell ⟨b, 1, none⟩ (.slice none 0 0)).heap.size = wr.heap.size := by simp
      have HSZ := Lib.hid hsz
      have HU2 := Lib.hid (show Upd P w (wr.setCell ⟨b, 1, none⟩ (.slice none 0 0)) from Upd.setCell (p := ⟨b, 1, none⟩) hu (fun _ => H.out.pb) _)
      clear hcl hr hsp hu hsz
      go_upto_region 9 with (fail)
      generalize wr.setCell ⟨b, 1, none⟩ (.slice none 0 0) = w6 at *
      go_wp2_with (go_at_call 45; (with_reducible refine hdd.mono ?_); rintro e7 w7 ⟨rfl, hrd7, hu7⟩; have HRD7 := Lib.hid hrd7; have HU7 := Lib.hid hu7; clear hrd7 hu7)
      go_ret
      refine ⟨rfl, HU2.out.trans (HU7.out.mono (fun k _ e => by rw [e]; exact H.out.pb)), pg, by rw [← HNC.out]; exact HSP.out, _, _, _, _, HRD7.out.wider (fun k hk => hk.elim .inl (fun hk => .inr ⟨hk.1, by have := HSZ.out; have := HU7.out.size; omega⟩)) (fun k hk => ?_)⟩
      rcases hk with hk | hk
      · have := H.out.lt k hk; have := HU2.out.size; have := HU7.out.size; omega
      · exact hk.2

end Go.Proofs.Yteokbokgiejmpaa
