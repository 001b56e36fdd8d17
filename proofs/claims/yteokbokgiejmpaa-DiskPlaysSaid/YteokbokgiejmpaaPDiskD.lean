/-
  The document's disk: Write, the walks.
-/
import Derived.Deep.RegionLaw
import Derived.Test.YteokbokgiejmpaaPDiskC
namespace Go.Proofs.Yteokbokgiejmpaa
open Go.RowKit Go.Tb Go.MapKept Go.ChangeMaps
set_option linter.unusedVariables false

def lookC (c : List (Int × List UInt8)) (k : Int) : Option (List UInt8) := (c.find? fun x => x.1 == k).map (·.2)
structure PutC (c c' : List (Int × List UInt8)) (page : Int) (l : List UInt8) : Prop where
  nd : (c'.map (·.1)).Nodup
  look : ∀ k, lookC c' k = if k = page then some l else lookC c k
  len : c'.length ≤ c.length + 1

theorem lookC_nil (k : Int) : lookC [] k = none := rfl
theorem lookC_cons (x : Int × List UInt8) (c : List (Int × List UInt8)) (k : Int) : lookC (x :: c) k = if x.1 = k then some x.2 else lookC c k := by
  unfold lookC
  by_cases e : x.1 = k
  · rw [if_pos e, List.find?_cons_of_pos (by simpa using e)]; rfl
  · rw [if_neg e, List.find?_cons_of_neg (by simpa using e)]
theorem lookC_none {c : List (Int × List UInt8)} {k : Int} (h : ∀ r ∈ c, r.1 ≠ k) : lookC c k = none := by
  unfold lookC
  rw [List.find?_eq_none.2 (fun r hr e => h r hr (by simpa using e))]; rfl
theorem lookC_append (c d : List (Int × List UInt8)) (k : Int) : lookC (c ++ d) k = (lookC c k).or (lookC d k) := by
  unfold lookC
  rw [List.find?_append]
  cases c.find? (fun x => x.1 == k) <;> rfl

theorem PutC.add {c : List (Int × List UInt8)} {page : Int} (l : List UInt8) (hnd : (c.map (·.1)).Nodup) (hno : ∀ r ∈ c, r.1 ≠ page) : PutC c (c ++ [(page, l)]) page l :=
  { nd := by
      rw [List.map_append, List.nodup_append]
      refine ⟨hnd, by simp, fun a ha b hb e => ?_⟩
      obtain ⟨r, hr, rfl⟩ := List.mem_map.1 ha
      simp at hb
      exact hno r hr (e.trans hb)
    look := fun k => by
      rw [lookC_append, lookC_cons, lookC_nil]
      by_cases e : k = page
      · rw [if_pos e, e, lookC_none hno]; simp
      · rw [if_neg e, if_neg (fun q => e q.symm)]
        cases lookC c k <;> rfl
    len := by simp }
theorem PutC.set {c : List (Int × List UInt8)} {page : Int} (l : List UInt8) (hnd : (c.map (·.1)).Nodup) (j : Nat) (hj : j < c.length) (hp : c[j].1 = page) : PutC c (c.set j (c[j].1, l)) page l := by
  have hfst : (c.set j (c[j].1, l)).map (·.1) = c.map (·.1) := by
    rw [List.map_set]
    refine List.ext_getElem (by simp) (fun i h1 h2 => ?_)
    rw [List.getElem_set]
    split
    · subst_vars; simp
    · rfl
  refine { nd := by rw [hfst]; exact hnd, len := by simp, look := ?_ }
  clear hfst
  induction c generalizing j with
  | nil => simp at hj
  | cons x r ih =>
    intro k
    obtain ⟨h1, h2⟩ := List.nodup_cons.1 (show (x.1 :: r.map (·.1)).Nodup from hnd)
    cases j with
    | zero =>
      have hp' : x.1 = page := hp
      show lookC ((x.1, l) :: r) k = _
      rw [lookC_cons, lookC_cons]
      by_cases e : k = page
      · rw [if_pos e, if_pos (hp'.trans e.symm)]
      · rw [if_neg e, if_neg (fun q => e (q.symm.trans hp')), if_neg (fun q => e (q.symm.trans hp'))]
    | succ j =>
      have hj' : j < r.length := by simpa using hj
      have hp' : r[j].1 = page := hp
      have hx : x.1 ≠ page := fun e => h1 (List.mem_map.2 ⟨r[j], List.getElem_mem hj', hp'.trans e.symm⟩)
      show lookC (x :: r.set j (r[j].1, l)) k = _
      rw [lookC_cons, lookC_cons, ih h2 j hj' hp' k]
      by_cases e : x.1 = k
      · rw [if_pos e, if_neg (fun q => hx (e.trans q)), if_pos e]
      · rw [if_neg e, if_neg e]

/-- What at finds. -/
theorem rat_cases (P : Nat → Prop) (b : Nat) (D : RD) (page : Int) (w : World) (h : IsRD P w b D) (hlen : D.cache.length ≤ 1000000) (hnd : (D.cache.map (·.1)).Nodup) :
    (∃ j, ∃ hj : j < D.cache.length, D.cache[j].1 = page ∧ Calls Try.prog 43 #[.pointer (some ⟨b, 0, none⟩), .int .i64 page] w fun e w' => e = .returned (.int .i64 (j : Nat)) ∧ w = w') ∨ ((∀ r ∈ D.cache, r.1 ≠ page) ∧ Calls Try.prog 43 #[.pointer (some ⟨b, 0, none⟩), .int .i64 page] w fun e w' => e = .returned (.int .i64 (-1)) ∧ w = w') := by
  have hat := rat_calls P b D page w h hlen
  by_cases hx : ∃ r ∈ D.cache, r.1 = page
  · left
    obtain ⟨r, hr, hrp⟩ := hx
    obtain ⟨j, hj, rfl⟩ := List.getElem_of_mem hr
    refine ⟨j, hj, hrp, hat.mono fun e w' hs => ?_⟩
    obtain ⟨hw, ⟨i, hi, e1, e2⟩ | ⟨hno, _⟩⟩ := hs
    · have : i = j := (List.getElem_inj (h₀ := by simpa using hi) (h₁ := by simpa using hj) hnd).1 (by rw [List.getElem_map, List.getElem_map, e1, hrp])
      rw [this] at e2; exact ⟨e2, hw⟩
    · exact absurd hrp (hno _ (List.getElem_mem hj))
  · right
    have hno : ∀ r ∈ D.cache, r.1 ≠ page := fun r hr e => hx ⟨r, hr, e⟩
    refine ⟨hno, hat.mono fun e w' hs => ?_⟩
    obtain ⟨hw, ⟨i, hi, e1, e2⟩ | ⟨_, e2⟩⟩ := hs
    · exact absurd e1 (hno _ (List.getElem_mem hi))
    · exact ⟨e2, hw⟩

/-- What Write says of a page that is written. -/
def RWriteSays (P : Nat → Prop) (b : Nat) (D : RD) (page : Int) (l : List UInt8) (w : World) (e : Ending) (w' : World) : Prop :=
  e = .returned (.int .i64 0) ∧ Upd P w w' ∧ ∃ c', PutC D.cache c' page l ∧ IsRD (PN P w w') w' b ({ D with cache := c' } : RD).did

set_option maxRecDepth 100000 in
set_option maxHeartbeats 2000000 in
theorem rwrite_ok (P : Nat → Prop) (b : Nat) (D : RD) (page : Int) (a : Option Addr) (c : Nat) (l : List UInt8) (w : World) (h : IsRD P w b D) (hc : D.check page = 0) (hlen : D.cache.length ≤ 100000) (hnd : (D.cache.map (·.1)).Nodup) (hv : Bytes w (.slice a 256 c) l) (hl : l.length = 256) (d0 : 0 ≤ D.done) (d1 : D.done ≤ 1000000) (d2 : D.fuse ≤ 9223372036854775807) :
    Calls Try.prog 26 #[.pointer (some ⟨b, 0, none⟩), .int .i64 page, .slice a 256 c] w (RWriteSays P b D page l w) := by
  have hk := rcheck_calls P b D page w h
  rw [hc] at hk
  have hcs := rat_cases P b D page w h (by omega) hnd
  obtain ⟨pv, cv, rows, cs, h⟩ := h
  have htw := rtwin_calls _ l w.drew (hv.upd (Upd.refl (fun _ => False) w).drew (fun _ _ x => x)) (by omega)
  have hnc := h.nc
  have hbw := h.lt b h.pb
  rcases hcs with ⟨j, hj, hjp, hat⟩ | ⟨hno, hat⟩
  · have hjc : j < cs.length := by omega
    obtain ⟨bk, cap, cur, rfl, -, hcur⟩ := own_block h.cown (by omega)
    obtain ⟨off, hoff⟩ : ∃ off : Nat, off = 0 := ⟨0, rfl⟩
    have c1 : w.drew.cell? ⟨b, 1, none⟩ = some (.slice (some ⟨bk, off, none⟩) cs.length cap) := by rw [hoff]; exact cell_of h.blk 1
    have hbk : b ≠ bk := fun e => h.s2 (by rw [e]; rfl)
    have hsl := (sl_of_own wenc_length h.cown).1
    have hq1 := hsl.at wenc_length j hjc 1 (by decide) _ rfl
    have q1 : w.drew.cell? ⟨bk, off + j * 2 + 1, none⟩ = some (.slice cs[j].2.1.1 cs[j].2.2.length cs[j].2.1.2) := by rw [hoff]; exact hq1
    have f1 : w.drew.frozen? ⟨bk, off + j * 2 + 1, none⟩ = false := free_of hcur _
    have HCUR := Lib.hid hcur
    have HSET := Lib.hid (show ∀ (w5 : World) (hu : Upd (fun _ => False) w w5) (g5 c5 : Nat), w.heap.size ≤ g5 → g5 < w5.heap.size → Bytes w5 (.slice (some ⟨g5, 0, none⟩) l.length c5) l → IsRD (PN P w w5) (w5.setCell ⟨bk, off + j * 2 + 1, none⟩ (.slice (some ⟨g5, 0, none⟩) l.length c5)) b { D with cache := D.cache.set j (D.cache[j].1, l) } from fun w5 hu g5 c5 hg5 hg6 hby => by
      rw [hoff, Nat.zero_add]
      exact ⟨_, _, _, _, h.setC hu hg5 hg6 hby hl j hjc hj⟩)
    have HPUT := Lib.hid (PutC.set l hnd j hj hjp)
    generalize D.cache.set j (D.cache[j].1, l) = c' at *
    have HPC := Lib.hid (h.pc bk rfl)
    have HLT := Lib.hid h.lt
    have HPB := Lib.hid h.pb
    have hjn : (j : Int) < (cs.length : Int) := by omega
    have hj0 : (0 : Int) ≤ (j : Int) := by omega
    generalize cs[j].2.1.1 = z1 at *
    generalize cs[j].2.1.2 = z3 at *
    generalize cs[j].2.2.length = z2 at *
    have HL := Lib.hid hl
    clear h hsl hc hnd hv hcur hjp hnc hq1 hlen hoff hl
    go_enter Try.func26, Try.ntmps26
    go_upto_region 8 with (first
      | (go_at_call 42; (with_reducible refine hk.mono ?_); rintro e1 w1 ⟨rfl, rfl⟩)
      | (go_at_call 43; (with_reducible refine hat.mono ?_); rintro e2 w2 ⟨rfl, rfl⟩))
    generalize cs.length = n at *
    go_region_held3 (fun w' => w'.cell? ⟨b, 1, none⟩ = some (.slice (some ⟨bk, off, none⟩) n cap)) (first | exact c1 | exact x1 | exact x2)
      (first | (go_at_call 44; (with_reducible refine htw.mono ?_); intro e3 w3 h3; obtain ⟨g5, c5, rfl, hown, hg, hu⟩ := h3; have x1 := hu.cell c1 (fun x => x); have x2 : (w3.setCell ⟨bk, off + j * 2 + 1, none⟩ (.slice (some ⟨g5, 0, none⟩) l.length c5)).cell? ⟨b, 1, none⟩ = some (.slice (some ⟨bk, off, none⟩) n cap) := (World.cell?_setCell_far _ _ _ _ (Ne.symm hbk)).trans x1; have y1 := hu.cell q1 (fun x => x); have z1 := free_of (hu.heap (show w.drew.heap[bk]? = _ from HCUR.out) (fun x => x)) (off + j * 2 + 1); have HO := Lib.hid hown; have HU := Lib.hid hu; have HG := Lib.hid hg; clear hown hg hu))
    clear x2
    have hrd := HSET.out w3 (HU.out.undrew) g5 c5 HG.out (own_ge HO.out g5 rfl).2 (twin_bytes HO.out)
    have hsz3 : (w3.setCell ⟨bk, off + j * 2 + 1, none⟩ (.slice (some ⟨g5, 0, none⟩) l.length c5)).heap.size = w3.heap.size := by simp
    have hu4 : Upd P w (w3.setCell ⟨bk, off + j * 2 + 1, none⟩ (.slice (some ⟨g5, 0, none⟩) l.length c5)) := Upd.setCell (p := ⟨bk, off + j * 2 + 1, none⟩) ((HU.out.undrew).weak P) (fun _ => HPC.out) _
    have HU4 := Lib.hid hu4
    have HSZ3 := Lib.hid hsz3
    obtain ⟨pv4, cv4, rows4, cs4, hrd⟩ := hrd
    have hdd := rdid_calls _ b _ _ pv4 cv4 rows4 cs4 hrd d0 d1 d2
    clear hrd hu4 hsz3 htw c1 x1 y1 z1 q1 f1
    go_upto_region 10 with (fail)
    generalize w3.setCell ⟨bk, off + j * 2 + 1, none⟩ (.slice (some ⟨g5, 0, none⟩) l.length c5) = w4 at *
    go_wp2_with (go_at_call 45; (with_reducible refine hdd.mono ?_); rintro e6 w6 ⟨rfl, hrd6, hu6⟩; have HRD6 := Lib.hid hrd6; have HU6 := Lib.hid hu6; clear hrd6 hu6)
    go_ret
    refine ⟨rfl, HU4.out.trans (HU6.out.mono (fun k _ e => by rw [e]; exact HPB.out)), c', HPUT.out, pv4, cv4, rows4, cs4, HRD6.out.wider (fun k hk => hk.elim .inl (fun hk => .inr ⟨hk.1, by have := HSZ3.out; have := HU6.out.size; omega⟩)) (fun k hk => ?_)⟩
    rcases hk with hk | hk
    · have := HLT.out k hk; have := HU4.out.size; have := HU6.out.size; omega
    · exact hk.2
  · obtain ⟨hsl, -⟩ := sl_of_own wenc_length h.cown
    obtain ⟨ca, cc, rfl, -⟩ := hsl.shape
    have c1 : w.drew.cell? ⟨b, 1, none⟩ = some (.slice ca cs.length cc) := cell_of h.blk 1
    have HADD := Lib.hid (fun w5 (hu : Upd (fun _ => False) w w5) g5 c5 (hg5 : w.heap.size ≤ g5) (hg6 : g5 < w5.heap.size) hby => RDAt.addC (c5 := c5) h hu hg5 hg6 hby hl page (by omega))
    have HPUT := Lib.hid (PutC.add l hnd hno)
    have HLT := Lib.hid h.lt
    have HPB := Lib.hid h.pb
    have HL := Lib.hid hl
    have hm1 : ¬ ((0 : Int) ≤ -1) := by decide
    clear h hsl hc hnd hv hnc hlen hno hl
    generalize cs.length = n at *
    go_enter Try.func26, Try.ntmps26
    go_upto_region 9 with (first
      | (go_at_call 42; (with_reducible refine hk.mono ?_); rintro e1 w1 ⟨rfl, rfl⟩)
      | (go_at_call 43; (with_reducible refine hat.mono ?_); rintro e2 w2 ⟨rfl, rfl⟩))
    go_region_law (first
      | (go_simp; go_at_call 44; (with_reducible refine htw.mono ?_); intro e3 w3 h3; obtain ⟨g5, c5, rfl, hown, hg, hu⟩ := h3; have x1 := hu.cell c1 (fun x => x); have hb3 : b < w3.heap.size := Nat.lt_of_lt_of_le hbw hu.undrew.size; obtain ⟨a7, c7, w7, hap, f7, ⟨u7, g7⟩, hrd7, hu7⟩ := HADD.out w3 hu.undrew g5 c5 hg (own_ge hown g5 rfl).2 (twin_bytes hown); have HRD7 := Lib.hid hrd7; have HU7 := Lib.hid hu7; clear hown hg hu hrd7 hu7)
      | (refine step_append hap (by rfl) (by rfl) (by rfl) (by rfl) ?_))
    all_goals (
      obtain ⟨pv4, cv4, rows4, cs4, hrd⟩ := (show IsRD _ _ b _ from ⟨_, _, _, _, HRD7.out⟩)
      have hdd := rdid_calls _ b _ _ pv4 cv4 rows4 cs4 hrd d0 d1 d2
      have hsz3 : (w7.setCell ⟨b, 1, none⟩ (.slice a7 (n + 1) c7)).heap.size = w7.heap.size := by simp
      have HSZ3 := Lib.hid hsz3
      clear hrd hsz3 htw c1 hap f7 g7
      go_upto_region 10 with (fail)
      generalize w7.setCell ⟨b, 1, none⟩ (.slice a7 (n + 1) c7) = w8 at *
      go_wp2_with (go_at_call 45; (with_reducible refine hdd.mono ?_); rintro e6 w6 ⟨rfl, hrd6, hu6⟩; have HRD6 := Lib.hid hrd6; have HU6 := Lib.hid hu6; clear hrd6 hu6)
      go_ret
      refine ⟨rfl, HU7.out.trans (HU6.out.mono (fun k _ e => by rw [e]; exact HPB.out)), _, HPUT.out, pv4, cv4, rows4, cs4, HRD6.out.wider (fun k hk => hk.elim .inl (fun hk => .inr ⟨hk.1, by have := HSZ3.out; have := HU6.out.size; omega⟩)) (fun k hk => ?_)⟩
      rcases hk with hk | hk
      · have := HLT.out k hk; have := HU7.out.size; have := HU6.out.size; omega
      · exact hk.2)

end Go.Proofs.Yteokbokgiejmpaa
