/-
  The document's disk: what it is; Twin, at, check, did, Set.
-/
import Derived.Test.YteokbokgiejmpaaDiskC
import Derived.Deep.RegionHeld3
namespace Go.Proofs.Yteokbokgiejmpaa
open Go.RowKit Go.Tb Go.MapKept Go.ChangeMaps
set_option linter.unusedVariables false

/-- A row of bytes: where it lies, and what it reads as. -/
abbrev KRow := (Option Addr × Nat) × List UInt8
def KRow.val (r : KRow) : Value := .slice r.1.1 r.2.length r.1.2
def renc (r : KRow) : List Value := [.slice r.1.1 r.2.length r.1.2]
theorem renc_length (r : KRow) : (renc r).length = 1 := rfl
theorem renc_one (r : KRow) : ∀ u ∈ renc r, u.oneCell' = true := fun u hu => by rw [List.mem_singleton.1 hu]; rfl
theorem info_bytes : (Try.prog.info? 29).map (fun i => (i.zero, i.size, i.bytes)) = some (some (.slice none 0 0), 1, 24) := by kernel_rfl
abbrev WRow := Int × KRow
def wenc (c : WRow) : List Value := [.int .i64 c.1, .slice c.2.1.1 c.2.2.length c.2.1.2]
theorem wenc_length (c : WRow) : (wenc c).length = 2 := rfl
theorem wenc_one (c : WRow) : ∀ u ∈ wenc c, u.oneCell' = true := fun u hu => by
  simp only [wenc, List.mem_cons, List.not_mem_nil, or_false] at hu
  rcases hu with rfl | rfl <;> rfl
theorem info_Written : (Try.prog.info? 87).map (fun i => (i.zero, i.size, i.bytes)) = some (some (.agg #[.int .i64 0, .slice none 0 0]), 2, 32) := by kernel_rfl
def uenc (x : UInt8) : List Value := [u8v x]
theorem uenc_length (x : UInt8) : (uenc x).length = 1 := rfl
theorem uenc_one (x : UInt8) : ∀ u ∈ uenc x, u.oneCell' = true := fun u hu => by rw [List.mem_singleton.1 hu]; rfl

theorem bytes_sl {w : World} {v : Value} {l : List UInt8} (h : Bytes w v l) : Sl uenc w v l := by
  rcases h with h | ⟨b, off, cap, rfl, hc, hb, hx⟩
  · exact .inl h
  · refine .inr ⟨b, off, cap, rfl, hc, hb, fun j u hj => ?_⟩
    have e : l.flatMap uenc = l.map u8v := flat_one l
    rw [e, List.getElem?_map] at hj
    obtain ⟨x, hx2, rfl⟩ := Option.map_eq_some_iff.1 hj
    obtain ⟨hlt, rfl⟩ := List.getElem?_eq_some_iff.1 hx2
    exact hx j hlt

/-- Twin: the same bytes, in a block of its own. -/
def TwinSays (l : List UInt8) (w : World) (e : Ending) (w' : World) : Prop :=
  ∃ g c, e = .returned (.slice (some ⟨g, 0, none⟩) l.length c) ∧ w'.ownsRow w.heap.size 5 1 (.slice (some ⟨g, 0, none⟩) l.length c) l.length (l.map u8v) ∧ w.heap.size ≤ g ∧ Upd (fun _ => False) w w'

set_option maxRecDepth 100000 in
theorem rtwin_calls (v : Value) (l : List UInt8) (w : World) (h : Bytes w v l) (hl : l.length ≤ 1000000) : Calls Try.prog 44 #[v] w (TwinSays l w) := by
  have hu1 : Upd (fun _ => False) w (w.alloc (.cells #[] 5)) := upd_alloc _ _ _
  have hown0 := own_empty (enc := uenc) (k := 1) uenc_length (heap_alloc w (.cells #[] 5)).1 (Nat.le_refl _)
  have key : ∃ g c w', (∀ ty, (Builtin.append_ #[29, 29] ty #[.slice (some ⟨w.heap.size, 0, none⟩) 0 0, v]).run Try.prog (w.alloc (.cells #[] 5)) = .ok (.slice (some ⟨g, 0, none⟩) l.length c) w') ∧ w'.ownsRow w.heap.size 5 1 (.slice (some ⟨g, 0, none⟩) l.length c) l.length (l.map u8v) ∧ w.heap.size ≤ g ∧ Upd (fun _ => False) w w' := by
    obtain ⟨a2, n2, w2, hap, hown, hu2, hbl⟩ := run_append_any (P := Try.prog) (t := 29) Try.underlying29 info_u8 rfl (by decide) uenc_length uenc_one hown0 (bytes_sl (h.upd hu1 (fun _ _ x => x))) (by simp) (by simp [maxLen]; omega) (by simp; omega)
    have e0 : ([] ++ l : List UInt8) = l := rfl
    rw [e0] at hap hown hbl
    have e1 : l.flatMap uenc = l.map u8v := flat_one l
    have hu : Upd (fun _ => False) w w2 := hu1.trans' hu2 (fun x hx e => by cases e; simp at hx)
    have hown' := hown
    rw [e1] at hown'
    rcases hown.2 with ⟨q, q2⟩ | ⟨g, cap', cur, q, hg, hheap, _⟩
    · exfalso
      injection q with q3
      subst q3
      rcases hbl with q | q <;> cases q
    · injection q with q3 q4 q5
      subst q3
      exact ⟨g, n2, w2, hap, hown', hg, hu⟩
  obtain ⟨g, c, w', hap, hby, hge, hu⟩ := key
  have HP := Lib.hid (show TwinSays l w (.returned (.slice (some ⟨g, 0, none⟩) l.length c)) w' from ⟨g, c, rfl, hby, hge, hu⟩)
  clear h hu1 hown0 hby hge hu
  go_enter Try.func44, Try.ntmps44
  go_wp2_with (at_builtin; refine wpList_append hap rfl rfl rfl rfl ?_)
  go_ret
  exact HP.out
theorem twin_bytes {l : List UInt8} {w' : World} {g c B : Nat} (h : w'.ownsRow B 5 1 (.slice (some ⟨g, 0, none⟩) l.length c) l.length (l.map u8v)) : Bytes w' (.slice (some ⟨g, 0, none⟩) l.length c) l := (bytes_of_own h).1

structure RD where
  pages : List (List UInt8)
  cache : List (Int × List UInt8)
  fuse : Int
  dead : Bool
  done : Int

/-- Bytes that nothing is written into. -/
structure RowsAt (P : Nat → Prop) (w : World) (b : Nat) (pv cv : Value) (r : KRow) : Prop where
  by_ : Bytes w r.val r.2
  len : r.2.length = 256
  ap : ∀ k, sliceBlock r.val = some k → P k ∧ k ≠ b ∧ sliceBlock pv ≠ some k ∧ sliceBlock cv ≠ some k

/-- The document's disk, in blocks of which `P` holds. -/
structure RDAt (P : Nat → Prop) (w : World) (b : Nat) (D : RD) (pv cv : Value) (rows : List KRow) (cs : List WRow) : Prop where
  blk : w.heap[b]? = some (.cells #[pv, cv, .int .i64 D.fuse, .bool D.dead, .int .i64 D.done] 62 (0, 0))
  pown : w.ownsRow 0 29 1 pv rows.length (rows.flatMap renc)
  cown : w.ownsRow 0 87 2 cv cs.length (cs.flatMap wenc)
  pages : rows.map (·.2) = D.pages
  cache : cs.map (fun c => (c.1, c.2.2)) = D.cache
  pby : ∀ r ∈ rows, RowsAt P w b pv cv r
  cby : ∀ c ∈ cs, RowsAt P w b pv cv c.2
  s1 : sliceBlock pv ≠ some b
  s2 : sliceBlock cv ≠ some b
  s3 : ∀ k, sliceBlock pv = some k → sliceBlock cv ≠ some k
  pb : P b
  pp : ∀ k, sliceBlock pv = some k → P k
  pc : ∀ k, sliceBlock cv = some k → P k
  lt : ∀ k, P k → k < w.heap.size
def IsRD (P : Nat → Prop) (w : World) (b : Nat) (D : RD) : Prop := ∃ pv cv rows cs, RDAt P w b D pv cv rows cs

theorem RowsAt.upd {P S : Nat → Prop} {w w' : World} {b : Nat} {pv cv : Value} {r : KRow} (h : RowsAt P w b pv cv r) (hu : Upd S w w') (hS : ∀ k, sliceBlock r.val = some k → ¬ S k) : RowsAt P w' b pv cv r :=
  { h with by_ := h.by_.upd hu hS }
theorem RDAt.upd {P S : Nat → Prop} {w w' : World} {b : Nat} {D : RD} {pv cv : Value} {rows : List KRow} {cs : List WRow} (h : RDAt P w b D pv cv rows cs) (hu : Upd S w w') (hS : ∀ k, P k → ¬ S k) : RDAt P w' b D pv cv rows cs :=
  { h with blk := hu.heap h.blk (hS b h.pb), pown := own_upd' h.pown hu (fun k hk => hS k (h.pp k hk)), cown := own_upd' h.cown hu (fun k hk => hS k (h.pc k hk)), pby := fun r hr => (h.pby r hr).upd hu (fun k hk => hS k ((h.pby r hr).ap k hk).1), cby := fun c hc => (h.cby c hc).upd hu (fun k hk => hS k ((h.cby c hc).ap k hk).1), lt := fun k hk => Nat.lt_of_lt_of_le (h.lt k hk) hu.size }
theorem RDAt.grow {P : Nat → Prop} {w w' : World} {b : Nat} {D : RD} {pv cv : Value} {rows : List KRow} {cs : List WRow} (h : RDAt P w b D pv cv rows cs) (hu : Upd (fun _ => False) w w') : RDAt P w' b D pv cv rows cs := h.upd hu (fun _ _ x => x)
theorem RDAt.wider {P Q : Nat → Prop} {w : World} {b : Nat} {D : RD} {pv cv : Value} {rows : List KRow} {cs : List WRow} (h : RDAt P w b D pv cv rows cs) (hQ : ∀ k, P k → Q k) (hl : ∀ k, Q k → k < w.heap.size) : RDAt Q w b D pv cv rows cs :=
  { h with pb := hQ _ h.pb, pp := fun k hk => hQ k (h.pp k hk), pc := fun k hk => hQ k (h.pc k hk), lt := hl, pby := fun r hr => { h.pby r hr with ap := fun k hk => ⟨hQ k ((h.pby r hr).ap k hk).1, ((h.pby r hr).ap k hk).2⟩ }, cby := fun c hc => { h.cby c hc with ap := fun k hk => ⟨hQ k ((h.cby c hc).ap k hk).1, ((h.cby c hc).ap k hk).2⟩ } }
theorem IsRD.upd {P S : Nat → Prop} {w w' : World} {b : Nat} {D : RD} (h : IsRD P w b D) (hu : Upd S w w') (hS : ∀ k, P k → ¬ S k) : IsRD P w' b D := by
  obtain ⟨pv, cv, rows, cs, h⟩ := h; exact ⟨pv, cv, rows, cs, h.upd hu hS⟩
theorem IsRD.grow {P : Nat → Prop} {w w' : World} {b : Nat} {D : RD} (h : IsRD P w b D) (hu : Upd (fun _ => False) w w') : IsRD P w' b D := h.upd hu (fun _ _ x => x)
theorem RDAt.np {P : Nat → Prop} {w : World} {b : Nat} {D : RD} {pv cv : Value} {rows : List KRow} {cs : List WRow} (h : RDAt P w b D pv cv rows cs) : rows.length = D.pages.length := by rw [← h.pages, List.length_map]
theorem RDAt.nc {P : Nat → Prop} {w : World} {b : Nat} {D : RD} {pv cv : Value} {rows : List KRow} {cs : List WRow} (h : RDAt P w b D pv cv rows cs) : cs.length = D.cache.length := by rw [← h.cache, List.length_map]

/-- What at says. -/
def RAtSays (l : List (Int × List UInt8)) (page : Int) (w : World) (e : Ending) (w' : World) : Prop :=
  w = w' ∧ ((∃ j, ∃ h : j < l.length, l[j].1 = page ∧ e = .returned (.int .i64 (j : Nat))) ∨ ((∀ r ∈ l, r.1 ≠ page) ∧ e = .returned (.int .i64 (-1))))

set_option maxRecDepth 100000 in
set_option maxHeartbeats 1000000 in
theorem rat_calls (P : Nat → Prop) (b : Nat) (D : RD) (page : Int) (w : World) (h : IsRD P w b D) (hlen : D.cache.length ≤ 1000000) :
    Calls Try.prog 43 #[.pointer (some ⟨b, 0, none⟩), .int .i64 page] w (RAtSays D.cache page w) := by
  obtain ⟨pv, cv, rows, cs, h⟩ := h
  obtain ⟨hsl, -⟩ := sl_of_own wenc_length h.cown
  obtain ⟨a, c, rfl, -⟩ := hsl.shape
  have c1 : w.cell? ⟨b, 1, none⟩ = some (.slice a cs.length c) := cell_of h.blk 1
  have HSL := Lib.hid hsl
  have hnc := h.nc
  have HC := Lib.hid h.cache
  generalize D.cache = l at *
  have hl : cs.length ≤ 1000000 := by omega
  clear h hsl hlen
  generalize hn : cs.length = n at *
  have HN := Lib.hid hn
  have HNC := Lib.hid hnc
  clear hn hnc
  go_enter Try.func43, Try.ntmps43
  go_wp2
  go_loopw [11] (fun i wr => ∃ j : Nat, j ≤ n ∧ i = .int .i64 j ∧ (∀ k (hk : k < l.length), k < j → l[k].1 ≠ page) ∧ w = wr) (fun i _ => n - (intOf i).toNat)
  case atStart => exact ⟨0, Nat.zero_le _, rfl, fun k _ h => absurd h (Nat.not_lt_zero _), rfl⟩
  case round =>
    obtain ⟨j, hj, rfl, hk, rfl⟩ := hrel
    have HK := Lib.hid hk
    clear hk
    by_cases hlt : j < n
    · have hjc : j < cs.length := by rw [HN.out]; exact hlt
      have hjl : j < l.length := by rw [← HNC.out]; exact hlt
      obtain ⟨bk, off, cap, hee, -, -, -⟩ := (show Sl wenc w (.slice a cs.length c) cs by rw [HN.out]; exact HSL.out).block (by omega)
      cases hee
      have q0 := (show Sl wenc w (.slice (some ⟨bk, off, none⟩) n c) cs from HSL.out).at wenc_length j hjc 0 (by decide) _ rfl
      rw [Nat.add_zero] at q0
      have e0 : cs[j].1 = l[j].1 := by
        have h2 : (cs.map (fun c => (c.1, c.2.2)))[j]? = l[j]? := by rw [HC.out]
        rw [List.getElem?_map, List.getElem?_eq_getElem hjc, List.getElem?_eq_getElem hjl] at h2
        exact congrArg (·.1) (Option.some.inj h2)
      rw [e0] at q0
      clear e0 hjc
      by_cases hid : l[j].1 = page
      · have HJ := Lib.hid (show RAtSays l page w (.returned (.int .i64 (j : Nat))) w from ⟨rfl, .inl ⟨j, hjl, hid, rfl⟩⟩)
        rw [hid] at q0
        clear hid hjl
        go_wp2
        go_ret
        exact HJ.out
      · have HJ := Lib.hid (show ∀ k (hk : k < l.length), k < j + 1 → l[k].1 ≠ page from fun k hk hk2 => by
          by_cases e : k = j
          · subst e; exact hid
          · exact HK.out k hk (by omega))
        generalize l[j].1 = id2 at *
        clear hjl
        go_wp2
        go_roundw
        case rel => exact ⟨j + 1, by omega, by go_num, HJ.out, trivial⟩
        case measure => simp [intOf]; omega
    · obtain rfl : j = n := by omega
      go_wp2
      go_ret
      exact ⟨rfl, .inr ⟨fun r hr => by
        obtain ⟨k, hk, rfl⟩ := List.getElem_of_mem hr
        exact HK.out k hk (by rw [HNC.out]; exact hk), rfl⟩⟩

def RD.check (D : RD) (page : Int) : Int := if D.dead = true then 10 else if page < 0 ∨ (D.pages.length : Int) ≤ page then 2 else 0

set_option maxRecDepth 100000 in
theorem rcheck_calls (P : Nat → Prop) (b : Nat) (D : RD) (page : Int) (w : World) (h : IsRD P w b D) :
    Calls Try.prog 42 #[.pointer (some ⟨b, 0, none⟩), .int .i64 page] w fun e w' => e = .returned (.int .i64 (D.check page)) ∧ w = w' := by
  obtain ⟨pv, cv, rows, cs, h⟩ := h
  obtain ⟨hsl, -⟩ := sl_of_own renc_length h.pown
  obtain ⟨a, c, rfl, -⟩ := hsl.shape
  rw [h.np] at hsl
  have c0 : w.cell? ⟨b, 0, none⟩ = some (.slice a D.pages.length c) := by rw [← h.np]; exact cell_of h.blk 0
  have c3 : w.cell? ⟨b, 3, none⟩ = some (.bool D.dead) := cell_of h.blk 3
  unfold RD.check
  clear h hsl
  generalize D.pages.length = n at *
  cases hd : D.dead with
  | true =>
    rw [hd] at c3
    rw [if_pos rfl]
    clear hd
    go_enter Try.func42, Try.ntmps42
    go_wp2
    go_ret
    exact ⟨rfl, rfl⟩
  | false =>
    rw [hd] at c3
    rw [if_neg (by decide)]
    clear hd
    by_cases h1 : page < 0
    · rw [if_pos (.inl h1)]
      go_enter Try.func42, Try.ntmps42
      go_wp2
      go_ret
      exact ⟨rfl, rfl⟩
    · by_cases h2 : (n : Int) ≤ page
      · rw [if_pos (.inr h2)]
        go_enter Try.func42, Try.ntmps42
        go_wp2
        go_ret
        exact ⟨rfl, rfl⟩
      · rw [if_neg (by omega)]
        go_enter Try.func42, Try.ntmps42
        go_wp2
        go_ret
        exact ⟨rfl, rfl⟩

end Go.Proofs.Yteokbokgiejmpaa
