/-
  Crash.
-/
import Derived.Test.YteokbokgiejmpaaDiskD
namespace Go.Proofs.Yteokbokgiejmpaa
open Go.RowKit Go.Tb Go.MapKept Go.ChangeMaps
set_option linter.unusedVariables false

/-- A slice of Keeps. -/
def KeepAt (w : World) (v : Value) (ks : List (Int × Int)) : Prop :=
  (v = .slice none 0 0 ∧ ks = []) ∨ ∃ kb off cap, v = .slice (some ⟨kb, off, none⟩) ks.length cap ∧ kb < w.heap.size ∧
    ∀ i (h : i < ks.length), w.cell? ⟨kb, off + i * 2, none⟩ = some (.int .i64 ks[i].1) ∧ w.cell? ⟨kb, off + i * 2 + 1, none⟩ = some (.int .i64 ks[i].2)

def clamp (n : Int) : Int := min (max n 0) 256
/-- What is kept of a page. -/
def keptOf : List (Int × Int) → Int → Option Int
  | [], _ => none
  | x :: r, k => (keptOf r k).or (if k = x.1 then some (clamp x.2) else none)

theorem keptOf_snoc (l : List (Int × Int)) (x : Int × Int) (p : Int) : keptOf (l ++ [x]) p = if p = x.1 then some (clamp x.2) else keptOf l p := by
  induction l with
  | nil => simp [keptOf]
  | cons y r ih =>
    simp only [List.cons_append, keptOf, ih]
    by_cases e : p = x.1 <;> simp [e]
theorem take_snoc' {α : Type} (l : List α) (k : Nat) (h : k < l.length) : l.take (k + 1) = l.take k ++ [l[k]] := by
  rw [List.take_succ_eq_append_getElem h]

def KeptRel (ks : List (Int × Int)) (w : World) (k : Nat) (wr : World) : Prop :=
  ∃ n, IsMap (Value.int .i64) wr w.heap.size (fun p => (keptOf (ks.take k) p).map (Value.int .i64)) n ∧ Upd (fun _ => False) w wr

theorem kept_range' (ks : List (Int × Int)) (k y : Int) (h : keptOf ks k = some y) : 0 ≤ y ∧ y ≤ 256 := by
  induction ks with
  | nil => cases h
  | cons x r ih =>
    simp only [keptOf] at h
    cases hr : keptOf r k with
    | some z => rw [hr] at h; cases h; exact ih hr
    | none =>
      rw [hr] at h
      by_cases e : k = x.1
      · simp [e] at h; subst h; simp [clamp]; omega
      · simp [e] at h
theorem kept_range (ks : List (Int × Int)) (k : Int) : 0 ≤ (keptOf ks k).getD 0 ∧ (keptOf ks k).getD 0 ≤ 256 := by
  cases h : keptOf ks k with
  | none => simp
  | some y => exact kept_range' ks k y h

/-- What a crash makes of a page. -/
def DS.crashPage (D : DS) (kept : Int → Option Int) (k : Int) : Option (List UInt8) :=
  match D.cache k with
  | none => D.pages k
  | some l => if 0 < (kept k).getD 0 then some (l.take ((kept k).getD 0).toNat ++ ((D.pages k).getD zeros).drop ((kept k).getD 0).toNat) else D.pages k

def DS.crash (D : DS) (ks : List (Int × Int)) : DS := { D with pages := D.crashPage (keptOf ks), cache := fun _ => none, fuse := -1, dead := false }

/-- How far a crash has come: `w1` is the world in which the range began. -/
def CrashRel (b mp mc km r : Nat) (fq : Int → Option Value) (D : DS) (I : Nat → Prop) (kept : Int → Option Int) (w1 w2 : World) : Prop :=
  ∃ todo J g', Iter (Value.int .i64) w2 r mc fq todo ∧ IsDisk w2 b mp mc { D with pages := g' } J ∧ PagesOf w2 fq D.cache J ∧ (∃ n, IsMap (Value.int .i64) w2 km (fun p => (kept p).map (Value.int .i64)) n) ∧
    (∀ x, J x → I x ∨ w1.heap.size < x) ∧ (∀ k, k ∈ todo → g' k = D.pages k) ∧ (∀ k, k ∉ todo → g' k = D.crashPage kept k) ∧ Upd (fun k => k = mp) w1 w2

theorem sz_u8 : (Try.prog.info? 5).map (·.size) = some 1 := by kernel_rfl
theorem own_upd {w w' : World} {base : Nat} {e : TypeId} {v : Value} {n : Nat} {xs : List Value} (h : w.ownsRow base e 1 v n xs) (hu : Upd (fun _ => False) w w') : w'.ownsRow base e 1 v n xs :=
  h.kept (row := none) ⟨hu.os, hu.tape, hu.output, hu.size, fun k hk _ => hu.block k hk (fun x => x)⟩ (by cases h : v.ownBlock <;> simp)
theorem zero_int (w : World) : (zeroValue 3).run Try.prog w = .ok (.int .i64 0) w := by kernel_rfl

set_option maxRecDepth 100000 in
set_option maxHeartbeats 1000000 in
theorem crash_some (b mp mc : Nat) (D : DS) (I : Nat → Prop) (ks : List (Int × Int)) (kb off cap : Nat) (w : World) (h : IsDisk w b mp mc D I) (hkl : ks.length < 1000)
    (hkc : ∀ i (h : i < ks.length), w.cell? ⟨kb, off + i * 2, none⟩ = some (.int .i64 ks[i].1) ∧ w.cell? ⟨kb, off + i * 2 + 1, none⟩ = some (.int .i64 ks[i].2)) :
    Calls Try.prog 16 #[.pointer (some ⟨b, 0, none⟩), .slice (some ⟨kb, off, none⟩) ks.length cap] w fun e w' => e = .returned (.tuple #[]) ∧ (∃ J : Nat → Prop, IsDisk w' b mp mc (D.crash ks) J ∧ ∀ x, J x → I x ∨ w.heap.size ≤ x) ∧ Upd (fun k => k = b ∨ k = mp ∨ k = mc) w w' := by
  have h1 : w.cell? ⟨b, 1, none⟩ = some (.map (some mp)) := cell_of h.blk 1
  have h2 : w.cell? ⟨b, 2, none⟩ = some (.map (some mc)) := cell_of h.blk 2
  have hmm := @run_makeMap Try.prog
  go_enter Try.func16, Try.ntmps16
  go_wp2
  go_loopw [15] (fun i wr => ∃ k : Nat, k ≤ ks.length ∧ i = .int .i64 k ∧ KeptRel ks w k wr) (fun i _ => ks.length - (intOf i).toNat)
  case atStart => exact ⟨0, Nat.zero_le _, rfl, ⟨0, by simpa [keptOf] using isMap_made (Value.int .i64) w, (Upd.refl _ _).alloc _⟩⟩
  case round =>
    obtain ⟨k, hk, rfl, nk, hm, hu⟩ := hrel
    have hm' := hm
    by_cases hlt : k < ks.length
    · have hc1 := hu.cell (hkc k hlt).1 (fun x => x)
      have hc2 := hu.cell (hkc k hlt).2 (fun x => x)
      have hsn := take_snoc' ks k hlt
      generalize ks[k] = x at *
      obtain ⟨x1, x2⟩ := x
      simp only at hc1 hc2
      have HS := Lib.hid hsn; clear hsn
      clear hkc
      have hl := hm.lt
      have hmA := hm.upd (upd_alloc (fun _ => False) wr (Obj.cells #[Value.int IntKind.i64 x1, Value.int IntKind.i64 x2] 50)) (fun x => x)
      obtain ⟨w3, hup, hm3, o3, rfl⟩ := hmA.update (P := Try.prog) (keyT_int .i64) Try.underlying76 Try.underlying3 x1 (Value.int .i64 (min (max x2 0) 256))
      have hrel : KeptRel ks w (k + 1) (setBlock (wr.alloc (Obj.cells #[Value.int IntKind.i64 x1, Value.int IntKind.i64 x2] 50)) w.heap.size o3) := by
        refine ⟨?n, ?_, (hu.alloc _).setBlock (fun hx => absurd hx (Nat.lt_irrefl _)) _⟩
        case n => exact (if ((keptOf (ks.take k) x1).map (Value.int .i64)).isSome then nk else nk + 1)
        have e : (fun p => (keptOf (ks.take (k + 1)) p).map (Value.int .i64)) = fun p => if p = x1 then some (Value.int .i64 (min (max x2 0) 256)) else (keptOf (ks.take k) p).map (Value.int .i64) := by
          funext p
          rw [HS.out, keptOf_snoc]
          by_cases e : p = x1 <;> simp [e, clamp]
        rw [e]
        exact hm3
      clear hm hm3 hmA
      go_wp2
      go_roundw
      case rel => exact ⟨k + 1, by omega, by go_num, hrel⟩
      case measure => simp [intOf]; omega
    · obtain rfl : k = ks.length := by omega
      clear hm' hkc
      rw [List.take_length] at hm
      obtain ⟨wo, rfl⟩ : ∃ wo : World, wo = wr := ⟨_, rfl⟩
      have hd0 : IsDisk wo b mp mc D I := h.upd hu (fun x => x) (fun x => x) (fun x => x) (fun _ _ x => x)
      obtain ⟨fq, nq, hq1, hq⟩ := hd0.ch
      have hg2 : wo.cell? ⟨b, 2, none⟩ = some (.map (some mc)) := cell_of hd0.blk 2
      obtain ⟨o, todo, hrun, hit, -, htodo⟩ := hq1.range (P := Try.prog) (keyT_int .i64) Try.underlying64
      have hua : Upd (fun _ => False) wo (wo.alloc o) := upd_alloc _ wo o
      have hlk := hm.lt
      have hsz := hu.size
      have hbw : b < w.heap.size := lt_of_heap h.blk
      have hpw : mp < w.heap.size := h.pg.lt
      have hcw : mc < w.heap.size := h.ch.lt
      have hIw := h.pg.bound
      have hstart : CrashRel b mp mc w.heap.size wo.heap.size fq D I (keptOf ks) wo (wo.alloc o) := by
        refine ⟨todo, I, D.pages, hit, hd0.upd hua (fun x => x) (fun x => x) (fun x => x) (fun _ _ x => x), hq.upd hua (fun _ _ x => x), ⟨_, hm.upd hua (fun x => x)⟩, fun x hx => .inl hx, fun _ _ => rfl, fun k hk => ?_, hua.weak _⟩
        cases hqk : D.cache k with
        | none => simp [DS.crashPage, hqk]
        | some l => exact absurd ((htodo k).2 (by obtain ⟨_, v, hv, _⟩ := hq.2.2 k l hqk; rw [hv]; rfl)) hk
      have HI := Lib.hid hIw; clear hIw
      clear hit htodo hq hq1 hm hd0
      go_wp2
      go_loopw [] (fun w2 => CrashRel b mp mc w.heap.size wo.heap.size fq D I (keptOf ks) wo w2) (fun w2 => w2.rangeLeft mc wo.heap.size)
      case atStart => exact hstart
      case round =>
        obtain ⟨todo', J, g', hit, hd, hq, ⟨nk2, hm⟩, hJ, hg1, hg2', hu2⟩ := hrel
        have hJr : ∀ x, J x → ¬ x = wo.heap.size := fun x hx e => (hJ x hx).elim (fun h' => by have := HI.out x h'; omega) (by omega)
        have HJr := Lib.hid hJr; clear hJr
        rcases hit.next (P := Try.prog) (keyT_int .i64) with ⟨rfl, hnx⟩ | ⟨k, v, t2, w3, hperm, hf, hnx, hit1, hu3, hsz3, hlt, hen⟩
        · have hg' : g' = D.crashPage (keptOf ks) := funext fun k => hg2' k (by simp)
          obtain ⟨fq2, nq2, hq1, hq2⟩ := hd.ch
          obtain ⟨o8, hclr, hq3⟩ := hq1.clear (P := Try.prog) Try.underlying64 0
          have hclr' : ∀ ty, (Builtin.clear_ #[64] ty #[.map (some mc)]).run Try.prog wr = .ok (.tuple #[]) (setBlock wr mc o8) := fun ty => hclr
          have hc2 : wr.cell? ⟨b, 2, none⟩ = some (.map (some mc)) := cell_of hd.blk 2
          have hu8 : Upd (fun k => k = mc) wr (setBlock wr mc o8) := upd_setBlock _ _ _ _ rfl
          have hb8 : (setBlock wr mc o8).heap[b]? = _ := hu8.heap hd.blk (Ne.symm h.n2)
          have hc3 : (setBlock wr mc o8).cell? ⟨b, 3, none⟩ = some (.int .i64 D.fuse) := cell_of hb8 3
          have hc4 : (setBlock wr mc o8).cell? ⟨b, 4, none⟩ = some (.bool D.dead) := cell_of hb8 4
          have hf3 := free_of hb8 3
          have hf4 := free_of hb8 4
          have hu9 : Upd (fun k => k = b) (setBlock wr mc o8) (((setBlock wr mc o8).setCell ⟨b, 3, none⟩ (.int .i64 (-1))).setCell ⟨b, 4, none⟩ (.bool false)) := ((Upd.refl (fun k => k = b) _).setCell (fun _ => rfl) _).setCell (fun _ => rfl) _
          have hb9 : (((setBlock wr mc o8).setCell ⟨b, 3, none⟩ (.int .i64 (-1))).setCell ⟨b, 4, none⟩ (.bool false)).heap[b]? = _ := heap_setCell_at (heap_setCell_at hb8 _ _) _ _
          have hfin : ∃ J : Nat → Prop, IsDisk (((setBlock wr mc o8).setCell ⟨b, 3, none⟩ (.int .i64 (-1))).setCell ⟨b, 4, none⟩ (.bool false)) b mp mc (D.crash ks) J ∧ ∀ x, J x → I x ∨ w.heap.size ≤ x := by
            refine ⟨J, ⟨by rw [hb9]; simp [DS.crash], ?_, ?_, h.n1, h.n2, h.n3, hd.a1, hd.a2, hd.a3, h.s1, h.s2, by simp [DS.crash], by simp [DS.crash]⟩, fun x hx => (hJ x hx).imp id (by omega)⟩
            · show PagesAt _ mp (D.crashPage (keptOf ks)) J
              rw [← hg']
              exact (hd.pg.upd hu8 h.n3 (fun x hx e => hd.a3 (e ▸ hx))).upd hu9 h.n1 (fun x hx e => hd.a1 (e ▸ hx))
            · exact .empty _ _ _ _ (hq3.upd hu9 h.n2) (fun x hx => Nat.lt_of_lt_of_le (hd.pg.bound x hx) (Nat.le_trans hu8.size hu9.size))
          have hufin : Upd (fun k => k = b ∨ k = mp ∨ k = mc) w (((setBlock wr mc o8).setCell ⟨b, 3, none⟩ (.int .i64 (-1))).setCell ⟨b, 4, none⟩ (.bool false)) :=
            ((hu.seq hu2 (fun k => k = b ∨ k = mp ∨ k = mc) (fun _ _ x => x.elim) (fun _ _ e => .inr (.inl e))).trans' hu8 (fun _ _ e => .inr (.inr e))).trans' hu9 (fun _ _ e => .inl e)
          clear hit hd hq hm hg1 hg2' hg' hq1 hq2 hclr hq3 hJ hb8 hb9
          go_wp2
          go_end0
          exact ⟨rfl, hfin, hufin⟩
        · have hd3 : IsDisk w3 b mp mc { D with pages := g' } J := hd.upd hu3 (by omega) (by omega) (by omega) HJr.out
          have hm3 := hm.upd hu3 (by omega)
          have hlook := hm3.lookup (P := Try.prog) (keyT_int .i64) Try.underlying76 Try.underlying3 (zero_int _) k false
          have hval : ((keptOf ks k).map (Value.int .i64)).getD (.int .i64 0) = .int .i64 ((keptOf ks k).getD 0) := by cases keptOf ks k <;> rfl
          simp only [Bool.false_eq_true, if_false, hval] at hlook
          have HG1 := Lib.hid hg1; clear hg1
          have HG2 := Lib.hid hg2'; clear hg2'
          have hn0 := kept_range ks k
          generalize hn : (keptOf ks k).getD 0 = n at *
          have HN := Lib.hid hn; clear hn
          obtain ⟨l, hql, hl, hv, hvI⟩ := hq.at hf
          have Hq := Lib.hid hql; clear hql hf
          clear hval
          have hsz2 := hu2.size
          by_cases hn1 : 0 < n
          · obtain ⟨m, rfl⟩ := Int.eq_ofNat_of_zero_le hn0.1
            obtain ⟨hm0, hm1⟩ := hn0
            obtain ⟨bv, ov, cv, rfl, hcv⟩ : ∃ bv ov cv, v = .slice (some ⟨bv, ov, none⟩) 256 cv ∧ (256 : Int) ≤ (cv : Int) := by
              rcases hv with ⟨rfl, rfl⟩ | ⟨b', off, cap, rfl, hc, _⟩
              · simp at hl
              · exact ⟨b', off, cap, by rw [hl], by omega⟩
            have hmc : (m : Int) ≤ (cv : Int) := by omega
            have hb1 : w3.cell? ⟨b, 1, none⟩ = some (.map (some mp)) := cell_of hd3.blk 1
            go_wp2
            have hvt : Bytes w3.drew (.slice (some ⟨bv, ov, none⟩) m cv) (l.take m) := Bytes.take (hv.upd hu3.drew (fun x hx => HJr.out x (hvI x hx))) (by omega)
            have hcl := clone_calls _ _ w3.drew hvt (by rw [List.length_take]; omega)
            have hlen5 := hd3.pg.len k
            go_region_held3 (fun w' => w'.cell? ⟨b, 1, none⟩ = some (.map (some mp))) (first | exact hb1 | (exact hu4.cell hb1 (fun x => x)) | (exact hu5.cell (hu4.cell hb1 (fun x => x)) (fun x => x)) | (exact hu6.cell (hu5.cell (hu4.cell hb1 (fun x => x)) (fun x => x)) hbn) | (rw [cell_setBlock _ (Ne.symm h.n1)]; exact hu6.cell (hu5.cell (hu4.cell hb1 (fun x => x)) (fun x => x)) hbn))
              (first | (go_at_call 33; refine hcl.mono ?_; rintro e w4 ⟨v4, rfl, hv4, hf4, hu4, -, hown4⟩)
                     | (go_at_call 36; refine (stored_calls b mp mc _ J k w4 (hd3.upd hu4.undrew (fun x => x) (fun x => x) (fun x => x) (fun _ _ x => x))).mono ?_; rintro e w5 ⟨v5, rfl, hv5, hf5, hu5⟩
                        obtain ⟨b5, o5, c5, rfl, hc5, hb5⟩ := hv5.shape (by rw [hlen5]; decide)
                        rw [hlen5] at hv5 hc5 hf5
                        have hm5 : (m : Int) ≤ (256 : Int) := hm1
                        obtain ⟨o7, n7, c7, hsl, hv7⟩ := slice_from_bytes (P := Try.prog) Try.underlying29 sz_u8 hv5 hc5 m (by omega)
                        obtain ⟨v6, w6, hap, hown6, hg6, -⟩ := run_append_bytes (P := Try.prog) Try.underlying29 info_u8 (own_upd hown4 hu5) hv7 (Nat.le_trans hu4.size hu5.size) (by rw [List.length_take, List.length_drop, hlen5]; omega)
                        have hs34 : w3.heap.size ≤ w4.heap.size := hu4.size
                        have hs45 : w4.heap.size ≤ w5.heap.size := hu5.size
                        have hfar : ∀ x, x < w3.heap.size → ¬ some x = v4.ownBlock := fun x hx e => Nat.lt_irrefl _ (Nat.lt_of_lt_of_le hx (hf4 x e.symm))
                        have hbn : ¬ some b = v4.ownBlock := hfar b (by omega)
                        have hu6 := Upd.ofGrown hg6
                        have hd6 : IsDisk w6 b mp mc { D with pages := g' } J := ((hd3.upd hu4.undrew (fun x => x) (fun x => x) (fun x => x) (fun _ _ x => x)).upd hu5 (fun x => x) (fun x => x) (fun x => x) (fun _ _ x => x)).upd hu6 hbn (hfar mp (by omega)) (hfar mc (by omega)) (fun x hx => hfar x (hd3.pg.bound x hx))
                        obtain ⟨hv6, hb6⟩ := bytes_of_own hown6
                        have hb6' : ∀ x, sliceBlock v6 = some x → w3.heap.size ≤ x := hb6
                        obtain ⟨o6, hst, hp7⟩ := hd6.pg.put k hv6 (by rw [List.length_append, List.length_take, List.length_drop, hlen5, hl]; omega) hd6.a2 (fun x hx e => by have := hb6' x hx; omega) (fun x => J x ∨ (w3.heap.size ≤ x ∧ x < w6.heap.size)) (fun _ => .inl) (fun x hx => .inr ⟨hb6' x hx, hv6.lt hx⟩) (fun x hx => hx.elim (hd6.pg.bound x) (fun h' => h'.2))
                        have Hfar := Lib.hid hfar; clear hfar
                        have Hb6 := Lib.hid hb6'; clear hb6' hb6)
                     | (refine step_append hap (by rfl) (by rfl) (by rfl) (by rfl) ?_))
            have hu35 : Upd (fun _ => False) w3 w5 := hu4.undrew.trans hu5
            have hu36 : Upd (fun _ => False) w3 w6 := hu35.seq hu6 _ (fun _ _ x => x) (fun x hx e => Hfar.out x hx e)
            have hu67 : Upd (fun k => k = mp) w6 (setBlock w6 mp o6) := upd_setBlock _ _ _ _ rfl
            have hrel2 : CrashRel b mp mc w.heap.size wo.heap.size fq D I (keptOf ks) wo (setBlock w6 mp o6) := by
              have hnd := hperm.nodup_iff.1 hit.nodup
              have hd7 : IsDisk (setBlock w6 mp o6) b mp mc { D with pages := fun q => if q = k then some (l.take m ++ ((g' k).getD zeros).drop m) else g' q } (fun x => J x ∨ (w3.heap.size ≤ x ∧ x < w6.heap.size)) :=
                { blk := hu67.heap hd6.blk (Ne.symm h.n1), pg := hp7, ch := (hd6.ch.upd hu67 (Ne.symm h.n3) (fun x hx e => hd6.a2 (e ▸ hx))).wider (fun _ => .inl) (fun x hx => hp7.bound x hx), n1 := h.n1, n2 := h.n2, n3 := h.n3, a1 := fun hx => hx.elim hd.a1 (by omega), a2 := fun hx => hx.elim hd.a2 (by omega), a3 := fun hx => hx.elim hd.a3 (by omega), s1 := h.s1, s2 := h.s2, f1 := h.f1, f2 := h.f2 }
              refine ⟨t2, _, _, (hit1.upd hu36 (fun x => x) (fun x => x)).upd hu67 (Ne.symm h.n3) (by omega), hd7, ((((hq.upd hu3 HJr.out).upd hu36 (fun _ _ x => x)).upd hu67 (fun x hx e => hd6.a2 (e ▸ hx))).wider (fun _ => .inl) (fun x hx => hp7.bound x hx)), ⟨_, (hm3.upd hu36 (fun x => x)).upd hu67 (by omega)⟩, ?_, ?_, ?_, ?_⟩
              · rintro x (hx | ⟨hx, _⟩)
                · exact hJ x hx
                · right; have := hit.lt; omega
              · intro k' hk'
                have h1 : k' ≠ k := fun e => (List.nodup_cons.1 hnd).1 (e ▸ hk')
                simp only [if_neg h1]
                exact HG1.out k' (hperm.mem_iff.2 (.tail _ hk'))
              · intro k' hk'
                by_cases h1 : k' = k
                · subst h1
                  simp only [if_true, DS.crashPage, Hq.out, HN.out, if_pos hn1]
                  rw [HG1.out k' (hperm.mem_iff.2 (.head _))]
                  simp
                · simp only [if_neg h1]
                  exact HG2.out k' (fun hm => (List.mem_cons.1 (hperm.mem_iff.1 hm)).elim h1 hk')
              · exact ((hu2.trans' hu3 (fun x hx e => by omega)).trans' hu36 (fun _ _ x => x.elim)).trans hu67
            have hmeas : (setBlock w6 mp o6).rangeLeft mc wo.heap.size < wr.rangeLeft mc wo.heap.size := by
              rw [rangeLeft_upd (hit1.upd hu36 (fun x => x) (fun x => x)) hu67 (Ne.symm h.n3) (by omega), rangeLeft_upd hit1 hu36 (fun x => x) (fun x => x)]; exact hlt
            clear hit hd hq hm hperm hit1 hd3 hm3 hvt hcl hd6 hp7 hv hvI hJ hv4 hf4 hown4 hv5 hf5 hv7 hown6 hv6
            go_wp2
            go_roundw
            case rel => exact hrel2
            case measure => exact hmeas
          · have hn2 : n ≤ 0 := by omega
            have hrel2 : CrashRel b mp mc w.heap.size wo.heap.size fq D I (keptOf ks) wo w3 := by
              have hnd := hperm.nodup_iff.1 hit.nodup
              refine ⟨t2, J, g', hit1, hd3, hq.upd hu3 HJr.out, ⟨_, hm3⟩, hJ, fun k' hk' => HG1.out k' (hperm.mem_iff.2 (.tail _ hk')), fun k' hk' => ?_, hu2.trans' hu3 (fun x hx e => by omega)⟩
              by_cases h1 : k' = k
              · subst h1
                rw [HG1.out k' (hperm.mem_iff.2 (.head _))]
                simp only [DS.crashPage, Hq.out, HN.out, if_neg hn1]
              · exact HG2.out k' (fun hm => (List.mem_cons.1 (hperm.mem_iff.1 hm)).elim h1 hk')
            clear hit hd hq hm hperm hit1 hd3 hm3 hv hvI hJ
            go_wp2
            go_roundw
            case rel => exact hrel2
            case measure => exact hlt


set_option maxRecDepth 100000 in
set_option maxHeartbeats 1000000 in
/-- .. of a nil slice. -/
theorem crash_none (b mp mc : Nat) (D : DS) (I : Nat → Prop) (ks : List (Int × Int)) (cap : Nat) (w : World) (h : IsDisk w b mp mc D I) (hkl : ks.length < 1000) (hks : ks.length = 0) :
    Calls Try.prog 16 #[.pointer (some ⟨b, 0, none⟩), .slice none ks.length cap] w fun e w' => e = .returned (.tuple #[]) ∧ (∃ J : Nat → Prop, IsDisk w' b mp mc (D.crash ks) J ∧ ∀ x, J x → I x ∨ w.heap.size ≤ x) ∧ Upd (fun k => k = b ∨ k = mp ∨ k = mc) w w' := by
  have h1 : w.cell? ⟨b, 1, none⟩ = some (.map (some mp)) := cell_of h.blk 1
  have h2 : w.cell? ⟨b, 2, none⟩ = some (.map (some mc)) := cell_of h.blk 2
  have HK := Lib.hid hks; clear hks
  have hmm := @run_makeMap Try.prog
  go_enter Try.func16, Try.ntmps16
  go_wp2
  go_loopw [15] (fun i wr => ∃ k : Nat, k ≤ ks.length ∧ i = .int .i64 k ∧ KeptRel ks w k wr) (fun i _ => ks.length - (intOf i).toNat)
  case atStart => exact ⟨0, Nat.zero_le _, rfl, ⟨0, by simpa [keptOf] using isMap_made (Value.int .i64) w, (Upd.refl _ _).alloc _⟩⟩
  case round =>
    obtain ⟨k, hk, rfl, nk, hm, hu⟩ := hrel
    have hm' := hm
    by_cases hlt : k < ks.length
    · exact absurd hlt (by rw [HK.out]; exact Nat.not_lt_zero _)
    · obtain rfl : k = ks.length := by omega
      clear hm'
      rw [List.take_length] at hm
      obtain ⟨wo, rfl⟩ : ∃ wo : World, wo = wr := ⟨_, rfl⟩
      have hd0 : IsDisk wo b mp mc D I := h.upd hu (fun x => x) (fun x => x) (fun x => x) (fun _ _ x => x)
      obtain ⟨fq, nq, hq1, hq⟩ := hd0.ch
      have hg2 : wo.cell? ⟨b, 2, none⟩ = some (.map (some mc)) := cell_of hd0.blk 2
      obtain ⟨o, todo, hrun, hit, -, htodo⟩ := hq1.range (P := Try.prog) (keyT_int .i64) Try.underlying64
      have hua : Upd (fun _ => False) wo (wo.alloc o) := upd_alloc _ wo o
      have hlk := hm.lt
      have hsz := hu.size
      have hbw : b < w.heap.size := lt_of_heap h.blk
      have hpw : mp < w.heap.size := h.pg.lt
      have hcw : mc < w.heap.size := h.ch.lt
      have hIw := h.pg.bound
      have hstart : CrashRel b mp mc w.heap.size wo.heap.size fq D I (keptOf ks) wo (wo.alloc o) := by
        refine ⟨todo, I, D.pages, hit, hd0.upd hua (fun x => x) (fun x => x) (fun x => x) (fun _ _ x => x), hq.upd hua (fun _ _ x => x), ⟨_, hm.upd hua (fun x => x)⟩, fun x hx => .inl hx, fun _ _ => rfl, fun k hk => ?_, hua.weak _⟩
        cases hqk : D.cache k with
        | none => simp [DS.crashPage, hqk]
        | some l => exact absurd ((htodo k).2 (by obtain ⟨_, v, hv, _⟩ := hq.2.2 k l hqk; rw [hv]; rfl)) hk
      have HI := Lib.hid hIw; clear hIw
      clear hit htodo hq hq1 hm hd0
      go_wp2
      go_loopw [] (fun w2 => CrashRel b mp mc w.heap.size wo.heap.size fq D I (keptOf ks) wo w2) (fun w2 => w2.rangeLeft mc wo.heap.size)
      case atStart => exact hstart
      case round =>
        obtain ⟨todo', J, g', hit, hd, hq, ⟨nk2, hm⟩, hJ, hg1, hg2', hu2⟩ := hrel
        have hJr : ∀ x, J x → ¬ x = wo.heap.size := fun x hx e => (hJ x hx).elim (fun h' => by have := HI.out x h'; omega) (by omega)
        have HJr := Lib.hid hJr; clear hJr
        rcases hit.next (P := Try.prog) (keyT_int .i64) with ⟨rfl, hnx⟩ | ⟨k, v, t2, w3, hperm, hf, hnx, hit1, hu3, hsz3, hlt, hen⟩
        · have hg' : g' = D.crashPage (keptOf ks) := funext fun k => hg2' k (by simp)
          obtain ⟨fq2, nq2, hq1, hq2⟩ := hd.ch
          obtain ⟨o8, hclr, hq3⟩ := hq1.clear (P := Try.prog) Try.underlying64 0
          have hclr' : ∀ ty, (Builtin.clear_ #[64] ty #[.map (some mc)]).run Try.prog wr = .ok (.tuple #[]) (setBlock wr mc o8) := fun ty => hclr
          have hc2 : wr.cell? ⟨b, 2, none⟩ = some (.map (some mc)) := cell_of hd.blk 2
          have hu8 : Upd (fun k => k = mc) wr (setBlock wr mc o8) := upd_setBlock _ _ _ _ rfl
          have hb8 : (setBlock wr mc o8).heap[b]? = _ := hu8.heap hd.blk (Ne.symm h.n2)
          have hc3 : (setBlock wr mc o8).cell? ⟨b, 3, none⟩ = some (.int .i64 D.fuse) := cell_of hb8 3
          have hc4 : (setBlock wr mc o8).cell? ⟨b, 4, none⟩ = some (.bool D.dead) := cell_of hb8 4
          have hf3 := free_of hb8 3
          have hf4 := free_of hb8 4
          have hu9 : Upd (fun k => k = b) (setBlock wr mc o8) (((setBlock wr mc o8).setCell ⟨b, 3, none⟩ (.int .i64 (-1))).setCell ⟨b, 4, none⟩ (.bool false)) := ((Upd.refl (fun k => k = b) _).setCell (fun _ => rfl) _).setCell (fun _ => rfl) _
          have hb9 : (((setBlock wr mc o8).setCell ⟨b, 3, none⟩ (.int .i64 (-1))).setCell ⟨b, 4, none⟩ (.bool false)).heap[b]? = _ := heap_setCell_at (heap_setCell_at hb8 _ _) _ _
          have hfin : ∃ J : Nat → Prop, IsDisk (((setBlock wr mc o8).setCell ⟨b, 3, none⟩ (.int .i64 (-1))).setCell ⟨b, 4, none⟩ (.bool false)) b mp mc (D.crash ks) J ∧ ∀ x, J x → I x ∨ w.heap.size ≤ x := by
            refine ⟨J, ⟨by rw [hb9]; simp [DS.crash], ?_, ?_, h.n1, h.n2, h.n3, hd.a1, hd.a2, hd.a3, h.s1, h.s2, by simp [DS.crash], by simp [DS.crash]⟩, fun x hx => (hJ x hx).imp id (by omega)⟩
            · show PagesAt _ mp (D.crashPage (keptOf ks)) J
              rw [← hg']
              exact (hd.pg.upd hu8 h.n3 (fun x hx e => hd.a3 (e ▸ hx))).upd hu9 h.n1 (fun x hx e => hd.a1 (e ▸ hx))
            · exact .empty _ _ _ _ (hq3.upd hu9 h.n2) (fun x hx => Nat.lt_of_lt_of_le (hd.pg.bound x hx) (Nat.le_trans hu8.size hu9.size))
          have hufin : Upd (fun k => k = b ∨ k = mp ∨ k = mc) w (((setBlock wr mc o8).setCell ⟨b, 3, none⟩ (.int .i64 (-1))).setCell ⟨b, 4, none⟩ (.bool false)) :=
            ((hu.seq hu2 (fun k => k = b ∨ k = mp ∨ k = mc) (fun _ _ x => x.elim) (fun _ _ e => .inr (.inl e))).trans' hu8 (fun _ _ e => .inr (.inr e))).trans' hu9 (fun _ _ e => .inl e)
          clear hit hd hq hm hg1 hg2' hg' hq1 hq2 hclr hq3 hJ hb8 hb9
          go_wp2
          go_end0
          exact ⟨rfl, hfin, hufin⟩
        · have hd3 : IsDisk w3 b mp mc { D with pages := g' } J := hd.upd hu3 (by omega) (by omega) (by omega) HJr.out
          have hm3 := hm.upd hu3 (by omega)
          have hlook := hm3.lookup (P := Try.prog) (keyT_int .i64) Try.underlying76 Try.underlying3 (zero_int _) k false
          have hval : ((keptOf ks k).map (Value.int .i64)).getD (.int .i64 0) = .int .i64 ((keptOf ks k).getD 0) := by cases keptOf ks k <;> rfl
          simp only [Bool.false_eq_true, if_false, hval] at hlook
          have HG1 := Lib.hid hg1; clear hg1
          have HG2 := Lib.hid hg2'; clear hg2'
          have hn0 := kept_range ks k
          generalize hn : (keptOf ks k).getD 0 = n at *
          have HN := Lib.hid hn; clear hn
          obtain ⟨l, hql, hl, hv, hvI⟩ := hq.at hf
          have Hq := Lib.hid hql; clear hql hf
          clear hval
          have hsz2 := hu2.size
          by_cases hn1 : 0 < n
          · obtain ⟨m, rfl⟩ := Int.eq_ofNat_of_zero_le hn0.1
            obtain ⟨hm0, hm1⟩ := hn0
            obtain ⟨bv, ov, cv, rfl, hcv⟩ : ∃ bv ov cv, v = .slice (some ⟨bv, ov, none⟩) 256 cv ∧ (256 : Int) ≤ (cv : Int) := by
              rcases hv with ⟨rfl, rfl⟩ | ⟨b', off, cap, rfl, hc, _⟩
              · simp at hl
              · exact ⟨b', off, cap, by rw [hl], by omega⟩
            have hmc : (m : Int) ≤ (cv : Int) := by omega
            have hb1 : w3.cell? ⟨b, 1, none⟩ = some (.map (some mp)) := cell_of hd3.blk 1
            go_wp2
            have hvt : Bytes w3.drew (.slice (some ⟨bv, ov, none⟩) m cv) (l.take m) := Bytes.take (hv.upd hu3.drew (fun x hx => HJr.out x (hvI x hx))) (by omega)
            have hcl := clone_calls _ _ w3.drew hvt (by rw [List.length_take]; omega)
            have hlen5 := hd3.pg.len k
            go_region_held3 (fun w' => w'.cell? ⟨b, 1, none⟩ = some (.map (some mp))) (first | exact hb1 | (exact hu4.cell hb1 (fun x => x)) | (exact hu5.cell (hu4.cell hb1 (fun x => x)) (fun x => x)) | (exact hu6.cell (hu5.cell (hu4.cell hb1 (fun x => x)) (fun x => x)) hbn) | (rw [cell_setBlock _ (Ne.symm h.n1)]; exact hu6.cell (hu5.cell (hu4.cell hb1 (fun x => x)) (fun x => x)) hbn))
              (first | (go_at_call 33; refine hcl.mono ?_; rintro e w4 ⟨v4, rfl, hv4, hf4, hu4, -, hown4⟩)
                     | (go_at_call 36; refine (stored_calls b mp mc _ J k w4 (hd3.upd hu4.undrew (fun x => x) (fun x => x) (fun x => x) (fun _ _ x => x))).mono ?_; rintro e w5 ⟨v5, rfl, hv5, hf5, hu5⟩
                        obtain ⟨b5, o5, c5, rfl, hc5, hb5⟩ := hv5.shape (by rw [hlen5]; decide)
                        rw [hlen5] at hv5 hc5 hf5
                        have hm5 : (m : Int) ≤ (256 : Int) := hm1
                        obtain ⟨o7, n7, c7, hsl, hv7⟩ := slice_from_bytes (P := Try.prog) Try.underlying29 sz_u8 hv5 hc5 m (by omega)
                        obtain ⟨v6, w6, hap, hown6, hg6, -⟩ := run_append_bytes (P := Try.prog) Try.underlying29 info_u8 (own_upd hown4 hu5) hv7 (Nat.le_trans hu4.size hu5.size) (by rw [List.length_take, List.length_drop, hlen5]; omega)
                        have hs34 : w3.heap.size ≤ w4.heap.size := hu4.size
                        have hs45 : w4.heap.size ≤ w5.heap.size := hu5.size
                        have hfar : ∀ x, x < w3.heap.size → ¬ some x = v4.ownBlock := fun x hx e => Nat.lt_irrefl _ (Nat.lt_of_lt_of_le hx (hf4 x e.symm))
                        have hbn : ¬ some b = v4.ownBlock := hfar b (by omega)
                        have hu6 := Upd.ofGrown hg6
                        have hd6 : IsDisk w6 b mp mc { D with pages := g' } J := ((hd3.upd hu4.undrew (fun x => x) (fun x => x) (fun x => x) (fun _ _ x => x)).upd hu5 (fun x => x) (fun x => x) (fun x => x) (fun _ _ x => x)).upd hu6 hbn (hfar mp (by omega)) (hfar mc (by omega)) (fun x hx => hfar x (hd3.pg.bound x hx))
                        obtain ⟨hv6, hb6⟩ := bytes_of_own hown6
                        have hb6' : ∀ x, sliceBlock v6 = some x → w3.heap.size ≤ x := hb6
                        obtain ⟨o6, hst, hp7⟩ := hd6.pg.put k hv6 (by rw [List.length_append, List.length_take, List.length_drop, hlen5, hl]; omega) hd6.a2 (fun x hx e => by have := hb6' x hx; omega) (fun x => J x ∨ (w3.heap.size ≤ x ∧ x < w6.heap.size)) (fun _ => .inl) (fun x hx => .inr ⟨hb6' x hx, hv6.lt hx⟩) (fun x hx => hx.elim (hd6.pg.bound x) (fun h' => h'.2))
                        have Hfar := Lib.hid hfar; clear hfar
                        have Hb6 := Lib.hid hb6'; clear hb6' hb6)
                     | (refine step_append hap (by rfl) (by rfl) (by rfl) (by rfl) ?_))
            have hu35 : Upd (fun _ => False) w3 w5 := hu4.undrew.trans hu5
            have hu36 : Upd (fun _ => False) w3 w6 := hu35.seq hu6 _ (fun _ _ x => x) (fun x hx e => Hfar.out x hx e)
            have hu67 : Upd (fun k => k = mp) w6 (setBlock w6 mp o6) := upd_setBlock _ _ _ _ rfl
            have hrel2 : CrashRel b mp mc w.heap.size wo.heap.size fq D I (keptOf ks) wo (setBlock w6 mp o6) := by
              have hnd := hperm.nodup_iff.1 hit.nodup
              have hd7 : IsDisk (setBlock w6 mp o6) b mp mc { D with pages := fun q => if q = k then some (l.take m ++ ((g' k).getD zeros).drop m) else g' q } (fun x => J x ∨ (w3.heap.size ≤ x ∧ x < w6.heap.size)) :=
                { blk := hu67.heap hd6.blk (Ne.symm h.n1), pg := hp7, ch := (hd6.ch.upd hu67 (Ne.symm h.n3) (fun x hx e => hd6.a2 (e ▸ hx))).wider (fun _ => .inl) (fun x hx => hp7.bound x hx), n1 := h.n1, n2 := h.n2, n3 := h.n3, a1 := fun hx => hx.elim hd.a1 (by omega), a2 := fun hx => hx.elim hd.a2 (by omega), a3 := fun hx => hx.elim hd.a3 (by omega), s1 := h.s1, s2 := h.s2, f1 := h.f1, f2 := h.f2 }
              refine ⟨t2, _, _, (hit1.upd hu36 (fun x => x) (fun x => x)).upd hu67 (Ne.symm h.n3) (by omega), hd7, ((((hq.upd hu3 HJr.out).upd hu36 (fun _ _ x => x)).upd hu67 (fun x hx e => hd6.a2 (e ▸ hx))).wider (fun _ => .inl) (fun x hx => hp7.bound x hx)), ⟨_, (hm3.upd hu36 (fun x => x)).upd hu67 (by omega)⟩, ?_, ?_, ?_, ?_⟩
              · rintro x (hx | ⟨hx, _⟩)
                · exact hJ x hx
                · right; have := hit.lt; omega
              · intro k' hk'
                have h1 : k' ≠ k := fun e => (List.nodup_cons.1 hnd).1 (e ▸ hk')
                simp only [if_neg h1]
                exact HG1.out k' (hperm.mem_iff.2 (.tail _ hk'))
              · intro k' hk'
                by_cases h1 : k' = k
                · subst h1
                  simp only [if_true, DS.crashPage, Hq.out, HN.out, if_pos hn1]
                  rw [HG1.out k' (hperm.mem_iff.2 (.head _))]
                  simp
                · simp only [if_neg h1]
                  exact HG2.out k' (fun hm => (List.mem_cons.1 (hperm.mem_iff.1 hm)).elim h1 hk')
              · exact ((hu2.trans' hu3 (fun x hx e => by omega)).trans' hu36 (fun _ _ x => x.elim)).trans hu67
            have hmeas : (setBlock w6 mp o6).rangeLeft mc wo.heap.size < wr.rangeLeft mc wo.heap.size := by
              rw [rangeLeft_upd (hit1.upd hu36 (fun x => x) (fun x => x)) hu67 (Ne.symm h.n3) (by omega), rangeLeft_upd hit1 hu36 (fun x => x) (fun x => x)]; exact hlt
            clear hit hd hq hm hperm hit1 hd3 hm3 hvt hcl hd6 hp7 hv hvI hJ hv4 hf4 hown4 hv5 hf5 hv7 hown6 hv6
            go_wp2
            go_roundw
            case rel => exact hrel2
            case measure => exact hmeas
          · have hn2 : n ≤ 0 := by omega
            have hrel2 : CrashRel b mp mc w.heap.size wo.heap.size fq D I (keptOf ks) wo w3 := by
              have hnd := hperm.nodup_iff.1 hit.nodup
              refine ⟨t2, J, g', hit1, hd3, hq.upd hu3 HJr.out, ⟨_, hm3⟩, hJ, fun k' hk' => HG1.out k' (hperm.mem_iff.2 (.tail _ hk')), fun k' hk' => ?_, hu2.trans' hu3 (fun x hx e => by omega)⟩
              by_cases h1 : k' = k
              · subst h1
                rw [HG1.out k' (hperm.mem_iff.2 (.head _))]
                simp only [DS.crashPage, Hq.out, HN.out, if_neg hn1]
              · exact HG2.out k' (fun hm => (List.mem_cons.1 (hperm.mem_iff.1 hm)).elim h1 hk')
            clear hit hd hq hm hperm hit1 hd3 hm3 hv hvI hJ
            go_wp2
            go_roundw
            case rel => exact hrel2
            case measure => exact hlt


theorem crash_calls (b mp mc : Nat) (D : DS) (I : Nat → Prop) (ks : List (Int × Int)) (v : Value) (w : World) (h : IsDisk w b mp mc D I) (hkl : ks.length < 1000) (hk : KeepAt w v ks) :
    Calls Try.prog 16 #[.pointer (some ⟨b, 0, none⟩), v] w fun e w' => e = .returned (.tuple #[]) ∧ (∃ J : Nat → Prop, IsDisk w' b mp mc (D.crash ks) J ∧ ∀ x, J x → I x ∨ w.heap.size ≤ x) ∧ Upd (fun k => k = b ∨ k = mp ∨ k = mc) w w' := by
  rcases hk with ⟨rfl, rfl⟩ | ⟨kb, off, cap, rfl, _, hc⟩
  · exact crash_none b mp mc D I [] 0 w h (by simp) rfl
  · exact crash_some b mp mc D I ks kb off cap w h hkl hc

end Go.Proofs.Yteokbokgiejmpaa
