/-
  The document's lessor: Grant.
-/
import Derived.Test.YtcbngjlgcgcljaaGreatRefK
namespace Go.Proofs.YtcbngjlgcgcljaaGreat
open Go.RowKit Go.Tb Go.MapKept Go.ChangeMaps Go.Lib
set_option linter.unusedVariables false

def RL.fresh (id ttl due : Int) : RL := { id := id, ttl := ttl, due := due, ka := none, kc := 0, rows := [] }
def RS.granted (R : RS) (m : Nat) (id ttl : Int) : RS := { R with last := max R.last id, l := R.l.take m ++ [RL.fresh id ttl (laterI R.now ttl)] ++ R.l.drop m }

/-- What stands when the place of a new lease is known. -/
structure GrIn (F : Nat → Prop) (w : World) (b : Nat) (R : RS) (gi : Int) (v : Value) (W : World) : Prop where
  blk : W.heap[b]? = some (.cells #[.int .i64 R.now, .int .i64 (max R.last gi), v] 54 (0, 0))
  sl : Sl rlenc W v R.l
  hu : Upd (fun k => k = b) w W
  ref : IsRef F w b R
  hF : ∀ k, F k → k < w.heap.size

theorem GrIn.tail {F : Nat → Prop} {w W : World} {b : Nat} {R : RS} {gi : Int} {v : Value} (h : GrIn F w b R gi v W) (m : Nat) (hm : m ≤ R.l.length) (hlen : R.l.length < 1000) (ttl : Int) :
    ∃ a1 c1 w2 a2 c2 w4 a4 c4 a5 c5 w6 a6 c6, (∀ w, (Instr.slice 52 v none (some (.int .i64 (m : Int))) none).run Tryz.prog w = .ok (.slice a1 m c1) w) ∧
      (∀ ty, (Builtin.append_ #[52, 52] ty #[.slice (some ⟨W.heap.size, 0, none⟩) 0 0, .slice a1 m c1]).run Tryz.prog (W.alloc (.cells #[] 73)) = .ok (.slice a2 m c2) w2) ∧
      (∀ ty, (Builtin.append_ #[52, 52] ty #[.slice a2 m c2, .slice (some ⟨w2.heap.size, 0, none⟩) 1 1]).run Tryz.prog (w2.alloc (.cells #[.int .i64 gi, .int .i64 ttl, .int .i64 (laterI R.now ttl), .slice none 0 0] 73)) = .ok (.slice a4 (m + 1) c4) w4) ∧
      (∀ w, (Instr.slice 52 v (some (.int .i64 (m : Int))) none none).run Tryz.prog w = .ok (.slice a5 (R.l.length - m) c5) w) ∧
      (∀ ty, (Builtin.append_ #[52, 52] ty #[.slice a4 (m + 1) c4, .slice a5 (R.l.length - m) c5]).run Tryz.prog w4 = .ok (.slice a6 (R.l.length + 1) c6) w6) ∧
      (w2.cell? ⟨b, 0, none⟩ = some (.int .i64 R.now) ∧ w4.cell? ⟨b, 2, none⟩ = some v ∧ w6.frozen? ⟨b, 2, none⟩ = false ∧ (w6.cell? ⟨b, 2, none⟩ = some v)) ∧
      IsRef F (w6.setCell ⟨b, 2, none⟩ (.slice a6 (R.l.length + 1) c6)) b (R.granted m gi ttl) ∧ Upd (fun k => k = b) w (w6.setCell ⟨b, 2, none⟩ (.slice a6 (R.l.length + 1) c6)) := by
  obtain ⟨a1, c1, hs1, hsl1, -⟩ := h.sl.upto (P := Tryz.prog) Tryz.underlying52 size_RLease rlenc_length m hm
  obtain ⟨a5, c5, hs5, hsl5, -⟩ := h.sl.from_ (P := Tryz.prog) Tryz.underlying52 size_RLease rlenc_length m hm
  have hu1 : Upd (fun _ => False) W (W.alloc (.cells #[] 73)) := upd_alloc _ _ _
  have hown0 := own_empty (enc := rlenc) (k := 4) rlenc_length (heap_alloc W (.cells #[] 73)).1 (Nat.le_refl _)
  obtain ⟨a2, c2, w2, hap1, hown1, hu2, hbl2⟩ := run_append_any (P := Tryz.prog) (t := 52) Tryz.underlying52 info_RLease rfl (by decide) rlenc_length rlenc_one hown0 (hsl1.grow hu1) (by simp) (by simp [maxLen]; omega) (by simp; omega)
  have e1 : ([] ++ R.l.take m : List RL) = R.l.take m := rfl
  have l1 : (R.l.take m).length = m := by rw [List.length_take]; omega
  rw [e1] at hap1 hown1 hbl2
  have hu2' : Upd (fun _ => False) W w2 := hu1.trans' hu2 (fun x hx e => by cases e; simp at hx)
  have hge1 := own_ge hown1
  have hua := upd_alloc (fun _ => False) w2 (.cells #[.int .i64 gi, .int .i64 ttl, .int .i64 (laterI R.now ttl), .slice none 0 0] 73)
  obtain ⟨a4, c4, w4, hap2, hown2, hu4, hbl4⟩ := run_append_one (P := Tryz.prog) (w := w2.alloc (.cells #[.int .i64 gi, .int .i64 ttl, .int .i64 (laterI R.now ttl), .slice none 0 0] 73)) (t := 52) Tryz.underlying52 info_RLease rfl (by decide) rlenc_length rlenc_one (RL.fresh gi ttl (laterI R.now ttl)) (own_grow hown1 hua) (heap_alloc w2 _).1 (Nat.le_trans hu2'.size (by simp)) (by rw [l1]; unfold maxLen; omega) (by rw [l1]; omega)
  have hu4' : Upd (fun _ => False) W w4 := (hu2'.trans hua).trans' hu4 (fun x hx e => by have := (hge1 x e).1; omega)
  have hge2 := own_ge hown2
  have l2 : (R.l.take m ++ [RL.fresh gi ttl (laterI R.now ttl)]).length = m + 1 := by rw [List.length_append, l1]; rfl
  rw [l1] at hap2 hge2
  have hown2' : w4.ownsRow W.heap.size 73 4 (.slice a4 (m + 1) c4) (R.l.take m ++ [RL.fresh gi ttl (laterI R.now ttl)]).length ((R.l.take m ++ [RL.fresh gi ttl (laterI R.now ttl)]).flatMap rlenc) := by rw [l1] at hown2; exact hown2
  obtain ⟨a6, c6, w6, hap3, hown3, hu6, hbl6⟩ := run_append_any (P := Tryz.prog) (t := 52) Tryz.underlying52 info_RLease rfl (by decide) rlenc_length rlenc_one hown2' (hsl5.grow hu4') hu4'.size (by rw [l2, List.length_drop]; unfold maxLen; omega) (by rw [l2, List.length_drop]; omega)
  have hu6' : Upd (fun _ => False) W w6 := hu4'.trans' hu6 (fun x hx e => by have := (hge2 x e).1; omega)
  have l3 : (R.l.take m ++ [RL.fresh gi ttl (laterI R.now ttl)] ++ R.l.drop m).length = R.l.length + 1 := by rw [List.length_append, l2, List.length_drop]; omega
  obtain ⟨hsl6, hge6⟩ := sl_of_own rlenc_length hown3
  rw [l3] at hap3 hsl6 hge6
  rw [l1] at hap1
  have hb6 := hu6'.heap h.blk (fun x => x)
  have hbW : b < W.heap.size := lt_of_heap h.blk
  have huw : Upd (fun k => k = b) w (w6.setCell ⟨b, 2, none⟩ (.slice a6 (R.l.length + 1) c6)) := Upd.setCell (p := ⟨b, 2, none⟩) (h.hu.trans (hu6'.weak _)) (fun _ => rfl) _
  have hnb : ∀ g, sliceBlock (.slice a6 (R.l.length + 1) c6) = some g → g ≠ b := fun g hg e => by have := hge6 g hg; omega
  refine ⟨a1, c1, w2, a2, c2, w4, a4, c4, a5, c5, w6, a6, c6, hs1, hap1, hap2, hs5, hap3, ⟨cell_of (hu2'.heap h.blk (fun x => x)) 0, cell_of (hu4'.heap h.blk (fun x => x)) 2, free_of hb6 2, cell_of hb6 2⟩, ?_, huw⟩
  refine { blk := ⟨.slice a6 (R.l.length + 1) c6, ?_, ?_, fun g hg hFg => ?_⟩, ok := fun r hr => ?_, self := h.ref.self }
  · rw [heap_setCell_at hb6 2 _]; rfl
  · exact hsl6.upd (upd_setCell (fun k => k = b) w6 ⟨b, 2, none⟩ _ rfl) (fun g hg e => hnb g hg e)
  · have := hge6 g hg
    have := h.hF g hFg
    have := h.hu.size
    omega
  · have hold : ∀ r ∈ R.l, r.Ok F (w6.setCell ⟨b, 2, none⟩ (.slice a6 (R.l.length + 1) c6)) := fun r hr => (h.ref.ok r hr).upd huw (fun k _ e => e ▸ h.ref.self)
    have hr' : r ∈ R.l.take m ++ [RL.fresh gi ttl (laterI R.now ttl)] ++ R.l.drop m := hr
    rcases List.mem_append.1 hr' with hr | hr
    · rcases List.mem_append.1 hr with hr | hr
      · exact hold r (List.mem_of_mem_take hr)
      · rw [List.mem_singleton.1 hr]
        exact { sl := .inl ⟨rfl, rfl⟩, slF := fun b hb => (by cases hb), by_ := fun k hk => (List.not_mem_nil hk).elim, byF := fun k hk => (List.not_mem_nil hk).elim }
    · exact hold r (List.mem_of_mem_drop hr)

end Go.Proofs.YtcbngjlgcgcljaaGreat

/-
  The document's lessor: Grant, the walks.
-/
namespace Go.Proofs.YtcbngjlgcgcljaaGreat
open Go.RowKit Go.Tb Go.MapKept Go.ChangeMaps Go.Lib
set_option linter.unusedVariables false

set_option maxRecDepth 100000 in
set_option maxHeartbeats 4000000 in
theorem rgrant_ok (F : Nat → Prop) (b : Nat) (R : RS) (id gi ttl : Int) (w : World) (h : IsRef F w b R) (hF : ∀ k, F k → k < w.heap.size) (hlen : R.l.length < 64) (hno : ∀ r ∈ R.l, r.id ≠ id)
    (hway : (id = 0 ∧ gi = R.last + 1 ∧ 0 ≤ R.last ∧ R.last < topT) ∨ (id = gi ∧ 1 ≤ id ∧ id ≤ topT ∧ R.last < gi) ∨ (id = gi ∧ 1 ≤ id ∧ id ≤ topT ∧ gi ≤ R.last)) (h2 : 1 ≤ ttl) (h3 : ttl ≤ topT) (n0 : 0 ≤ R.now) (n1 : R.now ≤ topT) :
    Calls Tryz.prog 15 #[.pointer (some ⟨b, 0, none⟩), .int .i64 id, .int .i64 ttl] w fun e w' => e = .returned (.tuple #[.int .i64 gi, .int .i64 0]) ∧
      (∃ m, m ≤ R.l.length ∧ (∀ k (hk : k < R.l.length), k < m → R.l[k].id < gi) ∧ (∀ hk : m < R.l.length, gi ≤ R.l[m].id) ∧ IsRef F w' b (R.granted m gi ttl)) ∧ Upd (fun k => k = b) w w' := by
  have hlt := fun W => rlater_calls R.now ttl W n0 n1 (by omega) (by unfold topT at h3; omega)
  unfold topT at hway h3
  have ha := rat_no F b R id w h (by omega) hno
  obtain ⟨v, hblk, hsl, -⟩ := h.blk
  obtain ⟨a, c, rfl, -⟩ := hsl.shape
  have c2 : w.cell? ⟨b, 2, none⟩ = some (.slice a R.l.length c) := cell_of hblk 2
  have c1 : w.cell? ⟨b, 1, none⟩ = some (.int .i64 R.last) := cell_of hblk 1
  have f1 := free_of hblk 1
  have hn' : ¬ (64 : Int) ≤ (R.l.length : Int) := by omega
  have hin : ∀ W, W.heap[b]? = some (.cells #[.int .i64 R.now, .int .i64 (max R.last gi), .slice a R.l.length c] 54 (0, 0)) → Upd (fun k => k = b) w W → GrIn F w b R gi (.slice a R.l.length c) W := fun W h1 h2 =>
    { blk := h1, sl := hsl.upd h2 (fun g hg e => by subst e; obtain ⟨v', q1, q2, q3⟩ := h.blk; rw [hblk] at q1; injection q1 with q1; injection q1 with q1; simp at q1; subst q1; exact q3 _ hg h.self), hu := h2, ref := h, hF := hF }
  have HIN := Lib.hid hin
  have HBLK := Lib.hid hblk
  clear hno hsl hin h hF n0 n1 hblk
  go_enter Tryz.func15, Tryz.ntmps15
  rcases hway with ⟨rfl, hgi, l0, l1⟩ | ⟨hgi, g0, g1, g2⟩ | ⟨hgi, g0, g1, g2⟩
  case' inl =>
    have hw : IntKind.i64.wrap (R.last + 1) = gi := by rw [hgi]; exact IntWalk.i64_in _ (by omega)
    have hgl : R.last < gi := by omega
    have hne : ¬ R.last = 4611686018427387904 := by omega
    have hne2 : decide (R.last = 4611686018427387904) = false := decide_eq_false hne
    have hne3 : (R.last == (4611686018427387904 : Int)) = false := by simpa using hne
    clear hgi
    go_upto_region 11 with (go_at_call 38; (with_reducible refine ha.mono ?_); rintro e1 w1 ⟨rfl, rfl⟩)
    have hgr := HIN.out (w.setCell ⟨b, 1, none⟩ (.int .i64 gi)) (by rw [heap_setCell_at HBLK.out 1 _, show max R.last gi = gi by omega]; rfl) (upd_setCell _ _ _ _ rfl)
    clear hw hne hne2 hne3 hgl c2 c1 f1
    generalize w.setCell ⟨b, 1, none⟩ (.int .i64 gi) = W at *
  case' inr.inl =>
    obtain rfl := hgi.symm
    have hz : ¬ gi = 0 := by omega
    go_upto_region 11 with (go_at_call 38; (with_reducible refine ha.mono ?_); rintro e1 w1 ⟨rfl, rfl⟩)
    have hgr := HIN.out (w.setCell ⟨b, 1, none⟩ (.int .i64 gi)) (by rw [heap_setCell_at HBLK.out 1 _, show max R.last gi = gi by omega]; rfl) (upd_setCell _ _ _ _ rfl)
    clear c2 c1 f1
    generalize w.setCell ⟨b, 1, none⟩ (.int .i64 gi) = W at *
  case' inr.inr =>
    obtain rfl := hgi.symm
    have hz : ¬ gi = 0 := by omega
    have hg3 : ¬ R.last < gi := by omega
    go_upto_region 11 with (go_at_call 38; (with_reducible refine ha.mono ?_); rintro e1 w1 ⟨rfl, rfl⟩)
    obtain ⟨W, hWW⟩ : ∃ W, W = w := ⟨w, rfl⟩
    have hgr := HIN.out W (by rw [hWW, HBLK.out, show max R.last gi = R.last by omega]) (by rw [hWW]; exact Upd.refl _ _)
    clear c2 c1 f1
    rw [← hWW]
    have HWW := Lib.hid hWW
    clear hWW
  all_goals (
    have HGR := Lib.hid hgr
    have c2W : W.cell? ⟨b, 2, none⟩ = some (.slice a R.l.length c) := cell_of hgr.blk 2
    have c2A : (W.alloc (.cells #[] 73)).cell? ⟨b, 2, none⟩ = some (.slice a R.l.length c) := (upd_alloc (fun _ => False) W _).cell c2W (fun x => x)
    have hbW : b < W.heap.size := lt_of_heap hgr.blk
    clear hgr
    go_wp2
    go_loopw [8] (fun i wr => ∃ m : Nat, m ≤ R.l.length ∧ i = .int .i64 m ∧ (∀ k (hk : k < R.l.length), k < m → R.l[k].id < gi) ∧ W = wr) (fun i _ => R.l.length - (intOf i).toNat)
    case atStart => exact ⟨0, Nat.zero_le _, rfl, fun k _ h => absurd h (Nat.not_lt_zero _), rfl⟩
    case round =>
      obtain ⟨m, hm, rfl, hk, rfl⟩ := hrel
      have HK := Lib.hid hk
      clear hk
      by_cases hgo : ∃ h : m < R.l.length, R.l[m].id < gi
      · obtain ⟨hm2, hid⟩ := hgo
        obtain ⟨bk, off, cap, hee, hcap, hbk, -⟩ := HGR.out.sl.block (by omega)
        cases hee
        have q0 := HGR.out.sl.at rlenc_length m hm2 0 (by decide) _ rfl
        rw [Nat.add_zero] at q0
        have HK2 := Lib.hid (show ∀ k (hk : k < R.l.length), k < m + 1 → R.l[k].id < gi from fun k hk hk2 => by
          by_cases e : k = m
          · subst e; exact hid
          · exact HK.out k hk (by omega))
        generalize R.l[m].id = idm at *
        go_wp2
        go_roundw
        case rel => exact ⟨m + 1, by omega, by go_num, HK2.out, trivial⟩
        case measure => simp [intOf]; omega
      · have HST := Lib.hid (show ∀ hk : m < R.l.length, gi ≤ R.l[m].id from fun hk => Int.not_lt.1 (fun h => hgo ⟨hk, h⟩))
        obtain ⟨a1, c1, w2, a2, c2, w4, a4, c4, a5, c5, w6, a6, c6, hs1, hap1, hap2, hs5, hap3, ⟨x0, x2, x3, x4⟩, href, hu⟩ := HGR.out.tail m hm (by omega) ttl
        have HPOST := Lib.hid (And.intro href hu)
        have hl2 := hlt w2
        clear href hu hgo
        by_cases hm2 : m < R.l.length
        · obtain ⟨bk, off, cap, hee, hcap, hbk, -⟩ := HGR.out.sl.block (by omega)
          cases hee
          have q0 := HGR.out.sl.at rlenc_length m hm2 0 (by decide) _ rfl
          rw [Nat.add_zero] at q0
          have hid : ¬ R.l[m].id < gi := Int.not_lt.2 (HST.out hm2)
          generalize R.l[m].id = idm at *
          go_upto_region 15 with (at_builtin; refine wpList_append hap1 rfl rfl rfl rfl ?_)
          go_upto_region 16 with (first
            | (go_at_call 16; (with_reducible refine hl2.mono ?_); rintro e5 w5 ⟨rfl, rfl⟩)
            | (at_builtin; refine wpList_append hap2 rfl rfl rfl rfl ?_))
          go_wp2_with (at_builtin; refine wpList_append hap3 rfl rfl rfl rfl ?_)
          refine bodyPost_ret (v := .tuple #[.int .i64 gi, .int .i64 0]) (by simp [results, Tryz.results15, go_sem]) rfl ⟨rfl, ⟨m, hm, HK.out, HST.out, HPOST.out.1⟩, HPOST.out.2⟩
        · have hmi : ¬ ((m : Int) < (R.l.length : Int)) := by omega
          go_upto_region 15 with (at_builtin; refine wpList_append hap1 rfl rfl rfl rfl ?_)
          go_upto_region 16 with (first
            | (go_at_call 16; (with_reducible refine hl2.mono ?_); rintro e5 w5 ⟨rfl, rfl⟩)
            | (at_builtin; refine wpList_append hap2 rfl rfl rfl rfl ?_))
          go_wp2_with (at_builtin; refine wpList_append hap3 rfl rfl rfl rfl ?_)
          refine bodyPost_ret (v := .tuple #[.int .i64 gi, .int .i64 0]) (by simp [results, Tryz.results15, go_sem]) rfl ⟨rfl, ⟨m, hm, HK.out, HST.out, HPOST.out.1⟩, HPOST.out.2⟩)

end Go.Proofs.YtcbngjlgcgcljaaGreat
