/-
  A lessor without keys: Revoke; Leases.
-/
import Derived.Test.YtcbngjlgcgcljaaGreatLeaseH
import Derived.Test.YtcbngjlgcgcljaaGreatKeysL
namespace Go.Proofs.YtcbngjlgcgcljaaGreat
open Go.RowKit Go.Tb Go.MapKept Go.ChangeMaps Go.Lib
set_option linter.unusedVariables false

/-- A lease is gone. -/
def LS.revoked (L : LS) (id : Int) : LS := { L with l := fun k => if k = id then none else L.l k, n := L.n - 1 }
theorem LOk.revoked {L : LS} (h : LOk L) (id : Int) : LOk (L.revoked id) :=
  { h with
    ids := fun i x hx => by
      have hx' : (if i = id then none else L.l i) = some x := hx
      by_cases e : i = id
      · rw [if_pos e] at hx'; cases hx'
      · rw [if_neg e] at hx'; exact h.ids i x hx'
    few := by have := h.few; show L.n - 1 ≤ 64; omega }

set_option maxRecDepth 100000 in
set_option maxHeartbeats 1000000 in
theorem revoke_yes (b ml mk : Nat) (L : LS) (id : Int) (x : Int × Int) (w : World) (h : IsLs w b ml mk L) (hk : NoKeys L) (hn : L.l id = some x) :
    Calls Tryz.prog 17 #[.pointer (some ⟨b, 0, none⟩), .int .i64 id] w fun e w' => e = .returned (.tuple #[.slice none 0 0, .int .i64 0]) ∧ IsLs w' b ml mk (L.revoked id) ∧ Upd (fun k => k = ml) w w' := by
  have hf := find_yes b ml mk L id x w h hn
  have hof := fun W (hu : Upd (fun _ => False) w W) => of_none b ml mk L id W (h.grow hu) hk
  have HOF := Lib.hid hof
  have H := Lib.hid h
  have HN := Lib.hid hn
  clear h hk hn hof
  obtain ⟨ttl, due⟩ := x
  go_enter Tryz.func17, Tryz.ntmps17
  go_upto_region 5 with (first
    | (go_at_call 39; (with_reducible refine hf.mono ?_); rintro e1 w1 ⟨rfl, hu1⟩; have hof1 := HOF.out _ (hu1.alloc (.cells #[.int .i64 ttl, .int .i64 due] 67)); have HU1 := Lib.hid hu1; clear hu1)
    | (go_at_call 40; (with_reducible refine hof1.mono ?_); rintro e2 w2 ⟨rfl, hu2⟩; have HU2 := Lib.hid ((HU1.out.alloc _).trans hu2); clear hu2 hof1))
  go_wp2
  refine wp_loop_rounds 1 ?_
  rw [rounds_succ]
  have h2 := H.out.grow HU2.out
  have c2 : w2.cell? ⟨b, 2, none⟩ = some (.map (some ml)) := cell_of h2.blk 2
  obtain ⟨o, hdel, hm⟩ := h2.lm.delete (P := Tryz.prog) (keyT_int .i64) Tryz.underlying48 Tryz.underlying2 id
  have HM := Lib.hid hm
  have H2 := Lib.hid h2
  clear hm h2
  go_wp2_with (at_builtin; refine wpList_delete hdel rfl rfl rfl rfl ?_)
  go_ret2
  have hu3 : Upd (fun k => k = ml) w2 (setBlock w2 ml o) := upd_setBlock _ _ _ _ rfl
  refine ⟨rfl, { blk := hu3.heap H2.out.blk (Ne.symm H2.out.n1), lm := ?_, km := H2.out.km.upd hu3 (Ne.symm H2.out.n3), n1 := H2.out.n1, n2 := H2.out.n2, n3 := H2.out.n3 }, (HU2.out.weak _).trans hu3⟩
  have hm := HM.out
  have e1 : (fun k => if k = id then none else (L.l k).map heldV) = fun k => ((L.revoked id).l k).map heldV := by
    funext k
    show _ = Option.map heldV (if k = id then none else L.l k)
    split <;> rfl
  have e2 : (if ((L.l id).map heldV).isSome = true then L.n - 1 else L.n) = L.n - 1 := by rw [HN.out]; rfl
  rw [e1, e2] at hm
  exact hm

def LS.ttlOf (L : LS) (id : Int) : Int := ((L.l id).map (·.1)).getD 0
theorem ttl_held (L : LS) (id : Int) : ∃ d, ((L.l id).map heldV).getD (.agg #[.int .i64 0, .int .i64 0]) = .agg #[.int .i64 (L.ttlOf id), .int .i64 d] := by
  unfold LS.ttlOf heldV
  cases L.l id with
  | none => exact ⟨_, rfl⟩
  | some x => exact ⟨x.2, rfl⟩
theorem run_field0 (t d : Int) (w : World) : (Instr.field 67 (.agg #[.int .i64 t, .int .i64 d]) 0).run Tryz.prog w = .ok (.int .i64 t) w := by kernel_rfl
theorem info_Lease : (Tryz.prog.info? 41).map (fun i => (i.zero, i.size, i.bytes)) = some (some (.agg #[.int .i64 0, .int .i64 0]), 2, 16) := by kernel_rfl
theorem lenc_one (x : Int × Int) : ∀ u ∈ lenc x, u.oneCell' = true := fun u hu => by
  rcases List.mem_cons.1 hu with rfl | hu
  · rfl
  · rw [List.mem_singleton.1 hu]; rfl

/-- What Leases says. -/
def LeasesSays (L : LS) (w : World) (e : Ending) (w' : World) : Prop :=
  ∃ a c ids, e = .returned (.slice a L.n c) ∧ List.length ids = L.n ∧ ids.Pairwise (· < ·) ∧ (∀ i, i ∈ ids ↔ (L.l i).isSome = true) ∧ Sl lenc w' (.slice a L.n c) (ids.map fun i => (i, L.ttlOf i)) ∧ Upd (fun _ => False) w w'

def LeasesRel (L : LS) (ids : List Int) (W : World) (base j : Nat) (v : Value) (wr : World) : Prop :=
  wr.ownsRow base 41 2 v j (((ids.take j).map fun i => (i, L.ttlOf i)).flatMap lenc) ∧ Upd (fun _ => False) W wr

set_option maxRecDepth 100000 in
set_option maxHeartbeats 1000000 in
theorem leases_calls (b ml mk : Nat) (L : LS) (w : World) (h : IsLs w b ml mk L) (hok : LOk L) :
    Calls Tryz.prog 27 #[.pointer (some ⟨b, 0, none⟩)] w (LeasesSays L w) := by
  have hfew := hok.few
  have c2 : w.cell? ⟨b, 2, none⟩ = some (.map (some ml)) := cell_of h.blk 2
  have hb := heap_alloc w (.cells #[.map (some ml)] 48)
  have hua := upd_alloc (fun _ => False) w (.cells #[.map (some ml)] 48)
  have hs := sorted_calls w.heap.size ml L.n (fun i => (L.l i).map heldV) (w.alloc (.cells #[.map (some ml)] 48)) (cell_of hb.1 0) (h.lm.upd hua (fun x => x)) (by omega) (fun i hi => by
    cases e : L.l i with
    | none => rw [e] at hi; cases hi
    | some x => have := hok.ids i x e; unfold topT at this; have := hok.last1; unfold topT at this; omega)
  have hm := mkeys_calls (some ml) w
  have H := Lib.hid h
  have HUA := Lib.hid hua
  clear h hok hb hua
  generalize hn : L.n = n at *
  have HN := Lib.hid hn
  clear hn
  go_enter Tryz.func27, Tryz.ntmps27
  go_wp2_with (first
    | (go_at_call 45; (with_reducible refine hm.mono ?_); rintro e1 w1 ⟨rfl, rfl⟩)
    | (go_at_call 44; (with_reducible refine hs.mono ?_); rintro e2 w2 ⟨a, c, ids, rfl, hl0, hpw, hmem, hsl, hge, hu⟩; have HL0 := Lib.hid hl0; have HPW := Lib.hid hpw; have HMEM := Lib.hid hmem; have HSL := Lib.hid hsl; have HU2 := Lib.hid (HUA.out.trans hu); clear hl0 hpw hmem hsl hge hu))
  clear hs hm c2
  go_loopw [3, 15] (fun v i wr => ∃ j : Nat, j ≤ n ∧ i = .int .i64 j ∧ ∃ oa oc, v = .slice oa j oc ∧ LeasesRel L ids w2 w2.heap.size j (.slice oa j oc) wr) (fun _ i _ => n - (intOf i).toNat)
  case atStart => exact ⟨0, Nat.zero_le _, rfl, none, 0, rfl, ⟨rfl, .inl ⟨rfl, rfl⟩⟩, Upd.refl _ _⟩
  case round =>
    obtain ⟨j, hj, rfl, oa, oc, rfl, hown, hu⟩ := hrel
    have Hown := Lib.hid hown
    have Hu := Lib.hid hu
    by_cases hlt : j < n
    · have hlt' : j < ids.length := by rw [HL0.out]; exact hlt
      obtain ⟨bk, off, cap, hee, hcap, hbk, -⟩ := (show Sl zenc wr (.slice a ids.length c) ids by rw [HL0.out]; exact HSL.out.grow hu).block (by omega)
      cases hee
      have q0 := (show Sl zenc wr (.slice (some ⟨bk, off, none⟩) n c) ids from HSL.out.grow hu).at zenc_length j hlt' 0 (by decide) _ rfl
      rw [Nat.mul_one, Nat.add_zero] at q0
      have hLw := H.out.grow (HU2.out.trans hu)
      obtain ⟨d, hd⟩ := ttl_held L ids[j]
      have hlk := hLw.look ids[j] false
      simp only [Bool.false_eq_true, if_false, hd] at hlk
      have c2 : wr.cell? ⟨b, 2, none⟩ = some (.map (some ml)) := cell_of hLw.blk 2
      have htk : (ids.take (j + 1)).map (fun i => (i, L.ttlOf i)) = (ids.take j).map (fun i => (i, L.ttlOf i)) ++ [(ids[j], L.ttlOf ids[j])] := by
        rw [List.take_succ_eq_append_getElem hlt', List.map_append]; rfl
      have hlen : ((ids.take j).map fun i => (i, L.ttlOf i)).length = j := by simp; omega
      have hfl := run_field0 (L.ttlOf ids[j]) d
      obtain ⟨oa2, oc2, w5, hap, hown5, hu5, -⟩ := run_append_one (P := Tryz.prog) (w := wr.alloc (.cells #[.int .i64 ids[j], .int .i64 (L.ttlOf ids[j])] 41)) (t := 47) (z := .agg #[.int .i64 0, .int .i64 0]) Tryz.underlying47 info_Lease rfl (by decide) lenc_length lenc_one (l := (ids.take j).map fun i => (i, L.ttlOf i)) (v := .slice oa j oc) (base := w2.heap.size) (ids[j], L.ttlOf ids[j]) (by rw [hlen]; exact own_grow hown (upd_alloc _ _ _)) (heap_alloc wr _).1 (Nat.le_trans hu.size (by simp)) (by unfold maxLen; omega) (by rw [hlen]; omega)
      rw [hlen] at hap
      have HREL := Lib.hid (show LeasesRel L ids w2 w2.heap.size (j + 1) (.slice oa2 (j + 1) oc2) w5 from ⟨by
        have h5 := hown5
        rw [← htk] at h5
        have hl2 : ((ids.take (j + 1)).map fun i => (i, L.ttlOf i)).length = j + 1 := by simp; omega
        rw [hl2, hlen] at h5
        exact h5, by
        have hge := own_ge hown
        exact (hu.alloc _).trans' hu5 (fun x hx e => by have := (hge x e).1; omega)⟩)
      clear hown hown5 hu5 hu htk hlen hd hLw
      generalize L.ttlOf ids[j] = ty at *
      generalize ids[j] = id at *
      clear hlt'
      go_wp2_with (at_builtin; refine wpList_append hap rfl rfl rfl rfl ?_)
      go_roundw
      case rel => exact ⟨j + 1, by omega, by go_num, oa2, oc2, rfl, HREL.out⟩
      case measure => simp [intOf]; omega
    · obtain rfl : j = n := by omega
      clear hown hu
      go_wp2
      go_ret
      have htk : ids.take j = ids := List.take_of_length_le (by rw [HL0.out]; exact Nat.le_refl _)
      refine ⟨oa, oc, ids, by rw [HN.out]; rfl, by rw [HN.out]; exact HL0.out, HPW.out, fun i => by rw [HMEM.out i]; cases L.l i <;> simp, ?_, HU2.out.trans Hu.out⟩
      have hh := Hown.out
      rw [htk] at hh
      rw [HN.out]
      have hl2 : (ids.map fun i => (i, L.ttlOf i)).length = j := by rw [List.length_map, HL0.out]
      exact (sl_of_own (base := w2.heap.size) (e := 41) lenc_length (by rw [hl2]; exact hh)).1

end Go.Proofs.YtcbngjlgcgcljaaGreat
