/-
  A lessor: Grant, where a lease is granted; Keep.
-/
import Derived.Deep.RegionHeld3
import Derived.Deep.CutRange
import Derived.Test.YtcbngjlgcgcljaaGreatLeaseB
namespace Go.Proofs.YtcbngjlgcgcljaaGreat
open Go.RowKit Go.Tb Go.MapKept Go.ChangeMaps Go.Lib
set_option linter.unusedVariables false

set_option maxRecDepth 100000 in
set_option maxHeartbeats 1000000 in
theorem grant_id (b ml mk : Nat) (L : LS) (id ttl : Int) (w : World) (h : IsLs w b ml mk L) (hok : LOk L) (h0 : 1 ≤ id) (h1 : id ≤ topT) (h2 : 1 ≤ ttl) (h3 : ttl ≤ topT) (hn : L.l id = none) (hm : L.n < 64) :
    Calls Tryz.prog 12 #[.pointer (some ⟨b, 0, none⟩), .int .i64 id, .int .i64 ttl] w fun e w' => e = .returned (.tuple #[.agg #[.int .i64 id, .int .i64 ttl], .int .i64 0]) ∧ IsLs w' b ml mk (L.granted id ttl) ∧ Upd (fun k => k = b ∨ k = ml) w w' := by
  have hlater := fun W => later_calls L.now ttl W hok.now0 hok.now1 (by omega)
  have HO := Lib.hid hok
  unfold topT at h1 h3
  have hl := (h.grow (upd_alloc _ w (.cells #[.int .i64 0, .int .i64 0] 41))).look id true
  rw [hn] at hl
  simp only [if_true, Option.map_none, Option.getD_none, Option.isSome_none] at hl
  have c2 : w.cell? ⟨b, 2, none⟩ = some (.map (some ml)) := cell_of h.blk 2
  have c1 : w.cell? ⟨b, 1, none⟩ = some (.int .i64 L.last) := cell_of h.blk 1
  have f1 := free_of h.blk 1
  have hb := lt_of_heap h.blk
  have hlen := fun W (hu : Upd (fun _ => False) w W) ty => (h.grow hu).lm.len (P := Tryz.prog) Tryz.underlying48 ty
  have hlen1 := hlen _ ((upd_alloc _ w (.cells #[.int .i64 0, .int .i64 0] 41)).alloc (.cells #[.int .i64 0, .int .i64 0] 67))
  have h64' : (L.n : Int) < (64 : Int) := by omega
  have H := Lib.hid h
  have HN := Lib.hid hn
  clear hlen h hn hm hok
  generalize hLn : L.n = n at *
  generalize hLl : L.last = last at *
  generalize hLw : L.now = now at *
  have HLn := Lib.hid hLn
  have HLl := Lib.hid hLl
  have HLw := Lib.hid hLw
  clear hLn hLl hLw
  have z0 : (id == 0) = false := by simp; omega
  go_enter Tryz.func12, Tryz.ntmps12
  go_upto_region 11 with fail
  generalize hv : (if last < id then id else last) = lm
  have hlm : lm = max last id := by rw [← hv]; split <;> omega
  have h := H.out
  have hu0 : Upd (fun k => k = b) w (w.setCell ⟨b, 1, none⟩ (.int .i64 lm)) := upd_setCell _ _ _ _ rfl
  have hb0 : (w.setCell ⟨b, 1, none⟩ (.int .i64 lm)).heap[b]? = some (.cells #[.int .i64 now, .int .i64 lm, .map (some ml), .map (some mk)] 51 (0, 0)) := by
    rw [heap_setCell_at h.blk 1 _, HLw.out]; rfl
  have hL0 : IsLs (w.setCell ⟨b, 1, none⟩ (.int .i64 lm)) b ml mk { L with last := lm } :=
    { blk := by rw [hb0, HLw.out], lm := h.lm.upd hu0 h.n1, km := h.km.upd hu0 h.n2, n1 := h.n1, n2 := h.n2, n3 := h.n3 }
  have ha1 := heap_alloc (w.setCell ⟨b, 1, none⟩ (.int .i64 lm)) (.cells #[.int .i64 0, .int .i64 0] 41)
  have hs0 : (w.setCell ⟨b, 1, none⟩ (.int .i64 lm)).heap.size = w.heap.size := by simp
  rw [hs0] at ha1
  generalize w.setCell ⟨b, 1, none⟩ (.int .i64 lm) = w0 at *
  have hr1 := (upd_alloc (fun _ => False) _ (.cells #[.int .i64 0, .int .i64 0] 67)).heap ha1.1 (fun x => x)
  have hL1 := (hL0.grow (upd_alloc _ w0 (.cells #[.int .i64 0, .int .i64 0] 41))).grow (upd_alloc _ _ (.cells #[.int .i64 0, .int .i64 0] 67))
  have hu1 : Upd (fun k => k = b) w ((w0.alloc (.cells #[.int .i64 0, .int .i64 0] 41)).alloc (.cells #[.int .i64 0, .int .i64 0] 67)) := (hu0.alloc _).alloc _
  clear ha1 hL0 hb0 hs0 hu0 c1 c2 f1 hl hlen1
  generalize (w0.alloc (.cells #[.int .i64 0, .int .i64 0] 41)).alloc (.cells #[.int .i64 0, .int .i64 0] 67) = W at *
  have hdr : Upd (fun _ => False) W W.drew := (Upd.refl _ _).drew
  have hL2 := hL1.grow hdr
  obtain ⟨w', hup, hmap, o, rfl⟩ := hL2.lm.update (P := Tryz.prog) (keyT_int .i64) Tryz.underlying48 Tryz.underlying2 id (.agg #[.int .i64 ttl, .int .i64 (laterI now ttl)])
  have c0 : W.drew.cell? ⟨b, 0, none⟩ = some (.int .i64 now) := by have := cell_of hL2.blk 0; rw [HLw.out] at this; exact this
  have c2 : W.drew.cell? ⟨b, 2, none⟩ = some (.map (some ml)) := cell_of hL2.blk 2
  have hbml : ml ≠ b := h.n1
  have hu2 : Upd (fun k => k = ml) W (setBlock W.drew ml o) := (upd_setBlock (fun k => k = ml) W.drew ml o rfl).undrew
  have hmlt := h.lm.lt
  have hmklt := h.km.lt
  have hr2 := hu2.heap hr1 (by omega)
  have HU := Lib.hid (show Upd (fun k => k = b ∨ k = ml) w (setBlock W.drew ml o) from (hu1.mono (fun _ _ => .inl)).trans' hu2 (fun x _ e => .inr e))
  have HK := Lib.hid (show IsLs (setBlock W.drew ml o) b ml mk (L.granted id ttl) from by
    refine { blk := hu2.heap hL1.blk (by omega) |>.trans ?_, lm := ?_, km := hL1.km.upd hu2 (Ne.symm h.n3), n1 := h.n1, n2 := h.n2, n3 := h.n3 }
    · have e : lm = max L.last (L.gid id) := by rw [hlm, HLl.out]; unfold LS.gid; rw [if_neg (by omega)]
      show some (Obj.cells #[.int .i64 L.now, .int .i64 lm, .map (some ml), .map (some mk)] 51 (0, 0)) = _
      rw [e]; rfl
    · have hg : L.gid id = id := by unfold LS.gid; rw [if_neg (by omega)]
      have e1 : (fun k => if k = id then some (Value.agg #[.int .i64 ttl, .int .i64 (laterI now ttl)]) else (L.l k).map heldV) = fun k => ((L.granted id ttl).l k).map heldV := by
        funext k
        show _ = Option.map heldV (if k = L.gid id then some (ttl, laterI L.now ttl) else L.l k)
        rw [hg, HLw.out]
        split <;> rfl
      have e2 : (if ((L.l id).map heldV).isSome = true then L.n else L.n + 1) = L.n + 1 := by rw [HN.out]; rfl
      have hmap' := hmap
      simp only at hmap'
      rw [e1, e2] at hmap'
      exact hmap')
  have HR := Lib.hid hr2
  clear hL1 hL2 hmap hu1 hu2 hr1 hr2 h hdr
  go_region_held3 (fun w' => w'.cell? ⟨b, 0, none⟩ = some (.int .i64 now) ∧ w'.cell? ⟨b, 2, none⟩ = some (.map (some ml))) (first | exact ⟨c0, c2⟩ | exact ⟨(cell_setBlock _ (Ne.symm hbml)).trans c0, (cell_setBlock _ (Ne.symm hbml)).trans c2⟩)
    ((go_at_call 33; (with_reducible refine (hlater _).mono ?_); rintro e9 w9 ⟨rfl, rfl⟩))
  clear c0 c2
  generalize setBlock W.drew ml o = W2 at *
  have hr := HR.out
  go_wp2_with (first | ((with_reducible refine wpl_store (ty := 41) (cs := #[.int .i64 id, .int .i64 ttl]) hr ?_ ?_ ?_ ?_ ?_ ?_); rfl; rfl; rfl; kernel_rfl; rfl; intro W3 hq3 hu3 hs3 hd3; have e0 : W3.cell? ⟨w.heap.size, 0, none⟩ = some (.int .i64 id) := cell_of hq3 0; have e1 : W3.cell? ⟨w.heap.size, 1, none⟩ = some (.int .i64 ttl) := cell_of hq3 1))
  refine bodyPost_ret (v := .tuple #[.agg #[.int .i64 id, .int .i64 ttl], .int .i64 0]) (by simp [results, Tryz.results12, go_sem, e0, e1]) rfl ⟨rfl, ?_, ?_⟩
  · exact HK.out.upd hu3 (by omega) (by omega) (by omega)
  · exact HU.out.trans' hu3 (fun x hx e => by omega)

theorem LS.gid_zero (L : LS) : L.gid 0 = L.last + 1 := if_pos rfl

set_option maxRecDepth 100000 in
set_option maxHeartbeats 1000000 in
theorem grant_zero (b ml mk : Nat) (L : LS) (ttl : Int) (w : World) (h : IsLs w b ml mk L) (hok : LOk L) (h1 : L.last < topT) (h2 : 1 ≤ ttl) (h3 : ttl ≤ topT) (hm : L.n < 64) :
    Calls Tryz.prog 12 #[.pointer (some ⟨b, 0, none⟩), .int .i64 0, .int .i64 ttl] w fun e w' => e = .returned (.tuple #[.agg #[.int .i64 (L.last + 1), .int .i64 ttl], .int .i64 0]) ∧ IsLs w' b ml mk (L.granted 0 ttl) ∧ Upd (fun k => k = b ∨ k = ml) w w' := by
  have hlater := fun W => later_calls L.now ttl W hok.now0 hok.now1 (by omega)
  have HO := Lib.hid hok
  have hn : L.l 0 = none := by
    cases e : L.l 0 with
    | none => rfl
    | some x => have := (hok.ids 0 x e).1; omega
  have hn2 : L.l (L.last + 1) = none := by
    cases e : L.l (L.last + 1) with
    | none => rfl
    | some x => have := (hok.ids _ x e).2.1; omega
  have hl0 := hok.last0
  unfold topT at h1 h3
  have hl := (h.grow (upd_alloc _ w (.cells #[.int .i64 0, .int .i64 0] 41))).look 0 true
  rw [hn] at hl
  simp only [if_true, Option.map_none, Option.getD_none, Option.isSome_none] at hl
  have c2 : w.cell? ⟨b, 2, none⟩ = some (.map (some ml)) := cell_of h.blk 2
  have c1 : w.cell? ⟨b, 1, none⟩ = some (.int .i64 L.last) := cell_of h.blk 1
  have f1 := free_of h.blk 1
  have hb := lt_of_heap h.blk
  have hlen := fun W (hu : Upd (fun _ => False) w W) ty => (h.grow hu).lm.len (P := Tryz.prog) Tryz.underlying48 ty
  have hlen1 := hlen _ ((upd_alloc _ w (.cells #[.int .i64 0, .int .i64 0] 41)).alloc (.cells #[.int .i64 0, .int .i64 0] 67))
  have h64' : (L.n : Int) < (64 : Int) := by omega
  have H := Lib.hid h
  have HN := Lib.hid hn2
  clear hlen h hn hn2 hm hok
  generalize hLn : L.n = n at *
  generalize hLl : L.last = last at *
  generalize hLw : L.now = now at *
  have HLn := Lib.hid hLn
  have HLl := Lib.hid hLl
  have HLw := Lib.hid hLw
  clear hLn hLl hLw
  have z1 : (last == 4611686018427387904) = false := by simp; omega
  go_enter Tryz.func12, Tryz.ntmps12
  go_upto_region 11 with fail
  generalize hv : last + 1 = lm
  have h := H.out
  have hu0 : Upd (fun k => k = b) w (w.setCell ⟨b, 1, none⟩ (.int .i64 lm)) := upd_setCell _ _ _ _ rfl
  have hb0 : (w.setCell ⟨b, 1, none⟩ (.int .i64 lm)).heap[b]? = some (.cells #[.int .i64 now, .int .i64 lm, .map (some ml), .map (some mk)] 51 (0, 0)) := by
    rw [heap_setCell_at h.blk 1 _, HLw.out]; rfl
  have hL0 : IsLs (w.setCell ⟨b, 1, none⟩ (.int .i64 lm)) b ml mk { L with last := lm } :=
    { blk := by rw [hb0, HLw.out], lm := h.lm.upd hu0 h.n1, km := h.km.upd hu0 h.n2, n1 := h.n1, n2 := h.n2, n3 := h.n3 }
  have ha1 := heap_alloc (w.setCell ⟨b, 1, none⟩ (.int .i64 lm)) (.cells #[.int .i64 0, .int .i64 0] 41)
  have hs0 : (w.setCell ⟨b, 1, none⟩ (.int .i64 lm)).heap.size = w.heap.size := by simp
  rw [hs0] at ha1
  generalize w.setCell ⟨b, 1, none⟩ (.int .i64 lm) = w0 at *
  have hr1 := (upd_alloc (fun _ => False) _ (.cells #[.int .i64 0, .int .i64 0] 67)).heap ha1.1 (fun x => x)
  have hL1 := (hL0.grow (upd_alloc _ w0 (.cells #[.int .i64 0, .int .i64 0] 41))).grow (upd_alloc _ _ (.cells #[.int .i64 0, .int .i64 0] 67))
  have hu1 : Upd (fun k => k = b) w ((w0.alloc (.cells #[.int .i64 0, .int .i64 0] 41)).alloc (.cells #[.int .i64 0, .int .i64 0] 67)) := (hu0.alloc _).alloc _
  clear ha1 hL0 hb0 hs0 hu0 c1 c2 f1 hl hlen1
  generalize (w0.alloc (.cells #[.int .i64 0, .int .i64 0] 41)).alloc (.cells #[.int .i64 0, .int .i64 0] 67) = W at *
  have hdr : Upd (fun _ => False) W W.drew := (Upd.refl _ _).drew
  have hL2 := hL1.grow hdr
  obtain ⟨w', hup, hmap, o, rfl⟩ := hL2.lm.update (P := Tryz.prog) (keyT_int .i64) Tryz.underlying48 Tryz.underlying2 lm (.agg #[.int .i64 ttl, .int .i64 (laterI now ttl)])
  have c0 : W.drew.cell? ⟨b, 0, none⟩ = some (.int .i64 now) := by have := cell_of hL2.blk 0; rw [HLw.out] at this; exact this
  have c2 : W.drew.cell? ⟨b, 2, none⟩ = some (.map (some ml)) := cell_of hL2.blk 2
  have hbml : ml ≠ b := h.n1
  have hu2 : Upd (fun k => k = ml) W (setBlock W.drew ml o) := (upd_setBlock (fun k => k = ml) W.drew ml o rfl).undrew
  have hmlt := h.lm.lt
  have hmklt := h.km.lt
  have hr2 := hu2.heap hr1 (by omega)
  have HU := Lib.hid (show Upd (fun k => k = b ∨ k = ml) w (setBlock W.drew ml o) from (hu1.mono (fun _ _ => .inl)).trans' hu2 (fun x _ e => .inr e))
  have HK := Lib.hid (show IsLs (setBlock W.drew ml o) b ml mk (L.granted 0 ttl) from by
    refine { blk := hu2.heap hL1.blk (by omega) |>.trans ?_, lm := ?_, km := hL1.km.upd hu2 (Ne.symm h.n3), n1 := h.n1, n2 := h.n2, n3 := h.n3 }
    · have e : lm = max L.last (L.gid 0) := by rw [LS.gid_zero, HLl.out]; omega
      show some (Obj.cells #[.int .i64 L.now, .int .i64 lm, .map (some ml), .map (some mk)] 51 (0, 0)) = _
      rw [e]; rfl
    · have hg : L.gid 0 = lm := by rw [LS.gid_zero, HLl.out, hv]
      have e1 : (fun k => if k = lm then some (Value.agg #[.int .i64 ttl, .int .i64 (laterI now ttl)]) else (L.l k).map heldV) = fun k => ((L.granted 0 ttl).l k).map heldV := by
        funext k
        show _ = Option.map heldV (if k = L.gid 0 then some (ttl, laterI L.now ttl) else L.l k)
        rw [hg, HLw.out]
        split <;> rfl
      have e2 : (if ((L.l lm).map heldV).isSome = true then L.n else L.n + 1) = L.n + 1 := by rw [show L.l lm = none by rw [← hv]; exact HN.out]; rfl
      have hmap' := hmap
      simp only at hmap'
      rw [e1, e2] at hmap'
      exact hmap')
  have HR := Lib.hid hr2
  clear hL1 hL2 hmap hu1 hu2 hr1 hr2 h hdr
  go_region_held3 (fun w' => w'.cell? ⟨b, 0, none⟩ = some (.int .i64 now) ∧ w'.cell? ⟨b, 2, none⟩ = some (.map (some ml))) (first | exact ⟨c0, c2⟩ | exact ⟨(cell_setBlock _ (Ne.symm hbml)).trans c0, (cell_setBlock _ (Ne.symm hbml)).trans c2⟩)
    ((go_at_call 33; (with_reducible refine (hlater _).mono ?_); rintro e9 w9 ⟨rfl, rfl⟩))
  clear c0 c2
  generalize setBlock W.drew ml o = W2 at *
  have hr := HR.out
  go_wp2_with (first | ((with_reducible refine wpl_store (ty := 41) (cs := #[.int .i64 lm, .int .i64 ttl]) hr ?_ ?_ ?_ ?_ ?_ ?_); rfl; rfl; rfl; kernel_rfl; rfl; intro W3 hq3 hu3 hs3 hd3; have e0 : W3.cell? ⟨w.heap.size, 0, none⟩ = some (.int .i64 lm) := cell_of hq3 0; have e1 : W3.cell? ⟨w.heap.size, 1, none⟩ = some (.int .i64 ttl) := cell_of hq3 1))
  refine bodyPost_ret (v := .tuple #[.agg #[.int .i64 lm, .int .i64 ttl], .int .i64 0]) (by simp [results, Tryz.results12, go_sem, e0, e1]) rfl ⟨by rw [← hv], ?_, ?_⟩
  · exact HK.out.upd hu3 (by omega) (by omega) (by omega)
  · exact HU.out.trans' hu3 (fun x hx e => by omega)

theorem granted_zero (L : LS) (ttl : Int) (h : 0 ≤ L.last) : L.granted 0 ttl = L.granted (L.last + 1) ttl := by
  unfold LS.granted
  rw [LS.gid_zero, show L.gid (L.last + 1) = L.last + 1 from if_neg (by omega)]

theorem LOk.granted {L : LS} (h : LOk L) {id ttl : Int} (h0 : 1 ≤ L.gid id) (h1 : L.gid id ≤ topT) (h2 : 1 ≤ ttl) (h3 : ttl ≤ topT) (hm : L.n < 64) : LOk (L.granted id ttl) := by
  have hl := laterI_range h.now0 h.now1 (show 0 ≤ ttl by omega)
  have a1 := h.last0
  have a2 := h.last1
  refine { now0 := h.now0, now1 := h.now1, last0 := ?_, last1 := ?_, ids := fun i x hx => ?_, few := Nat.succ_le_of_lt hm }
  · show 0 ≤ max L.last (L.gid id); omega
  · show max L.last (L.gid id) ≤ topT; omega
  · have hx' : (if i = L.gid id then some (ttl, laterI L.now ttl) else L.l i) = some x := hx
    show 1 ≤ i ∧ i ≤ max L.last (L.gid id) ∧ _
    by_cases e : i = L.gid id
    · rw [if_pos e] at hx'
      cases hx'
      exact ⟨by omega, by omega, h2, h3, hl.1, hl.2.1⟩
    · rw [if_neg e] at hx'
      obtain ⟨b1, b2, b3⟩ := h.ids i x hx'
      exact ⟨b1, by omega, b3⟩

/-- `_, there := x.l[id]` .. -/
def LS.kept (L : LS) (id ttl : Int) : LS := { L with l := fun k => if k = id then some (ttl, laterI L.now ttl) else L.l k }
theorem LOk.kept {L : LS} (h : LOk L) {id : Int} {x : Int × Int} (hx : L.l id = some x) : LOk (L.kept id x.1) := by
  obtain ⟨b1, b2, b3, b4, b5⟩ := h.ids id x hx
  have hl := laterI_range h.now0 h.now1 (show 0 ≤ x.1 by omega)
  refine { h with ids := fun i y hy => ?_ }
  have hy' : (if i = id then some (x.1, laterI L.now x.1) else L.l i) = some y := hy
  by_cases e : i = id
  · rw [if_pos e] at hy'
    cases hy'
    exact ⟨by omega, by rw [e]; exact b2, b3, b4, hl.1, hl.2.1⟩
  · rw [if_neg e] at hy'
    exact h.ids i y hy'

theorem keep_no (b ml mk : Nat) (L : LS) (id : Int) (w : World) (h : IsLs w b ml mk L) (hn : L.l id = none) :
    Calls Tryz.prog 20 #[.pointer (some ⟨b, 0, none⟩), .int .i64 id] w fun e w' => e = .returned (.tuple #[.int .i64 0, .int .i64 17]) ∧ Upd (fun _ => False) w w' := by
  have hf := find_no b ml mk L id w h hn
  clear h hn
  go_enter Tryz.func20, Tryz.ntmps20
  go_wp2_with (go_at_call 39; (with_reducible refine hf.mono ?_); rintro e w1 ⟨rfl, hu1⟩)
  go_ret2
  exact ⟨rfl, hu1.alloc _⟩

set_option maxRecDepth 100000 in
set_option maxHeartbeats 1000000 in
theorem keep_yes (b ml mk : Nat) (L : LS) (id : Int) (x : Int × Int) (w : World) (h : IsLs w b ml mk L) (hok : LOk L) (hn : L.l id = some x) :
    Calls Tryz.prog 20 #[.pointer (some ⟨b, 0, none⟩), .int .i64 id] w fun e w' => e = .returned (.tuple #[.int .i64 x.1, .int .i64 0]) ∧ IsLs w' b ml mk (L.kept id x.1) ∧ Upd (fun k => k = ml) w w' := by
  obtain ⟨b1, b2, b3, b4, b5⟩ := hok.ids id x hn
  have hf := find_yes b ml mk L id x w h hn
  have hlater := fun W => later_calls L.now x.1 W hok.now0 hok.now1 (by omega)
  have H := Lib.hid h
  have HN := Lib.hid hn
  clear h hn hok b1 b2 b3 b4 b5
  obtain ⟨ttl, due⟩ := x
  generalize hLw : L.now = now at *
  have HLw := Lib.hid hLw
  clear hLw
  go_enter Tryz.func20, Tryz.ntmps20
  go_upto_region 4 with (go_at_call 39; (with_reducible refine hf.mono ?_); rintro e w1 ⟨rfl, hu1⟩)
  have h := H.out
  have hW := heap_alloc w1 (.cells #[.int .i64 ttl, .int .i64 due] 67)
  have hu2 := hu1.alloc (.cells #[.int .i64 ttl, .int .i64 due] 67)
  have hr := hW.1
  have hge := hu1.size
  clear hW hu1
  generalize w1.alloc (.cells #[.int .i64 ttl, .int .i64 due] 67) = W at *
  generalize w1.heap.size = r at *
  have hL2 := h.grow (hu2.drew)
  obtain ⟨w', hup, hmap, o, rfl⟩ := hL2.lm.update (P := Tryz.prog) (keyT_int .i64) Tryz.underlying48 Tryz.underlying2 id (.agg #[.int .i64 ttl, .int .i64 (laterI now ttl)])
  have c0 : W.drew.cell? ⟨b, 0, none⟩ = some (.int .i64 now) := by have := cell_of hL2.blk 0; rw [HLw.out] at this; exact this
  have c2 : W.drew.cell? ⟨b, 2, none⟩ = some (.map (some ml)) := cell_of hL2.blk 2
  have cr : W.drew.cell? ⟨r, 0, none⟩ = some (.int .i64 ttl) := cell_of hr 0
  have hbml : ml ≠ b := h.n1
  have hmlt := h.lm.lt
  have hrml : r ≠ ml := by omega
  have hu3 : Upd (fun k => k = ml) W (setBlock W.drew ml o) := (upd_setBlock (fun k => k = ml) W.drew ml o rfl).undrew
  have HU := Lib.hid (show Upd (fun k => k = ml) w (setBlock W.drew ml o) from (hu2.weak _).trans hu3)
  have HR := Lib.hid (show (setBlock W.drew ml o).cell? ⟨r, 0, none⟩ = some (.int .i64 ttl) from (cell_setBlock _ hrml).trans cr)
  have HK := Lib.hid (show IsLs (setBlock W.drew ml o) b ml mk (L.kept id ttl) from by
    refine { blk := (hu3.heap ((h.grow hu2).blk) (by omega)), lm := ?_, km := (h.grow hu2).km.upd hu3 (Ne.symm h.n3), n1 := h.n1, n2 := h.n2, n3 := h.n3 }
    have e1 : (fun k => if k = id then some (Value.agg #[.int .i64 ttl, .int .i64 (laterI now ttl)]) else (L.l k).map heldV) = fun k => ((L.kept id ttl).l k).map heldV := by
      funext k
      show _ = Option.map heldV (if k = id then some (ttl, laterI L.now ttl) else L.l k)
      rw [HLw.out]
      split <;> rfl
    have e2 : (if ((L.l id).map heldV).isSome = true then L.n else L.n + 1) = L.n := by rw [HN.out]; rfl
    rw [e1, e2] at hmap
    exact hmap)
  clear hL2 hmap hu2 hu3 h hr hmlt hge
  go_region_held3 (fun w' => w'.cell? ⟨b, 0, none⟩ = some (.int .i64 now) ∧ w'.cell? ⟨b, 2, none⟩ = some (.map (some ml)) ∧ w'.cell? ⟨r, 0, none⟩ = some (.int .i64 ttl))
    (first | exact ⟨c0, c2, cr⟩ | exact ⟨(cell_setBlock _ (Ne.symm hbml)).trans c0, (cell_setBlock _ (Ne.symm hbml)).trans c2, (cell_setBlock _ hrml).trans cr⟩)
    ((go_at_call 33; (with_reducible refine (hlater _).mono ?_); rintro e9 w9 ⟨rfl, rfl⟩))
  clear c0 c2 cr
  have hr := HR.out
  go_wp2
  go_ret2
  exact ⟨rfl, HK.out, HU.out⟩

open Classical in
/-- What Grant says. -/
def GrantSays (b ml mk : Nat) (L : LS) (id ttl : Int) (w : World) (e : Ending) (w' : World) : Prop :=
  if L.grantE id ttl = 0 then e = .returned (.tuple #[.agg #[.int .i64 (L.gid id), .int .i64 ttl], .int .i64 0]) ∧ IsLs w' b ml mk (L.granted id ttl) ∧ LOk (L.granted id ttl) ∧ Upd (fun k => k = b ∨ k = ml) w w'
  else e = .returned (.tuple #[.agg #[.int .i64 0, .int .i64 0], .int .i64 (L.grantE id ttl)]) ∧ Upd (fun _ => False) w w'

theorem grant_calls (b ml mk : Nat) (L : LS) (id ttl : Int) (w : World) (h : IsLs w b ml mk L) (hok : LOk L) :
    Calls Tryz.prog 12 #[.pointer (some ⟨b, 0, none⟩), .int .i64 id, .int .i64 ttl] w (GrantSays b ml mk L id ttl w) := by
  by_cases h1 : id < 0 ∨ topT < id ∨ ttl < 1 ∨ topT < ttl
  · have e : L.grantE id ttl = 1 := if_pos h1
    refine (grant_arg b id ttl w h1).mono fun e' w' h' => ?_
    unfold GrantSays
    rw [e, if_neg (by decide)]
    exact h'
  · cases hx : L.l id with
    | some x =>
      have e : L.grantE id ttl = 8 := by unfold LS.grantE; rw [if_neg h1, hx]; rfl
      refine (grant_exist b ml mk L id ttl x w h (by omega) (by omega) (by omega) (by omega) hx).mono fun e' w' h' => ?_
      unfold GrantSays
      rw [e, if_neg (by decide)]
      exact h'
    | none =>
      by_cases hm : 64 ≤ L.n ∨ (id = 0 ∧ L.last = topT)
      · have e : L.grantE id ttl = 15 := by unfold LS.grantE; rw [if_neg h1, hx, if_neg (by decide), if_pos hm]
        refine (grant_many b ml mk L id ttl w h (by omega) (by omega) (by omega) (by omega) hx hm).mono fun e' w' h' => ?_
        unfold GrantSays
        rw [e, if_neg (by decide)]
        exact h'
      · have e : L.grantE id ttl = 0 := by unfold LS.grantE; rw [if_neg h1, hx, if_neg (by decide), if_neg hm]
        have hl1 := hok.last1
        have hl0 := hok.last0
        by_cases h0 : id = 0
        · subst h0
          have hlt : L.last < topT := by omega
          have ho := hok.granted (id := 0) (ttl := ttl) (by rw [LS.gid_zero]; omega) (by rw [LS.gid_zero]; omega) (by omega) (by omega) (by omega)
          refine (grant_zero b ml mk L ttl w h hok hlt (by omega) (by omega) (by omega)).mono fun e' w' h' => ?_
          unfold GrantSays
          rw [e, if_pos rfl, LS.gid_zero]
          exact ⟨h'.1, h'.2.1, ho, h'.2.2⟩
        · have hg : L.gid id = id := if_neg h0
          have ho := hok.granted (id := id) (ttl := ttl) (by rw [hg]; omega) (by rw [hg]; omega) (by omega) (by omega) (by omega)
          refine (grant_id b ml mk L id ttl w h hok (by omega) (by omega) (by omega) (by omega) hx (by omega)).mono fun e' w' h' => ?_
          unfold GrantSays
          rw [e, if_pos rfl, hg]
          exact ⟨h'.1, h'.2.1, ho, h'.2.2⟩

end Go.Proofs.YtcbngjlgcgcljaaGreat
