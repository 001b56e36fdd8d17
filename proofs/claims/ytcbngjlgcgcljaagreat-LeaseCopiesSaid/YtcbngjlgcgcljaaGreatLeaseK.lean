/-
  A lessor: Attach.
-/
import Derived.Deep.RegionHeld3
import Derived.Deep.CutRange
import Derived.Test.YtcbngjlgcgcljaaGreatLeaseI
import Derived.Test.YtcbngjlgcgcljaaGreatBytesK
namespace Go.Proofs.YtcbngjlgcgcljaaGreat
open Go.RowKit Go.Tb Go.MapKept Go.ChangeMaps Go.Lib
set_option linter.unusedVariables false

/-- What keys may be. -/
structure KOk (L : LS) : Prop where
  len : ∀ s i, L.keys s = some i → s.length ≤ 1000
  there : ∀ s i, L.keys s = some i → i ≠ 0 ∧ (L.l i).isSome = true

def LS.free (L : LS) (key : List UInt8) : LS := { L with keys := fun s => if s = key then none else L.keys s, nk := if (L.keys key).isSome then L.nk - 1 else L.nk }
def LS.hung (L : LS) (key : List UInt8) (id : Int) : LS := { L with keys := fun s => if s = key then some id else L.keys s, nk := if (L.keys key).isSome then L.nk else L.nk + 1 }

/-- What is changed of a map changes no bytes. -/
theorem Bytes.setMap {α : Type} {mk : α → Value} {w : World} {m n : Nat} {f : α → Option Value} {v : Value} {l : List UInt8} (h : Bytes w v l) (hm : IsMap mk w m f n) (o : Obj) : Bytes (setBlock w m o) v l := by
  rcases h with (h | ⟨b, off, cap, rfl, hc, hb, hx⟩) | h
  · exact .inl (.inl h)
  · have hu : Upd (fun k => k = m) w (setBlock w m o) := upd_setBlock _ _ _ _ rfl
    refine .inl (.inr ⟨b, off, cap, rfl, hc, Nat.lt_of_lt_of_le hb hu.size, fun i hi => hu.cell (hx i hi) (fun e => ?_)⟩)
    obtain ⟨es, clock, hh, -⟩ := hm
    have e' : b = m := e
    subst e'
    have := hx i hi
    simp [World.cell?, hh] at this
  · exact .inr h

theorem zero_key (w : World) : (zeroValue 2).run Tryz.prog w = .ok (.int .i64 0) w := by kernel_rfl
theorem some_map {α β : Type} (f : α → β) (o : Option α) : (o.map f).isSome = o.isSome := by cases o <;> rfl

set_option maxRecDepth 100000 in
set_option maxHeartbeats 1000000 in
theorem attach_zero (b ml mk : Nat) (L : LS) (v : Value) (key : List UInt8) (w : World) (h : IsLs w b ml mk L) (hv : Bytes w v key) :
    Calls Tryz.prog 23 #[.pointer (some ⟨b, 0, none⟩), v, .int .i64 0] w fun e w' => e = .returned (.int .i64 0) ∧ IsLs w' b ml mk (L.free key) ∧ Upd (fun k => k = mk) w w' := by
  have hd : Upd (fun _ => False) w w.drew := (Upd.refl _ _).drew
  have hcv := run_to_str (src := 32) (dst := 9) Tryz.underlying32 Tryz.underlying5 Tryz.underlying9 (hv.grow hd)
  obtain ⟨a, c, rfl⟩ := hv.form
  have hL := h.grow hd
  obtain ⟨o, hdel, hm⟩ := hL.km.delete (P := Tryz.prog) keyT_skey Tryz.underlying49 Tryz.underlying9 key
  have c3 : w.drew.cell? ⟨b, 3, none⟩ = some (.map (some mk)) := cell_of hL.blk 3
  have hu : Upd (fun k => k = mk) w (setBlock w.drew mk o) := (hd.weak _).trans (upd_setBlock _ _ _ _ rfl)
  have HL := Lib.hid (show IsLs (setBlock w.drew mk o) b ml mk (L.free key) from by
    refine { blk := hu.heap h.blk (Ne.symm h.n2), lm := h.lm.upd hu h.n3, km := ?_, n1 := h.n1, n2 := h.n2, n3 := h.n3 }
    have e1 : (fun s => if s = key then none else (L.keys s).map (Value.int .i64)) = fun s => ((L.free key).keys s).map (Value.int .i64) := by
      funext s
      show _ = Option.map _ (if s = key then none else L.keys s)
      split <;> rfl
    rw [e1, some_map] at hm
    exact hm)
  have HU := Lib.hid hu
  have hbk : b ≠ mk := Ne.symm h.n2
  have hcv2 := run_to_str (src := 32) (dst := 9) Tryz.underlying32 Tryz.underlying5 Tryz.underlying9 ((hv.grow hd).setMap hL.km o)
  clear h hv hL hm hu hd
  go_enter Tryz.func23, Tryz.ntmps23
  go_wp2
  go_region_held3 (fun w' => w'.cell? ⟨b, 3, none⟩ = some (.map (some mk)) ∧ (convert 32 9 (.slice a key.length c)).run Tryz.prog w' = .ok (.string (strB key)) w') (first | exact ⟨c3, hcv⟩ | exact ⟨(cell_setBlock _ hbk).trans c3, hcv2⟩)
    (first | (refine step_delete hdel (by rfl) (by rfl) (by rfl) (by rfl) ?_))
  go_wp2
  go_ret
  exact ⟨rfl, HL.out, HU.out⟩

set_option maxRecDepth 100000 in
set_option maxHeartbeats 1000000 in
theorem attach_no (b ml mk : Nat) (L : LS) (v : Value) (id : Int) (w : World) (h : IsLs w b ml mk L) (h0 : id ≠ 0) (hn : L.l id = none) :
    Calls Tryz.prog 23 #[.pointer (some ⟨b, 0, none⟩), v, .int .i64 id] w fun e w' => e = .returned (.int .i64 17) ∧ Upd (fun _ => False) w w' := by
  have hf := find_no b ml mk L id w h hn
  clear h hn
  go_enter Tryz.func23, Tryz.ntmps23
  go_wp2_with (go_at_call 39; (with_reducible refine hf.mono ?_); rintro e1 w1 ⟨rfl, hu1⟩)
  go_ret
  exact ⟨rfl, hu1.alloc _⟩

set_option maxRecDepth 100000 in
set_option maxHeartbeats 1000000 in
theorem attach_yes (b ml mk : Nat) (L : LS) (v : Value) (key : List UInt8) (id : Int) (x : Int × Int) (w : World) (h : IsLs w b ml mk L) (hv : Bytes w v key) (h0 : id ≠ 0) (hn : L.l id = some x) :
    Calls Tryz.prog 23 #[.pointer (some ⟨b, 0, none⟩), v, .int .i64 id] w fun e w' => e = .returned (.int .i64 0) ∧ IsLs w' b ml mk (L.hung key id) ∧ Upd (fun k => k = mk) w w' := by
  have hf := find_yes b ml mk L id x w h hn
  obtain ⟨a, c, rfl⟩ := hv.form
  have hbk : b ≠ mk := Ne.symm h.n2
  obtain ⟨ttl, due⟩ := x
  have H := Lib.hid h
  have HV := Lib.hid hv
  clear h hv hn
  go_enter Tryz.func23, Tryz.ntmps23
  go_upto_region 9 with (go_at_call 39; (with_reducible refine hf.mono ?_); rintro e1 w1 ⟨rfl, hu1⟩)
  have hu2 := (hu1.alloc (.cells #[.int .i64 ttl, .int .i64 due] 67)).drew
  have hL := H.out.grow hu2
  have hcv := run_to_str (src := 32) (dst := 9) Tryz.underlying32 Tryz.underlying5 Tryz.underlying9 (HV.out.grow hu2)
  obtain ⟨w9, hup, hm, o, rfl⟩ := hL.km.update (P := Tryz.prog) keyT_skey Tryz.underlying49 Tryz.underlying9 key (.int .i64 id)
  have c3 : (w1.alloc (.cells #[.int .i64 ttl, .int .i64 due] 67)).drew.cell? ⟨b, 3, none⟩ = some (.map (some mk)) := cell_of hL.blk 3
  have hcv2 := run_to_str (src := 32) (dst := 9) Tryz.underlying32 Tryz.underlying5 Tryz.underlying9 ((HV.out.grow hu2).setMap hL.km o)
  have hup' : (Instr.mapUpdate 49 (.map (some mk)) (.string (strB key)) (.int .i64 id)).run Tryz.prog (w1.alloc (.cells #[.int .i64 ttl, .int .i64 due] 67)).drew = .ok () (setBlock (w1.alloc (.cells #[.int .i64 ttl, .int .i64 due] 67)).drew mk o) := hup
  clear hup
  have HM := Lib.hid hm
  have HU2 := Lib.hid hu2
  clear hm hu1 hu2 hL
  go_region_held3 (fun w' => w'.cell? ⟨b, 3, none⟩ = some (.map (some mk)) ∧ (convert 32 9 (.slice a key.length c)).run Tryz.prog w' = .ok (.string (strB key)) w') (first | exact ⟨c3, hcv⟩ | exact ⟨(cell_setBlock _ hbk).trans c3, hcv2⟩) (fail)
  go_wp2
  go_ret
  have hu : Upd (fun k => k = mk) w (setBlock (w1.alloc (.cells #[.int .i64 ttl, .int .i64 due] 67)).drew mk o) := (HU2.out.weak _).trans (upd_setBlock _ _ _ _ rfl)
  refine ⟨rfl, { blk := hu.heap H.out.blk (Ne.symm H.out.n2), lm := H.out.lm.upd hu H.out.n3, km := ?_, n1 := H.out.n1, n2 := H.out.n2, n3 := H.out.n3 }, hu⟩
  have hm := HM.out
  have e1 : (fun s => if s = key then some (.int .i64 id) else (L.keys s).map (Value.int .i64)) = fun s => ((L.hung key id).keys s).map (Value.int .i64) := by
    funext s
    show _ = Option.map _ (if s = key then some id else L.keys s)
    split <;> rfl
  rw [e1, some_map] at hm
  exact hm

end Go.Proofs.YtcbngjlgcgcljaaGreat
