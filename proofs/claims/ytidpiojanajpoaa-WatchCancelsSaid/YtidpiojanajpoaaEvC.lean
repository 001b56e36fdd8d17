/-
  Rows of events; batch.twins.
-/
import Derived.Test.YtidpiojanajpoaaEvB
import Derived.Test.YtidpiojanajpoaaBigApp
namespace Go.Proofs.Ytidpiojanajpoaa
open Go.RowKit Go.Tb Go.MapKept Go.ChangeMaps
set_option linter.unusedVariables false

/-- A row of events of the call's own, whose bytes lie in J. -/
structure EvRow (w : World) (base : Nat) (J : Nat → Prop) (v : Value) (rs : List EvP) : Prop where
  own : w.ownsRow base 59 14 v rs.length (rs.flatMap evenc)
  ok : ∀ p ∈ rs, p.Ok w J
  dj : ∀ b, sliceBlock v = some b → ¬ J b
  ge : ∀ b, J b → base ≤ b ∧ b < w.heap.size

theorem evRow_nil (w : World) (base : Nat) : EvRow w base (fun _ => False) (.slice none 0 0) [] :=
  { own := World.ownsRow_nil _ _ _ _, ok := fun p hp => (by cases hp), dj := fun b hb => (by cases hb), ge := fun b hb => hb.elim }
theorem EvRow.upd {w w' : World} {base : Nat} {J S : Nat → Prop} {v : Value} {rs : List EvP} (h : EvRow w base J v rs) (hu : Upd S w w') (hn : ∀ b, sliceBlock v = some b → ¬ S b) (hi : ∀ b, J b → ¬ S b) : EvRow w' base J v rs :=
  { own := own_upd' h.own hu hn, ok := fun p hp => (h.ok p hp).upd hu hi, dj := h.dj, ge := fun b hb => ⟨(h.ge b hb).1, Nat.lt_of_lt_of_le (h.ge b hb).2 hu.size⟩ }
theorem EvRow.grow {w w' : World} {base : Nat} {J : Nat → Prop} {v : Value} {rs : List EvP} (h : EvRow w base J v rs) (hu : Upd (fun _ => False) w w') : EvRow w' base J v rs := h.upd hu (fun _ _ x => x) (fun _ _ x => x)
theorem EvRow.evs {w : World} {base : Nat} {J : Nat → Prop} {v : Value} {rs : List EvP} (h : EvRow w base J v rs) : Evs w J v rs := ⟨(sl_of_own evenc_length h.own).1, h.ok⟩
theorem EvRow.blk {w : World} {base : Nat} {J : Nat → Prop} {v : Value} {rs : List EvP} (h : EvRow w base J v rs) : ∀ b, sliceBlock v = some b → base ≤ b ∧ b < w.heap.size := own_ge h.own
theorem EvRow.lower {w : World} {base base' : Nat} {J : Nat → Prop} {v : Value} {rs : List EvP} (h : EvRow w base J v rs) (hb : base' ≤ base) : EvRow w base' J v rs := by
  refine { own := ⟨h.own.1, ?_⟩, ok := h.ok, dj := h.dj, ge := fun b hJ => ⟨Nat.le_trans hb (h.ge b hJ).1, (h.ge b hJ).2⟩ }
  rcases h.own.2 with h1 | ⟨g, cap, cur, h1, h2, h3⟩
  · exact .inl h1
  · exact .inr ⟨g, cap, cur, h1, Nat.le_trans hb h2, h3⟩

theorem under_Evs : Try.prog.underlying 32 = some (.slice 59) := by kernel_rfl

/-- `append(x, y...)` of events. -/
theorem EvRow.append {w : World} {base : Nat} {J I : Nat → Prop} {v v2 : Value} {rs l2 : List EvP} (h : EvRow w base J v rs) (h2 : Evs w I v2 l2) (hI : ∀ b, I b → base ≤ b ∧ b < w.heap.size) (hd : ∀ b, sliceBlock v = some b → ¬ I b) (hb : base ≤ w.heap.size) (hl : rs.length + l2.length ≤ 900000000000) :
    ∃ a c w', (∀ ty, (Builtin.append_ #[32, 32] ty #[v, v2]).run Try.prog w = .ok (.slice a (rs ++ l2).length c) w') ∧ EvRow w' base (fun b => J b ∨ I b) (.slice a (rs ++ l2).length c) (rs ++ l2) ∧ Upd (fun b => sliceBlock v = some b) w w' ∧
      (sliceBlock (.slice a (rs ++ l2).length c) = sliceBlock v ∨ sliceBlock (.slice a (rs ++ l2).length c) = some w.heap.size) := by
  obtain ⟨a, c, w', h3, h4, h5, h6⟩ := run_append_far (P := Try.prog) (z := .agg #[.int .i64 0, .slice none 0 0, .slice none 0 0, .int .i64 0, .int .i64 0, .int .i64 0, .int .i64 0, .bool false, .slice none 0 0, .slice none 0 0, .int .i64 0, .int .i64 0, .int .i64 0, .int .i64 0]) under_Evs info_Ev rfl (by decide) evenc_length evenc_one h.own h2.1 hb (by omega) (by omega) (by decide)
  refine ⟨a, c, w', h3, { own := h4, ok := fun p hp => ?_, dj := fun b hb => ?_, ge := fun b hb => ?_ }, h5, h6⟩
  · rcases List.mem_append.1 hp with hp | hp
    · exact ((h.ok p hp).upd h5 (fun b hb e => h.dj b e hb)).wider (fun b hb => .inl hb)
    · exact ((h2.2 p hp).upd h5 (fun b hb e => hd b e hb)).wider (fun b hb => .inr hb)
  · rcases h6 with e | e
    · rw [e] at hb
      rintro (hJ | hJ)
      · exact h.dj b hb hJ
      · exact hd b hb hJ
    · rw [e] at hb; cases hb
      rintro (hJ | hJ)
      · have := (h.ge _ hJ).2; omega
      · have := (hI _ hJ).2; omega
  · have hs := h5.size
    rcases hb with hb | hb
    · have := h.ge b hb; omega
    · have := hI b hb; omega

/-- An event's value, written out. -/
abbrev evx (p : EvP) : Array Value := #[.int .i64 p.kind, .slice p.kv.k.a p.kv.k.n p.kv.k.c, .slice p.kv.v.a p.kv.v.n p.kv.v.c, .int .i64 p.kv.x.create, .int .i64 p.kv.x.mod, .int .i64 p.kv.x.version, .int .i64 p.kv.x.lease, .bool p.had, .slice p.prev.k.a p.prev.k.n p.prev.k.c, .slice p.prev.v.a p.prev.v.n p.prev.v.c, .int .i64 p.prev.x.create, .int .i64 p.prev.x.mod, .int .i64 p.prev.x.version, .int .i64 p.prev.x.lease]
theorem evx_eq (q : EvP) : (evenc q).toArray = evx q := rfl

/-- The append of one event that lies in a block of its own. -/
theorem EvRow.more {w w4 : World} {base : Nat} {J : Nat → Prop} {a : Option Addr} {n c : Nat} {rs : List EvP} (h : EvRow w base J (.slice a n c) rs) (hn : n = rs.length) (hu : Upd (fun _ => False) w w4) {p : EvP} (hp : p.Ok w4 (fun b => w.heap.size ≤ b ∧ b < w4.heap.size)) (hb : base ≤ w.heap.size) (hl : rs.length ≤ 800000000000) :
    ∃ a' c' w5, (∀ ty, (Builtin.append_ #[32, 32] ty #[.slice a n c, .slice (some ⟨w4.heap.size, 0, none⟩) 1 1]).run Try.prog (w4.alloc (.cells (evx p) 59)) = .ok (.slice a' (n + 1) c') w5) ∧ (∃ J', EvRow w5 base J' (.slice a' (n + 1) c') (rs ++ [p])) ∧ Upd (fun b => sliceBlock (.slice a n c) = some b) w w5 := by
  have hua := upd_alloc (fun _ => False) w4 (.cells (evx p) 59)
  have hs := hu.size
  have hs1 : (w4.alloc (.cells (evx p) 59)).heap.size = w4.heap.size + 1 := by simp
  have h1 : Evs (w4.alloc (.cells (evx p) 59)) (fun b => w.heap.size ≤ b ∧ b < w4.heap.size) (.slice (some ⟨w4.heap.size, 0, none⟩) 1 1) [p] :=
    ⟨sl_one (enc := evenc) (heap_alloc w4 (.cells (evx p) 59)).1, fun q hq => by rw [List.mem_singleton.1 hq]; exact hp.grow hua⟩
  obtain ⟨a', c', w5, h3, h4, h5, h6⟩ := (h.grow (hu.trans hua)).append h1 (fun b hb => ⟨by omega, by omega⟩) (fun b hb e => by have := (h.blk b hb).2; omega) (by omega) (by simp; omega)
  have e : (rs ++ [p]).length = n + 1 := by rw [List.length_append, hn]; rfl
  rw [e] at h3 h4
  exact ⟨a', c', w5, h3, ⟨_, h4⟩, (hu.trans hua).seq h5 _ (fun _ _ x => x.elim) (fun _ _ x => x)⟩

set_option maxRecDepth 100000 in
set_option maxHeartbeats 1000000 in
theorem btwins_calls (v : Value) (ps : List EvP) (I : Nat → Prop) (w : World) (h : Evs w I v ps) (hs : ∀ p ∈ ps, p.x.Small) (hn : ps.length ≤ 800000000000) :
    Calls Try.prog 47 #[v] w fun e w' => ∃ a c rs J, e = .returned (.slice a rs.length c) ∧ rs.map EvP.x = ps.map EvP.x ∧ EvRow w' w.heap.size J (.slice a rs.length c) rs ∧ Upd (fun _ => False) w w' := by
  obtain ⟨a, c, rfl, hc⟩ := h.1.shape
  have H := Lib.hid h
  have HS := Lib.hid hs
  clear h hs
  go_enter Try.func47, Try.ntmps47
  go_wp2
  go_loopw [3, 8] (fun o i wr => ∃ (k : Nat) (va : Option Addr) (vc : Nat) (rs : List EvP) (J : Nat → Prop), k ≤ ps.length ∧ i = .int .i64 k ∧ o = .slice va rs.length vc ∧ rs.map EvP.x = (ps.take k).map EvP.x ∧ EvRow wr w.heap.size J (.slice va rs.length vc) rs ∧ Upd (fun _ => False) w wr) (fun _ i _ => ps.length - (intOf i).toNat)
  case atStart => exact ⟨0, none, 0, [], _, Nat.zero_le _, rfl, rfl, by simp, evRow_nil w _, Upd.refl _ _⟩
  case round =>
    obtain ⟨k, va, vc, rs, J, hk, rfl, rfl, he, hr, hu⟩ := hrel
    have hrl : rs.length = k := by have := congrArg List.length he; simpa [Nat.min_eq_left hk] using this
    have HR := Lib.hid (show EvRow wr w.heap.size J (.slice va k vc) rs from hrl ▸ hr)
    have HU := Lib.hid hu
    have HE := Lib.hid he
    by_cases hlt : k < ps.length
    · obtain ⟨b1, o1, rfl, q1⟩ := H.out.range k hlt
      have r1 : wr.rangeAt b1 (o1 + k * 14) (evenc ps[k]).toArray.toList := by rw [List.toList_toArray]; exact rangeAt_upd q1 hu (fun x => x)
      have hpo := (H.out.2 _ (List.getElem_mem hlt)).grow hu
      have htw := Lib.hid (fun (W : World) (hx : Upd (fun _ => False) wr W) => btwin_calls ps[k] I W (hpo.grow hx) (HS.out _ (List.getElem_mem hlt)))
      have hnext := Lib.hid (show ∀ q : EvP, q.x = ps[k].x → (rs ++ [q]).map EvP.x = (ps.take (k + 1)).map EvP.x from fun q hq => by
        rw [List.take_succ_eq_append_getElem hlt, List.map_append, List.map_append, HE.out]; simp [hq])
      have x0 : (0 : Int) ≤ (k : Int) := by omega
      have x1 : (k : Int) < (ps.length : Int) := by omega
      have hz := (heap_alloc wr (.cells #[.int .i64 0, .slice none 0 0, .slice none 0 0, .int .i64 0, .int .i64 0, .int .i64 0, .int .i64 0, .bool false, .slice none 0 0, .slice none 0 0, .int .i64 0, .int .i64 0, .int .i64 0, .int .i64 0] 59)).1
      have huz := Lib.hid (upd_alloc (fun _ => False) wr (.cells #[.int .i64 0, .slice none 0 0, .slice none 0 0, .int .i64 0, .int .i64 0, .int .i64 0, .int .i64 0, .bool false, .slice none 0 0, .slice none 0 0, .int .i64 0, .int .i64 0, .int .i64 0, .int .i64 0] 59))
      clear q1 hpo hr hu he
      generalize ps[k] = p at *
      rw [evx_eq] at r1 htw
      go_wp2_with (first
        | ((with_reducible refine wpl_load_at (ty := 59) r1 Try.underlying59 ?_ ?_ ?_ ?_); rfl; rfl; kernel_rfl)
        | ((with_reducible refine wpl_store (ty := 59) (cs := evx p) hz ?_ ?_ ?_ ?_ ?_ ?_); rfl; rfl; rfl; kernel_rfl; rfl; intro w4 hq5 hu5 hs5 hd5; have hu6 : Upd (fun _ => False) wr w4 := huz.out.trans' hu5 (fun x hx e => by omega))
        | ((with_reducible refine wpl_load (ty := 59) hq5 Try.underlying59 ?_ ?_ ?_ ?_); rfl; rfl; kernel_rfl)
        | (go_at_call 37; (with_reducible refine (htw.out _ hu6).mono ?_); rintro e w5 ⟨q, rfl, hqx, hqo, hu7⟩; obtain ⟨a', c', w6, hap, ⟨J', hr'⟩, hu8⟩ := HR.out.more hrl.symm (hu6.trans hu7) (hqo.wider (fun b hb => ⟨Nat.le_trans hu6.size hb.1, hb.2⟩)) HU.out.size (by omega); rw [evx_eq])
        | (refine wpList_append hap (by rfl) (by rfl) (by rfl) (by rfl) ?_))
      go_roundw
      case rel =>
        refine ⟨k + 1, a', c', rs ++ [q], J', by omega, by go_num, by rw [List.length_append, hrl]; rfl, hnext.out q hqx, ?_, HU.out.trans' hu8 (fun x hx e => by have := (HR.out.blk x e).1; omega)⟩
        have e : (rs ++ [q]).length = k + 1 := by rw [List.length_append, hrl]; rfl
        rw [e]; exact hr'
      case measure => simp [intOf]; omega
    · obtain rfl : k = ps.length := by omega
      go_wp2
      go_ret
      refine ⟨va, vc, rs, J, by rw [hrl]; rfl, by rw [HE.out, List.take_length], hr, hu⟩

end Go.Proofs.Ytidpiojanajpoaa
