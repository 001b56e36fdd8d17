/-
  Rows of events that share their bytes; since; Right of what is right.
-/
import Derived.Deep.Cut
import Derived.Deep.RegionHeld3
import Derived.IntWalk
import Derived.Test.YtidpiojanajpoaaEvC
namespace Go.Proofs.Ytidpiojanajpoaa
open Go.RowKit Go.Tb Go.MapKept Go.ChangeMaps
set_option linter.unusedVariables false

/-- A row of events of the call's own, whose bytes lie in I, as they did. -/
structure EvSh (w : World) (base : Nat) (I : Nat → Prop) (v : Value) (rs : List EvP) : Prop where
  own : w.ownsRow base 59 14 v rs.length (rs.flatMap evenc)
  ok : ∀ p ∈ rs, p.Ok w I
  dj : ∀ b, sliceBlock v = some b → ¬ I b
theorem evSh_nil (w : World) (base : Nat) (I : Nat → Prop) : EvSh w base I (.slice none 0 0) [] :=
  { own := World.ownsRow_nil _ _ _ _, ok := fun p hp => (by cases hp), dj := fun b hb => (by cases hb) }
theorem EvSh.upd {w w' : World} {base : Nat} {I S : Nat → Prop} {v : Value} {rs : List EvP} (h : EvSh w base I v rs) (hu : Upd S w w') (hn : ∀ b, sliceBlock v = some b → ¬ S b) (hi : ∀ b, I b → ¬ S b) : EvSh w' base I v rs :=
  { own := own_upd' h.own hu hn, ok := fun p hp => (h.ok p hp).upd hu hi, dj := h.dj }
theorem EvSh.grow {w w' : World} {base : Nat} {I : Nat → Prop} {v : Value} {rs : List EvP} (h : EvSh w base I v rs) (hu : Upd (fun _ => False) w w') : EvSh w' base I v rs := h.upd hu (fun _ _ x => x) (fun _ _ x => x)
theorem EvSh.evs {w : World} {base : Nat} {I : Nat → Prop} {v : Value} {rs : List EvP} (h : EvSh w base I v rs) : Evs w I v rs := ⟨(sl_of_own evenc_length h.own).1, h.ok⟩
theorem EvSh.blk {w : World} {base : Nat} {I : Nat → Prop} {v : Value} {rs : List EvP} (h : EvSh w base I v rs) : ∀ b, sliceBlock v = some b → base ≤ b ∧ b < w.heap.size := own_ge h.own
theorem EvSh.wider {w : World} {base : Nat} {I J : Nat → Prop} {v : Value} {rs : List EvP} (h : EvSh w base I v rs) (hi : ∀ b, I b → J b) (hd : ∀ b, sliceBlock v = some b → ¬ J b) : EvSh w base J v rs :=
  { own := h.own, ok := fun p hp => (h.ok p hp).wider hi, dj := hd }

/-- `append(x, y...)` of events. -/
theorem EvSh.append {w : World} {base : Nat} {I : Nat → Prop} {v v2 : Value} {rs l2 : List EvP} (h : EvSh w base I v rs) (h2 : Evs w I v2 l2) (hI : ∀ b, I b → b < w.heap.size) (hb : base ≤ w.heap.size) (hl : rs.length + l2.length ≤ 900000000000) :
    ∃ a c w', (∀ ty, (Builtin.append_ #[32, 32] ty #[v, v2]).run Try.prog w = .ok (.slice a (rs ++ l2).length c) w') ∧ EvSh w' base I (.slice a (rs ++ l2).length c) (rs ++ l2) ∧ Upd (fun b => sliceBlock v = some b) w w' ∧
      (sliceBlock (.slice a (rs ++ l2).length c) = sliceBlock v ∨ sliceBlock (.slice a (rs ++ l2).length c) = some w.heap.size) := by
  obtain ⟨a, c, w', h3, h4, h5, h6⟩ := run_append_far (P := Try.prog) (z := .agg #[.int .i64 0, .slice none 0 0, .slice none 0 0, .int .i64 0, .int .i64 0, .int .i64 0, .int .i64 0, .bool false, .slice none 0 0, .slice none 0 0, .int .i64 0, .int .i64 0, .int .i64 0, .int .i64 0]) under_Evs info_Ev rfl (by decide) evenc_length evenc_one h.own h2.1 hb (by omega) (by omega) (by decide)
  refine ⟨a, c, w', h3, { own := h4, ok := fun p hp => ?_, dj := fun b hb => ?_ }, h5, h6⟩
  · rcases List.mem_append.1 hp with hp | hp
    · exact (h.ok p hp).upd h5 (fun b hb e => h.dj b e hb)
    · exact (h2.2 p hp).upd h5 (fun b hb e => h.dj b e hb)
  · rcases h6 with e | e
    · rw [e] at hb; exact h.dj b hb
    · rw [e] at hb; cases hb
      exact fun hJ => Nat.lt_irrefl _ (hI _ hJ)

/-- The append of one event that lies in a block of its own. -/
theorem EvSh.more {w w4 : World} {base : Nat} {I : Nat → Prop} {a : Option Addr} {n c : Nat} {rs : List EvP} (h : EvSh w base I (.slice a n c) rs) (hn : n = rs.length) (hu : Upd (fun _ => False) w w4) {p : EvP} (hp : p.Ok w4 I) (hI : ∀ b, I b → b < w.heap.size) (hb : base ≤ w.heap.size) (hl : rs.length ≤ 800000000000) :
    ∃ a' c' w5, (∀ ty, (Builtin.append_ #[32, 32] ty #[.slice a n c, .slice (some ⟨w4.heap.size, 0, none⟩) 1 1]).run Try.prog (w4.alloc (.cells (evx p) 59)) = .ok (.slice a' (n + 1) c') w5) ∧ EvSh w5 base I (.slice a' (n + 1) c') (rs ++ [p]) ∧ Upd (fun b => sliceBlock (.slice a n c) = some b) w w5 := by
  have hua := upd_alloc (fun _ => False) w4 (.cells (evx p) 59)
  have hs := hu.size
  have hs1 : (w4.alloc (.cells (evx p) 59)).heap.size = w4.heap.size + 1 := by simp
  have h1 : Evs (w4.alloc (.cells (evx p) 59)) I (.slice (some ⟨w4.heap.size, 0, none⟩) 1 1) [p] :=
    ⟨sl_one (enc := evenc) (heap_alloc w4 (.cells (evx p) 59)).1, fun q hq => by rw [List.mem_singleton.1 hq]; exact hp.grow hua⟩
  obtain ⟨a', c', w5, h3, h4, h5, h6⟩ := (h.grow (hu.trans hua)).append h1 (fun b hb => by have := hI b hb; omega) (by omega) (by simp; omega)
  have e : (rs ++ [p]).length = n + 1 := by rw [List.length_append, hn]; rfl
  rw [e] at h3 h4
  exact ⟨a', c', w5, h3, h4, (hu.trans hua).seq h5 _ (fun _ _ x => x.elim) (fun _ _ x => x)⟩

def sinceP (n : Int) (ps : List EvP) : List EvP := ps.filter fun p => decide (n ≤ p.kv.x.mod)
def sinceE (n : Int) (l : List Ev) : List Ev := l.filter fun x => decide (n ≤ x.kv.mod)
theorem sinceP_x (n : Int) (ps : List EvP) : (sinceP n ps).map EvP.x = sinceE n (ps.map EvP.x) := by
  unfold sinceP sinceE
  rw [List.filter_map]
  rfl
theorem sinceP_len (n : Int) (ps : List EvP) : (sinceP n ps).length ≤ ps.length := List.length_filter_le _ _

set_option maxRecDepth 100000 in
set_option maxHeartbeats 1000000 in
theorem since_calls (v : Value) (n : Int) (ps : List EvP) (I : Nat → Prop) (w : World) (h : Evs w I v ps) (hI : ∀ b, I b → b < w.heap.size) (hn : ps.length ≤ 800000000000) :
    Calls Try.prog 21 #[v, .int .i64 n] w fun e w' => ∃ a c, e = .returned (.slice a (sinceP n ps).length c) ∧ EvSh w' w.heap.size I (.slice a (sinceP n ps).length c) (sinceP n ps) ∧ Upd (fun _ => False) w w' := by
  obtain ⟨a, c, rfl, hc⟩ := h.1.shape
  have H := Lib.hid h
  have HI := Lib.hid hI
  clear h hI
  go_enter Try.func21, Try.ntmps21
  go_wp2
  go_loopw [5, 10] (fun o i wr => ∃ (k : Nat) (va : Option Addr) (vc : Nat), k ≤ ps.length ∧ i = .int .i64 k ∧ o = .slice va (sinceP n (ps.take k)).length vc ∧ EvSh wr w.heap.size I (.slice va (sinceP n (ps.take k)).length vc) (sinceP n (ps.take k)) ∧ Upd (fun _ => False) w wr) (fun _ i _ => ps.length - (intOf i).toNat)
  case atStart => exact ⟨0, none, 0, Nat.zero_le _, rfl, rfl, evSh_nil w _ _, Upd.refl _ _⟩
  case round =>
    obtain ⟨k, va, vc, hk, rfl, rfl, hr, hu⟩ := hrel
    have HR := Lib.hid hr
    have HU := Lib.hid hu
    by_cases hlt : k < ps.length
    · obtain ⟨b1, o1, rfl, q1⟩ := H.out.range k hlt
      have r1 : wr.rangeAt b1 (o1 + k * 14) (evenc ps[k]).toArray.toList := by rw [List.toList_toArray]; exact rangeAt_upd q1 hu (fun x => x)
      have hpo := Lib.hid ((H.out.2 _ (List.getElem_mem hlt)).grow hu)
      have htk : ps.take (k + 1) = ps.take k ++ [ps[k]] := List.take_succ_eq_append_getElem hlt
      have hyes := Lib.hid (show n ≤ ps[k].kv.x.mod → sinceP n (ps.take (k + 1)) = sinceP n (ps.take k) ++ [ps[k]] from fun hm => by
        unfold sinceP; rw [htk, List.filter_append]; simp [hm])
      have hno := Lib.hid (show ¬ n ≤ ps[k].kv.x.mod → sinceP n (ps.take (k + 1)) = sinceP n (ps.take k) from fun hm => by
        unfold sinceP; rw [htk, List.filter_append]; simp [hm])
      have hlen : (sinceP n (ps.take k)).length ≤ k := Nat.le_trans (sinceP_len _ _) (by simp; omega)
      have x0 : (0 : Int) ≤ (k : Int) := by omega
      have x1 : (k : Int) < (ps.length : Int) := by omega
      have hz := (heap_alloc wr (.cells #[.int .i64 0, .slice none 0 0, .slice none 0 0, .int .i64 0, .int .i64 0, .int .i64 0, .int .i64 0, .bool false, .slice none 0 0, .slice none 0 0, .int .i64 0, .int .i64 0, .int .i64 0, .int .i64 0] 59)).1
      have huz := Lib.hid (upd_alloc (fun _ => False) wr (.cells #[.int .i64 0, .slice none 0 0, .slice none 0 0, .int .i64 0, .int .i64 0, .int .i64 0, .int .i64 0, .bool false, .slice none 0 0, .slice none 0 0, .int .i64 0, .int .i64 0, .int .i64 0, .int .i64 0] 59))
      clear q1 hr hu htk
      generalize sinceP n (ps.take k) = R1 at *
      generalize ps[k] = p at *
      rw [evx_eq] at r1
      obtain ⟨m, hm0⟩ : ∃ m, m = p.kv.x.mod := ⟨_, rfl⟩
      by_cases hm : n ≤ p.kv.x.mod
      · have HR2 := Lib.hid (hyes.out hm)
        clear hyes hno
        go_upto_region 5 with (first
          | ((with_reducible refine wpl_load_at (ty := 59) r1 Try.underlying59 ?_ ?_ ?_ ?_); rfl; rfl; kernel_rfl)
          | ((with_reducible refine wpl_store (ty := 59) (cs := evx p) hz ?_ ?_ ?_ ?_ ?_ ?_); rfl; rfl; rfl; kernel_rfl; rfl; intro w4 hq5 hu5 hs5 hd5))
        have hu6 : Upd (fun _ => False) wr w4 := huz.out.trans' hu5 (fun x hx e => by omega)
        have e4 : w4.cell? ⟨wr.heap.size, 4, none⟩ = some (.int .i64 p.kv.x.mod) := cell_of hq5 4
        obtain ⟨a', c', w6, hap, hr', hu8⟩ := HR.out.more rfl hu6 (hpo.out.grow hu6) (fun b hb => Nat.lt_of_lt_of_le (HI.out b hb) HU.out.size) HU.out.size (by omega)
        have HRR := Lib.hid hr'
        have HU8 := Lib.hid hu8
        clear hr' hu8 hu6 hu5 hs5 hd5
        go_wp2_with (first
          | ((with_reducible refine wpl_load (ty := 59) hq5 Try.underlying59 ?_ ?_ ?_ ?_); rfl; rfl; kernel_rfl)
          | (refine wpList_append hap (by rfl) (by rfl) (by rfl) (by rfl) ?_))
        go_roundw
        case rel =>
          have e : (sinceP n (ps.take (k + 1))).length = R1.length + 1 := by rw [HR2.out, List.length_append]; rfl
          refine ⟨k + 1, a', c', by omega, by go_num, by rw [e], by rw [e, HR2.out]; exact HRR.out, HU.out.trans' HU8.out (fun x hx e => by have := (HR.out.blk x e).1; omega)⟩
        case measure => simp [intOf]; omega
      · have HR2 := Lib.hid (hno.out hm)
        clear hyes hno
        go_upto_region 5 with (first
          | ((with_reducible refine wpl_load_at (ty := 59) r1 Try.underlying59 ?_ ?_ ?_ ?_); rfl; rfl; kernel_rfl)
          | ((with_reducible refine wpl_store (ty := 59) (cs := evx p) hz ?_ ?_ ?_ ?_ ?_ ?_); rfl; rfl; rfl; kernel_rfl; rfl; intro w4 hq5 hu5 hs5 hd5))
        have hu6 : Upd (fun _ => False) wr w4 := huz.out.trans' hu5 (fun x hx e => by omega)
        have e4 : w4.cell? ⟨wr.heap.size, 4, none⟩ = some (.int .i64 p.kv.x.mod) := cell_of hq5 4
        have HU6 := Lib.hid hu6
        clear hu6 hu5 hs5 hd5
        go_wp2
        go_roundw
        case rel => exact ⟨k + 1, va, vc, by omega, by go_num, by rw [HR2.out], by rw [HR2.out]; exact HR.out.grow HU6.out, HU.out.trans HU6.out⟩
        case measure => simp [intOf]; omega
    · obtain rfl : k = ps.length := by omega
      rw [List.take_length] at HR ⊢
      clear hr hu
      go_wp2
      go_ret
      exact ⟨va, vc, rfl, HR.out, HU.out⟩

def cmpM (a b : Int) : Int := if a < b then -1 else if b < a then 1 else 0
set_option maxRecDepth 100000 in
theorem rclos_calls (p q : EvP) (w : World) : Calls Try.prog 60 #[.agg (evx p), .agg (evx q)] w fun e w' => e = .returned (.int .i64 (cmpM p.kv.x.mod q.kv.x.mod)) ∧ Upd (fun _ => False) w w' := by
  obtain ⟨kind, ⟨⟨k1, v1, r1, m1, n1, l1⟩, ⟨a1, z1, c1⟩, ⟨a2, z2, c2⟩⟩, had, ⟨⟨k2, v2, r2, m2, n2, l2⟩, ⟨a3, z3, c3⟩, ⟨a4, z4, c4⟩⟩⟩ := p
  obtain ⟨kind', ⟨⟨k1', v1', r1', m1', n1', l1'⟩, ⟨a1', z1', c1'⟩, ⟨a2', z2', c2'⟩⟩, had', ⟨⟨k2', v2', r2', m2', n2', l2'⟩, ⟨a3', z3', c3'⟩, ⟨a4', z4', c4'⟩⟩⟩ := q
  simp only [evx]
  by_cases h1 : m1 < m1'
  · have e : cmpM m1 m1' = -1 := if_pos h1
    rw [e]; clear e
    go_enter Try.func60, Try.ntmps60
    go_wp2
    go_ret
    exact ⟨rfl, (upd_alloc _ _ _).alloc _⟩
  · by_cases h2 : m1' < m1
    · have e : cmpM m1 m1' = 1 := by unfold cmpM; rw [if_neg h1, if_pos h2]
      rw [e]; clear e
      go_enter Try.func60, Try.ntmps60
      go_wp2
      go_ret
      exact ⟨rfl, (upd_alloc _ _ _).alloc _⟩
    · have e : cmpM m1 m1' = 0 := by unfold cmpM; rw [if_neg h1, if_neg h2]
      rw [e]; clear e
      go_enter Try.func60, Try.ntmps60
      go_wp2
      go_ret
      exact ⟨rfl, (upd_alloc _ _ _).alloc _⟩

end Go.Proofs.Ytidpiojanajpoaa
