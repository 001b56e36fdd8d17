/-
  A law's tell.
-/
import Derived.Deep.Cut
import Derived.Deep.RegionLaw
import Derived.Deep.QuietTactic
import Derived.IntWalk
import Derived.Test.YtidpiojanajpoaaTellS
namespace Go.Proofs.Ytidpiojanajpoaa
open Go.RowKit Go.Tb Go.MapKept Go.ChangeMaps
set_option linter.unusedVariables false

section
variable {w wr w' : World} {b m : Nat} {H H' : Hub} {lo : Nat → LTg} {va : Value} {as_ : List EvP} {wk : Nat} {wv : Array Value} {T : Nat → TP} {N : Nat}

/-- What a tell says. -/
def TellSays (w wr : World) (b m : Nat) (H : Hub) (lo : Nat → LTg) (va : Value) (as_ : List EvP) (wk : Nat) (wv : Array Value) (T : Nat → TP) (N i : Nat) (id : Int) (x : Wr) (e : Ending) (w' : World) : Prop :=
  e = .returned (.bool true) ∧ ∃ lo' v' rs, rs.map EvP.x = x.buf.take (cutN x.buf H.most) ∧
    Law w w' b m (H.upd id { x with buf := x.buf.drop (cutN x.buf H.most) }) lo' va as_ wk wv (fun j => if j = i then ⟨(T i).tb, (T i).lb, v', (T i).ts ++ rs, lastOf (T i).last (x.buf.take (cutN x.buf H.most))⟩ else T j) N ∧ (∀ k, lo k = .by_ → lo' k = .by_) ∧ Upd (fun k => lo k ≠ .by_) wr w'

theorem tell_none (h : Law w wr b m H lo va as_ wk wv T N) (i : Nat) (id : Int) (x : Wr) (hx : H.f id = some x) (hen : x.ended = false) (hbuf : x.buf = []) :
    Calls Try.prog 18 #[.pointer (some ⟨b, 0, none⟩), .int .i64 id, .pointer (some ⟨(T i).tb, 0, none⟩), .pointer (some ⟨(T i).lb, 0, none⟩), .int .i64 H.most] wr (TellSays w wr b m H lo va as_ wk wv T N i id x) := by
  obtain ⟨o, P, g1, g2, g3⟩ := h.hub
  have HL := Lib.hid h
  have hd := drain_none b m o P H id wr g1 (fun y hy => by rw [hx] at hy; cases hy; exact ⟨hbuf, hen⟩)
  have HX := Lib.hid hx
  have HB := Lib.hid hbuf
  clear h hx hen hbuf g1 g2 g3
  go_enter Try.func18, Try.ntmps18
  go_wp2_with (first
    | (go_at_call 13; (with_reducible refine hd.mono ?_); rintro e w1 ⟨rfl, hu⟩; have hz := (heap_alloc w1 (.cells zbatch 40)).1; have huz := upd_alloc (fun _ => False) w1 (.cells zbatch 40))
    | ((with_reducible refine wpl_store (ty := 40) (cs := zbatch) hz ?_ ?_ ?_ ?_ ?_ ?_); rfl; rfl; rfl; kernel_rfl; rfl; intro w4 hq5 hu5 hs5 hd5))
  go_ret
  refine ⟨rfl, lo, (T i).v, [], by rw [HB.out]; rfl, ?_⟩
  have hux : Upd (fun _ => False) wr w4 := (hu.trans huz).trans' hu5 (fun x hx e => by have := hu.size; omega)
  have hL := HL.out.grow hux
  have e1 : ({ x with buf := x.buf.drop (cutN x.buf H.most) } : Wr) = x := by
    have := HB.out
    cases x
    simp only at this
    subst this
    rfl
  have e2 : (fun j => if j = i then (⟨(T i).tb, (T i).lb, (T i).v, (T i).ts ++ [], lastOf (T i).last (x.buf.take (cutN x.buf H.most))⟩ : TP) else T j) = T := by
    funext j
    by_cases q : j = i
    · rw [if_pos q, q, HB.out, List.append_nil]; rfl
    · rw [if_neg q]
  rw [e1, e2, upd_same HX.out]
  exact ⟨hL, fun k hk => hk, hux.weak _⟩

/-- What a tell of events leaves. -/
def TellTold (wr : World) (b m : Nat) (o : Nat → Tg) (H : Hub) (id : Int) (x : Wr) (tb lb : Nat) (tv : Value) (ts : List EvP) (base : Nat) (I : Nat → Prop) (last : Int) (e : Ending) (w' : World) : Prop :=
  e = .returned (.bool true) ∧ ∃ (v' : Value) (rs : List EvP) (J : Nat → Prop) (o' : Nat → Tg) (P' : Int → Option WrP), rs.map EvP.x = x.buf.take (cutN x.buf H.most) ∧ IsHub w' b m o' P' (H.upd id { x with buf := x.buf.drop (cutN x.buf H.most) }) ∧ (∀ k, k < wr.heap.size → o' k = o k) ∧
    Upd (fun k => o k ≠ .no ∨ k = tb ∨ k = lb ∨ sliceBlock tv = some k) wr w' ∧ EvSh w' base (fun k => I k ∨ J k) v' (ts ++ rs) ∧ (∀ k, J k → wr.heap.size ≤ k ∧ k < w'.heap.size ∧ o' k = .no) ∧
    (∀ k, sliceBlock v' = some k → sliceBlock tv = some k ∨ (wr.heap.size ≤ k ∧ k < w'.heap.size ∧ o' k = .no)) ∧ w'.heap[tb]? = some (.cells #[v'] 32 (0, 0)) ∧ w'.heap[lb]? = some (.cells #[.int .i64 (lastOf last (x.buf.take (cutN x.buf H.most)))] 2 (0, 0))

set_option maxRecDepth 100000 in
set_option maxHeartbeats 4000000 in
theorem tell_walk (o : Nat → Tg) (id : Int) (x : Wr) (hd : Calls Try.prog 13 #[.pointer (some ⟨b, 0, none⟩), .int .i64 id] wr (DrainSays b m o H id x wr)) (hbuf : x.buf ≠ []) (hup : Up x.buf) (last : Int) (hlo : ∀ y ∈ x.buf, last < y.kv.mod) (tb lb : Nat) (ta : Option Addr) (tn tc : Nat) (ts : List EvP) (htn : tn = ts.length) (base : Nat) (I : Nat → Prop)
    (hfew : ts.length + x.buf.length ≤ 800000000000) (htb : wr.heap[tb]? = some (.cells #[.slice ta tn tc] 32 (0, 0))) (hlb : wr.heap[lb]? = some (.cells #[.int .i64 last] 2 (0, 0))) (f0 : o tb = .no) (f1 : o lb = .no) (fne : tb ≠ lb) (hrow : EvSh wr base I (.slice ta tn tc) ts)
    (hrb : ∀ k, sliceBlock (.slice ta tn tc) = some k → o k = .no ∧ k ≠ tb ∧ k ≠ lb) (hI : ∀ k, I k → o k = .no ∧ k ≠ tb ∧ k ≠ lb ∧ k < wr.heap.size) (hbase : base ≤ wr.heap.size) :
    Calls Try.prog 18 #[.pointer (some ⟨b, 0, none⟩), .int .i64 id, .pointer (some ⟨tb, 0, none⟩), .pointer (some ⟨lb, 0, none⟩), .int .i64 H.most] wr (TellTold wr b m o H id x tb lb (.slice ta tn tc) ts base I last) := by
  have HBF := Lib.hid hbuf
  have HUP := Lib.hid hup
  have HLO := Lib.hid hlo
  have HTN := Lib.hid htn
  have HRO := Lib.hid hrow
  have HRB := Lib.hid hrb
  have HI := Lib.hid hI
  have HTB := Lib.hid htb
  have HLB := Lib.hid hlb
  have HF0 := Lib.hid f0
  have HF1 := Lib.hid f1
  have hlb' := lt_of_heap hlb
  have htb' := lt_of_heap htb
  have HNE := Lib.hid fne
  clear hbuf hup hlo htn hrow hrb hI htb hlb f0 f1 fne
  go_enter Try.func18, Try.ntmps18
  go_upto_region 4 with (first
    | (go_at_call 13; (with_reducible refine hd.mono ?_); intro e w1 hds; obtain ⟨a, c, rs, J, o', P', rfl, hx1, g1, g2, hr, hfree, hu⟩ := hds; have hz := (heap_alloc w1 (.cells zbatch 40)).1; have huz := upd_alloc (fun _ => False) w1 (.cells zbatch 40); have HX1 := Lib.hid hx1; have HG1 := Lib.hid g1; have HG2 := Lib.hid g2; have HR := Lib.hid hr; have HFR := Lib.hid hfree; have HU := Lib.hid hu; clear hx1 g1 g2 hr hfree hu)
    | ((with_reducible refine wpl_store (ty := 40) (cs := #[.int .i64 id, .slice a rs.length c, .bool false, .int .i64 0, .bool false, .int .i64 0]) hz ?_ ?_ ?_ ?_ ?_ ?_); rfl; rfl; rfl; kernel_rfl; rfl; intro w4 hq5 hu5 hs5 hd5))
  have hu14 : Upd (fun _ => False) w1 w4 := huz.trans' hu5 (fun x hx e => by omega)
  have HU14 := Lib.hid hu14
  have hcl := cutN_le x.buf H.most
  have hcp := cutN_pos HBF.out H.most
  have hrl : rs.length = cutN x.buf H.most := by
    have := congrArg List.length HX1.out
    simp at this; omega
  obtain ⟨n1, hn1⟩ : ∃ n1, rs.length = n1 + 1 := ⟨rs.length - 1, by omega⟩
  have hmem : ∀ j (hj : j < rs.length), rs[j].x ∈ x.buf.take (cutN x.buf H.most) := fun j hj => by rw [← HX1.out]; exact List.mem_map_of_mem (List.getElem_mem hj)
  obtain ⟨b1, o1, rfl, -⟩ := HR.out.evs.range 0 (by omega)
  have m0 := hu14.cell (HR.out.evs.mod 0 (by omega)) (fun x => x)
  have m1 := hu14.cell (HR.out.evs.mod n1 (by omega)) (fun x => x)
  have y0 : last < rs[0].kv.x.mod := HLO.out _ (List.mem_of_mem_take (hmem 0 (by omega)))
  have hcm : (rs.length : Int) ≤ H.most ∨ rs[0].kv.x.mod = rs[n1].kv.x.mod := by
    exact (cutN_most x.buf H.most).imp (fun q => by omega) (fun q => q _ (hmem 0 (by omega)) _ (hmem n1 (by omega)))
  have HLA := Lib.hid (show rs[n1].kv.x.mod = lastOf last (x.buf.take (cutN x.buf H.most)) from by
    unfold lastOf
    rw [← HX1.out, List.getLast?_map, List.getLast?_eq_getElem?, show rs.length - 1 = n1 from by omega, List.getElem?_eq_getElem (by omega)]
    rfl)
  have u1 : Upd (fun k => o k ≠ .no) wr w4 := HU.out.trans' hu14 (fun _ _ s => s.elim)
  have hlx := u1.heap HLB.out (fun s => s HF1.out)
  have htx := u1.heap HTB.out (fun s => s HF0.out)
  have cl := cell_of hlx 0
  have ct := cell_of htx 0
  have k1 : ¬ rs[0].kv.x.mod ≤ last := by omega
  have k3 : IntKind.i64.wrap ((rs.length : Int) - 1) = (n1 : Int) := by rw [IntWalk.i64_in _ (by omega)]; omega
  have k4 : (0 : Int) ≤ (n1 : Int) := by omega
  have k5 : (n1 : Int) < (rs.length : Int) := by omega
  have k6 : 0 < rs.length := by omega
  have k0 : (id != id) = false := by simp
  have k7 : ((rs.length : Int) == 0) = false := beq_eq_false_iff_ne.2 (by omega)
  have HK := Lib.hid (And.intro hrl hn1)
  have HMM := Lib.hid hmem
  have HUW := Lib.hid u1
  simp only [Nat.zero_mul, Nat.add_zero] at m0
  clear hz huz hu14 hu5 hs5 hd5 hmem u1 y0 htx
  generalize rs[0].kv.x.mod = y0 at *
  generalize rs[n1].kv.x.mod = y1 at *
  clear hrl hn1 hcl hcp
  have e0 := cell_of hq5 0
  have e1 := cell_of hq5 1
  have e2 := cell_of hq5 2
  have e4 := cell_of hq5 4
  go_quiet (fail)
  have hX := (Upd.refl (fun _ => False) w4).drewN nq
  have m0' := hX.cell m0 (fun x => x)
  have m1' := hX.cell m1 (fun x => x)
  have cl' := hX.cell cl (fun x => x)
  have ct' := hX.cell ct (fun x => x)
  have e0' := hX.cell e0 (fun x => x)
  have e1' := hX.cell e1 (fun x => x)
  have e2' := hX.cell e2 (fun x => x)
  have e4' := hX.cell e4 (fun x => x)
  have m2' : (w4.drewN nq).cell? ⟨b1, o1 + n1 * 14 + 1 + 3, none⟩ = some (.int .i64 y1) := m1'
  have HX := Lib.hid hX
  generalize w4.drewN nq = X at *
  by_cases hm : H.most < (rs.length : Int)
  · have k8 : (y0 != y1) = false := by
      have : y0 = y1 := hcm.resolve_left (by omega)
      simp [this]
    have hlx6 := hX.heap hlx (fun s => s)
    have fl : X.frozen? ⟨lb, 0, none⟩ = false := free_of hlx6 0
    clear hX m0 m1 cl ct e0 e1 e2 e4 k1 k0 k7 m1' e0' e2' e4'
    go_upto_region 10 with (fail)
    clear fl cl'
    have HSET := Lib.hid (upd_setCell (fun k => k = lb) X ⟨lb, 0, none⟩ (.int .i64 y1) rfl)
    have HL5 := Lib.hid (heap_setCell_at hlx6 0 (.int .i64 y1))
    have HS5 := Lib.hid (show (X.setCell ⟨lb, 0, none⟩ (.int .i64 y1)).heap.size = X.heap.size from by simp)
    have ct5 : (X.setCell ⟨lb, 0, none⟩ (.int .i64 y1)).cell? ⟨tb, 0, none⟩ = some (.slice ta tn tc) := HSET.out.cell ct' HNE.out
    have e15 : (X.setCell ⟨lb, 0, none⟩ (.int .i64 y1)).cell? ⟨w1.heap.size, 1, none⟩ = some (.slice (some ⟨b1, o1, none⟩) rs.length c) := HSET.out.cell e1' (fun e => by have h1 := HU.out.size; have h2 : w1.heap.size = lb := e; omega)
    clear ct' e1' hlx hlx6
    generalize X.setCell ⟨lb, 0, none⟩ (.int .i64 y1) = Y at *
    have hv1 : Upd (fun _ => False) w1 X := HU14.out.trans HX.out
    have huX : Upd (fun k => o k ≠ .no) wr X := HU.out.trans' hv1 (fun _ _ s => s.elim)
    have huY : Upd (fun k => o k ≠ .no ∨ k = lb) wr Y := huX.seq HSET.out _ (fun _ _ s => .inl s) (fun _ _ s => .inr s)
    have hro5 : EvSh Y base (fun k => I k ∨ J k) (.slice ta tn tc) ts := (HRO.out.upd huY (fun k hk s => s.elim (fun s => s (HRB.out k hk).1) (HRB.out k hk).2.2) (fun k hk s => s.elim (fun s => s (HI.out k hk).1) (HI.out k hk).2.2.1)).wider (fun k hk => .inl hk) (fun k hk s => s.elim (HRO.out.dj k hk) (fun hj => by have := (HR.out.ge k hj).1; have := (HRO.out.blk k hk).2; omega))
    have hge1 : ∀ k, (J k ∨ sliceBlock (.slice (some ⟨b1, o1, none⟩) rs.length c) = some k) → wr.heap.size ≤ k ∧ k < w1.heap.size := fun k hk => hk.elim (fun q => HR.out.ge k q) (fun q => HR.out.blk k q)
    have hev5 : Evs Y (fun k => I k ∨ J k) (.slice (some ⟨b1, o1, none⟩) rs.length c) rs := by
      have h1 := (HR.out.evs.grow hv1).upd HSET.out (fun k hk e => by have := (hge1 k (.inr hk)).1; omega) (fun k hk e => by have := (hge1 k (.inl hk)).1; omega)
      exact ⟨h1.1, fun q hq => (h1.2 q hq).wider (fun k hk => .inr hk)⟩
    have sX := hv1.size
    have s1 := HU.out.size
    have hdr := (Upd.refl (fun _ => False) Y).drew
    obtain ⟨a', c', w6, hap, hr6, hu6, hbk⟩ := (hro5.grow hdr).append (hev5.1.grow hdr |> fun h => ⟨h, fun q hq => (hev5.2 q hq).grow hdr⟩) (fun k hk => by
      have h2 := hdr.size
      have h3 := HSET.out.size
      rcases hk with q | q
      · have := (HI.out k q).2.2.2; omega
      · have := (hge1 k (.inl q)).2; omega) (by have h2 := hdr.size; have h3 := HSET.out.size; omega) (by have h1 := HK.out; have h2 := cutN_le x.buf H.most; omega)
    generalize hNN : (ts ++ rs).length = NN at *
    clear hNN
    have hu6' : Upd (fun k => sliceBlock (.slice ta tn tc) = some k) Y w6 := hu6.undrew
    have htY := huY.heap HTB.out (fun s => s.elim (fun s => s HF0.out) HNE.out)
    have ht6 := hu6'.heap htY (fun s => (HRB.out tb s).2.1 rfl)
    have f6 : w6.frozen? ⟨tb, 0, none⟩ = false := free_of ht6 0
    have g6 : w6.cell? ⟨tb, 0, none⟩ = some (.slice ta tn tc) := cell_of ht6 0
    have HFIN := Lib.hid (show TellTold wr b m o H id x tb lb (.slice ta tn tc) ts base I last (.returned (.bool true)) (w6.setCell ⟨tb, 0, none⟩ (.slice a' NN c')) from by
      have hs2 : Upd (fun k => k = tb) w6 (w6.setCell ⟨tb, 0, none⟩ (.slice a' NN c')) := upd_setCell _ _ _ _ rfl
      have hall : Upd (fun k => k = lb ∨ k = tb ∨ sliceBlock (.slice ta tn tc) = some k) X (w6.setCell ⟨tb, 0, none⟩ (.slice a' NN c')) := (HSET.out.seq hu6' (fun k => k = lb ∨ k = tb ∨ sliceBlock (.slice ta tn tc) = some k) (fun _ _ s => .inl s) (fun _ _ s => .inr (.inr s))).trans' hs2 (fun _ _ s => .inr (.inl s))
      have hsz := hall.size
      have hno : ∀ k, o' k ≠ .no → ¬ (k = lb ∨ k = tb ∨ sliceBlock (.slice ta tn tc) = some k) := fun k hk s => by
        rcases s with e | e | e
        · rw [e, HG2.out lb (by omega)] at hk; exact hk HF1.out
        · rw [e, HG2.out tb (by omega)] at hk; exact hk HF0.out
        · rw [HG2.out k (HRO.out.blk k e).2] at hk; exact hk (HRB.out k e).1
      have hbn : ∀ k, sliceBlock (.slice a' NN c') = some k → sliceBlock (.slice ta tn tc) = some k ∨ k = Y.heap.size := fun k hk => by
        rcases hbk with q | q
        · exact .inl (q ▸ hk)
        · rw [q] at hk; cases hk; exact .inr rfl
      have hsY : Y.heap.size = X.heap.size := HS5.out
      have ho'new : ∀ k, w1.heap.size ≤ k → o' k = .no := fun k hk => by
        cases e : o' k with
        | no => rfl
        | _ => exact absurd (HG1.out.lt k (by rw [e]; simp)) (by omega)
      have hr7 := hr6.upd hs2 (fun k hk e => by
        rcases hbn k hk with q | q
        · exact (HRB.out k q).2.1 e
        · have h1 : k = tb := e
          omega) (fun k hk e => by
        have h1 : k = tb := e
        rcases hk with q | q
        · exact (HI.out k q).2.1 e
        · have := (HR.out.ge k q).1; omega)
      refine ⟨rfl, _, rs, J, o', P', HX1.out, (HG1.out.grow hv1).upd hall hno, HG2.out, ?_, hr7, fun k hk => ⟨(HR.out.ge k hk).1, by have := (HR.out.ge k hk).2; omega, HFR.out k (.inl hk)⟩, fun k hk => ?_, ?_, ?_⟩
      · exact huX.seq hall _ (fun _ _ s => .inl s) (fun k _ s => .inr (s.elim (fun e => .inr (.inl e)) (fun s => s.elim (fun e => .inl e) (fun e => .inr (.inr e)))))
      · rcases hbn k hk with q | q
        · exact .inl q
        · refine .inr ⟨by omega, ?_, ho'new k (by omega)⟩
          have := hr7.blk k hk
          exact this.2
      · exact heap_setCell_at ht6 0 _
      · rw [← HLA.out]
        exact hs2.heap (hu6'.heap HL5.out (fun s => (HRB.out lb s).2.2 rfl)) HNE.out.symm)
    clear hv1 huX huY hro5 hge1 hev5 sX s1 hdr hr6 hu6 hu6' hbk htY ht6 hcm
    go_wp2
    go_region_law (first | (refine step_append hap (by rfl) (by rfl) (by rfl) (by rfl) ?_))
    all_goals (try go_wp2)
    all_goals (
      go_ret
      exact ⟨rfl, HFIN.out.2⟩)
  ·
    have hlx6 := hX.heap hlx (fun s => s)
    have fl : X.frozen? ⟨lb, 0, none⟩ = false := free_of hlx6 0
    clear hX m0 m1 cl ct e0 e1 e2 e4 k1 k0 k7 m1' e0' e2' e4'
    go_upto_region 10 with (fail)
    clear fl cl'
    have HSET := Lib.hid (upd_setCell (fun k => k = lb) X ⟨lb, 0, none⟩ (.int .i64 y1) rfl)
    have HL5 := Lib.hid (heap_setCell_at hlx6 0 (.int .i64 y1))
    have HS5 := Lib.hid (show (X.setCell ⟨lb, 0, none⟩ (.int .i64 y1)).heap.size = X.heap.size from by simp)
    have ct5 : (X.setCell ⟨lb, 0, none⟩ (.int .i64 y1)).cell? ⟨tb, 0, none⟩ = some (.slice ta tn tc) := HSET.out.cell ct' HNE.out
    have e15 : (X.setCell ⟨lb, 0, none⟩ (.int .i64 y1)).cell? ⟨w1.heap.size, 1, none⟩ = some (.slice (some ⟨b1, o1, none⟩) rs.length c) := HSET.out.cell e1' (fun e => by have h1 := HU.out.size; have h2 : w1.heap.size = lb := e; omega)
    clear ct' e1' hlx hlx6
    generalize X.setCell ⟨lb, 0, none⟩ (.int .i64 y1) = Y at *
    have hv1 : Upd (fun _ => False) w1 X := HU14.out.trans HX.out
    have huX : Upd (fun k => o k ≠ .no) wr X := HU.out.trans' hv1 (fun _ _ s => s.elim)
    have huY : Upd (fun k => o k ≠ .no ∨ k = lb) wr Y := huX.seq HSET.out _ (fun _ _ s => .inl s) (fun _ _ s => .inr s)
    have hro5 : EvSh Y base (fun k => I k ∨ J k) (.slice ta tn tc) ts := (HRO.out.upd huY (fun k hk s => s.elim (fun s => s (HRB.out k hk).1) (HRB.out k hk).2.2) (fun k hk s => s.elim (fun s => s (HI.out k hk).1) (HI.out k hk).2.2.1)).wider (fun k hk => .inl hk) (fun k hk s => s.elim (HRO.out.dj k hk) (fun hj => by have := (HR.out.ge k hj).1; have := (HRO.out.blk k hk).2; omega))
    have hge1 : ∀ k, (J k ∨ sliceBlock (.slice (some ⟨b1, o1, none⟩) rs.length c) = some k) → wr.heap.size ≤ k ∧ k < w1.heap.size := fun k hk => hk.elim (fun q => HR.out.ge k q) (fun q => HR.out.blk k q)
    have hev5 : Evs Y (fun k => I k ∨ J k) (.slice (some ⟨b1, o1, none⟩) rs.length c) rs := by
      have h1 := (HR.out.evs.grow hv1).upd HSET.out (fun k hk e => by have := (hge1 k (.inr hk)).1; omega) (fun k hk e => by have := (hge1 k (.inl hk)).1; omega)
      exact ⟨h1.1, fun q hq => (h1.2 q hq).wider (fun k hk => .inr hk)⟩
    have sX := hv1.size
    have s1 := HU.out.size
    have hdr := (Upd.refl (fun _ => False) Y).drew
    obtain ⟨a', c', w6, hap, hr6, hu6, hbk⟩ := (hro5.grow hdr).append (hev5.1.grow hdr |> fun h => ⟨h, fun q hq => (hev5.2 q hq).grow hdr⟩) (fun k hk => by
      have h2 := hdr.size
      have h3 := HSET.out.size
      rcases hk with q | q
      · have := (HI.out k q).2.2.2; omega
      · have := (hge1 k (.inl q)).2; omega) (by have h2 := hdr.size; have h3 := HSET.out.size; omega) (by have h1 := HK.out; have h2 := cutN_le x.buf H.most; omega)
    generalize hNN : (ts ++ rs).length = NN at *
    clear hNN
    have hu6' : Upd (fun k => sliceBlock (.slice ta tn tc) = some k) Y w6 := hu6.undrew
    have htY := huY.heap HTB.out (fun s => s.elim (fun s => s HF0.out) HNE.out)
    have ht6 := hu6'.heap htY (fun s => (HRB.out tb s).2.1 rfl)
    have f6 : w6.frozen? ⟨tb, 0, none⟩ = false := free_of ht6 0
    have g6 : w6.cell? ⟨tb, 0, none⟩ = some (.slice ta tn tc) := cell_of ht6 0
    have HFIN := Lib.hid (show TellTold wr b m o H id x tb lb (.slice ta tn tc) ts base I last (.returned (.bool true)) (w6.setCell ⟨tb, 0, none⟩ (.slice a' NN c')) from by
      have hs2 : Upd (fun k => k = tb) w6 (w6.setCell ⟨tb, 0, none⟩ (.slice a' NN c')) := upd_setCell _ _ _ _ rfl
      have hall : Upd (fun k => k = lb ∨ k = tb ∨ sliceBlock (.slice ta tn tc) = some k) X (w6.setCell ⟨tb, 0, none⟩ (.slice a' NN c')) := (HSET.out.seq hu6' (fun k => k = lb ∨ k = tb ∨ sliceBlock (.slice ta tn tc) = some k) (fun _ _ s => .inl s) (fun _ _ s => .inr (.inr s))).trans' hs2 (fun _ _ s => .inr (.inl s))
      have hsz := hall.size
      have hno : ∀ k, o' k ≠ .no → ¬ (k = lb ∨ k = tb ∨ sliceBlock (.slice ta tn tc) = some k) := fun k hk s => by
        rcases s with e | e | e
        · rw [e, HG2.out lb (by omega)] at hk; exact hk HF1.out
        · rw [e, HG2.out tb (by omega)] at hk; exact hk HF0.out
        · rw [HG2.out k (HRO.out.blk k e).2] at hk; exact hk (HRB.out k e).1
      have hbn : ∀ k, sliceBlock (.slice a' NN c') = some k → sliceBlock (.slice ta tn tc) = some k ∨ k = Y.heap.size := fun k hk => by
        rcases hbk with q | q
        · exact .inl (q ▸ hk)
        · rw [q] at hk; cases hk; exact .inr rfl
      have hsY : Y.heap.size = X.heap.size := HS5.out
      have ho'new : ∀ k, w1.heap.size ≤ k → o' k = .no := fun k hk => by
        cases e : o' k with
        | no => rfl
        | _ => exact absurd (HG1.out.lt k (by rw [e]; simp)) (by omega)
      have hr7 := hr6.upd hs2 (fun k hk e => by
        rcases hbn k hk with q | q
        · exact (HRB.out k q).2.1 e
        · have h1 : k = tb := e
          omega) (fun k hk e => by
        have h1 : k = tb := e
        rcases hk with q | q
        · exact (HI.out k q).2.1 e
        · have := (HR.out.ge k q).1; omega)
      refine ⟨rfl, _, rs, J, o', P', HX1.out, (HG1.out.grow hv1).upd hall hno, HG2.out, ?_, hr7, fun k hk => ⟨(HR.out.ge k hk).1, by have := (HR.out.ge k hk).2; omega, HFR.out k (.inl hk)⟩, fun k hk => ?_, ?_, ?_⟩
      · exact huX.seq hall _ (fun _ _ s => .inl s) (fun k _ s => .inr (s.elim (fun e => .inr (.inl e)) (fun s => s.elim (fun e => .inl e) (fun e => .inr (.inr e)))))
      · rcases hbn k hk with q | q
        · exact .inl q
        · refine .inr ⟨by omega, ?_, ho'new k (by omega)⟩
          have := hr7.blk k hk
          exact this.2
      · exact heap_setCell_at ht6 0 _
      · rw [← HLA.out]
        exact hs2.heap (hu6'.heap HL5.out (fun s => (HRB.out lb s).2.2 rfl)) HNE.out.symm)
    clear hv1 huX huY hro5 hge1 hev5 sX s1 hdr hr6 hu6 hu6' hbk htY ht6 hcm
    go_wp2
    go_region_law (first | (refine step_append hap (by rfl) (by rfl) (by rfl) (by rfl) ?_))
    all_goals (try go_wp2)
    all_goals (
      go_ret
      exact ⟨rfl, HFIN.out.2⟩)

theorem tell_some (h : Law w wr b m H lo va as_ wk wv T N) (i : Nat) (hi : i < N) (id : Int) (x : Wr) (hx : H.f id = some x) (hbuf : x.buf ≠ []) (hup : Up x.buf) (hlo : ∀ y ∈ x.buf, (T i).last < y.kv.mod) (hfew : (T i).ts.length + x.buf.length ≤ 800000000000) :
    Calls Try.prog 18 #[.pointer (some ⟨b, 0, none⟩), .int .i64 id, .pointer (some ⟨(T i).tb, 0, none⟩), .pointer (some ⟨(T i).lb, 0, none⟩), .int .i64 H.most] wr (TellSays w wr b m H lo va as_ wk wv T N i id x) := by
  obtain ⟨o, P, g1, g2, g3⟩ := h.hub
  have ht := h.tt i hi
  obtain ⟨ta, tc, etv, -⟩ := own_shape ht.row.own
  have hgo := tell_walk (m := m) (H := H) o id x (drain_some b m o P H id x wr g1 hx hbuf (by omega)) hbuf hup (T i).last hlo (T i).tb (T i).lb ta _ tc (T i).ts rfl w.heap.size (fun k => lo k = .by_) hfew (by rw [← etv]; exact ht.tbox) ht.lbox (g3 _ (by rw [ht.ot]; simp)) (g3 _ (by rw [ht.ol]; simp)) (fun e => by
      have q1 := ht.ot; have q2 := ht.ol
      rw [e, q2] at q1; cases q1) (by rw [← etv]; exact ht.row) (fun k hk => by
      have q := ht.rb k (by rw [etv]; exact hk)
      exact ⟨g3 _ (by rw [q]; simp), (fun e => by rw [e, ht.ot] at q; cases q), (fun e => by rw [e, ht.ol] at q; cases q)⟩) (fun k hk => ⟨g3 _ (by rw [hk]; simp), (fun e => by rw [e, ht.ot] at hk; cases hk), (fun e => by rw [e, ht.ol] at hk; cases hk), (h.lt k (by rw [hk]; simp)).2⟩) h.u.size
  refine hgo.mono fun e w' ⟨he, v', rs, J, o', P', q1, q2, q3, q4, q5, q6, q7, q8, q9⟩ => ⟨he, ?_⟩
  rw [← etv] at q4 q7
  obtain ⟨lo', hL⟩ := h.tell g2 g3 hi q2 q3 q4 q5 q6 q7 q8 q9
  exact ⟨lo', v', rs, q1, hL⟩
/-- A law's tell. -/
theorem ltell_calls (h : Law w wr b m H lo va as_ wk wv T N) (i : Nat) (hi : i < N) (id : Int) (x : Wr) (hx : H.f id = some x) (hen : x.ended = false) (hup : Up x.buf) (hlo : ∀ y ∈ x.buf, (T i).last < y.kv.mod) (hfew : (T i).ts.length + x.buf.length ≤ 800000000000) :
    Calls Try.prog 18 #[.pointer (some ⟨b, 0, none⟩), .int .i64 id, .pointer (some ⟨(T i).tb, 0, none⟩), .pointer (some ⟨(T i).lb, 0, none⟩), .int .i64 H.most] wr (TellSays w wr b m H lo va as_ wk wv T N i id x) := by
  by_cases hb : x.buf = []
  · exact tell_none h i id x hx hen hb
  · exact tell_some h i hi id x hx hb hup hlo hfew
end

end Go.Proofs.Ytidpiojanajpoaa
