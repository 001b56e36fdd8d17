/-
  batch.Sieve.
-/
import Derived.Deep.Cut
import Derived.Test.YtidpiojanajpoaaEvC
namespace Go.Proofs.Ytidpiojanajpoaa
open Go.RowKit Go.Tb Go.MapKept Go.ChangeMaps
set_option linter.unusedVariables false

/-- What a watch says. -/
structure Wt where
  key : List UInt8
  end_ : List UInt8
  start : Int
  np : Bool
  nd : Bool
  pv : Bool
deriving DecidableEq
def wcells (k e : Value) (x : Wt) : Array Value := #[k, e, .int .i64 x.start, .bool x.np, .bool x.nd, .bool x.pv]
def zeroKV : KV := ⟨[], [], 0, 0, 0, 0⟩
def nilP : KvP := ⟨zeroKV, ⟨none, 0, 0⟩, ⟨none, 0, 0⟩⟩
/-- Is an event wanted? -/
def wants (x : Wt) (e : Ev) : Bool := inB e.kv.key x.key x.end_ && !(decide (e.kind = 1) && x.np) && !(decide (e.kind = 2) && x.nd)
/-- .. and how it is told. -/
def told (x : Wt) (e : Ev) : Ev := if x.pv then e else { e with had := false, prev := zeroKV }
def sieveE (x : Wt) (l : List Ev) : List Ev := (l.filter (wants x)).map (told x)

theorem sieveE_append (x : Wt) (l m : List Ev) : sieveE x (l ++ m) = sieveE x l ++ sieveE x m := by simp [sieveE]
theorem sieveE_length (x : Wt) (l : List Ev) : (sieveE x l).length ≤ l.length := by
  unfold sieveE; rw [List.length_map]; exact List.length_filter_le _ _
theorem nilP_ok (w : World) (I : Nat → Prop) : nilP.Ok w I := ⟨.inl (.inl ⟨rfl, rfl⟩), .inl (.inl ⟨rfl, rfl⟩), fun b hb => (by cases hb), fun b hb => (by cases hb)⟩

set_option maxRecDepth 100000 in
set_option maxHeartbeats 4000000 in
theorem sieve_calls (k e : Value) (x : Wt) (a : Option Addr) (c : Nat) (ps : List EvP) (I : Nat → Prop) (w : World) (hk : Bytes w k x.key) (hee : Bytes w e x.end_) (h : Evs w I (.slice a ps.length c) ps) (hs : ∀ p ∈ ps, p.x.Small) (hn : ps.length ≤ 800000000000) :
    Calls Try.prog 20 #[.agg (wcells k e x), .slice a ps.length c] w fun r w' => ∃ a c rs J, r = .returned (.slice a rs.length c) ∧ rs.map EvP.x = sieveE x (ps.map EvP.x) ∧ EvRow w' w.heap.size J (.slice a rs.length c) rs ∧ Upd (fun _ => False) w w' := by
  obtain ⟨ka, kn, kc, rfl⟩ := hk.form
  obtain ⟨ea, en, ec, rfl⟩ := hee.form
  obtain ⟨key, end_, start, np, nd, pv⟩ := x
  simp only at hk hee
  have hua := upd_alloc (fun _ => False) w (.cells #[.slice ka kn kc, .slice ea en ec, .int .i64 start, .bool np, .bool nd, .bool pv] 24)
  have hqa := (heap_alloc w (.cells #[.slice ka kn kc, .slice ea en ec, .int .i64 start, .bool np, .bool nd, .bool pv] 24)).1
  have hsz : (w.alloc (.cells #[.slice ka kn kc, .slice ea en ec, .int .i64 start, .bool np, .bool nd, .bool pv] 24)).heap.size = w.heap.size + 1 := by simp
  have H := Lib.hid (h.grow hua)
  have HS := Lib.hid hs
  have HK := Lib.hid (hk.upd hua (fun _ _ x => x))
  have HE := Lib.hid (hee.upd hua (fun _ _ x => x))
  have HA := Lib.hid hua
  have HQ := Lib.hid hqa
  have HZ := Lib.hid hsz
  clear h hs hk hee hua hqa hsz
  show Calls Try.prog 20 #[.agg #[.slice ka kn kc, .slice ea en ec, .int .i64 start, .bool np, .bool nd, .bool pv], .slice a ps.length c] w _
  go_enter Try.func20, Try.ntmps20
  go_wp2
  generalize w.alloc (.cells #[.slice ka kn kc, .slice ea en ec, .int .i64 start, .bool np, .bool nd, .bool pv] 24) = w0 at *
  go_loopw [5, 10] (fun o i wr => ∃ (k : Nat) (va : Option Addr) (vc : Nat) (rs : List EvP) (J : Nat → Prop), k ≤ ps.length ∧ i = .int .i64 k ∧ o = .slice va rs.length vc ∧ rs.map EvP.x = sieveE ⟨key, end_, start, np, nd, pv⟩ ((ps.take k).map EvP.x) ∧ EvRow wr w0.heap.size J (.slice va rs.length vc) rs ∧ Upd (fun _ => False) w0 wr) (fun _ i _ => ps.length - (intOf i).toNat)
  case atStart => exact ⟨0, none, 0, [], _, Nat.zero_le _, rfl, rfl, by simp [sieveE], evRow_nil w0 _, Upd.refl _ _⟩
  case round =>
    obtain ⟨k, va, vc, rs, J, hk, rfl, rfl, he, hr, hu⟩ := hrel
    have hrl : rs.length ≤ k := by
      have := congrArg List.length he
      rw [List.length_map] at this
      rw [this]
      exact Nat.le_trans (sieveE_length _ _) (by simp; omega)
    have HR0 := Lib.hid hr
    have HU := Lib.hid hu
    have HEq := Lib.hid he
    obtain ⟨n, hn⟩ : ∃ n, n = rs.length := ⟨_, rfl⟩
    have HR := Lib.hid (show EvRow wr w0.heap.size J (.slice va n vc) rs from hn ▸ hr)
    rw [← hn]
    have HN := Lib.hid hn
    have hnk : n ≤ k := by omega
    clear hn hrl hr he
    by_cases hlt : k < ps.length
    · obtain ⟨b1, o1, rfl, q1⟩ := H.out.range k hlt
      have r1 : wr.rangeAt b1 (o1 + k * 14) (evenc ps[k]).toArray.toList := by rw [List.toList_toArray]; exact rangeAt_upd q1 hu (fun x => x)
      have hpo := (H.out.2 _ (List.getElem_mem hlt)).grow hu
      have htw := Lib.hid (fun (W : World) (hx : Upd (fun _ => False) wr W) => btwin_calls ps[k] I W (hpo.grow hx) (HS.out _ (List.getElem_mem hlt)))
      have htw0 := Lib.hid (fun (W : World) (hx : Upd (fun _ => False) wr W) => btwin_calls { ps[k] with had := false, prev := nilP } I W ⟨(hpo.grow hx).kv, nilP_ok _ _⟩ ⟨(HS.out _ (List.getElem_mem hlt)).a, (HS.out _ (List.getElem_mem hlt)).b, Nat.zero_le _, Nat.zero_le _⟩)
      have hin := Lib.hid (fun (W : World) (hx : Upd (fun _ => False) wr W) => in_calls (.slice ps[k].kv.k.a ps[k].kv.k.n ps[k].kv.k.c) (.slice ka kn kc) (.slice ea en ec) ps[k].kv.x.key key end_ W (hpo.kv.k.upd hx (fun _ _ x => x)) (HK.out.upd (hu.trans hx) (fun _ _ x => x)) (HE.out.upd (hu.trans hx) (fun _ _ x => x)))
      have hkeep := Lib.hid (show wants ⟨key, end_, start, np, nd, pv⟩ ps[k].x = true → ∀ q : EvP, q.x = told ⟨key, end_, start, np, nd, pv⟩ ps[k].x → (rs ++ [q]).map EvP.x = sieveE ⟨key, end_, start, np, nd, pv⟩ ((ps.take (k + 1)).map EvP.x) from fun hw q hq => by
        rw [List.take_succ_eq_append_getElem hlt, List.map_append, List.map_append, HEq.out, sieveE_append]; simp [hq, sieveE, hw])
      have hskip := Lib.hid (show wants ⟨key, end_, start, np, nd, pv⟩ ps[k].x = false → rs.map EvP.x = sieveE ⟨key, end_, start, np, nd, pv⟩ ((ps.take (k + 1)).map EvP.x) from fun hw => by
        rw [List.take_succ_eq_append_getElem hlt, List.map_append, HEq.out, sieveE_append]; simp [sieveE, hw])
      have hqb := hu.heap HQ.out (fun x => x)
      have x0 : (0 : Int) ≤ (k : Int) := by omega
      have x1 : (k : Int) < (ps.length : Int) := by omega
      have hz := (heap_alloc wr (.cells #[.int .i64 0, .slice none 0 0, .slice none 0 0, .int .i64 0, .int .i64 0, .int .i64 0, .int .i64 0, .bool false, .slice none 0 0, .slice none 0 0, .int .i64 0, .int .i64 0, .int .i64 0, .int .i64 0] 59)).1
      have huz := Lib.hid (upd_alloc (fun _ => False) wr (.cells #[.int .i64 0, .slice none 0 0, .slice none 0 0, .int .i64 0, .int .i64 0, .int .i64 0, .int .i64 0, .bool false, .slice none 0 0, .slice none 0 0, .int .i64 0, .int .i64 0, .int .i64 0, .int .i64 0] 59))
      clear q1 hpo hu
      generalize ps[k] = p at *
      generalize hT : told ⟨key, end_, start, np, nd, pv⟩ p.x = T at *
      have HT := Lib.hid hT
      clear hT
      rw [evx_eq] at r1 htw htw0
      have ekind : p.x.kind = p.kind := rfl
      simp only [wants, EvP.x] at hkeep hskip
      generalize inB p.kv.x.key key end_ = bb at *
      cases bb with
      | false =>
        clear hkeep
        go_wp2_with (first | ((with_reducible refine wpl_load_at (ty := 59) r1 Try.underlying59 ?_ ?_ ?_ ?_); rfl; rfl; kernel_rfl) | ((with_reducible refine wpl_store (ty := 59) (cs := evx p) hz ?_ ?_ ?_ ?_ ?_ ?_); rfl; rfl; rfl; kernel_rfl; rfl; intro w4 hq5 hu5 hs5 hd5; have hu6 : Upd (fun _ => False) wr w4 := huz.out.trans' hu5 (fun x hx e => by omega); have hb6 := hu6.heap hqb (fun x => x); have e0 := cell_of hq5 0; have e1 := cell_of hq5 1; have b0 := cell_of hb6 0; have b1 := cell_of hb6 1) | (go_at_call 36; (with_reducible refine (hin.out _ hu6).mono ?_); rintro e w6 ⟨rfl, hu7⟩; clear e0 e1 b0 b1; have hq7 := hu7.heap hq5 (fun x => x); have hb7 := hu7.heap hb6 (fun x => x); have g0 := cell_of hq7 0; have c3 := cell_of hb7 3; have c4 := cell_of hb7 4; have c5 := cell_of hb7 5; have hu8 := hu6.trans hu7))
        go_roundw
        case rel => exact ⟨k + 1, va, vc, rs, J, by omega, by go_num, by rw [HN.out], hskip.out rfl, HR0.out.grow hu8, HU.out.trans hu8⟩
        case measure => simp [intOf]; omega
      | true =>
        by_cases h1 : p.kind = 1
        · have k1 : (p.kind == 1) = true := by simp [h1]
          have k2 : (p.kind == 2) = false := by simp [h1]
          simp only [h1] at hkeep hskip
          clear h1
          cases np with
          | true =>
            clear hkeep
            go_wp2_with (first | ((with_reducible refine wpl_load_at (ty := 59) r1 Try.underlying59 ?_ ?_ ?_ ?_); rfl; rfl; kernel_rfl) | ((with_reducible refine wpl_store (ty := 59) (cs := evx p) hz ?_ ?_ ?_ ?_ ?_ ?_); rfl; rfl; rfl; kernel_rfl; rfl; intro w4 hq5 hu5 hs5 hd5; have hu6 : Upd (fun _ => False) wr w4 := huz.out.trans' hu5 (fun x hx e => by omega); have hb6 := hu6.heap hqb (fun x => x); have e0 := cell_of hq5 0; have e1 := cell_of hq5 1; have b0 := cell_of hb6 0; have b1 := cell_of hb6 1) | (go_at_call 36; (with_reducible refine (hin.out _ hu6).mono ?_); rintro e w6 ⟨rfl, hu7⟩; clear e0 e1 b0 b1; have hq7 := hu7.heap hq5 (fun x => x); have hb7 := hu7.heap hb6 (fun x => x); have g0 := cell_of hq7 0; have c3 := cell_of hb7 3; have c4 := cell_of hb7 4; have c5 := cell_of hb7 5; have hu8 := hu6.trans hu7))
            go_roundw
            case rel => exact ⟨k + 1, va, vc, rs, J, by omega, by go_num, by rw [HN.out], hskip.out rfl, HR0.out.grow hu8, HU.out.trans hu8⟩
            case measure => simp [intOf]; omega
          | false =>
            cases pv with
            | true =>
              clear hskip
              go_wp2_with (first
                | ((with_reducible refine wpl_load_at (ty := 59) r1 Try.underlying59 ?_ ?_ ?_ ?_); rfl; rfl; kernel_rfl)
                | ((with_reducible refine wpl_store (ty := 59) (cs := evx p) hz ?_ ?_ ?_ ?_ ?_ ?_); rfl; rfl; rfl; kernel_rfl; rfl; intro w4 hq5 hu5 hs5 hd5; have hu6 : Upd (fun _ => False) wr w4 := huz.out.trans' hu5 (fun x hx e => by omega); have hb6 := hu6.heap hqb (fun x => x); have e0 := cell_of hq5 0; have e1 := cell_of hq5 1; have b0 := cell_of hb6 0; have b1 := cell_of hb6 1)
                | (go_at_call 36; (with_reducible refine (hin.out _ hu6).mono ?_); rintro e w6 ⟨rfl, hu7⟩; clear e0 e1 b0 b1; have hq7 := hu7.heap hq5 (fun x => x); have hb7 := hu7.heap hb6 (fun x => x); have g0 := cell_of hq7 0; have c3 := cell_of hb7 3; have c4 := cell_of hb7 4; have c5 := cell_of hb7 5; have hu8 := hu6.trans hu7)
                | ((with_reducible refine wpl_load (ty := 59) hq7 Try.underlying59 ?_ ?_ ?_ ?_); rfl; rfl; kernel_rfl)
                | (go_at_call 37; (with_reducible refine (htw.out _ hu8).mono ?_); rintro e w7 ⟨q, rfl, hqx, hqo, hu7'⟩; obtain ⟨a', c', w8, hap, ⟨J', hr'⟩, hu9⟩ := HR.out.more HN.out (hu8.trans hu7') (hqo.wider (fun b hb => ⟨Nat.le_trans hu8.size hb.1, hb.2⟩)) HU.out.size (by rw [← HN.out]; omega); rw [evx_eq])
                | (refine wpList_append hap (by rfl) (by rfl) (by rfl) (by rfl) ?_))
              go_roundw
              case rel =>
                refine ⟨k + 1, a', c', rs ++ [q], J', by omega, by go_num, by rw [List.length_append, ← HN.out]; rfl, hkeep.out rfl q (hqx.trans HT.out), ?_, HU.out.trans' hu9 (fun x hx e => by have := (HR.out.blk x e).1; omega)⟩
                have e : (rs ++ [q]).length = n + 1 := by rw [List.length_append, ← HN.out]; rfl
                rw [e]; exact hr'
              case measure => simp [intOf]; omega
            | false =>
              clear hskip
              go_upto_region 7 with (first | ((with_reducible refine wpl_load_at (ty := 59) r1 Try.underlying59 ?_ ?_ ?_ ?_); rfl; rfl; kernel_rfl) | ((with_reducible refine wpl_store (ty := 59) (cs := evx p) hz ?_ ?_ ?_ ?_ ?_ ?_); rfl; rfl; rfl; kernel_rfl; rfl; intro w4 hq5 hu5 hs5 hd5; have hu6 : Upd (fun _ => False) wr w4 := huz.out.trans' hu5 (fun x hx e => by omega); have hb6 := hu6.heap hqb (fun x => x); have e0 := cell_of hq5 0; have e1 := cell_of hq5 1; have b0 := cell_of hb6 0; have b1 := cell_of hb6 1) | (go_at_call 36; (with_reducible refine (hin.out _ hu6).mono ?_); rintro e w6 ⟨rfl, hu7⟩; clear e0 e1 b0 b1; have hq7 := hu7.heap hq5 (fun x => x); have hb7 := hu7.heap hb6 (fun x => x); have g0 := cell_of hq7 0; have c3 := cell_of hb7 3; have c4 := cell_of hb7 4; have c5 := cell_of hb7 5; have hu8 := hu6.trans hu7))
              have e7 := cell_of hq7 7; have f7 := free_of hq7 7; have e8 := cell_of hq7 8; have f8 := free_of hq7 8; have e9 := cell_of hq7 9; have f9 := free_of hq7 9; have e10 := cell_of hq7 10; have f10 := free_of hq7 10; have e11 := cell_of hq7 11; have f11 := free_of hq7 11; have e12 := cell_of hq7 12; have f12 := free_of hq7 12; have e13 := cell_of hq7 13; have f13 := free_of hq7 13
              go_upto_region 8 with (fail)
              have z1 := heap_setCell_at hq7 7 (.bool false)
              have z2 := heap_setCell_at z1 8 (.slice none 0 0)
              have z3 := heap_setCell_at z2 9 (.slice none 0 0)
              have z4 := heap_setCell_at z3 10 (.int .i64 0)
              have z5 := heap_setCell_at z4 11 (.int .i64 0)
              have z6 := heap_setCell_at z5 12 (.int .i64 0)
              have z7 := heap_setCell_at z6 13 (.int .i64 0)
              simp only [List.setIfInBounds_toArray, List.set_cons_succ, List.set_cons_zero] at z7
              have hu3 := (((((((Upd.refl (fun k => k = wr.heap.size) w6).setCell (p := ⟨wr.heap.size, 7, none⟩) (fun _ => rfl) (.bool false)).setCell (p := ⟨wr.heap.size, 8, none⟩) (fun _ => rfl) (.slice none 0 0)).setCell (p := ⟨wr.heap.size, 9, none⟩) (fun _ => rfl) (.slice none 0 0)).setCell (p := ⟨wr.heap.size, 10, none⟩) (fun _ => rfl) (.int .i64 0)).setCell (p := ⟨wr.heap.size, 11, none⟩) (fun _ => rfl) (.int .i64 0)).setCell (p := ⟨wr.heap.size, 12, none⟩) (fun _ => rfl) (.int .i64 0)).setCell (p := ⟨wr.heap.size, 13, none⟩) (fun _ => rfl) (.int .i64 0)
              have hq3 : (((((((w6.setCell ⟨wr.heap.size, 7, none⟩ (.bool false)).setCell ⟨wr.heap.size, 8, none⟩ (.slice none 0 0)).setCell ⟨wr.heap.size, 9, none⟩ (.slice none 0 0)).setCell ⟨wr.heap.size, 10, none⟩ (.int .i64 0)).setCell ⟨wr.heap.size, 11, none⟩ (.int .i64 0)).setCell ⟨wr.heap.size, 12, none⟩ (.int .i64 0)).setCell ⟨wr.heap.size, 13, none⟩ (.int .i64 0)).heap[wr.heap.size]? = some (.cells (evx { p with had := false, prev := nilP }) 59 (0, 0)) := z7
              generalize (((((((w6.setCell ⟨wr.heap.size, 7, none⟩ (.bool false)).setCell ⟨wr.heap.size, 8, none⟩ (.slice none 0 0)).setCell ⟨wr.heap.size, 9, none⟩ (.slice none 0 0)).setCell ⟨wr.heap.size, 10, none⟩ (.int .i64 0)).setCell ⟨wr.heap.size, 11, none⟩ (.int .i64 0)).setCell ⟨wr.heap.size, 12, none⟩ (.int .i64 0)).setCell ⟨wr.heap.size, 13, none⟩ (.int .i64 0)) = w9 at hq3 hu3 ⊢
              have hu10 : Upd (fun _ => False) wr w9 := hu8.trans' hu3 (fun x hx e => by omega)
              clear z1 z2 z3 z4 z5 z6 z7 hu3 e7 e8 e9 e10 e11 e12 e13 f7 f8 f9 f10 f11 f12 f13 g0 c3 c4 c5 hq7 hb7 hu8
              go_wp2_with (first
                | ((with_reducible refine wpl_load (ty := 59) hq3 Try.underlying59 ?_ ?_ ?_ ?_); rfl; rfl; kernel_rfl)
                | (go_at_call 37; (with_reducible refine (htw0.out _ hu10).mono ?_); rintro e w7 ⟨q, rfl, hqx, hqo, hu7'⟩; obtain ⟨a', c', w8, hap, ⟨J', hr'⟩, hu9⟩ := HR.out.more HN.out (hu10.trans hu7') (hqo.wider (fun b hb => ⟨Nat.le_trans hu10.size hb.1, hb.2⟩)) HU.out.size (by rw [← HN.out]; omega); rw [evx_eq])
                | (refine wpList_append hap (by rfl) (by rfl) (by rfl) (by rfl) ?_))
              go_roundw
              case rel =>
                refine ⟨k + 1, a', c', rs ++ [q], J', by omega, by go_num, by rw [List.length_append, ← HN.out]; rfl, hkeep.out rfl q (hqx.trans HT.out), ?_, HU.out.trans' hu9 (fun x hx e => by have := (HR.out.blk x e).1; omega)⟩
                have e : (rs ++ [q]).length = n + 1 := by rw [List.length_append, ← HN.out]; rfl
                rw [e]; exact hr'
              case measure => simp [intOf]; omega
        · have k1 : (p.kind == 1) = false := by simp [h1]
          by_cases h2 : p.kind = 2
          · have k2 : (p.kind == 2) = true := by simp [h2]
            simp only [h2] at hkeep hskip
            clear h1 h2
            cases nd with
            | true =>
              clear hkeep
              go_wp2_with (first | ((with_reducible refine wpl_load_at (ty := 59) r1 Try.underlying59 ?_ ?_ ?_ ?_); rfl; rfl; kernel_rfl) | ((with_reducible refine wpl_store (ty := 59) (cs := evx p) hz ?_ ?_ ?_ ?_ ?_ ?_); rfl; rfl; rfl; kernel_rfl; rfl; intro w4 hq5 hu5 hs5 hd5; have hu6 : Upd (fun _ => False) wr w4 := huz.out.trans' hu5 (fun x hx e => by omega); have hb6 := hu6.heap hqb (fun x => x); have e0 := cell_of hq5 0; have e1 := cell_of hq5 1; have b0 := cell_of hb6 0; have b1 := cell_of hb6 1) | (go_at_call 36; (with_reducible refine (hin.out _ hu6).mono ?_); rintro e w6 ⟨rfl, hu7⟩; clear e0 e1 b0 b1; have hq7 := hu7.heap hq5 (fun x => x); have hb7 := hu7.heap hb6 (fun x => x); have g0 := cell_of hq7 0; have c3 := cell_of hb7 3; have c4 := cell_of hb7 4; have c5 := cell_of hb7 5; have hu8 := hu6.trans hu7))
              go_roundw
              case rel => exact ⟨k + 1, va, vc, rs, J, by omega, by go_num, by rw [HN.out], hskip.out rfl, HR0.out.grow hu8, HU.out.trans hu8⟩
              case measure => simp [intOf]; omega
            | false =>
              cases pv with
              | true =>
                clear hskip
                go_wp2_with (first
                  | ((with_reducible refine wpl_load_at (ty := 59) r1 Try.underlying59 ?_ ?_ ?_ ?_); rfl; rfl; kernel_rfl)
                  | ((with_reducible refine wpl_store (ty := 59) (cs := evx p) hz ?_ ?_ ?_ ?_ ?_ ?_); rfl; rfl; rfl; kernel_rfl; rfl; intro w4 hq5 hu5 hs5 hd5; have hu6 : Upd (fun _ => False) wr w4 := huz.out.trans' hu5 (fun x hx e => by omega); have hb6 := hu6.heap hqb (fun x => x); have e0 := cell_of hq5 0; have e1 := cell_of hq5 1; have b0 := cell_of hb6 0; have b1 := cell_of hb6 1)
                  | (go_at_call 36; (with_reducible refine (hin.out _ hu6).mono ?_); rintro e w6 ⟨rfl, hu7⟩; clear e0 e1 b0 b1; have hq7 := hu7.heap hq5 (fun x => x); have hb7 := hu7.heap hb6 (fun x => x); have g0 := cell_of hq7 0; have c3 := cell_of hb7 3; have c4 := cell_of hb7 4; have c5 := cell_of hb7 5; have hu8 := hu6.trans hu7)
                  | ((with_reducible refine wpl_load (ty := 59) hq7 Try.underlying59 ?_ ?_ ?_ ?_); rfl; rfl; kernel_rfl)
                  | (go_at_call 37; (with_reducible refine (htw.out _ hu8).mono ?_); rintro e w7 ⟨q, rfl, hqx, hqo, hu7'⟩; obtain ⟨a', c', w8, hap, ⟨J', hr'⟩, hu9⟩ := HR.out.more HN.out (hu8.trans hu7') (hqo.wider (fun b hb => ⟨Nat.le_trans hu8.size hb.1, hb.2⟩)) HU.out.size (by rw [← HN.out]; omega); rw [evx_eq])
                  | (refine wpList_append hap (by rfl) (by rfl) (by rfl) (by rfl) ?_))
                go_roundw
                case rel =>
                  refine ⟨k + 1, a', c', rs ++ [q], J', by omega, by go_num, by rw [List.length_append, ← HN.out]; rfl, hkeep.out rfl q (hqx.trans HT.out), ?_, HU.out.trans' hu9 (fun x hx e => by have := (HR.out.blk x e).1; omega)⟩
                  have e : (rs ++ [q]).length = n + 1 := by rw [List.length_append, ← HN.out]; rfl
                  rw [e]; exact hr'
                case measure => simp [intOf]; omega
              | false =>
                clear hskip
                go_upto_region 7 with (first | ((with_reducible refine wpl_load_at (ty := 59) r1 Try.underlying59 ?_ ?_ ?_ ?_); rfl; rfl; kernel_rfl) | ((with_reducible refine wpl_store (ty := 59) (cs := evx p) hz ?_ ?_ ?_ ?_ ?_ ?_); rfl; rfl; rfl; kernel_rfl; rfl; intro w4 hq5 hu5 hs5 hd5; have hu6 : Upd (fun _ => False) wr w4 := huz.out.trans' hu5 (fun x hx e => by omega); have hb6 := hu6.heap hqb (fun x => x); have e0 := cell_of hq5 0; have e1 := cell_of hq5 1; have b0 := cell_of hb6 0; have b1 := cell_of hb6 1) | (go_at_call 36; (with_reducible refine (hin.out _ hu6).mono ?_); rintro e w6 ⟨rfl, hu7⟩; clear e0 e1 b0 b1; have hq7 := hu7.heap hq5 (fun x => x); have hb7 := hu7.heap hb6 (fun x => x); have g0 := cell_of hq7 0; have c3 := cell_of hb7 3; have c4 := cell_of hb7 4; have c5 := cell_of hb7 5; have hu8 := hu6.trans hu7))
                have e7 := cell_of hq7 7; have f7 := free_of hq7 7; have e8 := cell_of hq7 8; have f8 := free_of hq7 8; have e9 := cell_of hq7 9; have f9 := free_of hq7 9; have e10 := cell_of hq7 10; have f10 := free_of hq7 10; have e11 := cell_of hq7 11; have f11 := free_of hq7 11; have e12 := cell_of hq7 12; have f12 := free_of hq7 12; have e13 := cell_of hq7 13; have f13 := free_of hq7 13
                go_upto_region 8 with (fail)
                have z1 := heap_setCell_at hq7 7 (.bool false)
                have z2 := heap_setCell_at z1 8 (.slice none 0 0)
                have z3 := heap_setCell_at z2 9 (.slice none 0 0)
                have z4 := heap_setCell_at z3 10 (.int .i64 0)
                have z5 := heap_setCell_at z4 11 (.int .i64 0)
                have z6 := heap_setCell_at z5 12 (.int .i64 0)
                have z7 := heap_setCell_at z6 13 (.int .i64 0)
                simp only [List.setIfInBounds_toArray, List.set_cons_succ, List.set_cons_zero] at z7
                have hu3 := (((((((Upd.refl (fun k => k = wr.heap.size) w6).setCell (p := ⟨wr.heap.size, 7, none⟩) (fun _ => rfl) (.bool false)).setCell (p := ⟨wr.heap.size, 8, none⟩) (fun _ => rfl) (.slice none 0 0)).setCell (p := ⟨wr.heap.size, 9, none⟩) (fun _ => rfl) (.slice none 0 0)).setCell (p := ⟨wr.heap.size, 10, none⟩) (fun _ => rfl) (.int .i64 0)).setCell (p := ⟨wr.heap.size, 11, none⟩) (fun _ => rfl) (.int .i64 0)).setCell (p := ⟨wr.heap.size, 12, none⟩) (fun _ => rfl) (.int .i64 0)).setCell (p := ⟨wr.heap.size, 13, none⟩) (fun _ => rfl) (.int .i64 0)
                have hq3 : (((((((w6.setCell ⟨wr.heap.size, 7, none⟩ (.bool false)).setCell ⟨wr.heap.size, 8, none⟩ (.slice none 0 0)).setCell ⟨wr.heap.size, 9, none⟩ (.slice none 0 0)).setCell ⟨wr.heap.size, 10, none⟩ (.int .i64 0)).setCell ⟨wr.heap.size, 11, none⟩ (.int .i64 0)).setCell ⟨wr.heap.size, 12, none⟩ (.int .i64 0)).setCell ⟨wr.heap.size, 13, none⟩ (.int .i64 0)).heap[wr.heap.size]? = some (.cells (evx { p with had := false, prev := nilP }) 59 (0, 0)) := z7
                generalize (((((((w6.setCell ⟨wr.heap.size, 7, none⟩ (.bool false)).setCell ⟨wr.heap.size, 8, none⟩ (.slice none 0 0)).setCell ⟨wr.heap.size, 9, none⟩ (.slice none 0 0)).setCell ⟨wr.heap.size, 10, none⟩ (.int .i64 0)).setCell ⟨wr.heap.size, 11, none⟩ (.int .i64 0)).setCell ⟨wr.heap.size, 12, none⟩ (.int .i64 0)).setCell ⟨wr.heap.size, 13, none⟩ (.int .i64 0)) = w9 at hq3 hu3 ⊢
                have hu10 : Upd (fun _ => False) wr w9 := hu8.trans' hu3 (fun x hx e => by omega)
                clear z1 z2 z3 z4 z5 z6 z7 hu3 e7 e8 e9 e10 e11 e12 e13 f7 f8 f9 f10 f11 f12 f13 g0 c3 c4 c5 hq7 hb7 hu8
                go_wp2_with (first
                  | ((with_reducible refine wpl_load (ty := 59) hq3 Try.underlying59 ?_ ?_ ?_ ?_); rfl; rfl; kernel_rfl)
                  | (go_at_call 37; (with_reducible refine (htw0.out _ hu10).mono ?_); rintro e w7 ⟨q, rfl, hqx, hqo, hu7'⟩; obtain ⟨a', c', w8, hap, ⟨J', hr'⟩, hu9⟩ := HR.out.more HN.out (hu10.trans hu7') (hqo.wider (fun b hb => ⟨Nat.le_trans hu10.size hb.1, hb.2⟩)) HU.out.size (by rw [← HN.out]; omega); rw [evx_eq])
                  | (refine wpList_append hap (by rfl) (by rfl) (by rfl) (by rfl) ?_))
                go_roundw
                case rel =>
                  refine ⟨k + 1, a', c', rs ++ [q], J', by omega, by go_num, by rw [List.length_append, ← HN.out]; rfl, hkeep.out rfl q (hqx.trans HT.out), ?_, HU.out.trans' hu9 (fun x hx e => by have := (HR.out.blk x e).1; omega)⟩
                  have e : (rs ++ [q]).length = n + 1 := by rw [List.length_append, ← HN.out]; rfl
                  rw [e]; exact hr'
                case measure => simp [intOf]; omega
          · have k2 : (p.kind == 2) = false := by simp [h2]
            simp only [h1, h2] at hkeep hskip
            clear h1 h2
            cases pv with
            | true =>
              clear hskip
              go_wp2_with (first
                | ((with_reducible refine wpl_load_at (ty := 59) r1 Try.underlying59 ?_ ?_ ?_ ?_); rfl; rfl; kernel_rfl)
                | ((with_reducible refine wpl_store (ty := 59) (cs := evx p) hz ?_ ?_ ?_ ?_ ?_ ?_); rfl; rfl; rfl; kernel_rfl; rfl; intro w4 hq5 hu5 hs5 hd5; have hu6 : Upd (fun _ => False) wr w4 := huz.out.trans' hu5 (fun x hx e => by omega); have hb6 := hu6.heap hqb (fun x => x); have e0 := cell_of hq5 0; have e1 := cell_of hq5 1; have b0 := cell_of hb6 0; have b1 := cell_of hb6 1)
                | (go_at_call 36; (with_reducible refine (hin.out _ hu6).mono ?_); rintro e w6 ⟨rfl, hu7⟩; clear e0 e1 b0 b1; have hq7 := hu7.heap hq5 (fun x => x); have hb7 := hu7.heap hb6 (fun x => x); have g0 := cell_of hq7 0; have c3 := cell_of hb7 3; have c4 := cell_of hb7 4; have c5 := cell_of hb7 5; have hu8 := hu6.trans hu7)
                | ((with_reducible refine wpl_load (ty := 59) hq7 Try.underlying59 ?_ ?_ ?_ ?_); rfl; rfl; kernel_rfl)
                | (go_at_call 37; (with_reducible refine (htw.out _ hu8).mono ?_); rintro e w7 ⟨q, rfl, hqx, hqo, hu7'⟩; obtain ⟨a', c', w8, hap, ⟨J', hr'⟩, hu9⟩ := HR.out.more HN.out (hu8.trans hu7') (hqo.wider (fun b hb => ⟨Nat.le_trans hu8.size hb.1, hb.2⟩)) HU.out.size (by rw [← HN.out]; omega); rw [evx_eq])
                | (refine wpList_append hap (by rfl) (by rfl) (by rfl) (by rfl) ?_))
              go_roundw
              case rel =>
                refine ⟨k + 1, a', c', rs ++ [q], J', by omega, by go_num, by rw [List.length_append, ← HN.out]; rfl, hkeep.out rfl q (hqx.trans HT.out), ?_, HU.out.trans' hu9 (fun x hx e => by have := (HR.out.blk x e).1; omega)⟩
                have e : (rs ++ [q]).length = n + 1 := by rw [List.length_append, ← HN.out]; rfl
                rw [e]; exact hr'
              case measure => simp [intOf]; omega
            | false =>
              clear hskip
              go_upto_region 7 with (first | ((with_reducible refine wpl_load_at (ty := 59) r1 Try.underlying59 ?_ ?_ ?_ ?_); rfl; rfl; kernel_rfl) | ((with_reducible refine wpl_store (ty := 59) (cs := evx p) hz ?_ ?_ ?_ ?_ ?_ ?_); rfl; rfl; rfl; kernel_rfl; rfl; intro w4 hq5 hu5 hs5 hd5; have hu6 : Upd (fun _ => False) wr w4 := huz.out.trans' hu5 (fun x hx e => by omega); have hb6 := hu6.heap hqb (fun x => x); have e0 := cell_of hq5 0; have e1 := cell_of hq5 1; have b0 := cell_of hb6 0; have b1 := cell_of hb6 1) | (go_at_call 36; (with_reducible refine (hin.out _ hu6).mono ?_); rintro e w6 ⟨rfl, hu7⟩; clear e0 e1 b0 b1; have hq7 := hu7.heap hq5 (fun x => x); have hb7 := hu7.heap hb6 (fun x => x); have g0 := cell_of hq7 0; have c3 := cell_of hb7 3; have c4 := cell_of hb7 4; have c5 := cell_of hb7 5; have hu8 := hu6.trans hu7))
              have e7 := cell_of hq7 7; have f7 := free_of hq7 7; have e8 := cell_of hq7 8; have f8 := free_of hq7 8; have e9 := cell_of hq7 9; have f9 := free_of hq7 9; have e10 := cell_of hq7 10; have f10 := free_of hq7 10; have e11 := cell_of hq7 11; have f11 := free_of hq7 11; have e12 := cell_of hq7 12; have f12 := free_of hq7 12; have e13 := cell_of hq7 13; have f13 := free_of hq7 13
              go_upto_region 8 with (fail)
              have z1 := heap_setCell_at hq7 7 (.bool false)
              have z2 := heap_setCell_at z1 8 (.slice none 0 0)
              have z3 := heap_setCell_at z2 9 (.slice none 0 0)
              have z4 := heap_setCell_at z3 10 (.int .i64 0)
              have z5 := heap_setCell_at z4 11 (.int .i64 0)
              have z6 := heap_setCell_at z5 12 (.int .i64 0)
              have z7 := heap_setCell_at z6 13 (.int .i64 0)
              simp only [List.setIfInBounds_toArray, List.set_cons_succ, List.set_cons_zero] at z7
              have hu3 := (((((((Upd.refl (fun k => k = wr.heap.size) w6).setCell (p := ⟨wr.heap.size, 7, none⟩) (fun _ => rfl) (.bool false)).setCell (p := ⟨wr.heap.size, 8, none⟩) (fun _ => rfl) (.slice none 0 0)).setCell (p := ⟨wr.heap.size, 9, none⟩) (fun _ => rfl) (.slice none 0 0)).setCell (p := ⟨wr.heap.size, 10, none⟩) (fun _ => rfl) (.int .i64 0)).setCell (p := ⟨wr.heap.size, 11, none⟩) (fun _ => rfl) (.int .i64 0)).setCell (p := ⟨wr.heap.size, 12, none⟩) (fun _ => rfl) (.int .i64 0)).setCell (p := ⟨wr.heap.size, 13, none⟩) (fun _ => rfl) (.int .i64 0)
              have hq3 : (((((((w6.setCell ⟨wr.heap.size, 7, none⟩ (.bool false)).setCell ⟨wr.heap.size, 8, none⟩ (.slice none 0 0)).setCell ⟨wr.heap.size, 9, none⟩ (.slice none 0 0)).setCell ⟨wr.heap.size, 10, none⟩ (.int .i64 0)).setCell ⟨wr.heap.size, 11, none⟩ (.int .i64 0)).setCell ⟨wr.heap.size, 12, none⟩ (.int .i64 0)).setCell ⟨wr.heap.size, 13, none⟩ (.int .i64 0)).heap[wr.heap.size]? = some (.cells (evx { p with had := false, prev := nilP }) 59 (0, 0)) := z7
              generalize (((((((w6.setCell ⟨wr.heap.size, 7, none⟩ (.bool false)).setCell ⟨wr.heap.size, 8, none⟩ (.slice none 0 0)).setCell ⟨wr.heap.size, 9, none⟩ (.slice none 0 0)).setCell ⟨wr.heap.size, 10, none⟩ (.int .i64 0)).setCell ⟨wr.heap.size, 11, none⟩ (.int .i64 0)).setCell ⟨wr.heap.size, 12, none⟩ (.int .i64 0)).setCell ⟨wr.heap.size, 13, none⟩ (.int .i64 0)) = w9 at hq3 hu3 ⊢
              have hu10 : Upd (fun _ => False) wr w9 := hu8.trans' hu3 (fun x hx e => by omega)
              clear z1 z2 z3 z4 z5 z6 z7 hu3 e7 e8 e9 e10 e11 e12 e13 f7 f8 f9 f10 f11 f12 f13 g0 c3 c4 c5 hq7 hb7 hu8
              go_wp2_with (first
                | ((with_reducible refine wpl_load (ty := 59) hq3 Try.underlying59 ?_ ?_ ?_ ?_); rfl; rfl; kernel_rfl)
                | (go_at_call 37; (with_reducible refine (htw0.out _ hu10).mono ?_); rintro e w7 ⟨q, rfl, hqx, hqo, hu7'⟩; obtain ⟨a', c', w8, hap, ⟨J', hr'⟩, hu9⟩ := HR.out.more HN.out (hu10.trans hu7') (hqo.wider (fun b hb => ⟨Nat.le_trans hu10.size hb.1, hb.2⟩)) HU.out.size (by rw [← HN.out]; omega); rw [evx_eq])
                | (refine wpList_append hap (by rfl) (by rfl) (by rfl) (by rfl) ?_))
              go_roundw
              case rel =>
                refine ⟨k + 1, a', c', rs ++ [q], J', by omega, by go_num, by rw [List.length_append, ← HN.out]; rfl, hkeep.out rfl q (hqx.trans HT.out), ?_, HU.out.trans' hu9 (fun x hx e => by have := (HR.out.blk x e).1; omega)⟩
                have e : (rs ++ [q]).length = n + 1 := by rw [List.length_append, ← HN.out]; rfl
                rw [e]; exact hr'
              case measure => simp [intOf]; omega
    · obtain rfl : k = ps.length := by omega
      go_wp2
      go_ret
      refine ⟨va, vc, rs, J, by rw [HN.out]; rfl, by rw [HEq.out, List.take_length], HR0.out.lower (by rw [HZ.out]; omega), HA.out.trans hu⟩

end Go.Proofs.Ytidpiojanajpoaa
