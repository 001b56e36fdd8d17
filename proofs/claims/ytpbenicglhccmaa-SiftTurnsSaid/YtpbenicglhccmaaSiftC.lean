/-
  The order of a query: the closure that is handed to the sort.
-/
import Derived.Test.YtpbenicglhccmaaSiftB
namespace Go.Proofs.Ytpbenicglhccmaa
open Go.RowKit Go.Tb Go.MapKept Go.ChangeMaps Go.Lib
set_option linter.unusedVariables false

def cmpD (q : Qr) (a b : KV) : Int := if q.desc then cmpQ q.sort b a else cmpQ q.sort a b

set_option maxRecDepth 100000 in
set_option maxHeartbeats 2000000 in
theorem clos_calls (qb : Nat) (k e : Value) (q : Qr) (p1 p2 : KvP) (I J : Nat → Prop) (w : World) (hq : w.heap[qb]? = some (.cells (qcells k e q) 24 (0, 0))) (h1 : p1.Ok w I) (h2 : p2.Ok w J) :
    Calls Try.prog 18 #[.agg (kvenc p1).toArray, .agg (kvenc p2).toArray, .pointer (some ⟨qb, 0, none⟩)] w fun e w' => e = .returned (.int .i64 (cmpD q p1.x p2.x)) ∧ Upd (fun _ => False) w w' ∧ w'.drawn = w.drawn := by
  obtain ⟨at_, lim, sort, desc, keys, count, mm, xm, mc, xc⟩ := q
  have hcq := fun (W : World) (hu : Upd (fun _ => False) w W) => cmpq_calls sort p1 p2 I J W (h1.grow hu) (h2.grow hu)
  have hcd := fun (W : World) (hu : Upd (fun _ => False) w W) => cmpq_calls sort p2 p1 J I W (h2.grow hu) (h1.grow hu)
  have hfin : cmpD ⟨at_, lim, sort, desc, keys, count, mm, xm, mc, xc⟩ p1.x p2.x = if desc then cmpQ sort p2.x p1.x else cmpQ sort p1.x p2.x := rfl
  rw [hfin]
  generalize cmpQ sort p2.x p1.x = n2 at *
  generalize cmpQ sort p1.x p2.x = n1 at *
  obtain ⟨⟨k1, v1, r1, m1, t1, l1⟩, ⟨a1, b1, c1⟩, ⟨d1, e1, f1⟩⟩ := p1
  obtain ⟨⟨k2, v2, r2, m2, t2, l2⟩, ⟨a2, b2, c2⟩, ⟨d2, e2, f2⟩⟩ := p2
  clear h1 h2 hfin
  generalize hx : (#[.slice a1 b1 c1, .slice d1 e1 f1, .int .i64 r1, .int .i64 m1, .int .i64 t1, .int .i64 l1] : Array Value) = x1
  generalize hy : (#[.slice a2 b2 c2, .slice d2 e2 f2, .int .i64 r2, .int .i64 m2, .int .i64 t2, .int .i64 l2] : Array Value) = x2
  have hcq' : ∀ (W : World), Upd (fun _ => False) w W → Calls Try.prog 19 #[.int .i64 sort, .agg x1, .agg x2] W fun e w' => e = .returned (.int .i64 n1) ∧ Upd (fun _ => False) W w' ∧ w'.drawn = W.drawn := by subst hx hy; exact hcq
  have hcd' : ∀ (W : World), Upd (fun _ => False) w W → Calls Try.prog 19 #[.int .i64 sort, .agg x2, .agg x1] W fun e w' => e = .returned (.int .i64 n2) ∧ Upd (fun _ => False) W w' ∧ w'.drawn = W.drawn := by subst hx hy; exact hcd
  have ho1 : x1.toList.all (·.oneCell') = true := by subst hx; rfl
  have ho2 : x2.toList.all (·.oneCell') = true := by subst hy; rfl
  have hz1 : x1.size = 6 := by subst hx; rfl
  have hz2 : x2.size = 6 := by subst hy; rfl
  show Calls Try.prog 18 #[.agg #[.slice a1 b1 c1, .slice d1 e1 f1, .int .i64 r1, .int .i64 m1, .int .i64 t1, .int .i64 l1], .agg #[.slice a2 b2 c2, .slice d2 e2 f2, .int .i64 r2, .int .i64 m2, .int .i64 t2, .int .i64 l2], .pointer (some ⟨qb, 0, none⟩)] w _
  rw [hx, hy]
  clear hcq hcd hx hy
  have hu0 := (upd_alloc (fun _ => False) w (.cells x1 37)).alloc (.cells x2 37)
  have ha1 := heap_alloc w (.cells x1 37)
  have ha2 := heap_alloc (w.alloc (.cells x1 37)) (.cells x2 37)
  have hsz : (w.alloc (.cells x1 37)).heap.size = w.heap.size + 1 := by simp
  have hb1 : ((w.alloc (.cells x1 37)).alloc (.cells x2 37)).heap[w.heap.size]? = some (.cells x1 37 (0, 0)) := (ha2.2 _ (lt_of_heap ha1.1)).trans ha1.1
  have hb2 : ((w.alloc (.cells x1 37)).alloc (.cells x2 37)).heap[w.heap.size + 1]? = some (.cells x2 37 (0, 0)) := by rw [← hsz]; exact ha2.1
  have hbq := hu0.heap hq (fun x => x)
  have hqs := lt_of_heap hq
  have hdr : ((w.alloc (.cells x1 37)).alloc (.cells x2 37)).drawn = w.drawn := rfl
  have c4 : ((w.alloc (.cells x1 37)).alloc (.cells x2 37)).cell? ⟨qb, 4, none⟩ = some (.int .i64 sort) := cell_of hbq 4
  have c5 : ((w.alloc (.cells x1 37)).alloc (.cells x2 37)).cell? ⟨qb, 5, none⟩ = some (.bool desc) := cell_of hbq 5
  have Hdr := Lib.hid hdr
  have Hu0 := Lib.hid hu0
  have Hbq := Lib.hid hbq
  have H1 := Lib.hid hb1
  have H2 := Lib.hid hb2
  have Hz1 := Lib.hid hz1
  have Hz2 := Lib.hid hz2
  have Ho1 := Lib.hid ho1
  have Ho2 := Lib.hid ho2
  have Hi : ∀ (x : Array Value), x.size = 6 → (Try.prog.info? 37).map (·.size) = some x.size := fun x hx => by rw [hx]; exact info_KV
  have Hinf := Lib.hid Hi
  have Hc := Lib.hid hcq'
  have Hd := Lib.hid hcd'
  clear hq ha1 ha2 hu0 hsz hbq hb1 hb2 hz1 hz2 hdr ho1 ho2 Hi hcq' hcd'
  cases desc with
  | false =>
    have hcc := Hc.out _ Hu0.out
    go_enter Try.func18, Try.ntmps18
    go_wp2_with (first
      | ((with_reducible refine wpl_load (ty := 37) H1.out Try.underlying37 ?_ ?_ ?_ ?_); rfl; rfl; exact Hinf.out _ Hz1.out)
      | ((with_reducible refine wpl_load (ty := 37) H2.out Try.underlying37 ?_ ?_ ?_ ?_); rfl; rfl; exact Hinf.out _ Hz2.out)
      | (go_at_call 19; (with_reducible refine hcc.mono ?_); rintro e w2 ⟨rfl, hu2, hd2⟩; have Hu2 := Lib.hid hu2; have Hd2 := Lib.hid hd2; clear hu2 hd2))
    go_ret
    exact ⟨rfl, Hu0.out.trans Hu2.out, Hd2.out.trans Hdr.out⟩
  | true =>
    go_enter Try.func18, Try.ntmps18
    go_wp2_with (first
      | ((with_reducible refine wpl_load (ty := 37) H1.out Try.underlying37 ?_ ?_ ?_ ?_); rfl; rfl; exact Hinf.out _ Hz1.out)
      | ((with_reducible refine wpl_load (ty := 37) H2.out Try.underlying37 ?_ ?_ ?_ ?_); rfl; rfl; exact Hinf.out _ Hz2.out)
      | ((with_reducible refine wpl_store (ty := 37) (cs := x2) H1.out ?_ ?_ ?_ ?_ ?_ ?_); rfl; rfl; exact Hz2.out.trans Hz1.out.symm; exact Hinf.out _ Hz2.out; exact Ho2.out; intro w3 hb3 hu3 hs3 hd3; have D3 := Lib.hid hd3; have k4 := hu3.cell c4 (fun e => by have : qb = w.heap.size := e; omega); have G1 := Lib.hid hb3; have G2 := Lib.hid (hu3.heap H2.out (by omega)); have U3 := Lib.hid hu3; clear hb3 hu3 hs3 hd3)
      | ((with_reducible refine wpl_store (ty := 37) (cs := x1) G2.out ?_ ?_ ?_ ?_ ?_ ?_); rfl; rfl; exact Hz1.out.trans Hz2.out.symm; exact Hinf.out _ Hz1.out; exact Ho1.out; intro w4 hb4 hu4 hs4 hd4; have D4 := Lib.hid hd4; have j4 := hu4.cell k4 (fun e => by have : qb = w.heap.size + 1 := e; omega); have F2 := Lib.hid hb4; have F1 := Lib.hid (hu4.heap G1.out (by omega)); have U4 := Lib.hid hu4; clear hb4 hu4 hs4 hd4; have Hu4 := Lib.hid (show Upd (fun _ => False) w w4 from (Hu0.out.trans' U3.out (fun x hx e => by omega)).trans' U4.out (fun x hx e => by omega)); have hcd := Hd.out w4 Hu4.out)
      | ((with_reducible refine wpl_load (ty := 37) F1.out Try.underlying37 ?_ ?_ ?_ ?_); rfl; rfl; exact Hinf.out _ Hz2.out)
      | ((with_reducible refine wpl_load (ty := 37) F2.out Try.underlying37 ?_ ?_ ?_ ?_); rfl; rfl; exact Hinf.out _ Hz1.out)
      | (go_at_call 19; (with_reducible refine hcd.mono ?_); rintro e w2 ⟨rfl, hu2, hd2⟩; have Hu2 := Lib.hid hu2; have Hd2 := Lib.hid hd2; clear hu2 hd2))
    go_ret
    exact ⟨rfl, Hu4.out.trans Hu2.out, Hd2.out.trans (D4.out.trans (D3.out.trans Hdr.out))⟩

end Go.Proofs.Ytpbenicglhccmaa
