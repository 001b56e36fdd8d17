/-
  WatchLate: the walk.
-/
import Derived.Test.YtidpiojanajpoaaLateW
namespace Go.Proofs.Ytidpiojanajpoaa
open Go.RowKit Go.Tb Go.MapKept Go.ChangeMaps
set_option linter.unusedVariables false

set_option maxRecDepth 100000 in
set_option maxHeartbeats 4000000 in
theorem late_walk (room most : Int) (wk we : Value) (x : Wt) (va : Value) (late : Int) (ws : List WsP) (w : World) (hwk : Bytes w wk x.key) (hwe : Bytes w we x.end_) (lw1 : x.key.length ≤ 140737488355328) (lw2 : x.end_.length ≤ 140737488355328)
    (hev : Wss w va ws) (hlt0 : -9223372036854775808 ≤ late) (hlt1 : late ≤ 9223372036854775807) (hl : ws.length ≤ 140737488355328) (hr : room ≤ 9223372036854775807) (hm : most ≤ 9223372036854775807) :
    Calls Try.prog 4 #[.int .i64 room, .int .i64 most, .agg (wcells wk we x), va, .int .i64 late] w fun e w' => e = .returned (.bool true) ∧ Upd (fun _ => False) w w' := by
  obtain ⟨wka, wkn, wkc, rfl⟩ := hwk.form
  obtain ⟨wea, wen, wec, rfl⟩ := hwe.form
  obtain ⟨eva, evc, rfl, hevc⟩ := hev.sl.shape
  have n1 := hwk.size
  have n2 := hwe.size
  obtain ⟨key, end_, start, np, nd, pv⟩ := x
  simp only at n1 n2 lw1 lw2 hwk hwe
  show Calls Try.prog 4 #[.int .i64 room, .int .i64 most, .agg #[.slice wka wkn wkc, .slice wea wen wec, .int .i64 start, .bool np, .bool nd, .bool pv], .slice eva ws.length evc, .int .i64 late] w _
  obtain ⟨w0, hw0⟩ : ∃ w0, w0 = w.alloc (.cells #[.slice wka wkn wkc, .slice wea wen wec, .int .i64 start, .bool np, .bool nd, .bool pv] 24) := ⟨_, rfl⟩
  have hu0 : Upd (fun _ => False) w w0 := by rw [hw0]; exact upd_alloc _ _ _
  have hb8 : w0.heap[w.heap.size]? = some (.cells #[.slice wka wkn wkc, .slice wea wen wec, .int .i64 start, .bool np, .bool nd, .bool pv] 24 (0, 0)) := by
    rw [hw0]; exact (heap_alloc w _).1
  have HB0 := Lib.hid (show w0.cell? ⟨w.heap.size, 0, none⟩ = some (.slice wka wkn wkc) ∧ w0.cell? ⟨w.heap.size, 1, none⟩ = some (.slice wea wen wec) ∧ w0.cell? ⟨w.heap.size, 2, none⟩ = some (.int .i64 start) from ⟨cell_of hb8 0, cell_of hb8 1, cell_of hb8 2⟩)
  have HU0 := Lib.hid hu0
  have HW0 := Lib.hid hw0
  clear hb8 hu0
  clear hw0
  by_cases g1 : room < 1
  ·
    clear hev hwk hwe
    go_enter Try.func4, Try.ntmps4
    go_upto_region 1 with (fail)
    rw [← HW0.out]
    go_wp2_with (first | (go_at_call 7; (with_reducible refine (lives_calls w0).mono ?_); rintro e w' ⟨rfl, hux⟩; have hz := hux.cell HB0.out.1 (fun x => x); have hz1 := hux.cell HB0.out.2.1 (fun x => x); have HUX := Lib.hid hux; have hlv := lives_calls w'; clear hux) | (go_at_call 7; (with_reducible refine hlv.mono ?_); rintro e w2 ⟨rfl, huy⟩))
    go_ret
    exact ⟨rfl, (HU0.out.trans HUX.out).trans huy⟩
  by_cases g2 : 4096 < room
  ·
    clear hev hwk hwe
    go_enter Try.func4, Try.ntmps4
    go_upto_region 1 with (fail)
    rw [← HW0.out]
    go_wp2_with (first | (go_at_call 7; (with_reducible refine (lives_calls w0).mono ?_); rintro e w' ⟨rfl, hux⟩; have hz := hux.cell HB0.out.1 (fun x => x); have hz1 := hux.cell HB0.out.2.1 (fun x => x); have HUX := Lib.hid hux; have hlv := lives_calls w'; clear hux) | (go_at_call 7; (with_reducible refine hlv.mono ?_); rintro e w2 ⟨rfl, huy⟩))
    go_ret
    exact ⟨rfl, (HU0.out.trans HUX.out).trans huy⟩
  by_cases g3 : most < 1
  ·
    clear hev hwk hwe
    go_enter Try.func4, Try.ntmps4
    go_upto_region 1 with (fail)
    rw [← HW0.out]
    go_wp2_with (first | (go_at_call 7; (with_reducible refine (lives_calls w0).mono ?_); rintro e w' ⟨rfl, hux⟩; have hz := hux.cell HB0.out.1 (fun x => x); have hz1 := hux.cell HB0.out.2.1 (fun x => x); have HUX := Lib.hid hux; have hlv := lives_calls w'; clear hux) | (go_at_call 7; (with_reducible refine hlv.mono ?_); rintro e w2 ⟨rfl, huy⟩))
    go_ret
    exact ⟨rfl, (HU0.out.trans HUX.out).trans huy⟩
  by_cases g4 : 4096 < most
  ·
    clear hev hwk hwe
    go_enter Try.func4, Try.ntmps4
    go_upto_region 1 with (fail)
    rw [← HW0.out]
    go_wp2_with (first | (go_at_call 7; (with_reducible refine (lives_calls w0).mono ?_); rintro e w' ⟨rfl, hux⟩; have hz := hux.cell HB0.out.1 (fun x => x); have hz1 := hux.cell HB0.out.2.1 (fun x => x); have HUX := Lib.hid hux; have hlv := lives_calls w'; clear hux) | (go_at_call 7; (with_reducible refine hlv.mono ?_); rintro e w2 ⟨rfl, huy⟩))
    go_ret
    exact ⟨rfl, (HU0.out.trans HUX.out).trans huy⟩
  by_cases g5 : (30 : Int) < (ws.length : Int)
  ·
    clear hev hwk hwe
    go_enter Try.func4, Try.ntmps4
    go_upto_region 1 with (fail)
    rw [← HW0.out]
    go_wp2_with (first | (go_at_call 7; (with_reducible refine (lives_calls w0).mono ?_); rintro e w' ⟨rfl, hux⟩; have hz := hux.cell HB0.out.1 (fun x => x); have hz1 := hux.cell HB0.out.2.1 (fun x => x); have HUX := Lib.hid hux; have hlv := lives_calls w'; clear hux) | (go_at_call 7; (with_reducible refine hlv.mono ?_); rintro e w2 ⟨rfl, huy⟩))
    go_ret
    exact ⟨rfl, (HU0.out.trans HUX.out).trans huy⟩
  by_cases g6 : (300 : Int) < (wkn : Int) + (wen : Int)
  ·
    clear hev hwk hwe
    go_enter Try.func4, Try.ntmps4
    go_upto_region 1 with (fail)
    rw [← HW0.out]
    go_wp2_with (first | (go_at_call 7; (with_reducible refine (lives_calls w0).mono ?_); rintro e w' ⟨rfl, hux⟩; have hz := hux.cell HB0.out.1 (fun x => x); have hz1 := hux.cell HB0.out.2.1 (fun x => x); have HUX := Lib.hid hux; have hlv := lives_calls w'; clear hux) | (go_at_call 7; (with_reducible refine hlv.mono ?_); rintro e w2 ⟨rfl, huy⟩))
    go_ret
    exact ⟨rfl, (HU0.out.trans HUX.out).trans huy⟩
  exact late_good room most (.slice wka wkn wkc) (.slice wea wen wec) ⟨key, end_, start, np, nd, pv⟩ (.slice eva ws.length evc) late ws w hwk hwe lw1 lw2 hev hlt0 hlt1 (by omega) (by omega) (by omega) (by omega) (by omega) (by show key.length + end_.length ≤ 300; omega)

end Go.Proofs.Ytidpiojanajpoaa
