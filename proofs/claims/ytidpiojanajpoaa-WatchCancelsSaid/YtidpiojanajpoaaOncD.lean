/-
  A watcher is cancelled: sync.Once, done once, one goroutine.
-/
import Derived.Defers
import Derived.Laws.Pointers
import Derived.Laws.LoneSync
import Derived.Laws.NewBlocks
import Derived.Deep.Cut
import Derived.Test.YtidpiojanajpoaaHubA
namespace Go.Proofs.Ytidpiojanajpoaa
open Go.RowKit Go.Tb Go.MapKept Go.ChangeMaps
set_option linter.unusedVariables false

theorem o_disable (w : World) : (callFunc 90 #[]).run Try.prog w = .ok (.value (.tuple #[])) w := run_call_mark0 Try.func90 (by kernel_rfl) (by kernel_rfl) (by kernel_rfl) .disable (by kernel_rfl) w
theorem o_enable (w : World) : (callFunc 92 #[]).run Try.prog w = .ok (.value (.tuple #[])) w := run_call_mark0 Try.func92 (by kernel_rfl) (by kernel_rfl) (by kernel_rfl) .enable (by kernel_rfl) w
theorem o_acquire (a : Addr) (w : World) : (callFunc 93 #[.pointer (some a)]).run Try.prog w = .ok (.value (.tuple #[])) w := run_call_marked Try.func93 (by kernel_rfl) (by kernel_rfl) (by kernel_rfl) .acquire (by kernel_rfl) a w
theorem o_relmerge (a : Addr) (w : World) : (callFunc 95 #[.pointer (some a)]).run Try.prog w = .ok (.value (.tuple #[])) w := run_call_marked Try.func95 (by kernel_rfl) (by kernel_rfl) (by kernel_rfl) .releaseMerge (by kernel_rfl) a w

set_option maxRecDepth 100000 in
/-- '(*sync/atomic.Bool).Store(true)', deferred. -/
theorem o_store (a : Addr) (x : Value) (u : FrameMode) (w : World) (hc : w.cell? a = some x) (hz : w.frozen? a = false) :
    CallsD Try.prog 68 #[.pointer (some a), .bool true] u w fun e u' w' => u' = u ∧ (e = .returned (.tuple #[]) ∧ w' = w.drew.setCell a (.int .u32 1)) := by
  have hc' : w.drew.cell? a = some x := by go_simp
  have hz' : w.drew.frozen? a = false := by go_simp
  have hst := run_call_store (P := Try.prog) Try.func82 (by kernel_rfl) (by kernel_rfl) (by kernel_rfl) (by kernel_rfl) (k := .u32) (y := 1) hc' hz'
  go_enter_d Try.func68, Try.ntmps68
  go_wp2
  go_region_calls
  all_goals (go_end0; exact ⟨rfl, rfl⟩)

set_option maxRecDepth 100000 in
/-- '(*sync.Mutex).Unlock', deferred: the lock is held, and nobody waits. -/
theorem o_unlock (a : Addr) (u : FrameMode) (w : World) (hc : w.cell? a = some (.int .i32 1)) (hz : w.frozen? a = false) :
    CallsD Try.prog 67 #[.pointer (some a)] u w fun e u' w' => u' = u ∧ (e = .returned (.tuple #[]) ∧ w' = w.setCell a (.int .i32 0)) := by
  have hd := o_disable
  have he := o_enable
  have hr := o_relmerge
  have hadd := run_call_add (P := Try.prog) Try.func96 (by kernel_rfl) (by kernel_rfl) (by kernel_rfl) .i32 (by kernel_rfl) (y := -1) (s := 0) hc hz (by simp [go_sem]; rfl)
  have hcv := run_convert_to_unsafe (P := Try.prog) (src := 144) (dst := 148) Try.underlying144 Try.underlying148 (by kernel_rfl) hc
  go_enter_d Try.func67, Try.ntmps67
  go_wp2
  go_end0
  all_goals (try go_wp2)
  all_goals (try go_end0)
  all_goals (exact ⟨rfl, rfl⟩)

set_option maxRecDepth 100000 in
/-- '(*sync.Mutex).Lock' of a free lock. -/
theorem o_lock (a : Addr) (w : World) (hc : w.cell? a = some (.int .i32 0)) (hz : w.frozen? a = false) :
    Calls Try.prog 66 #[.pointer (some a)] w fun e w' => e = .returned (.tuple #[]) ∧ w' = w.setCell a (.int .i32 1) := by
  have hd := o_disable
  have he := o_enable
  have ha := o_acquire
  have hcas := run_call_cas_hit (P := Try.prog) Try.func91 (by kernel_rfl) (by kernel_rfl) (by kernel_rfl) .i32 (by kernel_rfl) (y := 1) hc hz
  have hc' : (w.setCell a (.int .i32 1)).cell? a = some (.int .i32 1) := World.cell?_setCell_same w a _ hc
  have hcv := run_convert_to_unsafe (P := Try.prog) (src := 144) (dst := 148) Try.underlying144 Try.underlying148 (by kernel_rfl) hc'
  go_enter Try.func66, Try.ntmps66
  go_wp2
  first | go_end0 | (simp only [Exit.inBlock, Exit.then]; refine bodyPost_ret (results_none rfl _ _ _) rfl ?_) | refine bodyPost_ret (results_none rfl _ _ _) rfl ?_
  all_goals (try go_wp2)
  all_goals (try go_end0)
  all_goals (exact ⟨rfl, rfl⟩)

/-- What cancel hands to Do. -/
theorem cclos_calls (xb fb blk : Nat) (p : WrP) (x : Wr) (s : Value) (fl : Int) (w : World) (hx : w.cell? ⟨xb, 0, none⟩ = some (.pointer (some ⟨blk, 0, none⟩))) (hf : w.cell? ⟨fb, 0, none⟩ = some (.int .i64 fl)) (n1 : xb ≠ blk) (n2 : fb ≠ blk) (c : Array Value) (hb : w.heap[blk]? = some (.cells c 87 (0, 0))) (hc : 12 < c.size) :
    Calls Try.prog 42 #[.pointer (some ⟨fb, 0, none⟩), .pointer (some ⟨xb, 0, none⟩)] w fun e w' => e = .returned (.tuple #[]) ∧ w'.heap[blk]? = some (.cells ((c.setIfInBounds 11 (.bool true)).setIfInBounds 12 (.int .i64 fl)) 87 (0, 0)) ∧ Upd (fun k => k = blk) w w' := by
  have c11 : w.cell? ⟨blk, 11, none⟩ = some c[11] := by rw [cell_of hb]; simp
  have c12 : w.cell? ⟨blk, 12, none⟩ = some c[12] := by rw [cell_of hb]; simp
  have f11 : w.frozen? ⟨blk, 11, none⟩ = false := free_of hb 11
  have f12 : w.frozen? ⟨blk, 12, none⟩ = false := free_of hb 12
  have HB := Lib.hid hb
  clear hb
  go_enter Try.func42, Try.ntmps42
  go_region
  all_goals (try go_wp2)
  all_goals (
    go_end0
    have h1 := heap_setCell_at (heap_setCell_at HB.out 11 (.bool true)) 12 (.int .i64 fl)
    exact ⟨rfl, (Upd.refl (fun _ => False) _).drew.heap h1 (fun x => x), ((upd_setCell (fun k => k = blk) w ⟨blk, 11, none⟩ (.bool true) rfl).trans (upd_setCell (fun k => k = blk) _ ⟨blk, 12, none⟩ (.int .i64 fl) rfl)).drew⟩)

set_option maxRecDepth 100000 in
theorem o_bload (a : Addr) (w : World) (hc : w.cell? a = some (.int .u32 0)) :
    Calls Try.prog 56 #[.pointer (some a)] w fun e w' => e = .returned (.bool false) ∧ w = w' := by
  have hl := run_call_load (P := Try.prog) Try.func65 (by kernel_rfl) (by kernel_rfl) (by kernel_rfl) .u32 (by kernel_rfl) hc
  go_enter Try.func56, Try.ntmps56
  go_wp2
  go_ret
  exact ⟨rfl, rfl⟩

/-- A row of cells, one of them set. -/
abbrev wend (p : WrP) (x : Wr) (d l : Int) (e : Bool) (f : Int) : Array Value := #[p.k.v, p.e.v, .int .i64 x.w.start, .bool x.w.np, .bool x.w.nd, .bool x.w.pv, .int .i64 x.next, p.b.v, .int .u32 d, .int .i32 l, .int .u32 0, .bool e, .int .i64 f]

set_option maxRecDepth 100000 in
set_option maxHeartbeats 1600000 in
theorem o_slow (xb fb blk : Nat) (p : WrP) (x : Wr) (fl : Int) (f0 : Int) (w : World) (hx : w.cell? ⟨xb, 0, none⟩ = some (.pointer (some ⟨blk, 0, none⟩))) (hf : w.cell? ⟨fb, 0, none⟩ = some (.int .i64 fl)) (n1 : xb ≠ blk) (n2 : fb ≠ blk) (hb : w.heap[blk]? = some (.cells (wend p x 0 0 false f0) 87 (0, 0))) :
    Calls Try.prog 57 #[.pointer (some ⟨blk, 8, none⟩), .func (.func 42) #[] #[.pointer (some ⟨fb, 0, none⟩), .pointer (some ⟨xb, 0, none⟩)]] w fun e w' => e = .returned (.tuple #[]) ∧ w'.heap[blk]? = some (.cells (wend p x 1 0 true fl) 87 (0, 0)) ∧ Upd (fun k => k = blk) w w' := by
  have c9 : w.cell? ⟨blk, 9, none⟩ = some (.int .i32 0) := cell_of hb 9
  have f9 : w.frozen? ⟨blk, 9, none⟩ = false := free_of hb 9
  have hu1 := upd_setCell (fun k => k = blk) w ⟨blk, 9, none⟩ (.int .i32 1) rfl
  have hb1 := heap_setCell_at hb 9 (.int .i32 1)
  simp only [List.setIfInBounds_toArray, List.set_cons_succ, List.set_cons_zero] at hb1
  have hx1 := hu1.cell hx n1
  have hf1 := hu1.cell hf n2
  have hbl := o_bload ⟨blk, 8, none⟩ (w.setCell ⟨blk, 9, none⟩ (.int .i32 1)) (cell_of hb1 8)
  have hnot : ∀ (x : Bool) (w : World), (Op.unary .not (.bool x)).run Try.prog w = .ok (.bool (!x)) w := fun _ _ => rfl
  have hcc := cclos_calls xb fb blk p x (.int .i64 0) fl (w.setCell ⟨blk, 9, none⟩ (.int .i32 1)) hx1 hf1 n1 n2 _ hb1 (by simp)
  have HU1 := Lib.hid hu1
  clear hb hb1 hu1 hx hf hx1 hf1
  go_enter_defers Try.func57, Try.ntmps57
  go_wp2_with (first
    | (go_at_call 66; refine (o_lock ⟨blk, 9, none⟩ _ (by go_simp) (by go_simp)).mono ?_; rintro e w' ⟨rfl, rfl⟩)
    | (go_at_call 56; refine hbl.mono ?_; rintro e w' ⟨rfl, rfl⟩)
    | (go_at_call 42; refine hcc.mono ?_; rintro e w2 ⟨rfl, hb2, hu2⟩))
  simp only [List.setIfInBounds_toArray, List.set_cons_succ, List.set_cons_zero] at hb2
  try go_wp2
  -- the two deferred calls, the last laid first
  refine leaves_cons (f := 68) (args := #[.pointer (some ⟨blk, 8, none⟩), .bool true]) (by simp) (by simp [go_sem]) ?_
  refine (o_store ⟨blk, 8, none⟩ (.int .u32 0) .returning _ (cell_of hb2 8) (free_of hb2 8)).mono ?_
  rintro e u' w3 ⟨rfl, rfl, rfl⟩
  have hb3 := heap_setCell_at ((Upd.refl (fun _ => False) w2).drew.heap hb2 (fun x => x)) 8 (.int .u32 1)
  have hu3 := (hu2.drew).trans (upd_setCell (fun k => k = blk) w2.drew ⟨blk, 8, none⟩ (.int .u32 1) rfl)
  simp only [List.setIfInBounds_toArray, List.set_cons_succ, List.set_cons_zero] at hb3
  refine leaves_cons (f := 67) (args := #[.pointer (some ⟨blk, 9, none⟩)]) (by simp [settle]) (by simp [go_sem]) ?_
  refine (o_unlock ⟨blk, 9, none⟩ _ _ (cell_of hb3 9) (free_of hb3 9)).mono ?_
  rintro e u' w4 ⟨rfl, rfl, rfl⟩
  have hb4 := heap_setCell_at hb3 9 (.int .i32 0)
  have hu4 := (HU1.out.trans hu3).trans (upd_setCell (fun k => k = blk) _ ⟨blk, 9, none⟩ (.int .i32 0) rfl)
  simp only [List.setIfInBounds_toArray, List.set_cons_succ, List.set_cons_zero] at hb4
  have hfin := And.intro hb4 hu4
  simp [Leaves, settle, results, Try.results57]
  exact hfin

set_option maxRecDepth 100000 in
set_option maxHeartbeats 1600000 in
theorem o_do (xb fb blk : Nat) (p : WrP) (x : Wr) (fl : Int) (f0 : Int) (w : World) (hx : w.cell? ⟨xb, 0, none⟩ = some (.pointer (some ⟨blk, 0, none⟩))) (hf : w.cell? ⟨fb, 0, none⟩ = some (.int .i64 fl)) (n1 : xb ≠ blk) (n2 : fb ≠ blk) (hb : w.heap[blk]? = some (.cells (wend p x 0 0 false f0) 87 (0, 0))) :
    Calls Try.prog 41 #[.pointer (some ⟨blk, 8, none⟩), .func (.func 42) #[] #[.pointer (some ⟨fb, 0, none⟩), .pointer (some ⟨xb, 0, none⟩)]] w fun e w' => e = .returned (.tuple #[]) ∧ w'.heap[blk]? = some (.cells (wend p x 1 0 true fl) 87 (0, 0)) ∧ Upd (fun k => k = blk) w w' := by
  have hbl := o_bload ⟨blk, 8, none⟩ w (cell_of hb 8)
  have hsl := o_slow xb fb blk p x fl f0 w hx hf n1 n2 hb
  have hnot : ∀ (x : Bool) (w : World), (Op.unary .not (.bool x)).run Try.prog w = .ok (.bool (!x)) w := fun _ _ => rfl
  clear hx hf hb
  go_enter Try.func41, Try.ntmps41
  go_wp2_with (first
    | (go_at_call 56; refine hbl.mono ?_; rintro e w' ⟨rfl, rfl⟩)
    | (go_at_call 57; refine hsl.mono ?_; rintro e w2 ⟨rfl, hb2, hu2⟩))
  go_end0
  exact ⟨rfl, hb2, hu2⟩

set_option maxRecDepth 100000 in
set_option maxHeartbeats 1600000 in
/-- A watcher is cancelled that wasn't. -/
theorem cancel_calls (blk : Nat) (p : WrP) (x : Wr) (fl : Int) (w : World) (hp : p.blk = blk) (hen : x.ended = false) (hb : w.heap[blk]? = some (.cells (wrenc p x) 87 (0, 0))) :
    Calls Try.prog 27 #[.pointer (some ⟨blk, 0, none⟩), .int .i64 fl] w fun e w' => e = .returned (.tuple #[]) ∧ w'.heap[blk]? = some (.cells (wrenc p { x with ended := true, floor := fl }) 87 (0, 0)) ∧ Upd (fun k => k = blk) w w' := by
  have hmf : ∀ (fn : Fn) (first cap : Array Value) (w : World), (Instr.makeFunc fn first cap).run Try.prog w = .ok (.func fn first cap) w := fun _ _ _ _ => rfl
  have e1 : wrenc p x = wend p x 0 0 false x.floor := by unfold wrenc wend; rw [hen]; rfl
  rw [e1] at hb
  have hlt := lt_of_heap hb
  have ha1 := (heap_alloc w (.cells #[.pointer (some ⟨blk, 0, none⟩)] 75)).1
  have hu1 := upd_alloc (fun _ => False) w (.cells #[.pointer (some ⟨blk, 0, none⟩)] 75)
  have ha2 := (heap_alloc (w.alloc (.cells #[.pointer (some ⟨blk, 0, none⟩)] 75)) (.cells #[.int .i64 fl] 2)).1
  have hu2 := upd_alloc (fun _ => False) (w.alloc (.cells #[.pointer (some ⟨blk, 0, none⟩)] 75)) (.cells #[.int .i64 fl] 2)
  have z1 : (w.alloc (.cells #[.pointer (some ⟨blk, 0, none⟩)] 75)).heap.size = w.heap.size + 1 := by simp
  rw [z1] at ha2
  have hdo := o_do w.heap.size (w.heap.size + 1) blk p x fl x.floor _ (cell_of (hu2.heap ha1 (fun x => x)) 0) (cell_of ha2 0) (by omega) (by omega) (hu2.heap (hu1.heap hb (fun x => x)) (fun x => x))
  have HU := Lib.hid (hu1.trans hu2)
  have HP1 := Lib.hid (cell_of (hu2.heap ha1 (fun x => x)) 0)
  clear hb ha1 ha2 hu1 hu2 z1 e1
  go_enter Try.func27, Try.ntmps27
  go_wp2_with (go_at_call 41; refine hdo.mono ?_; rintro e w2 ⟨rfl, hb2, hu2⟩)
  go_end0
  exact ⟨rfl, hb2, (HU.out.weak _).trans hu2⟩

end Go.Proofs.Ytidpiojanajpoaa
