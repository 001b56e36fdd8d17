/-
  maps.Clone, Copy.
-/
import Derived.Test.YteokbokgiejmpaaDiskG
namespace Go.Proofs.Yteokbokgiejmpaa
open Go.RowKit Go.Tb Go.MapKept Go.ChangeMaps
set_option linter.unusedVariables false

theorem run_mclone (m : Nat) (es : Array MapEntry) (clock : Nat) (w : World) (h : w.heap[m]? = some (.map es clock)) :
    (callFunc 48 #[.iface 64 (.map (some m))]).run Try.prog w = .ok (.value (.iface 64 (.map (some w.heap.size)))) (w.alloc (.map es clock)) := by
  rw [run_callFunc_extern Try.func48 (by kernel_rfl) (by kernel_rfl) (by kernel_rfl) (f := 48) (e := Extern.MapsClone.clone) (by kernel_rfl)]
  have e : Extern.MapsClone.clone #[.iface 64 (.map (some m))] = (getObj m >>= fun o => match o with
      | .map entries clock => (newObj (.map entries clock) >>= fun n => pure (.iface 64 (.map (some n))))
      | _ => stuck "maps.clone: a map expected") := rfl
  rw [e]
  simp [MapKept.run_getObj_map h, Result.andThen]

theorem run_assert (r : Option Nat) (w : World) : (Instr.typeAssert (.iface 64 (.map r)) 20 64 false).run Try.prog w = .ok (.map r) w := by kernel_rfl

set_option maxRecDepth 100000 in
theorem clonem_calls (m : Nat) (g : Int → Option (List UInt8)) (I : Nat → Prop) (w : World) (h : PagesAt w m g I) :
    Calls Try.prog 38 #[.map (some m)] w fun e w' => e = .returned (.map (some w.heap.size)) ∧ PagesAt w' w.heap.size g I ∧ Upd (fun _ => False) w w' ∧ w'.heap.size = w.heap.size + 1 := by
  obtain ⟨f, n, ⟨es, clock, hb, ok⟩, hp⟩ := h
  have hmc := run_mclone m es clock w hb
  have hnil := fun (w : World) r => run_eql_map_nil (P := Try.prog) w 64 _ _ r Try.underlying64
  have hua : Upd (fun _ => False) w (w.alloc (.map es clock)) := upd_alloc _ _ _
  have has := run_assert
  have hfin : PagesAt (w.alloc (.map es clock)) w.heap.size g I := ⟨f, n, ⟨es, clock, (MapKept.heap_alloc w _).1, ok⟩, hp.upd hua (fun _ _ x => x)⟩
  clear hb ok hp
  go_enter Try.func38, Try.ntmps38
  go_wp2
  go_ret
  exact ⟨rfl, hfin, hua, by simp⟩


theorem aload_calls (b i : Nat) (x : Int) (w : World) (h : w.cell? ⟨b, i, none⟩ = some (.int .i64 x)) : Calls Try.prog 37 #[.pointer (some ⟨b, i, none⟩)] w fun e w' => e = .returned (.int .i64 x) ∧ w = w' := by
  have hl := run_call_load (P := Try.prog) Try.func47 (by kernel_rfl) (by kernel_rfl) (by kernel_rfl) .i64 (by kernel_rfl) h
  go_enter Try.func37, Try.ntmps37
  go_wp2
  go_ret
  exact ⟨rfl, rfl⟩
theorem astore_calls (b i : Nat) (x : Int) (u : Value) (w : World) (h : w.cell? ⟨b, i, none⟩ = some u) (hf : w.frozen? ⟨b, i, none⟩ = false) :
    Calls Try.prog 39 #[.pointer (some ⟨b, i, none⟩), .int .i64 x] w fun e w' => e = .returned (.tuple #[]) ∧ w.setCell ⟨b, i, none⟩ (.int .i64 x) = w' := by
  have hl := run_call_store (P := Try.prog) Try.func49 (by kernel_rfl) (by kernel_rfl) (by kernel_rfl) (by kernel_rfl) (k := .i64) (y := x) h hf
  go_enter Try.func39, Try.ntmps39
  go_wp2
  go_end0
  exact ⟨rfl, rfl⟩

set_option maxRecDepth 100000 in
set_option maxHeartbeats 1000000 in
theorem copyd_calls (b mp mc : Nat) (D : DS) (I : Nat → Prop) (w : World) (h : IsDisk w b mp mc D I) :
    Calls Try.prog 22 #[.pointer (some ⟨b, 0, none⟩)] w fun e w' => ∃ b' mp' mc', e = .returned (.pointer (some ⟨b', 0, none⟩)) ∧ IsDisk w' b' mp' mc' D I ∧ w.heap.size ≤ b' ∧ w.heap.size ≤ mp' ∧ w.heap.size ≤ mc' ∧ Upd (fun _ => False) w w' := by
  have h0 : w.cell? ⟨b, 0, none⟩ = some (.int .i64 D.size) := cell_of h.blk 0
  have h1 : w.cell? ⟨b, 1, none⟩ = some (.map (some mp)) := cell_of h.blk 1
  have h2 : w.cell? ⟨b, 2, none⟩ = some (.map (some mc)) := cell_of h.blk 2
  have h3 : w.cell? ⟨b, 3, none⟩ = some (.int .i64 D.fuse) := cell_of h.blk 3
  have h4 : w.cell? ⟨b, 4, none⟩ = some (.bool D.dead) := cell_of h.blk 4
  have h5 : w.cell? ⟨b, 5, none⟩ = some (.int .i64 D.done) := cell_of h.blk 5
  have hbl := lt_of_heap h.blk
  have hnew := World.new_ne w _ h0
  go_enter Try.func22, Try.ntmps22
  go_wp2
  go_region_held3 (fun w' => w'.cell? ⟨b, 0, none⟩ = some (.int .i64 D.size) ∧ w'.cell? ⟨b, 1, none⟩ = some (.map (some mp)) ∧ w'.cell? ⟨b, 2, none⟩ = some (.map (some mc)) ∧ w'.cell? ⟨b, 3, none⟩ = some (.int .i64 D.fuse) ∧ w'.cell? ⟨b, 4, none⟩ = some (.bool D.dead))
    (first | exact ⟨h0, h1, h2, h3, h4⟩ | exact ⟨hu1.cell h0 (fun x => x), hu1.cell h1 (fun x => x), hu1.cell h2 (fun x => x), hu1.cell h3 (fun x => x), hu1.cell h4 (fun x => x)⟩ | exact ⟨hu2.cell (hu1.cell h0 (fun x => x)) (fun x => x), hu2.cell (hu1.cell h1 (fun x => x)) (fun x => x), hu2.cell (hu1.cell h2 (fun x => x)) (fun x => x), hu2.cell (hu1.cell h3 (fun x => x)) (fun x => x), hu2.cell (hu1.cell h4 (fun x => x)) (fun x => x)⟩ | go_keep)
    (first | (go_at_call 38; refine (clonem_calls mp D.pages I w.drew h.pg).mono ?_; rintro e w1 ⟨rfl, hp1, hu1, hs1⟩)
           | (go_at_call 38; (with_reducible refine (clonem_calls mc D.cache I w1 (h.ch.upd hu1.undrew (fun x => x) (fun _ _ x => x))).mono ?_); rintro e w2 ⟨rfl, hp2, hu2, hs2⟩))
  have hs12 : w2.heap.size = w.heap.size + 2 := by rw [hs2, hs1]; rfl
  have hu02 : Upd (fun _ => False) w w2 := hu1.undrew.trans hu2
  generalize hw3 : w2.alloc (Obj.cells #[Value.int .i64 D.size, Value.map (some w.heap.size), Value.map (some (w.heap.size + 1)), Value.int .i64 D.fuse, Value.bool D.dead, Value.int .i64 0] 71) = w3 at *
  have hb3 : w3.heap[w.heap.size + 2]? = some (.cells #[Value.int .i64 D.size, Value.map (some w.heap.size), Value.map (some (w.heap.size + 1)), Value.int .i64 D.fuse, Value.bool D.dead, Value.int .i64 0] 71 (0, 0)) := by
    rw [← hw3, ← hs12]; exact (MapKept.heap_alloc w2 _).1
  have hu23 : Upd (fun _ => False) w2 w3 := by rw [← hw3]; exact upd_alloc _ _ _
  clear hw3
  have g5 : w3.cell? ⟨w.heap.size + 1 + 1, 5, none⟩ = some (.int .i64 0) := cell_of hb3 5
  have z5 : w3.frozen? ⟨w.heap.size + 1 + 1, 5, none⟩ = false := free_of hb3 5
  have h5' : w3.cell? ⟨b, 5, none⟩ = some (.int .i64 D.done) := (hu02.trans hu23).cell h5 (fun x => x)
  go_wp2
  go_region_held3 (fun _ => True) (first | trivial)
    (first | (go_at_call 37; refine (aload_calls b 5 D.done w3.drew h5').mono ?_; rintro e w4 ⟨rfl, rfl⟩)
           | (go_at_call 39; refine (astore_calls (w.heap.size + 1 + 1) 5 D.done _ w3.drew g5 z5).mono ?_; rintro e w5 ⟨rfl, hw5⟩; subst hw5))
  have hb4 : (w3.setCell ⟨w.heap.size + 1 + 1, 5, none⟩ (.int .i64 D.done)).heap[w.heap.size + 2]? = _ := heap_setCell_at hb3 5 _
  have hu34 : Upd (fun k => k = w.heap.size + 2) w3 (w3.setCell ⟨w.heap.size + 1 + 1, 5, none⟩ (.int .i64 D.done)) := upd_setCell _ _ _ _ rfl
  have hp1' : PagesAt w2 w.heap.size D.pages I := hp1.upd hu2 (fun x => x) (fun _ _ x => x)
  have hp2' : PagesAt w2 (w.heap.size + 1) D.cache I := by rw [hs1] at hp2; exact hp2
  have hIb := h.pg.bound
  have hfin : IsDisk (w3.setCell ⟨w.heap.size + 1 + 1, 5, none⟩ (.int .i64 D.done)) (w.heap.size + 2) w.heap.size (w.heap.size + 1) D I :=
    { blk := by rw [hb4]; simp
      pg := (hp1'.upd hu23 (fun x => x) (fun _ _ x => x)).upd hu34 (by omega) (fun x hx e => by have := hIb x hx; omega)
      ch := (hp2'.upd hu23 (fun x => x) (fun _ _ x => x)).upd hu34 (by omega) (fun x hx e => by have := hIb x hx; omega)
      n1 := by omega, n2 := by omega, n3 := by omega, a1 := fun hx => by have := hIb _ hx; omega, a2 := fun hx => by have := hIb _ hx; omega, a3 := fun hx => by have := hIb _ hx; omega
      s1 := h.s1, s2 := h.s2, f1 := h.f1, f2 := h.f2 }
  have hufin : Upd (fun _ => False) w (w3.setCell ⟨w.heap.size + 1 + 1, 5, none⟩ (.int .i64 D.done)) := (hu02.trans hu23).trans' hu34 (fun x hx e => by omega)
  clear hb4 hu34 hp1 hp2 hp1' hp2' hu1 hu2
  go_wp2
  go_ret
  exact ⟨w.heap.size + 2, w.heap.size, w.heap.size + 1, rfl, hfin.drew, by omega, by omega, by omega, hufin.drew⟩

end Go.Proofs.Yteokbokgiejmpaa
