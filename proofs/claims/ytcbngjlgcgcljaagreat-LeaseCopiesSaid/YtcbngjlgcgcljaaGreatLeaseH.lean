/-
  A lessor without keys: of, Left.
-/
import Derived.Test.YtcbngjlgcgcljaaGreatLeaseG
import Derived.Test.YtcbngjlgcgcljaaGreatKeysS
import Derived.IntWalk
namespace Go.Proofs.YtcbngjlgcgcljaaGreat
open Go.RowKit Go.Tb Go.MapKept Go.ChangeMaps Go.Lib
set_option linter.unusedVariables false

set_option maxRecDepth 100000 in
set_option maxHeartbeats 1000000 in
theorem of_none (b ml mk : Nat) (L : LS) (id : Int) (w : World) (h : IsLs w b ml mk L) (hk : NoKeys L) :
    Calls Tryz.prog 40 #[.pointer (some ⟨b, 0, none⟩), .int .i64 id] w fun e w' => e = .returned (.slice none 0 0) ∧ Upd (fun _ => False) w w' := by
  have c3 : w.cell? ⟨b, 3, none⟩ = some (.map (some mk)) := cell_of h.blk 3
  have hb := heap_alloc w (.cells #[.map (some mk)] 49)
  have hs := sortedS_calls w.heap.size mk L.nk (fun s => (L.keys s).map (Value.int .i64)) (w.alloc (.cells #[.map (some mk)] 49)) (cell_of hb.1 0) (h.km.upd (upd_alloc (fun _ => False) _ _) (fun x => x)) (by rw [hk.1]; decide) (fun a ha => by rw [hk.2] at ha; cases ha)
  rw [hk.1] at hs
  have hm := mkeysS_calls (some mk) w
  clear h hb hk
  go_enter Tryz.func40, Tryz.ntmps40
  go_wp2_with (first
    | (go_at_call 50; (with_reducible refine hm.mono ?_); rintro e1 w1 ⟨rfl, rfl⟩)
    | (go_at_call 49; (with_reducible refine hs.mono ?_); rintro e2 w2 ⟨a, c, l, rfl, hl0, -, -, hsl, -, hu⟩))
  refine wp_loop_rounds 1 ?_
  rw [rounds_succ]
  go_wp2
  go_ret
  exact ⟨rfl, (upd_alloc _ _ _).trans hu⟩

set_option maxRecDepth 100000 in
set_option maxHeartbeats 1000000 in
/-- Left, of a lease that is there. -/
theorem left_yes (b ml mk : Nat) (L : LS) (id : Int) (x : Int × Int) (w : World) (h : IsLs w b ml mk L) (hok : LOk L) (hk : NoKeys L) (hn : L.l id = some x) :
    Calls Tryz.prog 31 #[.pointer (some ⟨b, 0, none⟩), .int .i64 id] w fun e w' => e = .returned (.tuple #[.int .i64 (max 0 (x.2 - L.now)), .int .i64 x.1, .slice none 0 0, .int .i64 0]) ∧ Upd (fun _ => False) w w' := by
  have hf := find_yes b ml mk L id x w h hn
  have hof := fun W (hu : Upd (fun _ => False) w W) => of_none b ml mk L id W (h.grow hu) hk
  have c0 := cell_of h.blk 0
  have hids := hok.ids id x hn
  have hnow0 := hok.now0
  have hnow1 := hok.now1
  unfold topT at hids hnow1
  obtain ⟨ttl, due⟩ := x
  obtain ⟨-, -, -, -, hd0, hd1⟩ := hids
  simp only at hd0 hd1 hf ⊢
  generalize L.now = now at *
  clear h hok hk hn
  have HOF := Lib.hid hof
  clear hof
  go_enter Tryz.func31, Tryz.ntmps31
  go_upto_region 4 with (go_at_call 39; (with_reducible refine hf.mono ?_); rintro e1 w1 ⟨rfl, hu1⟩)
  have hW := heap_alloc w1 (.cells #[.int .i64 ttl, .int .i64 due] 67)
  have hu2 := hu1.alloc (.cells #[.int .i64 ttl, .int .i64 due] 67)
  have r0 := cell_of hW.1 0
  have r1 := cell_of hW.1 1
  have b0 := hu2.cell c0 (fun x => x)
  clear hW hu1 c0
  generalize w1.alloc (.cells #[.int .i64 ttl, .int .i64 due] 67) = W at *
  generalize w1.heap.size = r at *
  have hof2 := HOF.out W.drew hu2.drew
  have HU2 := Lib.hid hu2
  have hw : IntKind.i64.wrap (due - now) = due - now := IntWalk.i64_in _ (by omega)
  have Hw := Lib.hid hw
  clear hu2 HOF
  go_region_held3 (fun w' => w'.cell? ⟨r, 0, none⟩ = some (.int .i64 ttl) ∧ w'.cell? ⟨r, 1, none⟩ = some (.int .i64 due) ∧ w'.cell? ⟨b, 0, none⟩ = some (.int .i64 now))
    (first | exact ⟨r0, r1, b0⟩ | exact ⟨hu9.cell r0 (fun x => x), hu9.cell r1 (fun x => x), hu9.cell b0 (fun x => x)⟩)
    ((go_at_call 40; (with_reducible refine hof2.mono ?_); rintro e9 w9 ⟨rfl, hu9⟩))
  all_goals clear hw
  all_goals go_wp2
  all_goals refine bodyPost_ret (v := .tuple #[.int .i64 (max 0 (due - now)), .int .i64 ttl, .slice none 0 0, .int .i64 0]) (by simp [results, Tryz.results31, go_sem]) rfl ⟨rfl, HU2.out.trans hu9.undrew⟩

theorem OneAt.left {b ml mk : Nat} {id ttl d now : Int} {w : World} (h : OneAt b ml mk id ttl d now w) :
    Calls Tryz.prog 31 #[.pointer (some ⟨b, 0, none⟩), .int .i64 id] w fun e w' => e = .returned (.tuple #[.int .i64 (max 0 (d - now)), .int .i64 ttl, .slice none 0 0, .int .i64 0]) ∧ Upd (fun _ => False) w w' := by
  obtain ⟨L, h1, h2, h3, rfl, h4⟩ := h
  exact left_yes b ml mk L id (ttl, d) w h1 h2 h4 (by rw [h3]; exact if_pos rfl)

theorem grantE_start (now id ttl : Int) (h0 : 0 ≤ id) (h1 : id ≤ topT) (h2 : 1 ≤ ttl) (h3 : ttl ≤ topT) : (LS.start now).grantE id ttl = 0 := by
  unfold LS.grantE
  have e : ¬ (id < 0 ∨ topT < id ∨ ttl < 1 ∨ topT < ttl) := by omega
  rw [if_neg e, if_neg (by show ¬ (none : Option (Int × Int)).isSome = true; decide), if_neg (by show ¬ (64 ≤ 0 ∨ (id = 0 ∧ (0 : Int) = topT)); unfold topT; omega)]

theorem new_one (now id ttl : Int) (g : Nat) (t : TypeId) (w : World) (hg : w.heap[g]? = some (.cells #[.int .i64 id, .int .i64 ttl] t (0, 0))) (h0 : 0 ≤ now) (h1 : now ≤ topT) (h2 : 1 ≤ ttl) (h3 : ttl ≤ topT) (h4 : 1 ≤ id) (h5 : id ≤ topT) :
    Calls Tryz.prog 6 #[.int .i64 now, .slice (some ⟨g, 0, none⟩) 1 1] w fun e w' => ∃ b ml mk, e = .returned (.tuple #[.pointer (some ⟨b, 0, none⟩), .int .i64 0]) ∧ OneAt b ml mk id ttl (laterI now ttl) now w' ∧ w.heap.size ≤ b ∧ w.heap.size ≤ ml ∧ w.heap.size ≤ mk ∧ Upd (fun _ => False) w w' := by
  have hs : Sl lenc w (.slice (some ⟨g, 0, none⟩) [(id, ttl)].length 1) [(id, ttl)] := sl_one (x := (id, ttl)) (enc := lenc) hg
  refine (new_calls now _ 1 [(id, ttl)] w hs).mono fun e w' h => ?_
  obtain ⟨hu, h⟩ := h
  have hgr : grants (LS.start now) [(id, ttl)] = ((LS.start now).granted id ttl, 0) := if_pos (grantE_start now id ttl (by omega) h5 h2 h3)
  rw [if_pos ⟨h0, h1, (by simp), fun y hy => by rw [List.mem_singleton.1 hy]; exact ⟨h4, h5, h2, h3⟩⟩, hgr, if_pos rfl] at h
  obtain ⟨b, ml, mk, g2, g3, g4, g5, g6, g7⟩ := h
  have hgid : (LS.start now).gid id = id := if_neg (by omega)
  refine ⟨b, ml, mk, g2, ⟨_, g3, g4, ?_, rfl, rfl, fun _ => rfl⟩, g5, g6, g7, hu⟩
  unfold One LS.granted
  rw [hgid]
  rfl

end Go.Proofs.YtcbngjlgcgcljaaGreat
