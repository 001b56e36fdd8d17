/-
  Records: Twin, Same, SameAll.
-/
import Derived.Test.YtidpiojanajpoaaKvA0
import Derived.Test.YtidpiojanajpoaaBase
namespace Go.Proofs.Ytidpiojanajpoaa
open Go.RowKit Go.Tb Go.MapKept Go.ChangeMaps Go.Lib
set_option linter.unusedVariables false

/-- A record as a value. -/
def kvv (k v : Value) (x : KV) : Value := .agg #[k, v, .int .i64 x.create, .int .i64 x.mod, .int .i64 x.version, .int .i64 x.lease]

set_option maxRecDepth 100000 in
set_option maxHeartbeats 2000000 in
theorem twin_calls (p : KvP) (I : Nat → Prop) (w : World) (h : p.Ok w I) (h1 : p.x.key.length ≤ 140737488355328) (h2 : p.x.val.length ≤ 140737488355328) :
    Calls Try.prog 52 #[.agg (kvenc p).toArray] w fun e w' => ∃ q : KvP, e = .returned (.agg (kvenc q).toArray) ∧ q.x = p.x ∧ q.Ok w' (fun b => w.heap.size ≤ b ∧ b < w'.heap.size) ∧ Upd (fun _ => False) w w' := by
  obtain ⟨x, sk, sv⟩ := p
  simp only at h1 h2
  obtain ⟨hk, hv, -, -⟩ := h
  simp only at hk hv
  show Calls Try.prog 52 #[.agg #[sk.v, sv.v, .int .i64 x.create, .int .i64 x.mod, .int .i64 x.version, .int .i64 x.lease]] w _
  obtain ⟨key, val, create, mod, version, lease⟩ := x
  simp only at hk hv h1 h2 ⊢
  generalize hA : sk.v = vk at *
  generalize hB : sv.v = vv at *
  clear hA hB
  have ha1 := heap_alloc w (.cells #[vk, vv, .int .i64 create, .int .i64 mod, .int .i64 version, .int .i64 lease] 57)
  have hua := upd_alloc (fun _ => False) w (.cells #[vk, vv, .int .i64 create, .int .i64 mod, .int .i64 version, .int .i64 lease] 57)
  have ha2 := heap_alloc (w.alloc (.cells #[vk, vv, .int .i64 create, .int .i64 mod, .int .i64 version, .int .i64 lease] 57)) (.cells #[.slice none 0 0, .slice none 0 0, .int .i64 0, .int .i64 0, .int .i64 0, .int .i64 0] 57)
  go_enter Try.func52, Try.ntmps52
  go_wp2
  generalize hW : (w.alloc (.cells #[vk, vv, .int .i64 create, .int .i64 mod, .int .i64 version, .int .i64 lease] 57)).alloc (.cells #[.slice none 0 0, .slice none 0 0, .int .i64 0, .int .i64 0, .int .i64 0, .int .i64 0] 57) = W
  have hu0 : Upd (fun _ => False) w W := by rw [← hW]; exact hua.alloc _
  have hb1 : W.heap[w.heap.size]? = some (.cells #[vk, vv, .int .i64 create, .int .i64 mod, .int .i64 version, .int .i64 lease] 57 (0, 0)) := by rw [← hW, ha2.2 _ (lt_of_heap ha1.1)]; exact ha1.1
  have hb2 : W.heap[w.heap.size + 1]? = some (.cells #[.slice none 0 0, .slice none 0 0, .int .i64 0, .int .i64 0, .int .i64 0, .int .i64 0] 57 (0, 0)) := by
    have := ha2.1
    rw [hW, show (w.alloc (.cells #[vk, vv, .int .i64 create, .int .i64 mod, .int .i64 version, .int .i64 lease] 57)).heap.size = w.heap.size + 1 by simp] at this
    exact this
  have hWs : w.heap.size + 1 < W.heap.size := lt_of_heap hb2
  clear ha1 ha2 hua hW
  have c0 : W.cell? ⟨w.heap.size, 0, none⟩ = some vk := cell_of hb1 0
  have c1 : W.cell? ⟨w.heap.size, 1, none⟩ = some vv := cell_of hb1 1
  have hd : Upd (fun _ => False) W W.drew := (Upd.refl _ _).drew
  have hcl := clone_calls vk key W.drew ((hk.upd hu0 (fun _ _ x => x)).upd hd (fun _ _ x => x)) h1
  have hv0 := (hv.upd hu0 (fun _ _ x => x)).upd hd (fun _ _ x => x)
  have Hb1 := Lib.hid hb1
  have Hb2 := Lib.hid hb2
  clear hk hv hb1 hb2 hd
  go_region_law (first
    | (go_simp; go_at_call 26; with_reducible refine hcl.mono ?_; rintro e w1 ⟨v1, rfl, hy1, hg1, hu1, hn1, ho1⟩; obtain ⟨a1, n1, z1, rfl⟩ := Bytes.form (Bytes.of hy1); have c0' := hu1.undrew.cell c0 (fun x => x); have c1' := hu1.undrew.cell c1 (fun x => x); have hcm := clone_calls vv val w1 (hv0.upd hu1 (fun _ _ x => x)) h2)
    | (go_simp; go_at_call 26; with_reducible refine hcm.mono ?_; rintro e w2 ⟨v2, rfl, hy2, hg2, hu2, hn2, ho2⟩; obtain ⟨a2, n2, z2, rfl⟩ := Bytes.form (Bytes.of hy2); have c0'' := hu2.cell c0' (fun x => x); have c1'' := hu2.cell c1' (fun x => x); have f0 := free_of (hu2.heap (hu1.undrew.heap Hb1.out (fun x => x)) (fun x => x)) 0; have f1 := free_of (hu2.heap (hu1.undrew.heap Hb1.out (fun x => x)) (fun x => x)) 1))
  all_goals
    have hq1 := hu2.heap (hu1.undrew.heap Hb1.out (fun x => x)) (fun x => x)
    have hq2 := hu2.heap (hu1.undrew.heap Hb2.out (fun x => x)) (fun x => x)
    have hu3 : Upd (fun k => k = w.heap.size) w2 ((w2.setCell ⟨w.heap.size, 0, none⟩ (.slice a1 n1 z1)).setCell ⟨w.heap.size, 1, none⟩ (.slice a2 n2 z2)) := (upd_setCell (fun k => k = w.heap.size) _ _ _ rfl).trans (upd_setCell (fun k => k = w.heap.size) _ ⟨w.heap.size, 1, none⟩ _ rfl)
    have hq3 : ((w2.setCell ⟨w.heap.size, 0, none⟩ (.slice a1 n1 z1)).setCell ⟨w.heap.size, 1, none⟩ (.slice a2 n2 z2)).heap[w.heap.size]? = some (.cells #[.slice a1 n1 z1, .slice a2 n2 z2, .int .i64 create, .int .i64 mod, .int .i64 version, .int .i64 lease] 57 (0, 0)) := by
      rw [heap_setCell_at (heap_setCell_at hq1 0 _) 1 _]; rfl
    have hq4 := hu3.heap hq2 (by omega)
    generalize (w2.setCell ⟨w.heap.size, 0, none⟩ (.slice a1 n1 z1)).setCell ⟨w.heap.size, 1, none⟩ (.slice a2 n2 z2) = w3 at *
    have Hy := Lib.hid (show Go.Tb.Bytes w3 (.slice a1 n1 z1) key ∧ Go.Tb.Bytes w3 (.slice a2 n2 z2) val ∧ Upd (fun _ => False) w w3 from
      ⟨(hy1.upd hu2 (fun _ _ x => x)).upd hu3 (fun b hb e => by have := hg1 b hb; have : W.heap.size = W.drew.heap.size := rfl; omega), hy2.upd hu3 (fun b hb e => by have := hg2 b hb; have := hu1.size; have : W.heap.size = W.drew.heap.size := rfl; omega), (((hu0.trans hu1.undrew).trans hu2).trans' hu3 (fun x hx e => by omega))⟩)
    have Hg := Lib.hid (show (∀ b, sliceBlock (.slice a1 n1 z1) = some b → w.heap.size ≤ b) ∧ (∀ b, sliceBlock (.slice a2 n2 z2) = some b → w.heap.size ≤ b) from
      ⟨fun b hb => by have := hg1 b hb; have : W.heap.size = W.drew.heap.size := rfl; omega, fun b hb => by have := hg2 b hb; have := hu1.size; have : W.heap.size = W.drew.heap.size := rfl; omega⟩)
    have Hlt := Lib.hid (show (∀ b, sliceBlock (.slice a1 n1 z1) = some b → b ≠ w.heap.size + 1) ∧ (∀ b, sliceBlock (.slice a2 n2 z2) = some b → b ≠ w.heap.size + 1) from
      ⟨fun b hb => by have := hg1 b hb; have : W.heap.size = W.drew.heap.size := rfl; omega, fun b hb => by have := hg2 b hb; have := hu1.size; have : W.heap.size = W.drew.heap.size := rfl; omega⟩)
    clear hcl hcm hv0 hy1 hy2 hg1 hg2 hn1 hn2 ho1 ho2 c0 c1 c0' c1' c0'' c1'' f0 f1 hq1 hq2 hu1 hu2 hu3 hu0
    go_wp2_with (first
      | ((with_reducible refine wpl_load (ty := 57) hq3 Try.underlying57 ?_ ?_ ?_ ?_); rfl; rfl; kernel_rfl)
      | ((with_reducible refine wpl_store (ty := 57) (cs := #[.slice a1 n1 z1, .slice a2 n2 z2, .int .i64 create, .int .i64 mod, .int .i64 version, .int .i64 lease]) hq4 ?_ ?_ ?_ ?_ ?_ ?_); rfl; rfl; rfl; kernel_rfl; rfl; intro w4 hq5 hu5 hs5 hd5))
    refine bodyPost_ret (results_cell_row Try.results52 _ _ _ _ _ _ _ (by rfl) hq5 Try.underlying57 rfl (by kernel_rfl)) rfl ?_
    obtain ⟨y1, y2, y3⟩ := Hy.out
    refine ⟨⟨⟨key, val, create, mod, version, lease⟩, ⟨a1, n1, z1⟩, ⟨a2, n2, z2⟩⟩, rfl, rfl, ⟨.inl ?_, .inl ?_, fun b hb => ⟨Hg.out.1 b hb, Nat.lt_of_lt_of_le (y1.lt hb) hu5.size⟩, fun b hb => ⟨Hg.out.2 b hb, Nat.lt_of_lt_of_le (y2.lt hb) hu5.size⟩⟩, ?_⟩
    · exact y1.upd hu5 (fun b hb e => by have := Hlt.out.1 b hb; omega)
    · exact y2.upd hu5 (fun b hb e => by have := Hlt.out.2 b hb; omega)
    · exact y3.trans' hu5 (fun x hx e => by omega)

end Go.Proofs.Ytidpiojanajpoaa
