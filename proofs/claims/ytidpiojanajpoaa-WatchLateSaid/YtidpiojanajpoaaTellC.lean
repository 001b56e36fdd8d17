/-
  Progress of a watcher that is through; a law's write.
-/
import Derived.Deep.Cut
import Derived.Test.YtidpiojanajpoaaTellS
import Derived.Test.YtidpiojanajpoaaApartP
namespace Go.Proofs.Ytidpiojanajpoaa
open Go.RowKit Go.Tb Go.MapKept Go.ChangeMaps
set_option linter.unusedVariables false

set_option maxRecDepth 100000 in
theorem progress_ok (b m : Nat) (own : Nat → Tg) (P : Int → Option WrP) (H : Hub) (i : Int) (x : Wr) (w : World) (h : IsHub w b m own P H) (hx : H.f i = some x) (hen : x.ended = false) (hbuf : x.buf = []) (hnx : H.rev < x.next) :
    Calls Try.prog 22 #[.pointer (some ⟨b, 0, none⟩), .int .i64 i] w fun e w' => e = .returned (.tuple #[.agg #[.int .i64 i, .slice none 0 0, .bool false, .int .i64 0, .bool true, .int .i64 H.rev], .bool true]) ∧ Upd (fun _ => False) w w' := by
  obtain ⟨p, hp⟩ : ∃ p, P i = some p := by
    cases hp : P i with
    | none => rw [h.nn i hp] at hx; cases hx
    | some p => exact ⟨p, rfl⟩
  obtain ⟨x0, hx0, hw⟩ := h.wt i p hp
  obtain rfl : x0 = x := Option.some.inj (hx0.symm.trans hx)
  have hua := upd_alloc (fun _ => False) w (.cells #[.int .i64 0, .slice none 0 0, .bool false, .int .i64 0, .bool false, .int .i64 0] 40)
  have hB := (heap_alloc w (.cells #[.int .i64 0, .slice none 0 0, .bool false, .int .i64 0, .bool false, .int .i64 0] 40)).1
  have hf := find_calls b m own P H i _ (h.grow hua)
  rw [hp] at hf
  simp only [wptr, Option.map_some] at hf
  have hbc := behind_calls b m own P H i p x0 _ (h.grow hua) (hw.upd hua (fun k s => s.elim) (fun _ _ => rfl))
  have hbf : behindB H x0 = false := by
    unfold behindB
    simp [hen]; omega
  rw [hbf] at hbc
  have hnb : p.b.n = 0 := by rw [hw.nb, hbuf]; rfl
  have c11 : w.cell? ⟨p.blk, 11, none⟩ = some (.bool false) := by rw [← hen]; exact cell_of hw.blk 11
  have c7 : w.cell? ⟨p.blk, 7, none⟩ = some (.slice p.b.a 0 p.b.c) := by rw [← hnb]; exact cell_of hw.blk 7
  have c0 : w.cell? ⟨b, 0, none⟩ = some (.int .i64 H.rev) := cell_of h.hub 0
  have c11' := hua.cell c11 (fun x => x)
  have HU := Lib.hid hua
  have H7 := Lib.hid (hua.cell c7 (fun x => x))
  have H0 := Lib.hid (hua.cell c0 (fun x => x))
  clear h hp hx hx0 hw hua hbf hnb hen hbuf hnx c11 c7 c0
  go_enter Try.func22, Try.ntmps22
  go_wp2_with (first
    | (go_at_call 32; (with_reducible refine hf.mono ?_); rintro e w' ⟨rfl, rfl⟩)
    | (go_at_call 38; (with_reducible refine hbc.mono ?_); rintro e w1 ⟨rfl, hu1⟩; have c7 := hu1.cell H7.out (fun x => x); have c0 := hu1.cell H0.out (fun x => x); have hB1 := hu1.heap hB (fun x => x))
    | ((with_reducible refine wpl_store (ty := 40) (cs := #[.int .i64 i, .slice none 0 0, .bool false, .int .i64 0, .bool true, .int .i64 H.rev]) hB1 ?_ ?_ ?_ ?_ ?_ ?_); rfl; rfl; rfl; kernel_rfl; rfl; intro w4 hq5 hu5 hs5 hd5; have e0 := cell_of hq5 0; have e1 := cell_of hq5 1; have e2 := cell_of hq5 2; have e3 := cell_of hq5 3; have e4 := cell_of hq5 4; have e5 := cell_of hq5 5))
  refine bodyPost_ret (v := .tuple #[.agg #[.int .i64 i, .slice none 0 0, .bool false, .int .i64 0, .bool true, .int .i64 H.rev], .bool true]) (by simp [results, Try.results22, go_sem, e0, e1, e2, e3, e4, e5]) rfl ⟨rfl, ?_⟩
  exact (HU.out.trans hu1).trans' hu5 (fun x hx e => by omega)

section
variable {w wr w' : World} {b m : Nat} {H H' : Hub} {lo : Nat → LTg} {va : Value} {as_ : List EvP} {wk : Nat} {wv : Array Value} {T : Nat → TP} {N : Nat}

/-- `all = append(all, x...)`: what was made is kept, and can be written of. -/
theorem Law.append (h : Law w wr b m H lo va as_ wk wv T N) {w1 : World} {J : Nat → Prop} {a : Option Addr} {c : Nat} {rs : List EvP} (hr : EvRow w1 wr.heap.size J (.slice a rs.length c) rs) (hu : Upd (fun _ => False) wr w1) (hl : as_.length + rs.length ≤ 800000000000) (hok : HOk H) {rev : Int} (hrev : rev = H.rev + 1) (hr2 : rev ≤ 4611686018427387904) (hall : allMod rev (rs.map EvP.x) = true) (hs : ∀ p ∈ rs, p.x.Small) (hfew : ∀ i x, H.f i = some x → x.buf.length + rs.length ≤ 800000000000) :
    ∃ a' n' c' w2 lo', (∀ ty, (Builtin.append_ #[32, 32] ty #[va, .slice a rs.length c]).run Try.prog w1 = .ok (.slice a' n' c') w2) ∧ Law w w2 b m H lo' (.slice a' n' c') (as_ ++ rs) wk wv T N ∧
      Calls Try.prog 11 #[.pointer (some ⟨b, 0, none⟩), .int .i64 rev, .slice a rs.length c] w2 fun e w' => e = .returned (.int .i64 0) ∧ Law w w' b m (H.notified rev (rs.map EvP.x)) lo' (.slice a' n' c') (as_ ++ rs) wk wv T N := by
  have sr := h.u.size
  have s1 := hu.size
  have hdj : ∀ k, sliceBlock va = some k → ¬ J k := fun k hk hj => by have := (h.all.blk k hk).2; have := (hr.ge k hj).1; omega
  have hrow : EvSh w1 w.heap.size (fun k => lo k = .by_ ∨ J k) va as_ := (h.all.grow hu).wider (fun k hk => .inl hk) (fun k hk s => s.elim (h.all.dj k hk) (hdj k hk))
  have hev : Evs w1 (fun k => lo k = .by_ ∨ J k) (.slice a rs.length c) rs := ⟨hr.evs.1, fun q hq => (hr.evs.2 q hq).wider (fun k hk => .inr hk)⟩
  obtain ⟨a', c', w2, hap, hr2', hu2, hbk⟩ := hrow.append hev (fun k hk => hk.elim (fun q => Nat.lt_of_lt_of_le (h.lt k (by rw [q]; simp)).2 s1) (fun q => (hr.ge k q).2)) (by omega) (by omega)
  have s2 := hu2.size
  obtain ⟨lo', hL, hlo, o, P, g1, g2, g3, hno⟩ := h.more (J := J) (va' := .slice a' (as_ ++ rs).length c') (as' := as_ ++ rs) ((hu.weak _).trans' hu2 (fun _ _ s => s)) hr2' (fun k hk => ⟨(hr.ge k hk).1, by have := (hr.ge k hk).2; omega⟩) (fun k hk => by
    rcases hbk with q | q
    · exact .inl (q ▸ hk)
    · refine .inr ⟨?_, (hr2'.blk k hk).2⟩
      rw [q] at hk; cases hk; omega)
  refine ⟨a', _, c', w2, lo', hap, hL, ?_⟩
  refine (notify_ok b m o P H rev a c rs J w2 g1 hok ?_ ?_ ?_ hs (by omega) hrev hr2 hall hfew).mono fun e w' ⟨he, own', P', k1, k2, k3⟩ => ⟨he, hL.step g2 g3 k1 k2 k3⟩
  · have h1 := (hr.upd hu2 (fun k hk e => by have := (h.all.blk k e).2; have := (hr.blk k hk).1; omega) (fun k hk e => hdj k e hk)).evs
    exact h1
  · exact fun k hk => ⟨hno k (hr.ge k hk).1, by have := (hr.ge k hk).2; omega⟩
  · exact fun k hk => hno k (hr.blk k hk).1
end

end Go.Proofs.Ytidpiojanajpoaa
