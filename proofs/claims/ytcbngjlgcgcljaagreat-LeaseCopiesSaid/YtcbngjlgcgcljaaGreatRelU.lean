/-
  An act on a lessor and on the document's: Keep, Revoke, nothing.
-/
import Derived.Test.YtcbngjlgcgcljaaGreatRelT
namespace Go.Proofs.YtcbngjlgcgcljaaGreat
open Go.RowKit Go.Tb Go.MapKept Go.ChangeMaps Go.Lib
set_option linter.unusedVariables false

theorem rises_eq : ∀ {l m : List (List UInt8)}, l.Pairwise (· < ·) → m.Pairwise (· < ·) → (∀ x, x ∈ l ↔ x ∈ m) → l = m
  | [], [], _, _, _ => rfl
  | [], a :: r, _, _, h => absurd ((h a).2 (.head _)) List.not_mem_nil
  | a :: r, [], _, _, h => absurd ((h a).1 (.head _)) List.not_mem_nil
  | a :: r, c :: s, h1, h2, h => by
    obtain ⟨p1, p2⟩ := List.pairwise_cons.1 h1
    obtain ⟨q1, q2⟩ := List.pairwise_cons.1 h2
    have e : a = c := by
      rcases List.mem_cons.1 ((h a).1 (.head _)) with e | e
      · exact e
      · rcases List.mem_cons.1 ((h c).2 (.head _)) with e2 | e2
        · exact e2.symm
        · exact absurd (List.lt_trans (q1 a e) (p1 c e2)) (List.lt_irrefl _)
    subst e
    have hr : ∀ x, x ∈ r ↔ x ∈ s := fun x => by
      constructor
      · intro hx
        rcases List.mem_cons.1 ((h x).1 (.tail _ hx)) with e | e
        · subst e; exact absurd (p1 x hx) (List.lt_irrefl _)
        · exact e
      · intro hx
        rcases List.mem_cons.1 ((h x).2 (.tail _ hx)) with e | e
        · subst e; exact absurd (q1 x hx) (List.lt_irrefl _)
        · exact e
    rw [rises_eq p2 q2 hr]

theorem KOk.kept {L : LS} (h : KOk L) (id ttl : Int) : KOk (L.kept id ttl) :=
  ⟨h.len, fun s i hi => ⟨(h.there s i hi).1, by
    show (if i = id then some (ttl, laterI L.now ttl) else L.l i).isSome = true
    by_cases e : i = id
    · rw [if_pos e]; rfl
    · rw [if_neg e]; exact (h.there s i hi).2⟩⟩

set_option maxRecDepth 100000 in
set_option maxHeartbeats 1000000 in
theorem do_keep (F : Nat → Prop) (b ml mk rb j : Nat) (L : LS) (R : RS) (id n : Int) (ka : Option Addr) (kn kc : Nat) (w : World) (h : Both F w b ml mk rb L R j) :
    Calls Tryz.prog 8 #[.pointer (some ⟨b, 0, none⟩), .pointer (some ⟨rb, 0, none⟩), .agg #[.int .i64 3, .int .i64 id, .int .i64 n, .slice ka kn kc]] w (DoSays F b ml mk rb (j + 1) w) := by
  have hua := upd_alloc (fun _ => False) w (.cells #[.int .i64 3, .int .i64 id, .int .i64 n, .slice ka kn kc] 34)
  have ha := heap_alloc w (.cells #[.int .i64 3, .int .i64 id, .int .i64 n, .slice ka kn kc] 34)
  have h1 := h.grow hua
  have hg : b ≠ w.heap.size ∧ ml ≠ w.heap.size ∧ mk ≠ w.heap.size ∧ rb ≠ w.heap.size := by
    have h1 := h.hF b h.fb; have h2 := h.hF rb h.ref.self; have h3 := h.hF ml h.fl; have h4 := h.hF mk h.fk; omega
  have H := Lib.hid h
  have HUA := Lib.hid hua
  have HA := Lib.hid ha.1
  have hrb : rb < w.heap.size := h.hF rb h.ref.self
  cases hx : L.l id with
  | none =>
    have hgr := keep_no b ml mk L id _ h1.ls hx
    have hrg := fun W (hr : IsRef F W rb R) => rkeep_no F rb R id W hr (by have := h.len; omega) (h.rel.isNot hx)
    have HRG := Lib.hid hrg
    clear hx hrg
    clear h h1 hua ha
    go_enter Tryz.func8, Tryz.ntmps8
    go_upto_region 1 with (fail)
    generalize w.alloc (.cells #[.int .i64 3, .int .i64 id, .int .i64 n, .slice ka kn kc] 34) = w0 at *
    generalize w.heap.size = g at *
    have a1 := cell_of HA.out 1
    have a0 := cell_of HA.out 0
    go_upto_region 17 with (go_at_call 20; (with_reducible refine hgr.mono ?_); rintro e1 w1 ⟨rfl, hu1⟩; have HU1 := Lib.hid hu1; have a1 := hu1.cell a1 (fun x => x); clear hu1)
    have hrg := HRG.out _ (H.out.ref.grow (HUA.out.trans HU1.out))
    go_wp2_with (go_at_call 21; (with_reducible refine hrg.mono ?_); rintro e3 w3 ⟨rfl, rfl⟩)
    go_ret
    exact H.out.same (Nat.le_succ _) (HUA.out.trans HU1.out)
  | some x =>
    obtain ⟨jj, hj, hid, hxx⟩ := h.rel.isThere hx
    have hids := h.ok.ids id x hx
    have hgr := keep_yes b ml mk L id x _ h1.ls h1.ok hx
    have ettl : R.l[jj].ttl = x.1 := by rw [← hxx]
    have hrg := fun W (hr : IsRef F W rb R) hF => rkeep_yes F rb R id W hr hF (by have := h.len; omega) h.rel.pw jj hj hid (by rw [h.rel.now]; exact h.ok.now0) (by rw [h.rel.now]; exact h.ok.now1) (by rw [ettl]; omega) (by rw [ettl]; omega)
    have HK := Lib.hid (show Rel (L.kept id x.1) (R.kept jj R.l[jj]) from h.rel.kept hx jj hj hid hxx)
    have HO := Lib.hid (show LOk (L.kept id x.1) from h.ok.kept hx)
    rw [ettl] at hrg
    have HRG := Lib.hid hrg
    generalize R.kept jj R.l[jj] = R' at *
    generalize hx1 : x.1 = x1 at *
    have HX1 := Lib.hid hx1
    clear hx hrg hid hxx ettl hids hj hx1
    clear h h1 hua ha
    go_enter Tryz.func8, Tryz.ntmps8
    go_upto_region 1 with (fail)
    generalize w.alloc (.cells #[.int .i64 3, .int .i64 id, .int .i64 n, .slice ka kn kc] 34) = w0 at *
    generalize w.heap.size = g at *
    have a1 := cell_of HA.out 1
    have a0 := cell_of HA.out 0
    go_upto_region 17 with (go_at_call 20; (with_reducible refine hgr.mono ?_); rintro e1 w1 ⟨rfl, hl1, hu1⟩; have HL1 := Lib.hid hl1; have HU1 := Lib.hid hu1; have a1 := hu1.cell a1 (by simp; omega); clear hl1 hu1)
    have hu1 : Upd (fun k => k = b ∨ k = ml ∨ k = mk) w w1 := (HUA.out.weak _).trans (HU1.out.mono (fun _ _ e => .inr (.inl e)))
    have HUW := Lib.hid hu1
    obtain ⟨hr1, hF1⟩ := H.out.step hu1
    have hrg := HRG.out _ hr1 hF1
    clear hu1 hr1 hF1
    go_wp2_with (go_at_call 21; (with_reducible refine hrg.mono ?_); rintro e3 w3 ⟨rfl, hr3, hu3⟩; have HR3 := Lib.hid hr3; have HU3 := Lib.hid hu3; clear hr3 hu3)
    go_ret
    exact H.out.says HL1.out HUW.out HU3.out HR3.out HO.out (H.out.kok.kept id x1) (Nat.le_succ_of_le H.out.nk) HK.out

set_option maxRecDepth 100000 in
set_option maxHeartbeats 1000000 in
theorem do_revoke (F : Nat → Prop) (b ml mk rb j : Nat) (L : LS) (R : RS) (id n : Int) (ka : Option Addr) (kn kc : Nat) (w : World) (h : Both F w b ml mk rb L R j) (hj1 : j ≤ 1000) :
    Calls Tryz.prog 8 #[.pointer (some ⟨b, 0, none⟩), .pointer (some ⟨rb, 0, none⟩), .agg #[.int .i64 2, .int .i64 id, .int .i64 n, .slice ka kn kc]] w (DoSays F b ml mk rb (j + 1) w) := by
  have hua := upd_alloc (fun _ => False) w (.cells #[.int .i64 2, .int .i64 id, .int .i64 n, .slice ka kn kc] 34)
  have ha := heap_alloc w (.cells #[.int .i64 2, .int .i64 id, .int .i64 n, .slice ka kn kc] 34)
  have h1 := h.grow hua
  have hg : b ≠ w.heap.size ∧ ml ≠ w.heap.size ∧ mk ≠ w.heap.size ∧ rb ≠ w.heap.size := by
    have h1 := h.hF b h.fb; have h2 := h.hF rb h.ref.self; have h3 := h.hF ml h.fl; have h4 := h.hF mk h.fk; omega
  have H := Lib.hid h
  have HUA := Lib.hid hua
  have HA := Lib.hid ha.1
  have hrb : rb < w.heap.size := h.hF rb h.ref.self
  cases hx : L.l id with
  | none =>
    have hgr := revoke_no b ml mk L id _ h1.ls hx
    have hrg := fun W (hr : IsRef F W rb R) => rrevoke_no F rb R id W hr (by have := h.len; omega) (h.rel.isNot hx)
    have HRG := Lib.hid hrg
    clear hx hrg
    clear h h1 hua ha
    go_enter Tryz.func8, Tryz.ntmps8
    go_upto_region 1 with (fail)
    generalize w.alloc (.cells #[.int .i64 2, .int .i64 id, .int .i64 n, .slice ka kn kc] 34) = w0 at *
    generalize w.heap.size = g at *
    have a1 := cell_of HA.out 1
    have a0 := cell_of HA.out 0
    go_upto_region 13 with (go_at_call 17; (with_reducible refine hgr.mono ?_); rintro e1 w1 ⟨rfl, hu1⟩; have HU1 := Lib.hid hu1; have a1 := hu1.cell a1 (fun x => x); clear hu1)
    have hrg := HRG.out _ (H.out.ref.grow (HUA.out.trans HU1.out))
    have hsk : Calls Tryz.prog 19 #[.slice none 0 0, .slice none 0 0] w1 fun e w' => e = .returned (.bool true) ∧ Upd (fun _ => False) w1 w' := samekeys_calls none none 0 0 [] [] w1 (.inl ⟨rfl, rfl⟩) (.inl ⟨rfl, rfl⟩) (fun k hk => (List.not_mem_nil hk).elim) (fun k hk => (List.not_mem_nil hk).elim) rfl (Nat.zero_le _)
    go_wp2_with (first
      | (go_at_call 18; (with_reducible refine hrg.mono ?_); rintro e3 w3 ⟨rfl, rfl⟩)
      | (go_at_call 19; (with_reducible refine hsk.mono ?_); rintro e4 w4 ⟨rfl, hu4⟩; have HU4 := Lib.hid hu4; clear hu4))
    go_ret
    exact H.out.same (Nat.le_succ _) ((HUA.out.trans HU1.out).trans HU4.out)
  | some x =>
    obtain ⟨jj, hj, hid, hxx⟩ := h.rel.isThere hx
    have hgr := revoke_calls b ml mk L id x _ h1.ls h1.kok (by have := h1.nk; omega) hx
    unfold RevSays at hgr
    have hrg := fun W (hr : IsRef F W rb R) hF => rrevoke_yes F rb R id W hr hF (by have := h.len; omega) h.rel.pw jj hj hid
    have HK := Lib.hid (fun m => show Rel (L.gone id m) _ from h.rel.gone hx jj hj hid m)
    have HKV := Lib.hid (fun m => (KInv.of h.ok h.kok).gone id m (by rw [hx]; rfl))
    have HKEYS := Lib.hid (show ∀ rows : List KRow, OfRows L id (w.alloc (.cells #[.int .i64 2, .int .i64 id, .int .i64 n, .slice ka kn kc] 34)) (.slice none 0 0) rows w ∨ True → True from fun _ _ => trivial)
    have hkp := h.rel.kpw _ (List.getElem_mem hj)
    have hkm := h.rel.kmem _ (List.getElem_mem hj)
    rw [hid] at hkm
    have HKP := Lib.hid hkp
    have HKM := Lib.hid hkm
    have HRO := Lib.hid (fun W (hr : IsRef F W rb R) => hr.ok _ (List.getElem_mem hj))
    have HRG := Lib.hid hrg
    generalize { R with l := R.l.take jj ++ R.l.drop (jj + 1) } = R' at *
    generalize R.l[jj] = y at *
    clear hx hrg hid hxx hj hkp hkm HKEYS
    clear h h1 hua ha
    go_enter Tryz.func8, Tryz.ntmps8
    go_upto_region 1 with (fail)
    generalize w.alloc (.cells #[.int .i64 2, .int .i64 id, .int .i64 n, .slice ka kn kc] 34) = w0 at *
    generalize w.heap.size = g at *
    have a1 := cell_of HA.out 1
    have a0 := cell_of HA.out 0
    go_upto_region 13 with (go_at_call 17; (with_reducible refine hgr.mono ?_); rintro e1 w1 ⟨ra, rc, rm, rows, rfl, hof, hrm, hl1, hu1⟩; have HOF := Lib.hid hof; have HRM := Lib.hid hrm; have HL1 := Lib.hid hl1; have HU1 := Lib.hid hu1; have a1 := hu1.cell a1 (by simp; omega); clear hl1 hu1 hof hrm)
    have hu1 : Upd (fun k => k = b ∨ k = ml ∨ k = mk) w w1 := (HUA.out.weak _).trans (HU1.out.mono (fun _ _ e => e.elim (fun e => .inr (.inl e)) (fun e => .inr (.inr e))))
    have HUW := Lib.hid hu1
    obtain ⟨hr1, hF1⟩ := H.out.step hu1
    have hrg := HRG.out _ hr1 hF1
    have HR1 := Lib.hid hr1
    clear hu1 hr1 hF1
    unfold RL.kv at hrg
    go_upto_region 14 with (go_at_call 18; (with_reducible refine hrg.mono ?_); rintro e3 w3 ⟨rfl, hr3, hu3⟩; have HR3 := Lib.hid hr3; have HU3 := Lib.hid hu3; clear hr3 hu3)
    have hok3 := (HRO.out _ HR1.out).upd HU3.out (fun k _ e => by rw [e]; exact H.out.ref.self)
    have hof3 := HOF.out.upd HU3.out (fun k hk e => by have := HUA.out.size; have := H.out.hF rb H.out.ref.self; omega)
    have hsk := samekeys_calls ra y.ka rc y.kc rows y.rows w3 hof3.sl hok3.sl (fun k hk => (hof3.ok k hk).1) hok3.by_ (rises_eq hof3.pw HKP.out (fun s => (hof3.mem s).trans (HKM.out s).symm)) (by have := hof3.len; have := H.out.nk; omega)
    clear hok3 hof3
    go_wp2_with (go_at_call 19; (with_reducible refine hsk.mono ?_); rintro e4 w4 ⟨rfl, hu4⟩; have HU4 := Lib.hid hu4; clear hu4)
    go_ret
    exact H.out.says HL1.out HUW.out (HU3.out.trans (HU4.out.weak _)) (HR3.out.grow HU4.out) (HKV.out rm).ok (HKV.out rm).k (Nat.le_succ_of_le (Nat.le_trans HRM.out H.out.nk)) (HK.out rm)

set_option maxRecDepth 100000 in
theorem do_else (F : Nat → Prop) (b ml mk rb j : Nat) (L : LS) (R : RS) (k id n : Int) (ka : Option Addr) (kn kc : Nat) (w : World) (h : Both F w b ml mk rb L R j) (hk : k ≠ 0 ∧ k ≠ 1 ∧ k ≠ 2 ∧ k ≠ 3 ∧ k ≠ 4) :
    Calls Tryz.prog 8 #[.pointer (some ⟨b, 0, none⟩), .pointer (some ⟨rb, 0, none⟩), .agg #[.int .i64 k, .int .i64 id, .int .i64 n, .slice ka kn kc]] w (DoSays F b ml mk rb (j + 1) w) := by
  have hua := upd_alloc (fun _ => False) w (.cells #[.int .i64 k, .int .i64 id, .int .i64 n, .slice ka kn kc] 34)
  have HP := Lib.hid (h.same (Nat.le_succ j) hua)
  obtain ⟨k0, k1, k2, k3, k4⟩ := hk
  clear h hua
  go_enter Tryz.func8, Tryz.ntmps8
  go_wp2
  go_ret
  exact HP.out

end Go.Proofs.YtcbngjlgcgcljaaGreat
