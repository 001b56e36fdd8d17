/-
  A lessor's copy, and the document's.
-/
import Derived.Test.YtcbngjlgcgcljaaGreatRelV
import Derived.Test.YtcbngjlgcgcljaaGreatRelW
import Derived.Test.YtcbngjlgcgcljaaGreatRelX
namespace Go.Proofs.YtcbngjlgcgcljaaGreat
open Go.RowKit Go.Tb Go.MapKept Go.ChangeMaps Go.Lib
set_option linter.unusedVariables false

theorem run_mclone (t : TypeId) (m : Nat) (es : Array MapEntry) (clock : Nat) (w : World) (h : w.heap[m]? = some (.map es clock)) :
    (callFunc 43 #[.iface t (.map (some m))]).run Tryz.prog w = .ok (.value (.iface t (.map (some w.heap.size)))) (w.alloc (.map es clock)) := by
  rw [run_callFunc_extern Tryz.func43 (by kernel_rfl) (by kernel_rfl) (by kernel_rfl) (f := 43) (e := Extern.MapsClone.clone) (by kernel_rfl)]
  have e : Extern.MapsClone.clone #[.iface t (.map (some m))] = (getObj m >>= fun o => match o with
      | .map entries clock => (newObj (.map entries clock) >>= fun n => pure (.iface t (.map (some n))))
      | _ => stuck "maps.clone: a map expected") := rfl
  rw [e]
  simp [MapKept.run_getObj_map h, Result.andThen]

theorem run_assertl (r : Option Nat) (w : World) : (Instr.typeAssert (.iface 48 (.map r)) 20 48 false).run Tryz.prog w = .ok (.map r) w := by kernel_rfl
theorem run_assertk (r : Option Nat) (w : World) : (Instr.typeAssert (.iface 49 (.map r)) 20 49 false).run Tryz.prog w = .ok (.map r) w := by kernel_rfl

set_option maxRecDepth 100000 in
theorem clonel_calls {α : Type} (mk : α → Value) (m : Nat) (f : α → Option Value) (n : Nat) (w : World) (h : IsMap mk w m f n) :
    Calls Tryz.prog 25 #[.map (some m)] w fun e w' => e = .returned (.map (some w.heap.size)) ∧ IsMap mk w' w.heap.size f n ∧ Upd (fun _ => False) w w' ∧ w'.heap.size = w.heap.size + 1 := by
  obtain ⟨es, clock, hb, ok⟩ := h
  have hmc := run_mclone 48 m es clock w hb
  have hnil := fun (w : World) r => run_eql_map_nil (P := Tryz.prog) w 48 _ _ r Tryz.underlying48
  have hua : Upd (fun _ => False) w (w.alloc (.map es clock)) := upd_alloc _ _ _
  have has := run_assertl
  have hfin : IsMap mk (w.alloc (.map es clock)) w.heap.size f n := ⟨es, clock, (MapKept.heap_alloc w _).1, ok⟩
  clear hb ok
  go_enter Tryz.func25, Tryz.ntmps25
  go_wp2
  go_ret
  exact ⟨rfl, hfin, hua, by simp⟩
set_option maxRecDepth 100000 in
theorem clonek_calls {α : Type} (mk : α → Value) (m : Nat) (f : α → Option Value) (n : Nat) (w : World) (h : IsMap mk w m f n) :
    Calls Tryz.prog 26 #[.map (some m)] w fun e w' => e = .returned (.map (some w.heap.size)) ∧ IsMap mk w' w.heap.size f n ∧ Upd (fun _ => False) w w' ∧ w'.heap.size = w.heap.size + 1 := by
  obtain ⟨es, clock, hb, ok⟩ := h
  have hmc := run_mclone 49 m es clock w hb
  have hnil := fun (w : World) r => run_eql_map_nil (P := Tryz.prog) w 49 _ _ r Tryz.underlying49
  have hua : Upd (fun _ => False) w (w.alloc (.map es clock)) := upd_alloc _ _ _
  have has := run_assertk
  have hfin : IsMap mk (w.alloc (.map es clock)) w.heap.size f n := ⟨es, clock, (MapKept.heap_alloc w _).1, ok⟩
  clear hb ok
  go_enter Tryz.func26, Tryz.ntmps26
  go_wp2
  go_ret
  exact ⟨rfl, hfin, hua, by simp⟩

set_option maxRecDepth 100000 in
set_option maxHeartbeats 1000000 in
theorem lcopy_calls (b ml mk : Nat) (L : LS) (w : World) (h : IsLs w b ml mk L) :
    Calls Tryz.prog 9 #[.pointer (some ⟨b, 0, none⟩)] w fun e w' => ∃ b' ml' mk', e = .returned (.pointer (some ⟨b', 0, none⟩)) ∧ IsLs w' b' ml' mk' L ∧ w.heap.size ≤ b' ∧ w.heap.size ≤ ml' ∧ w.heap.size ≤ mk' ∧ Upd (fun _ => False) w w' := by
  have h0 : w.drew.cell? ⟨b, 0, none⟩ = some (.int .i64 L.now) := cell_of h.blk 0
  have h1 : w.drew.cell? ⟨b, 1, none⟩ = some (.int .i64 L.last) := cell_of h.blk 1
  have h2 : w.drew.cell? ⟨b, 2, none⟩ = some (.map (some ml)) := cell_of h.blk 2
  have h3 : w.drew.cell? ⟨b, 3, none⟩ = some (.map (some mk)) := cell_of h.blk 3
  have hc1 := clonel_calls (Value.int .i64) ml _ _ w.drew (h.grow (Upd.refl _ _).drew).lm
  have HK := Lib.hid (fun W (hu : Upd (fun _ => False) w.drew W) => clonek_calls skey mk _ _ W (((h.grow (Upd.refl _ _).drew).grow hu).km))
  clear h
  go_enter Tryz.func9, Tryz.ntmps9
  go_upto_region 3 with (fail)
  go_region_held3 (fun w' => w'.cell? ⟨b, 0, none⟩ = some (.int .i64 L.now) ∧ w'.cell? ⟨b, 1, none⟩ = some (.int .i64 L.last) ∧ w'.cell? ⟨b, 2, none⟩ = some (.map (some ml)) ∧ w'.cell? ⟨b, 3, none⟩ = some (.map (some mk))) (first | exact ⟨h0, h1, h2, h3⟩ | exact ⟨x0, x1, x2, x3⟩ | go_keep)
    (first
    | (go_at_call 25; (with_reducible refine hc1.mono ?_); rintro e1 w1 ⟨rfl, hm1, hu1, hs1⟩; have x0 := hu1.cell h0 (fun x => x); have x1 := hu1.cell h1 (fun x => x); have x2 := hu1.cell h2 (fun x => x); have x3 := hu1.cell h3 (fun x => x); have HM1 := Lib.hid hm1; have HU1 := Lib.hid hu1; have HS1 := Lib.hid hs1; have hc2 := HK.out w1 hu1; clear hm1 hu1 hs1)
    | (go_at_call 26; (with_reducible refine hc2.mono ?_); rintro e2 w2 ⟨rfl, hm2, hu2, hs2⟩; have x0 := hu2.cell x0 (fun x => x); have x1 := hu2.cell x1 (fun x => x); have x2 := hu2.cell x2 (fun x => x); have x3 := hu2.cell x3 (fun x => x); have HM2 := Lib.hid hm2; have HU2 := Lib.hid hu2; have HS2 := Lib.hid hs2; clear hm2 hu2 hs2))
  have hsz : w1.heap.size = w.heap.size + 1 := HS1.out
  have HSZ := Lib.hid hsz
  have hlt : w.heap.size < w1.heap.size ∧ w1.heap.size < w2.heap.size := by have := HS2.out; omega
  have HLT := Lib.hid hlt
  clear hsz hlt
  go_wp2
  go_ret
  have hua := upd_alloc (fun _ => False) w2 (.cells #[.int .i64 L.now, .int .i64 L.last, .map (some w.heap.size), .map (some w1.heap.size)] 51)
  have hlt := HLT.out
  exact ⟨w2.heap.size, w.heap.size, w1.heap.size, rfl, ⟨(heap_alloc w2 _).1, IsMap.upd (IsMap.upd HM1.out HU2.out (fun x => x)) hua (fun x => x), IsMap.upd HM2.out hua (fun x => x), by omega, by omega, by omega⟩, by omega, by omega, by omega, ((Upd.refl _ _).drew.trans HU1.out).trans (HU2.out.trans hua)⟩

set_option maxRecDepth 100000 in
set_option maxHeartbeats 1000000 in
theorem rcopy_calls (F : Nat → Prop) (b : Nat) (R : RS) (w : World) (h : IsRef F w b R) (hlen : R.l.length ≤ 1000) :
    Calls Tryz.prog 10 #[.pointer (some ⟨b, 0, none⟩)] w fun e w' => e = .returned (.pointer (some ⟨w.heap.size, 0, none⟩)) ∧ (∃ v, w'.heap[w.heap.size]? = some (.cells #[.int .i64 R.now, .int .i64 R.last, v] 54 (0, 0)) ∧ Sl rlenc w' v R.l ∧ ∀ g, sliceBlock v = some g → w.heap.size < g) ∧ Upd (fun _ => False) w w' := by
  obtain ⟨v, hblk, hsl, -⟩ := h.blk
  obtain ⟨a, c, rfl, -⟩ := hsl.shape
  generalize hn : R.l.length = n at *
  have c0 := cell_of hblk 0
  have c1 := cell_of hblk 1
  have c2 := cell_of hblk 2
  have hbw : b < w.heap.size := lt_of_heap hblk
  have hua := upd_alloc (fun _ => False) w (.cells #[.int .i64 R.now, .int .i64 R.last, .slice a n c] 54)
  have ha := heap_alloc w (.cells #[.int .i64 R.now, .int .i64 R.last, .slice a n c] 54)
  have hsz : (w.alloc (.cells #[.int .i64 R.now, .int .i64 R.last, .slice a n c] 54)).heap.size = w.heap.size + 1 := by simp
  have c2a := hua.cell c2 (fun x => x)
  have HBA := Lib.hid ha.1
  have HSZ := Lib.hid hsz
  have HUA := Lib.hid hua
  have hsl1 := hsl.grow hua
  clear ha hsz hua hsl
  go_enter Tryz.func10, Tryz.ntmps10
  go_upto_region 2 with (fail)
  clear c0 c1 c2
  generalize w.alloc (.cells #[.int .i64 R.now, .int .i64 R.last, .slice a n c] 54) = w1 at *
  have hu1 : Upd (fun _ => False) w1 (w1.alloc (.cells #[] 73)) := upd_alloc _ _ _
  have hown0 := own_empty (enc := rlenc) (k := 4) rlenc_length (heap_alloc w1 (.cells #[] 73)).1 (Nat.le_refl _)
  obtain ⟨a2, n2, w2, hap, hown, hu2, -⟩ := run_append_any (P := Tryz.prog) (t := 52) Tryz.underlying52 info_RLease rfl (by decide) rlenc_length rlenc_one hown0 (hsl1.grow hu1) (by simp) (by rw [hn]; simp [maxLen]; omega) (by rw [hn]; simp; omega)
  have e0 : ([] ++ R.l : List RL) = R.l := rfl
  rw [e0, hn] at hap
  rw [e0, hn] at hown
  have hu2' : Upd (fun _ => False) w1 w2 := hu1.trans' hu2 (fun x hx e => by cases e; simp at hx)
  obtain ⟨hsl2, hge⟩ := sl_of_own rlenc_length (l := R.l) (by rw [hn]; exact hown)
  have hb2 := hu2'.heap HBA.out (fun x => x)
  have c2b := hu1.cell c2a (fun x => x)
  have f2 := free_of hb2 2
  have g2 := cell_of hb2 2
  have HB2 := Lib.hid hb2
  have HU2 := Lib.hid hu2'
  have HSL2 := Lib.hid hsl2
  have HGE := Lib.hid hge
  have hbw1 : b < w1.heap.size := by have := HSZ.out; omega
  clear hu1 hown0 hown hu2 e0 hu2' hsl2 hge hb2 hsl1 hblk h c2a
  generalize hgg : w.heap.size = g at *
  have HGG := Lib.hid hgg
  clear hgg
  clear hn
  go_wp2_with (at_builtin; refine wpList_append hap rfl rfl rfl rfl ?_)
  go_ret
  have hgg := HGG.out
  subst hgg
  have hu3 := upd_setCell (fun k => k = w.heap.size) w2 ⟨w.heap.size, 2, none⟩ (.slice a2 n n2) rfl
  have hu4 : Upd (fun _ => False) w (w2.setCell ⟨w.heap.size, 2, none⟩ (.slice a2 n n2)) := (HUA.out.trans HU2.out).trans' hu3 (fun x hx e => by omega)
  have hge := HGE.out
  have hsz := HSZ.out
  refine ⟨by rfl, ⟨.slice a2 n n2, by rw [heap_setCell_at HB2.out 2 _]; rfl, HSL2.out.upd hu3 (fun q hq e => by have := hge q hq; omega), fun q hq => by have := hge q hq; omega⟩, hu4⟩

/-- A lessor that stays while another one is written. -/
theorem Both.apart {F S : Nat → Prop} {w w' : World} {b ml mk rb : Nat} {L : LS} {R : RS} {j : Nat} (h : Both F w b ml mk rb L R j) (hu : Upd S w w') (hS : ∀ k, S k → F k) (h1 : ¬ S b) (h2 : ¬ S ml) (h3 : ¬ S mk) (h4 : ¬ S rb) : Both F w' b ml mk rb L R j :=
  { h with ls := h.ls.upd hu h1 h2 h3, ref := h.ref.upd hu (fun k _ e => hS k e) h4, hF := fun k hk => Nat.lt_of_lt_of_le (h.hF k hk) hu.size }

/-- More is written, none of which the document's lessor has. -/
theorem IsRef.wider {F G : Nat → Prop} {w : World} {rb : Nat} {R : RS} (h : IsRef F w rb R) (hG : ∀ k, k < w.heap.size → G k → F k) (hs : G rb) : IsRef G w rb R := by
  obtain ⟨v, h1, h2, h3⟩ := h.blk
  exact { blk := ⟨v, h1, h2, fun g hg e => h3 g hg (hG g (h2.lt hg) e)⟩, ok := fun r hr => (h.ok r hr).other hG, self := hs }

end Go.Proofs.YtcbngjlgcgcljaaGreat

/-
  LeaseCopies: the walk.
-/
namespace Go.Proofs.YtcbngjlgcgcljaaGreat
open Go.RowKit Go.Tb Go.MapKept Go.ChangeMaps Go.Lib
set_option linter.unusedVariables false

theorem new_three {w : World} : newOk 3 [] := ⟨by decide, by unfold topT; decide, by simp, fun y hy => (List.not_mem_nil hy).elim⟩

set_option maxRecDepth 100000 in
set_option maxHeartbeats 4000000 in
theorem copies_ok (a : Option Addr) (c : Nat) (l : List AP) (a2 : Option Addr) (c2 : Nat) (l2 : List AP) (w : World) (h : Acts w (.slice a l.length c) l) (hb : l.length ≤ 9223372036854775807) (hf : FewOk l) (h2 : Acts w (.slice a2 l2.length c2) l2) (hb2 : l2.length ≤ 9223372036854775807) (hf2 : FewOk l2) :
    Calls Tryz.prog 3 #[.slice a l.length c, .slice a2 l2.length c2] w fun e w' => e = .returned (.bool true) ∧ Upd (fun _ => False) w w' := by
  have hfew := fun W (hu : Upd (fun _ => False) w W) => few_calls a c l W (h.grow hu) hb
  rw [decide_eq_true hf] at hfew
  have hfew2 := fun W (hu : Upd (fun _ => False) w W) => few_calls a2 c2 l2 W (h2.grow hu) hb2
  rw [decide_eq_true hf2] at hfew2
  have HFEW := Lib.hid hfew
  have HFEW2 := Lib.hid hfew2
  have HA := Lib.hid h
  have HA2 := Lib.hid h2
  have h80 := hf.1
  have h80b := hf2.1
  have HF := Lib.hid hf.2
  have HF2 := Lib.hid hf2.2
  clear h hb hf hfew h2 hb2 hf2 hfew2
  generalize hn : l.length = n at *
  have HN := Lib.hid hn
  clear hn
  generalize hm : l2.length = m at *
  have HM := Lib.hid hm
  clear hm
  go_enter Tryz.func3, Tryz.ntmps3
  have hg0 : newOk 3 [] := ⟨by decide, by unfold topT; decide, by simp, fun y hy => (List.not_mem_nil hy).elim⟩
  have HG := Lib.hid hg0
  have HGZ := Lib.hid (show (grants (LS.start 3) []).2 = 0 from rfl)
  clear hg0
  go_upto_region 3 with (first
    | (go_at_call 4; (with_reducible refine (lives_calls w).mono ?_); rintro e0 w0 ⟨rfl, hu0⟩; have hfw := HFEW.out w0 hu0; have HU0 := Lib.hid hu0; clear hu0)
    | (go_at_call 5; (with_reducible refine hfw.mono ?_); rintro e1 w1 ⟨rfl, hu1⟩; have HU1 := Lib.hid (HU0.out.trans hu1); have hfw2 := HFEW2.out w1 (HU0.out.trans hu1); clear hu1 hfw)
    | (go_at_call 5; (with_reducible refine hfw2.mono ?_); rintro e2 w2 ⟨rfl, hu2⟩; have HU2 := Lib.hid (HU1.out.trans hu2); have hnew := new_none 3 w2 (by decide) (by unfold topT; decide); clear hu2 hfw2))
  go_upto_region 8 with (first
    | (go_at_call 6; (with_reducible refine hnew.mono ?_); rintro e3 w3 ⟨b, ml, mk, rfl, hL3, hb3, hml3, hmk3, hu3⟩; have HL3 := Lib.hid hL3; have HU3 := Lib.hid (HU2.out.trans hu3); have HB3 := Lib.hid (show w2.heap.size ≤ b ∧ w2.heap.size ≤ ml ∧ w2.heap.size ≤ mk from ⟨hb3, hml3, hmk3⟩); have hlt := (show b < w3.heap.size ∧ ml < w3.heap.size ∧ mk < w3.heap.size from ⟨lt_of_heap hL3.blk, hL3.lm.lt, hL3.km.lt⟩); have HLT := Lib.hid hlt; have hrn := (show Calls Tryz.prog 7 #[.int .i64 3, .slice none 0 0, .slice none 0 0] w3 (RNewSays (fun k => k = b ∨ k = ml ∨ k = mk) 3 [] w3) from rnew_calls (fun k => k = b ∨ k = ml ∨ k = mk) 3 none none 0 0 [] w3 (fun k hk => (by rcases hk with rfl | rfl | rfl; exact hlt.1; exact hlt.2.1; exact hlt.2.2)) (.inl ⟨rfl, rfl⟩) (.inl ⟨rfl, rfl⟩)); clear hnew hu3 hL3 hb3 hml3 hmk3 hlt)
    | (go_at_call 7; (with_reducible refine hrn.mono ?_); intro e4 w4 h4; obtain ⟨hu4, hs4⟩ := h4; rw [if_pos HG.out, if_pos HGZ.out] at hs4; obtain ⟨R, rfl, href, hrel⟩ := hs4; have HU4 := Lib.hid hu4; have HREF := Lib.hid href; have HREL := Lib.hid hrel; clear hu4 href hrel hrn))
  have hbo : Both (fun k => (k = b ∨ k = ml ∨ k = mk) ∨ k = w3.heap.size) w4 b ml mk w3.heap.size (LS.start 3) R 0 := by
    have hlt := HLT.out
    have hlt3 : w3.heap.size < w4.heap.size := by obtain ⟨v, h1, _⟩ := HREF.out.blk; exact lt_of_heap h1
    refine { ls := HL3.out.grow HU4.out, ref := HREF.out, ok := LOk.start (by decide) (by unfold topT; decide), kok := ⟨fun s i hi => (by cases hi), fun s i hi => (by cases hi)⟩, nk := Nat.le_refl _, rel := HREL.out, fb := .inl (.inl rfl), fl := .inl (.inr (.inl rfl)), fk := .inl (.inr (.inr rfl)), nb := by omega, nl := by omega, nm := by omega, hF := fun k hk => by rcases hk with (rfl | rfl | rfl) | rfl <;> omega }
  have HFR := Lib.hid (show w.heap.size ≤ b ∧ w.heap.size ≤ ml ∧ w.heap.size ≤ mk ∧ w.heap.size ≤ w3.heap.size by
    have h2 := HB3.out; have h3 := HU3.out.size; have h4 := HU2.out.size; omega)
  have hst : (∃ L R, Both (fun k => (k = b ∨ k = ml ∨ k = mk) ∨ k = w3.heap.size) w4 b ml mk w3.heap.size L R 0) := ⟨_, _, hbo⟩
  have HST := Lib.hid hst
  have HU4W := Lib.hid (HU3.out.trans HU4.out)
  clear hbo HREF HREL HL3 HLT HB3 hst
  generalize w3.heap.size = rb at *
  go_loopw [44] (fun i wr => ∃ j : Nat, j ≤ n ∧ i = .int .i64 j ∧ (∃ L R, Both (fun k => (k = b ∨ k = ml ∨ k = mk) ∨ k = rb) wr b ml mk rb L R j) ∧ Upd (fun k => w.heap.size ≤ k) w wr) (fun i _ => n - (intOf i).toNat)
  case atStart => exact ⟨0, Nat.zero_le _, rfl, HST.out, HU4W.out.weak _⟩
  case round =>
    clear HST
    obtain ⟨j, hj, rfl, hst, hu⟩ := hrel
    have HU := Lib.hid hu
    by_cases hlt : j < n
    · skip
      have hlt' : j < l.length := by rw [HN.out]; exact hlt
      have hacts : Acts wr (.slice a l.length c) l := by rw [HN.out]; exact HA.out.low hu (fun k hk e => by omega)
      obtain ⟨bl, ol, rfl, q0, q1, q2, q3⟩ := hacts.at hlt'
      have hby := HA.out.by_ _ (List.getElem_mem hlt')
      have hkl := HF.out _ (List.getElem_mem hlt')
      unfold AP.kv at hby
      have hst4 := hst.imp fun L hL => hL.imp fun R hR => hR.grow (upd_alloc (fun _ => False) wr (.cells #[.int .i64 l[j].kind, .int .i64 l[j].id, .int .i64 l[j].n, .slice l[j].ka l[j].key.length l[j].kc] 34))
      have hu4 := hu.alloc (.cells #[.int .i64 l[j].kind, .int .i64 l[j].id, .int .i64 l[j].n, .slice l[j].ka l[j].key.length l[j].kc] 34)
      have hdo := do_any _ _ _ _ _ j l[j] _ hst4 (by omega) (by omega) (fun w' hu' => hby.low (hu4.trans' hu' (fun x hx e => by have := HFR.out; omega)) (fun k hk e => by omega))
      have ha4 := heap_alloc wr (.cells #[.int .i64 l[j].kind, .int .i64 l[j].id, .int .i64 l[j].n, .slice l[j].ka l[j].key.length l[j].kc] 34)
      have HU4 := Lib.hid hu4
      clear hacts hby hkl hst hst4 hu hu4
      generalize l[j].kind = kind at *
      generalize l[j].id = id at *
      generalize l[j].n = nn at *
      generalize l[j].ka = ka at *
      generalize l[j].kc = kc at *
      generalize l[j].key.length = kn at *
      clear hlt'
      go_upto_region 10 with (fail)
      have e0 := cell_of ha4.1 0
      have e1 := cell_of ha4.1 1
      have e2 := cell_of ha4.1 2
      have e3 := cell_of ha4.1 3
      clear ha4 q0 q1 q2 q3
      generalize wr.alloc (.cells #[.int .i64 kind, .int .i64 id, .int .i64 nn, .slice ka kn kc] 34) = W4 at *
      generalize wr.heap.size = g at *
      go_wp2_with (go_at_call 8; (with_reducible refine hdo.mono ?_); intro e5 w5 h5; obtain ⟨rfl, ⟨L5, R5, hb5⟩, hu5⟩ := h5; have HB5 := Lib.hid hb5; have HU5 := Lib.hid hu5; clear hb5 hu5 hdo)
      go_roundw
      case rel => exact ⟨j + 1, by omega, by go_num, ⟨L5, R5, HB5.out⟩, HU4.out.trans' HU5.out (fun x hx e => by have := HFR.out; omega)⟩
      case measure => simp [intOf]; omega
    · obtain rfl : j = n := by omega
      obtain ⟨L, R, hb⟩ := hst
      have HB := Lib.hid hb
      have hlc := lcopy_calls b ml mk L wr hb.ls
      have HRC := Lib.hid (fun W (hu : Upd (fun _ => False) wr W) => rcopy_calls _ rb R W (hb.ref.grow hu) (by have := hb.len; omega))
      clear hb hu
      go_upto_region 15 with (first
        | (go_at_call 9; (with_reducible refine hlc.mono ?_); rintro e6 w6 ⟨b2, ml2, mk2, rfl, hL6, hb6, hml6, hmk6, hu6⟩; have HL6 := Lib.hid hL6; have HU6 := Lib.hid hu6; have HB6 := Lib.hid (show wr.heap.size ≤ b2 ∧ wr.heap.size ≤ ml2 ∧ wr.heap.size ≤ mk2 from ⟨hb6, hml6, hmk6⟩); have hrc := HRC.out w6 hu6; clear hlc hL6 hb6 hml6 hmk6 hu6)
        | (go_at_call 10; (with_reducible refine hrc.mono ?_); rintro e7 w7 ⟨rfl, ⟨v7, hv7, hsl7, hge7⟩, hu7⟩; have HV7 := Lib.hid hv7; have HSL7 := Lib.hid hsl7; have HGE7 := Lib.hid hge7; have HU7 := Lib.hid hu7; clear hrc hv7 hsl7 hge7 hu7))
      have hX : ∀ F2 : Nat → Prop, (∀ k, k < wr.heap.size → F2 k → ((k = b ∨ k = ml ∨ k = mk) ∨ k = rb)) → (∀ k, (((k = b ∨ k = ml ∨ k = mk) ∨ k = rb) → F2 k)) → (∀ k, F2 k → k < w7.heap.size) → Both F2 w7 b ml mk rb L R j := fun F2 h1 h2 h3 => by
        have hb := HB.out
        have hu := HU6.out.trans HU7.out
        exact { ls := hb.ls.grow hu, ref := (hb.ref.wider h1 (h2 _ (.inr rfl))).grow hu, ok := hb.ok, kok := hb.kok, nk := hb.nk, rel := hb.rel, fb := h2 _ (.inl (.inl rfl)), fl := h2 _ (.inl (.inr (.inl rfl))), fk := h2 _ (.inl (.inr (.inr rfl))), nb := hb.nb, nl := hb.nl, nm := hb.nm, hF := h3 }
      have hlt7 : b2 < w7.heap.size ∧ ml2 < w7.heap.size ∧ mk2 < w7.heap.size ∧ w6.heap.size < w7.heap.size ∧ b2 < w6.heap.size ∧ ml2 < w6.heap.size ∧ mk2 < w6.heap.size := by
        have h1 := lt_of_heap HL6.out.blk; have h2 := HL6.out.lm.lt; have h3 := HL6.out.km.lt; have h4 := lt_of_heap HV7.out; omega
      have hltr : b < wr.heap.size ∧ ml < wr.heap.size ∧ mk < wr.heap.size ∧ rb < wr.heap.size := ⟨HB.out.hF _ (.inl (.inl rfl)), HB.out.hF _ (.inl (.inr (.inl rfl))), HB.out.hF _ (.inl (.inr (.inr rfl))), HB.out.hF _ (.inr rfl)⟩
      have hs6 : wr.heap.size ≤ w6.heap.size := HU6.out.size
      have hb6 := HB6.out
      have hxb : Both (fun k => ((k = b ∨ k = ml ∨ k = mk) ∨ k = rb) ∨ ((k = b2 ∨ k = ml2 ∨ k = mk2) ∨ k = w6.heap.size)) w7 b ml mk rb L R j :=
        hX _ (fun k hk e => by rcases e with e | e; exact e; omega) (fun k e => .inl e) (fun k e => by omega)
      have hyb : Both (fun k => ((k = b ∨ k = ml ∨ k = mk) ∨ k = rb) ∨ ((k = b2 ∨ k = ml2 ∨ k = mk2) ∨ k = w6.heap.size)) w7 b2 ml2 mk2 w6.heap.size L R j := by
        have hb := HB.out
        have hu := HU6.out.trans HU7.out
        have hw := hb.ref.wider (G := fun k => ((k = b ∨ k = ml ∨ k = mk) ∨ k = rb) ∨ ((k = b2 ∨ k = ml2 ∨ k = mk2) ∨ k = w6.heap.size)) (fun k hk e => by rcases e with e | e; exact e; omega) (.inl (.inr rfl))
        have hge := HGE7.out
        exact { ls := HL6.out.grow HU7.out, ref := { blk := ⟨v7, HV7.out, HSL7.out, fun g hg e => by have := hge g hg; omega⟩, ok := fun r hr => (hw.ok r hr).upd hu (fun _ _ x => x.elim), self := .inr (.inr rfl) }, ok := hb.ok, kok := hb.kok, nk := hb.nk, rel := hb.rel, fb := .inr (.inl (.inl rfl)), fl := .inr (.inl (.inr (.inl rfl))), fk := .inr (.inl (.inr (.inr rfl))), nb := by omega, nl := by omega, nm := by omega, hF := hxb.hF }
      have HXB := Lib.hid (show ∃ L R, Both _ w7 b ml mk rb L R j from ⟨L, R, hxb⟩)
      have HYB := Lib.hid (show ∃ L R, Both _ w7 b2 ml2 mk2 w6.heap.size L R j from ⟨L, R, hyb⟩)
      have HNE := Lib.hid (show ∀ k, (k = b2 ∨ k = ml2 ∨ k = mk2 ∨ k = w6.heap.size) → k ≠ b ∧ k ≠ ml ∧ k ≠ mk ∧ k ≠ rb ∧ w.heap.size ≤ k by have := HU.out.size; omega)
      have HU7W := Lib.hid (show Upd (fun k => w.heap.size ≤ k) w w7 from HU.out.trans ((HU6.out.trans HU7.out).weak _))
      have HFR2 := Lib.hid (show w.heap.size ≤ b2 ∧ w.heap.size ≤ ml2 ∧ w.heap.size ≤ mk2 ∧ w.heap.size ≤ w6.heap.size by have := HU.out.size; omega)
      clear hX hlt7 hltr hs6 hb6 hxb hyb HL6 HV7 HSL7 HGE7 HB6 HRC HB
      generalize w6.heap.size = rb2 at *
      rename World => W7
      go_loopw [60] (fun i wr => ∃ p : Nat, p ≤ m ∧ i = .int .i64 p ∧ (∃ L R, Both (fun k => ((k = b ∨ k = ml ∨ k = mk) ∨ k = rb) ∨ ((k = b2 ∨ k = ml2 ∨ k = mk2) ∨ k = rb2)) wr b ml mk rb L R j) ∧ (∃ L R, Both (fun k => ((k = b ∨ k = ml ∨ k = mk) ∨ k = rb) ∨ ((k = b2 ∨ k = ml2 ∨ k = mk2) ∨ k = rb2)) wr b2 ml2 mk2 rb2 L R (j + p)) ∧ Upd (fun k => w.heap.size ≤ k) w wr) (fun i _ => m - (intOf i).toNat)
      case atStart => exact ⟨0, Nat.zero_le _, rfl, HXB.out, HYB.out, HU7W.out⟩
      case round =>
        clear HXB HYB
        obtain ⟨p, hp, rfl, hx, hst, hu⟩ := hrel
        have HX := Lib.hid hx
        have HU := Lib.hid hu
        clear hx
        by_cases hlt : p < m
        · skip
          have hlt' : p < l2.length := by rw [HM.out]; exact hlt
          have hacts : Acts wr (.slice a2 l2.length c2) l2 := by rw [HM.out]; exact HA2.out.low hu (fun k hk e => by omega)
          obtain ⟨bl, ol, rfl, q0, q1, q2, q3⟩ := hacts.at hlt'
          have hby := HA2.out.by_ _ (List.getElem_mem hlt')
          have hkl := HF2.out _ (List.getElem_mem hlt')
          unfold AP.kv at hby
          have hst4 := hst.imp fun L hL => hL.imp fun R hR => hR.grow (upd_alloc (fun _ => False) wr (.cells #[.int .i64 l2[p].kind, .int .i64 l2[p].id, .int .i64 l2[p].n, .slice l2[p].ka l2[p].key.length l2[p].kc] 34))
          have HX4 := Lib.hid (HX.out.imp fun L hL => hL.imp fun R hR => hR.grow (upd_alloc (fun _ => False) wr (.cells #[.int .i64 l2[p].kind, .int .i64 l2[p].id, .int .i64 l2[p].n, .slice l2[p].ka l2[p].key.length l2[p].kc] 34)))
          have hu4 := hu.alloc (.cells #[.int .i64 l2[p].kind, .int .i64 l2[p].id, .int .i64 l2[p].n, .slice l2[p].ka l2[p].key.length l2[p].kc] 34)
          have hdo := do_any _ _ _ _ _ (j + p) l2[p] _ hst4 (by omega) (by omega) (fun w' hu' => hby.low (hu4.trans' hu' (fun x hx e => by have := HFR2.out; omega)) (fun k hk e => by omega))
          have ha4 := heap_alloc wr (.cells #[.int .i64 l2[p].kind, .int .i64 l2[p].id, .int .i64 l2[p].n, .slice l2[p].ka l2[p].key.length l2[p].kc] 34)
          have HU4 := Lib.hid hu4
          clear hacts hby hkl hst hst4 hu hu4
          generalize l2[p].kind = kind at *
          generalize l2[p].id = id at *
          generalize l2[p].n = nn at *
          generalize l2[p].ka = ka at *
          generalize l2[p].kc = kc at *
          generalize l2[p].key.length = kn at *
          clear hlt'
          go_upto_region 17 with (fail)
          have e0 := cell_of ha4.1 0
          have e1 := cell_of ha4.1 1
          have e2 := cell_of ha4.1 2
          have e3 := cell_of ha4.1 3
          clear ha4 q0 q1 q2 q3
          generalize wr.alloc (.cells #[.int .i64 kind, .int .i64 id, .int .i64 nn, .slice ka kn kc] 34) = W4 at *
          generalize wr.heap.size = g at *
          go_wp2_with (go_at_call 8; (with_reducible refine hdo.mono ?_); intro e5 w5 h5; obtain ⟨rfl, ⟨L5, R5, hb5⟩, hu5⟩ := h5; have HB5 := Lib.hid hb5; have HU5 := Lib.hid hu5; clear hb5 hu5 hdo)
          go_roundw
          case rel =>
            obtain ⟨L6, R6, hb6⟩ := HX4.out
            exact ⟨p + 1, by omega, by go_num, ⟨L6, R6, hb6.apart HU5.out (fun k e => .inr (by rcases e with e | e | e | e; exact .inl (.inl e); exact .inl (.inr (.inl e)); exact .inl (.inr (.inr e)); exact .inr e)) (fun e => (HNE.out b e).1 rfl) (fun e => (HNE.out ml e).2.1 rfl) (fun e => (HNE.out mk e).2.2.1 rfl) (fun e => (HNE.out rb e).2.2.2.1 rfl)⟩, ⟨L5, R5, HB5.out⟩, HU4.out.trans' HU5.out (fun x hx e => by have := HFR2.out; omega)⟩
          case measure => simp [intOf]; omega
        · obtain rfl : p = m := by omega
          obtain ⟨L5, R5, hx5⟩ := HX.out
          obtain ⟨L6, R6, hy6⟩ := hst
          have hs1 := same_calls _ b ml mk rb j L5 R5 _ hx5 (by omega)
          have HS2 := Lib.hid (fun W hu => same_calls _ b2 ml2 mk2 rb2 (j + p) L6 R6 W (hy6.grow hu) (by omega))
          clear hx5 hy6 hu
          go_wp2_with (first
            | (go_at_call 11; (with_reducible refine hs1.mono ?_); rintro e8 w8 ⟨rfl, hu8⟩; have HU8 := Lib.hid hu8; have hs2 := HS2.out w8 hu8; clear hu8)
            | (go_at_call 11; (with_reducible refine hs2.mono ?_); rintro e9 w9 ⟨rfl, hu9⟩; have HU9 := Lib.hid hu9; clear hu9))
          go_ret
          exact ⟨rfl, (HU.out.mono (fun k hk e => by omega)).trans (HU8.out.trans HU9.out)⟩

end Go.Proofs.YtcbngjlgcgcljaaGreat

/-
  LeaseCopies: whatever it is handed.
-/
namespace Go.Proofs.YtcbngjlgcgcljaaGreat
open Go.RowKit Go.Tb Go.MapKept Go.ChangeMaps Go.Lib
set_option linter.unusedVariables false

set_option maxRecDepth 100000 in
theorem copies_walk (a : Option Addr) (c : Nat) (l : List AP) (a2 : Option Addr) (c2 : Nat) (l2 : List AP) (w : World) (h : Acts w (.slice a l.length c) l) (hb : l.length ≤ 9223372036854775807) (h2 : Acts w (.slice a2 l2.length c2) l2) (hb2 : l2.length ≤ 9223372036854775807) :
    Calls Tryz.prog 3 #[.slice a l.length c, .slice a2 l2.length c2] w fun e w' => e = .returned (.bool true) ∧ Upd (fun _ => False) w w' := by
  by_cases hf : FewOk l
  · by_cases hf2 : FewOk l2
    · exact copies_ok a c l a2 c2 l2 w h hb hf h2 hb2 hf2
    · have hfew := fun W (hu : Upd (fun _ => False) w W) => few_calls a c l W (h.grow hu) hb
      rw [decide_eq_true hf] at hfew
      have hfew2 := fun W (hu : Upd (fun _ => False) w W) => few_calls a2 c2 l2 W (h2.grow hu) hb2
      rw [decide_eq_false hf2] at hfew2
      have HFEW := Lib.hid hfew
      have HFEW2 := Lib.hid hfew2
      clear h hb hf hfew h2 hb2 hf2 hfew2
      generalize l.length = n at *
      generalize l2.length = m at *
      go_enter Tryz.func3, Tryz.ntmps3
      go_upto_region 2 with (first
        | (go_at_call 4; (with_reducible refine (lives_calls w).mono ?_); rintro e0 w0 ⟨rfl, hu0⟩; have hfw := HFEW.out w0 hu0; have HU0 := Lib.hid hu0; clear hu0)
        | (go_at_call 5; (with_reducible refine hfw.mono ?_); rintro e1 w1 ⟨rfl, hu1⟩; have HU1 := Lib.hid (HU0.out.trans hu1); have hfw2 := HFEW2.out w1 (HU0.out.trans hu1); clear hu1 hfw)
        | (go_at_call 5; (with_reducible refine hfw2.mono ?_); rintro e2 w2 ⟨rfl, hu2⟩; have HU2 := Lib.hid (HU1.out.trans hu2); clear hu2 hfw2))
      go_wp2_with (go_at_call 4; (with_reducible refine (lives_calls w2).mono ?_); rintro e3 w3 ⟨rfl, hu3⟩)
      go_ret
      exact ⟨rfl, HU2.out.trans hu3⟩
  · have hfew := fun W (hu : Upd (fun _ => False) w W) => few_calls a c l W (h.grow hu) hb
    rw [decide_eq_false hf] at hfew
    have HFEW := Lib.hid hfew
    clear h hb hf hfew h2 hb2
    generalize l.length = n at *
    generalize l2.length = m at *
    go_enter Tryz.func3, Tryz.ntmps3
    go_upto_region 2 with (first
      | (go_at_call 4; (with_reducible refine (lives_calls w).mono ?_); rintro e0 w0 ⟨rfl, hu0⟩; have hfw := HFEW.out w0 hu0; have HU0 := Lib.hid hu0; clear hu0)
      | (go_at_call 5; (with_reducible refine hfw.mono ?_); rintro e1 w1 ⟨rfl, hu1⟩; have HU1 := Lib.hid (HU0.out.trans hu1); clear hu1 hfw))
    go_wp2_with (go_at_call 4; (with_reducible refine (lives_calls w1).mono ?_); rintro e2 w2 ⟨rfl, hu2⟩)
    go_ret
    exact ⟨rfl, HU1.out.trans hu2⟩

end Go.Proofs.YtcbngjlgcgcljaaGreat
