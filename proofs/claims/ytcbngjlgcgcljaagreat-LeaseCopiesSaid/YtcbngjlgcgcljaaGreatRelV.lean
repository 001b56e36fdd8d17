/-
  An act on a lessor and on the document's: Attach; any act.
-/
import Derived.Test.YtcbngjlgcgcljaaGreatRelU
namespace Go.Proofs.YtcbngjlgcgcljaaGreat
open Go.RowKit Go.Tb Go.MapKept Go.ChangeMaps Go.Lib
set_option linter.unusedVariables false

/-- Attach of both. -/
theorem att_pair {F : Nat → Prop} {b ml mk rb j : Nat} {L : LS} {R : RS} {w : World} (h : Both F w b ml mk rb L R j) (hj : j ≤ 1000) (id : Int) (ka : Option Addr) (kc : Nat) (key : List UInt8) (hk : key.length ≤ 1000) :
    ∃ er L', LOk L' ∧ KOk L' ∧ L'.nk ≤ j + 1 ∧
      (∀ W v, IsLs W b ml mk L → Bytes W v key → Calls Tryz.prog 23 #[.pointer (some ⟨b, 0, none⟩), v, .int .i64 id] W fun e w' => e = .returned (.int .i64 er) ∧ IsLs w' b ml mk L' ∧ Upd (fun k => k = mk) W w') ∧
      (∀ W, IsRef F W rb R → (∀ k, F k → k < W.heap.size) → Bytes W (.slice ka key.length kc) key → Calls Tryz.prog 24 #[.pointer (some ⟨rb, 0, none⟩), .slice ka key.length kc, .int .i64 id] W fun e w' => e = .returned (.int .i64 er) ∧ (∃ R', IsRef F w' rb R' ∧ Rel L' R') ∧ Upd (fun k => k = rb) W w') := by
  have hrows : ∀ r ∈ R.l, r.rows.length ≤ 1000 ∧ ∀ k ∈ r.rows, k.2.length ≤ 1000 := fun r hr => ⟨Nat.le_trans (h.rows r hr).1 hj, (h.rows r hr).2⟩
  have hlen := h.len
  have hc : ∀ c : Bool, (if c = true then L.nk - 1 else L.nk) ≤ j + 1 := fun c => by have := h.nk; cases c <;> simp <;> omega
  have hc2 : ∀ c : Bool, (if c = true then L.nk else L.nk + 1) ≤ j + 1 := fun c => by have := h.nk; cases c <;> simp <;> omega
  have hkv := KInv.of h.ok h.kok
  by_cases h0 : id = 0
  · subst h0
    refine ⟨0, L.free key, (hkv.free key).ok, (hkv.free key).k, hc _, fun W v hl hv => attach_zero b ml mk L v key W hl hv, fun W hr hF hb => ?_⟩
    refine (rattach_yes F rb R ka kc key 0 W hr hF (by omega) h.rel.pw hb hk (.inl rfl) hrows).mono fun e w' ⟨he, ⟨l', hh, hr'⟩, hu⟩ => ⟨he, ⟨_, hr', h.rel.free h.ok key l' hh⟩, hu⟩
  · cases hx : L.l id with
    | none =>
      refine ⟨17, L, h.ok, h.kok, Nat.le_succ_of_le h.nk, fun W v hl hv => (attach_no b ml mk L v id W hl h0 hx).mono fun e w' ⟨he, hu⟩ => ⟨he, hl.grow hu, hu.weak _⟩, fun W hr hF hb => ?_⟩
      exact (rattach_no F rb R id _ W hr (by omega) h0 (h.rel.isNot hx)).mono fun e w' ⟨he, hw⟩ => by subst hw; exact ⟨he, ⟨R, hr, h.rel⟩, Upd.refl _ _⟩
    | some x =>
      have hv := hkv.hung key id h0 (by rw [hx]; rfl) hk
      refine ⟨0, L.hung key id, hv.ok, hv.k, hc2 _, fun W v hl hb => attach_yes b ml mk L v key id x W hl hb h0 hx, fun W hr hF hb => ?_⟩
      obtain ⟨jj, hj, hid, _⟩ := h.rel.isThere hx
      refine (rattach_yes F rb R ka kc key id W hr hF (by omega) h.rel.pw hb hk (.inr ⟨_, List.getElem_mem hj, hid⟩) hrows).mono fun e w' ⟨he, ⟨l', hh, hr'⟩, hu⟩ => ⟨he, ⟨_, hr', h.rel.hung key id l' hh⟩, hu⟩

theorem flip_ok {cur : Array Value} {n : Nat} (h : ∀ i, i < n → ∃ z : Int, cur[i]? = some (.int .u8 z)) (i : Nat) (z0 : Int) : ∀ i', i' < n → ∃ z : Int, (cur.setIfInBounds i (.int .u8 z0))[i']? = some (.int .u8 z) := fun i' hi => by
  rw [Array.getElem?_setIfInBounds]
  by_cases e : i = i'
  · subst e
    obtain ⟨z, hz⟩ := h i hi
    rw [if_pos rfl, if_pos (Array.getElem?_eq_some_iff.1 hz).1]
    exact ⟨z0, rfl⟩
  · rw [if_neg e]; exact h i' hi

set_option maxRecDepth 100000 in
set_option maxHeartbeats 1000000 in
theorem do_attach (F : Nat → Prop) (b ml mk rb j : Nat) (L : LS) (R : RS) (id n : Int) (ka : Option Addr) (kc : Nat) (key : List UInt8) (w : World) (h : Both F w b ml mk rb L R j) (hj : j ≤ 1000) (hk : key.length ≤ 1000)
    (hkey : ∀ w', Upd (fun k => k = b ∨ k = ml ∨ k = mk ∨ k = rb) w w' → Bytes w' (.slice ka key.length kc) key) :
    Calls Tryz.prog 8 #[.pointer (some ⟨b, 0, none⟩), .pointer (some ⟨rb, 0, none⟩), .agg #[.int .i64 4, .int .i64 id, .int .i64 n, .slice ka key.length kc]] w (DoSays F b ml mk rb (j + 1) w) := by
  have hua := upd_alloc (fun _ => False) w (.cells #[.int .i64 4, .int .i64 id, .int .i64 n, .slice ka key.length kc] 34)
  have ha := heap_alloc w (.cells #[.int .i64 4, .int .i64 id, .int .i64 n, .slice ka key.length kc] 34)
  have hg : b < w.heap.size ∧ ml < w.heap.size ∧ mk < w.heap.size ∧ rb < w.heap.size := ⟨h.hF b h.fb, h.hF ml h.fl, h.hF mk h.fk, h.hF rb h.ref.self⟩
  have H := Lib.hid h
  have HUA := Lib.hid hua
  have HA := Lib.hid ha.1
  obtain ⟨er, L', hok', hkok', hnk', hla, hra⟩ := att_pair h hj id ka kc key hk
  have HLA := Lib.hid hla
  have HRA := Lib.hid hra
  have HKEY := Lib.hid hkey
  have HG := Lib.hid hg
  have HOK' := Lib.hid (And.intro hok' (And.intro hkok' hnk'))
  have htw := rtwin_calls (.slice ka key.length kc) key _ (hkey _ (hua.weak _)) (by omega)
  have hsz : w.heap.size < (w.alloc (.cells #[.int .i64 4, .int .i64 id, .int .i64 n, .slice ka key.length kc] 34)).heap.size := by simp
  have HSZ := Lib.hid hsz
  clear h hua ha hla hra hkey hok' hkok' hnk' hsz
  generalize hkn : key.length = kn at *
  have HKN := Lib.hid hkn
  clear hkn
  go_enter Tryz.func8, Tryz.ntmps8
  go_upto_region 1 with (fail)
  generalize w.alloc (.cells #[.int .i64 4, .int .i64 id, .int .i64 n, .slice ka kn kc] 34) = w0 at *
  generalize hgw : w.heap.size = g at *
  have HGW := Lib.hid hgw
  clear hgw
  have a0 := cell_of HA.out 0
  have a1 := cell_of HA.out 1
  have a3 := cell_of HA.out 3
  go_upto_region 21 with (go_at_call 22; (with_reducible refine htw.mono ?_); intro e2 w2 h2; obtain ⟨g5, c5, rfl, hby2, hg5, hu2, cur, hcur⟩ := h2; rw [HKN.out] at hby2; rw [HKN.out]; have a1 := hu2.cell a1 (fun x => x); have a3 := hu2.cell a3 (fun x => x); have HBY2 := Lib.hid hby2; have HU2 := Lib.hid hu2; have HCUR := Lib.hid hcur; clear hby2 hu2 hcur htw)
  have hl2 := HLA.out w2 _ (H.out.ls.grow (HUA.out.trans HU2.out)) (.of HBY2.out)
  have HG5 := Lib.hid hg5
  clear hg5
  have hsz2 : w0.heap.size ≤ w2.heap.size := HU2.out.size
  have hg5 : g < g5 ∧ g < w2.heap.size := by have := HG5.out; have := HSZ.out; omega
  go_upto_region 23 with (go_at_call 23; (with_reducible refine hl2.mono ?_); rintro e3 w3 ⟨rfl, hl3, hu3⟩; have a1 := hu3.cell a1 (by have := HG.out; simp; omega); have a3 := hu3.cell a3 (by have := HG.out; simp; omega); have HL3 := Lib.hid hl3; have HU3 := Lib.hid hu3; have HCUR3 := Lib.hid (hu3.heap HCUR.out (by have := HG.out; omega)); clear hl3 hu3 hl2)
  have hz : ∀ i, i < kn → ∃ z : Int, cur[i]? = some (.int .u8 z) := fun i hi => by
    rcases HBY2.out with ⟨q, _⟩ | ⟨b', off', cap', q, hc, hb', hx⟩
    · cases q
    · cases q
      have := hx i (by rw [HKN.out]; exact hi)
      rw [Nat.zero_add, cell_of HCUR.out] at this
      exact ⟨_, this⟩
  have HZ := Lib.hid hz
  have HA1 := Lib.hid a1
  have HA3 := Lib.hid a3
  have hm31 : kn ≤ 1000 := hk
  clear hz a0 a1 a3
  go_loopw [158] (fun i wr => ∃ p : Nat, p ≤ kn ∧ i = .int .i64 p ∧ ∃ cur2 : Array Value, wr.heap[g5]? = some (.cells cur2 5 (0, 0)) ∧ (∀ i, i < kn → ∃ z : Int, cur2[i]? = some (.int .u8 z)) ∧ Upd (fun k => k = g5) w3 wr) (fun i _ => kn - (intOf i).toNat)
  case atStart => exact ⟨0, Nat.zero_le _, rfl, cur, HCUR3.out, HZ.out, Upd.refl _ _⟩
  case round =>
    obtain ⟨p, hp, rfl, cur2, hc2, hz2, hu⟩ := hrel
    have HC2 := Lib.hid hc2
    have HZ2 := Lib.hid hz2
    have HU := Lib.hid hu
    by_cases hlt : p < kn
    · obtain ⟨z, hz⟩ := hz2 p hlt
      have q0 := (cell_of hc2 p).trans hz
      have f0 := free_of hc2 p
      clear hc2 hz2 hu hz
      go_wp2
      go_roundw
      case rel => exact ⟨p + 1, by omega, by go_num, _, heap_setCell_at HC2.out p _, flip_ok HZ2.out p _, HU.out.trans (upd_setCell _ _ _ _ rfl)⟩
      case measure => simp [intOf]; omega
    · obtain rfl : p = kn := by omega
      have hu4 : Upd (fun k => k = b ∨ k = ml ∨ k = mk) w wr := (((HUA.out.trans HU2.out).weak _).trans (HU3.out.mono (fun _ _ e => .inr (.inr e)))).trans' hu (fun x hx e => by have := HGW.out; omega)
      have HU4 := Lib.hid hu4
      have hl4 := HL3.out.upd hu (by have := HG.out; omega) (by have := HG.out; omega) (by have := HG.out; omega)
      have HL4 := Lib.hid hl4
      obtain ⟨hr4, hF4⟩ := H.out.step hu4
      have hra := HRA.out wr hr4 hF4 (HKEY.out _ (hu4.mono (fun _ _ e => by rcases e with e | e | e; exact .inl e; exact .inr (.inl e); exact .inr (.inr (.inl e)))))
      have a1 := hu.cell HA1.out (by simp; omega)
      have a3 := hu.cell HA3.out (by simp; omega)
      clear hc2 hz2 hu hu4 hl4 hr4 hF4
      go_wp2_with (go_at_call 24; (with_reducible refine hra.mono ?_); rintro e5 w5 ⟨rfl, ⟨R', hr5, hrel5⟩, hu5⟩; have HR5 := Lib.hid hr5; have HREL5 := Lib.hid hrel5; have HU5 := Lib.hid hu5; clear hr5 hrel5 hu5)
      go_ret
      exact H.out.says HL4.out HU4.out HU5.out HR5.out HOK'.out.1 HOK'.out.2.1 HOK'.out.2.2 HREL5.out

/-- Any act. -/
theorem do_any (F : Nat → Prop) (b ml mk rb j : Nat) (p : AP) (w : World) (h : ∃ L R, Both F w b ml mk rb L R j) (hj : j ≤ 1000) (hk : p.key.length ≤ 1000)
    (hkey : ∀ w', Upd (fun k => k = b ∨ k = ml ∨ k = mk ∨ k = rb) w w' → Bytes w' (.slice p.ka p.key.length p.kc) p.key) :
    Calls Tryz.prog 8 #[.pointer (some ⟨b, 0, none⟩), .pointer (some ⟨rb, 0, none⟩), .agg #[.int .i64 p.kind, .int .i64 p.id, .int .i64 p.n, .slice p.ka p.key.length p.kc]] w (DoSays F b ml mk rb (j + 1) w) := by
  obtain ⟨L, R, h⟩ := h
  by_cases h0 : p.kind = 0
  · rw [h0]; exact do_tick F b ml mk rb j L R p.id p.n p.ka _ p.kc w h
  · by_cases h1 : p.kind = 1
    · rw [h1]; exact do_grant F b ml mk rb j L R p.id p.n p.ka _ p.kc w h
    · by_cases h2 : p.kind = 2
      · rw [h2]; exact do_revoke F b ml mk rb j L R p.id p.n p.ka _ p.kc w h hj
      · by_cases h3 : p.kind = 3
        · rw [h3]; exact do_keep F b ml mk rb j L R p.id p.n p.ka _ p.kc w h
        · by_cases h4 : p.kind = 4
          · rw [h4]; exact do_attach F b ml mk rb j L R p.id p.n p.ka p.kc p.key w h hj hk hkey
          · exact do_else F b ml mk rb j L R p.kind p.id p.n p.ka _ p.kc w h ⟨h0, h1, h2, h3, h4⟩

end Go.Proofs.YtcbngjlgcgcljaaGreat
