/-
  Few: are records few, short, and their keys unlike?
-/
import Derived.Test.YtpbenicglhccmaaKvC
namespace Go.Proofs.Ytpbenicglhccmaa
open Go.RowKit Go.Tb Go.MapKept Go.ChangeMaps Go.Lib
set_option linter.unusedVariables false

def FewTo (ps : List KvP) (k : Nat) : Prop := (∀ p ∈ ps.take k, p.x.key.length ≤ 200 ∧ p.x.val.length ≤ 2000) ∧ ((ps.take k).map fun p => p.x.key).Nodup
def FewOk (ps : List KvP) : Prop := ps.length ≤ 60 ∧ (∀ p ∈ ps, p.x.key.length ≤ 200 ∧ p.x.val.length ≤ 2000) ∧ (ps.map fun p => p.x.key).Nodup

instance (ps : List KvP) : Decidable (FewOk ps) := by unfold FewOk; infer_instance
def fewB (ps : List KvP) : Bool := decide (FewOk ps)
theorem fewB_true {ps : List KvP} (h : fewB ps = true) : FewOk ps := of_decide_eq_true h
theorem fewB_no {ps : List KvP} (h : ¬ FewOk ps) : fewB ps = false := decide_eq_false h
def FewSays (ps : List KvP) (w : World) (e : Ending) (w' : World) : Prop := e = .returned (.bool (fewB ps)) ∧ Upd (fun _ => False) w w'
theorem few_dup {ps : List KvP} {m k : Nat} (hm : m < k) (hk : k < ps.length) {p : KvP} (hp : ps[m]? = some p) (he : p.x.key = ps[k].x.key) : ¬ FewOk ps := fun h => by
  have h3 := h.2.2
  have h1 : (ps.map fun p => p.x.key)[m]? = some p.x.key := by rw [List.getElem?_map, hp]; rfl
  have h2 : (ps.map fun p => p.x.key)[k]? = some p.x.key := by rw [List.getElem?_map, List.getElem?_eq_getElem hk, he]; rfl
  have hlt : m < (ps.map fun p => p.x.key).length := by rw [List.length_map]; omega
  have := (List.getElem?_inj hlt h3).1 (h1.trans h2.symm)
  omega

theorem FewTo.next {ps : List KvP} {k : Nat} (h : FewTo ps k) (hk : k < ps.length) (h1 : ps[k].x.key.length ≤ 200) (h2 : ps[k].x.val.length ≤ 2000) (h3 : ∀ p ∈ ps.take k, p.x.key ≠ ps[k].x.key) : FewTo ps (k + 1) := by
  unfold FewTo
  rw [List.take_succ_eq_append_getElem hk]
  refine ⟨fun p hp => ?_, ?_⟩
  · rcases List.mem_append.1 hp with hp | hp
    · exact h.1 p hp
    · rw [List.mem_singleton.1 hp]; exact ⟨h1, h2⟩
  · rw [List.map_append, List.nodup_append]
    refine ⟨h.2, by simp, fun a ha b hb => ?_⟩
    obtain ⟨p, hp, rfl⟩ := List.mem_map.1 ha
    simp only [List.map_cons, List.map_nil, List.mem_singleton] at hb
    rw [hb]; exact h3 p hp

set_option maxRecDepth 100000 in
set_option maxHeartbeats 4000000 in
theorem few_calls (a : Option Addr) (c : Nat) (ps : List KvP) (I : Nat → Prop) (w : World) (hs : Kvs w I (.slice a ps.length c) ps) :
    Calls Try.prog 8 #[.slice a ps.length c] w (FewSays ps w) := by
  by_cases hl : ps.length ≤ 60
  · have Hs := Lib.hid hs
    clear hs
    go_enter Try.func8, Try.ntmps8
    go_wp2
    go_loopw [11] (fun i wr => ∃ k : Nat, k ≤ ps.length ∧ i = .int .i64 k ∧ FewTo ps k ∧ Upd (fun _ => False) w wr) (fun i _ => ps.length - (intOf i).toNat)
    case atStart => exact ⟨0, Nat.zero_le _, rfl, ⟨by simp, by simp⟩, Upd.refl _ _⟩
    case round =>
      obtain ⟨k, hk, rfl, hf, hu⟩ := hrel
      have Hf := Lib.hid hf
      have Hu := Lib.hid hu
      clear hf
      by_cases hlt : k < ps.length
      · obtain ⟨b1, o1, rfl, q1⟩ := Hs.out.range k hlt
        have r1 := rangeAt_upd q1 hu (fun x => x)
        have hok := (Hs.out.2 _ (List.getElem_mem hlt)).grow hu
        have Hn := Lib.hid (fun h1 h2 h3 => Hf.out.next hlt h1 h2 h3)
        have Hat := Lib.hid (show ∀ m, m < k → ∃ p, ps[m]? = some p ∧ p.Ok w I ∧ w.rangeAt b1 (o1 + m * 6) (kvenc p) from fun m hm => by
          obtain ⟨b, o, e, q⟩ := Hs.out.range m (by omega)
          cases e
          exact ⟨ps[m], List.getElem?_eq_getElem (by omega), Hs.out.2 _ (List.getElem_mem _), q⟩)
        have Hno := Lib.hid (show ¬ (ps[k].x.key.length ≤ 200 ∧ ps[k].x.val.length ≤ 2000) → fewB ps = false from fun h => fewB_no (fun f => h (f.2.1 _ (List.getElem_mem hlt))))
        have Hdup := Lib.hid (show ∀ m p, m < k → ps[m]? = some p → p.x.key = ps[k].x.key → fewB ps = false from fun m p hm hp he => fewB_no (few_dup hm hlt hp he))
        generalize hpk : ps[k] = p at *
        clear hpk q1
        obtain ⟨⟨key, val, t1, m1, n1, l1⟩, ⟨ka, kn, kc⟩, ⟨va, vn, vc⟩⟩ := p
        have hkn : key.length = kn := hok.k.size
        have hvn : val.length = vn := hok.v.size
        have Hk := Lib.hid hok.k
        simp only [kvenc, Sv.v] at r1
        simp only at Hn Hno Hdup
        clear hok hu
        subst hkn hvn
        have x0 : (0 : Int) ≤ (k : Int) := by omega
        have x1 : (k : Int) < (ps.length : Int) := by omega
        by_cases h1 : key.length ≤ 200
        · by_cases h2 : val.length ≤ 2000
          · go_wp2_with ((with_reducible refine wpl_load_at (ty := 37) r1 Try.underlying37 ?_ ?_ ?_ ?_); rfl; rfl; kernel_rfl)
            have hua := upd_alloc (fun _ => False) wr (.cells #[.slice ka key.length kc, .slice va val.length vc, .int .i64 t1, .int .i64 m1, .int .i64 n1, .int .i64 l1] 37)
            have hba := (heap_alloc wr (.cells #[.slice ka key.length kc, .slice va val.length vc, .int .i64 t1, .int .i64 m1, .int .i64 n1, .int .i64 l1] 37)).1
            have Hua := Lib.hid (Hu.out.trans hua)
            have Hba := Lib.hid hba
            have Hk2 := Lib.hid (Hk.out.upd hua (fun _ _ x => x))
            clear hua hba
            generalize hg : wr.heap.size = g at *
            generalize hwa : wr.alloc (.cells #[.slice ka key.length kc, .slice va val.length vc, .int .i64 t1, .int .i64 m1, .int .i64 n1, .int .i64 l1] 37) = wa at *
            clear hwa hg r1
            go_loopw [27] (fun i wi => ∃ m : Nat, m ≤ k ∧ i = .int .i64 m ∧ (∀ p ∈ ps.take m, p.x.key ≠ key) ∧ Upd (fun _ => False) wa wi) (fun i _ => k - (intOf i).toNat)
            case atStart => exact ⟨0, Nat.zero_le _, rfl, by simp, Upd.refl _ _⟩
            case round =>
              obtain ⟨m, hm, rfl, hne, hui⟩ := hrel
              have Hne := Lib.hid hne
              have Hui := Lib.hid hui
              have c0 : wr.cell? ⟨g, 0, none⟩ = some (.slice ka key.length kc) := cell_of (hui.heap Hba.out (fun x => x)) 0
              clear hne hui
              by_cases hmk : m < k
              · obtain ⟨p, hp, hpo, hpr⟩ := Hat.out m hmk
                have c1 : wr.cell? ⟨b1, o1 + m * 6, none⟩ = some p.k.v := (Hua.out.trans Hui.out).cell (by simpa using hpr 0 _ rfl) (fun x => x)
                have hsm := same01_calls p.k.v (.slice ka key.length kc) p.x.key key wr.drew ((hpo.k.upd (Hua.out.trans Hui.out) (fun _ _ x => x)).upd (Upd.refl _ _).drew (fun _ _ x => x)) ((Hk2.out.upd Hui.out (fun _ _ x => x)).upd (Upd.refl _ _).drew (fun _ _ x => x))
                have Hp := Lib.hid hp
                have y0 : (0 : Int) ≤ (m : Int) := by omega
                have y1 : (m : Int) < (ps.length : Int) := by omega
                generalize hy : p.k.v = y at *
                cases hb : (p.x.key == key) with
                | true =>
                  rw [hb] at hsm
                  have Hb := Lib.hid (Hdup.out m p hmk hp (by simpa using hb))
                  clear hpo hpr hp hy hb
                  go_wp2
                  go_region_held3 (fun w' => w'.cell? ⟨b1, o1 + m * 6, none⟩ = some y ∧ w'.cell? ⟨g, 0, none⟩ = some (.slice ka key.length kc)) (exact ⟨c1, c0⟩) (first | (go_at_call 15; (with_reducible refine hsm.mono ?_); rintro e wx ⟨rfl, rfl⟩))
                  go_wp2
                  go_ret
                  exact ⟨(by rw [Hb.out]; try rfl), (Hua.out.trans Hui.out).drew⟩
                | false =>
                  rw [hb] at hsm
                  have Hb := Lib.hid (show p.x.key ≠ key by simpa using hb)
                  clear hpo hpr hp hy hb
                  go_wp2
                  go_region_held3 (fun w' => w'.cell? ⟨b1, o1 + m * 6, none⟩ = some y ∧ w'.cell? ⟨g, 0, none⟩ = some (.slice ka key.length kc)) (exact ⟨c1, c0⟩) (first | (go_at_call 15; (with_reducible refine hsm.mono ?_); rintro e wx ⟨rfl, rfl⟩))
                  go_wp2
                  go_roundw
                  case rel =>
                    refine ⟨m + 1, by omega, by go_num, fun q hq => ?_, Hui.out.drew⟩
                    rw [List.take_add_one, Hp.out] at hq
                    rcases List.mem_append.1 hq with hq | hq
                    · exact Hne.out q hq
                    · simp at hq; rw [hq]; exact Hb.out
                  case measure => simp [intOf]; omega
              · obtain rfl : m = k := by omega
                go_wp2
                go_roundw
                case rel => exact ⟨m + 1, by omega, by go_num, Hn.out h1 h2 Hne.out, Hua.out.trans Hui.out⟩
                case measure => simp [intOf]; omega
          · go_wp2_with ((with_reducible refine wpl_load_at (ty := 37) r1 Try.underlying37 ?_ ?_ ?_ ?_); rfl; rfl; kernel_rfl)
            go_ret
            exact ⟨(by rw [Hno.out (by omega)]; try rfl), Hu.out.alloc _⟩
        · go_wp2_with ((with_reducible refine wpl_load_at (ty := 37) r1 Try.underlying37 ?_ ?_ ?_ ?_); rfl; rfl; kernel_rfl)
          go_ret
          exact ⟨(by rw [Hno.out (by omega)]; try rfl), Hu.out.alloc _⟩
      · obtain rfl : k = ps.length := by omega
        go_wp2
        go_ret
        exact ⟨(by rw [show fewB ps = true from decide_eq_true ⟨hl, by simpa using Hf.out.1, by simpa using Hf.out.2⟩]; try rfl), Hu.out⟩
  · clear hs
    go_enter Try.func8, Try.ntmps8
    go_wp2
    go_ret
    exact ⟨(by rw [fewB_no (fun f => hl f.1)]; try rfl), Upd.refl _ _⟩

end Go.Proofs.Ytpbenicglhccmaa
