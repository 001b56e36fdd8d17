/-
  LeaseKeys: the walk.
-/
import Derived.Test.YtcbngjlgcgcljaaKeysQ
import Derived.Deep.CutRange
namespace Go.Proofs.Ytcbngjlgcgcljaa
open Go.RowKit Go.Tb Go.MapKept Go.ChangeMaps Go.Lib
set_option linter.unusedVariables false

set_option maxRecDepth 100000 in
set_option maxHeartbeats 4000000 in
theorem keys_ok (a : Option Addr) (c : Nat) (l : List AP) (w : World) (h : Acts w (.slice a l.length c) l) (hb : l.length ≤ 9223372036854775807) (hf : FewOk l) :
    Calls Try.prog 6 #[.slice a l.length c] w fun e w' => e = .returned (.bool true) ∧ Upd (fun _ => False) w w' := by
  have hfew := fun W (hu : Upd (fun _ => False) w W) => few_calls a c l W (h.grow hu) hb
  rw [decide_eq_true hf] at hfew
  have HFEW := Lib.hid hfew
  have HA := Lib.hid h
  have h80 := hf.1
  have HF := Lib.hid hf.2
  have hmm := @run_makeMap Try.prog
  clear h hb hf hfew
  generalize hn : l.length = n at *
  have HN := Lib.hid hn
  clear hn
  go_enter Try.func6, Try.ntmps6
  go_upto_region 8 with (first
    | (go_at_call 8; (with_reducible refine (lives_calls w).mono ?_); rintro e0 w0 ⟨rfl, hu0⟩; have hfw := HFEW.out w0 hu0; have HU0 := Lib.hid hu0; clear hu0)
    | (go_at_call 18; (with_reducible refine hfw.mono ?_); rintro e1 w1 ⟨rfl, hu1⟩; have HU1 := Lib.hid (HU0.out.trans hu1); have hnew := new_none 0 w1 (by decide) (by unfold topT; decide); clear hu1 hfw)
    | (go_at_call 9; (with_reducible refine hnew.mono ?_); rintro e2 w2 ⟨b, ml, mk, rfl, hL2, hb2, hml2, hmk2, hu2⟩; have HL2 := Lib.hid hL2; have HU2 := Lib.hid (HU1.out.trans hu2); have HB2 := Lib.hid (show w.heap.size ≤ b ∧ w.heap.size ≤ ml ∧ w.heap.size ≤ mk from ⟨Nat.le_trans HU1.out.size hb2, Nat.le_trans HU1.out.size hml2, Nat.le_trans HU1.out.size hmk2⟩); clear hnew hu2 hL2 hb2 hml2 hmk2))
  have hK0 : KW (w2.alloc (.map #[] 0)) b ml mk w2.heap.size 0 (w2.alloc (.map #[] 0)) :=
    ⟨fun _ => none, 0, (St.start HL2.out).grow (upd_alloc _ _ _), isMap_made skey w2, Nat.le_refl _, Upd.refl _ _⟩
  have hlt : b < w2.heap.size ∧ ml < w2.heap.size ∧ mk < w2.heap.size := ⟨lt_of_heap HL2.out.blk, HL2.out.lm.lt, HL2.out.km.lt⟩
  have HLT := Lib.hid hlt
  have HU3 := Lib.hid (HU2.out.alloc (.map #[] 0))
  have HB3 := Lib.hid (show w.heap.size ≤ w2.heap.size from HU2.out.size)
  have HK0 := Lib.hid hK0
  clear hlt hK0 hmm
  generalize w2.alloc (.map #[] 0) = w3 at *
  generalize w2.heap.size = mo at *
  go_wp2
  go_loopw [41] (fun i wr => ∃ j : Nat, j ≤ n ∧ i = .int .i64 j ∧ KW w3 b ml mk mo j wr) (fun i _ => n - (intOf i).toNat)
  case atStart => exact ⟨0, Nat.zero_le _, rfl, HK0.out⟩
  case round =>
    clear HK0
    obtain ⟨j, hj, rfl, O, N, hst, hon, hNj, hu⟩ := hrel
    have HST := Lib.hid hst
    have HON := Lib.hid hon
    have HU := Lib.hid hu
    have hwr : Upd (fun k => w.heap.size ≤ k) w wr := HU3.out.weak _ |>.trans' hu (fun x _ e => by have := HB2.out; have := HB3.out; omega)
    have HWR := Lib.hid hwr
    clear hst hon hu hwr
    by_cases hlt : j < n
    · have hlt' : j < l.length := by rw [HN.out]; exact hlt
      have hacts : Acts wr (.slice a l.length c) l := by rw [HN.out]; exact HA.out.low HWR.out (fun k hk e => by omega)
      obtain ⟨bl, ol, rfl, q0, q1, q2, q3⟩ := hacts.at hlt'
      have hby := HA.out.by_ _ (List.getElem_mem hlt')
      unfold AP.kv at hby
      have HBY := Lib.hid hby
      have HKL := Lib.hid (HF.out _ (List.getElem_mem hlt'))
      clear hacts hby
      generalize l[j].kind = kind at *
      generalize l[j].id = id at *
      generalize l[j].n = nn at *
      generalize l[j].ka = ka at *
      generalize l[j].kc = kc at *
      generalize l[j].key = key at *
      clear hlt'
      have HU4 := Lib.hid (HU.out.alloc (.cells #[.int .i64 kind, .int .i64 id, .int .i64 nn, .slice ka key.length kc] 52))
      have HST4 := Lib.hid (HST.out.grow (upd_alloc _ wr (.cells #[.int .i64 kind, .int .i64 id, .int .i64 nn, .slice ka key.length kc] 52)))
      have HON4 := Lib.hid (show OnMap (wr.alloc (.cells #[.int .i64 kind, .int .i64 id, .int .i64 nn, .slice ka key.length kc] 52)) mo O N from IsMap.upd HON.out (upd_alloc (fun _ => False) _ _) (fun x => x))
      have HWR4 := Lib.hid (HWR.out.alloc (.cells #[.int .i64 kind, .int .i64 id, .int .i64 nn, .slice ka key.length kc] 52))
      have hW4 := heap_alloc wr (.cells #[.int .i64 kind, .int .i64 id, .int .i64 nn, .slice ka key.length kc] 52)
      have hmo : mo < wr.heap.size := HON.out.lt
      go_upto_region 10 with (fail)
      have e0 := cell_of hW4.1 0
      have e1 := cell_of hW4.1 1
      have e2 := cell_of hW4.1 2
      have e3 := cell_of hW4.1 3
      clear hW4
      have hg : b < wr.heap.size ∧ ml < wr.heap.size ∧ mk < wr.heap.size ∧ mo < wr.heap.size := by have := HLT.out; omega
      have HG := Lib.hid hg
      have HW3 := Lib.hid (show w3.heap.size ≤ wr.heap.size from HU.out.size)
      have HG4 := Lib.hid (show wr.heap.size < (wr.alloc (.cells #[.int .i64 kind, .int .i64 id, .int .i64 nn, .slice ka key.length kc] 52)).heap.size by simp)
      clear HON HST hmo hg HWR HU
      generalize wr.alloc (.cells #[.int .i64 kind, .int .i64 id, .int .i64 nn, .slice ka key.length kc] 52) = W4 at *
      generalize wr.heap.size = g7 at *
      clear q0 q1 q2 q3
      by_cases hk1 : kind = 1
      · subst hk1
        have hgr := fun ttl => grant_any b ml mk O j id ttl _ HST4.out
        go_wp2_with (go_at_call 10; (with_reducible refine (hgr _).mono ?_); rintro e5 w5 ⟨⟨gv, rfl⟩, hst5, hu5⟩; have HST5 := Lib.hid hst5; have HU5 := Lib.hid hu5; clear hst5 hu5 hgr)
        go_roundw
        case rel => exact ⟨j + 1, by omega, by go_num, O, N, HST5.out.more (by omega), IsMap.upd HON4.out HU5.out (by have := HLT.out; omega), by omega, HU4.out.trans (HU5.out.mono (fun _ _ e => by omega))⟩
        case measure => simp [intOf]; omega
      · by_cases hk2 : kind = 2
        · subst hk2
          have hrv := rev_any b ml mk O j id W4 HST4.out (by omega)
          go_upto_region 16 with (go_at_call 17; (with_reducible refine hrv.mono ?_); intro e5 w5 h5; obtain ⟨ra, rn, rc, er, rfl, hst5, hrn, hcnt, hu5⟩ := h5; have HST5 := Lib.hid hst5; have HCNT := Lib.hid hcnt; have HU5 := Lib.hid hu5; clear hst5 hcnt hu5 hrv)
          have hon5 : OnMap w5 mo O N := IsMap.upd HON4.out HU5.out (by have := HLT.out; omega)
          obtain ⟨o, todo0, hrun, hit, hlen, hmem⟩ := IsMap.range (P := Try.prog) hon5 keyT_skey Try.underlying49
          have E1 : (w5.alloc o).cell? ⟨g7, 1, none⟩ = some (.int .i64 id) := (HU5.out.alloc o).cell e1 (by have := HG.out; simp; omega)
          have hT : cntO O id er todo0 = rn := HCNT.out todo0 hit.nodup (fun s => by rw [hmem s, some_map])
          have hdel : DelRel O id er rn mo w5.heap.size N (w5.alloc o) 0 (w5.alloc o) := ⟨todo0, O, hit, ⟨N, IsMap.upd hon5 (upd_alloc (fun _ => False) _ _) (fun x => x), Nat.le_refl _⟩, fun s => by
            by_cases q : s ∈ todo0
            · rw [if_pos q]
            · rw [if_neg q]
              have e0 : O s = none := by
                cases e : O s with
                | none => rfl
                | some x => exact absurd ((hmem s).2 (by rw [e]; rfl)) q
              unfold dropO
              rw [if_neg (by rw [e0]; intro q; cases q.1)], by omega, Upd.refl _ _⟩
          have HD0 := Lib.hid hdel
          have hg8 : g7 < w5.heap.size := Nat.lt_of_lt_of_le HG4.out HU5.out.size
          have HG8 := Lib.hid hg8
          have HST6 := Lib.hid (HST5.out.grow (upd_alloc _ w5 o))
          have HU6 := Lib.hid (HU5.out.alloc o)
          clear hon5 hit hlen hmem hT hdel hg8
          go_wp2
          have HE1 := Lib.hid E1
          clear E1 e0 e1 e2 e3 hrun HCNT HST5 HST4 HON4
          generalize w5.alloc o = w6 at *
          generalize w5.heap.size = g8 at *
          go_loopw [10] (fun nv wr => ∃ m : Nat, nv = .int .i64 m ∧ m ≤ rn ∧ DelRel O id er rn mo g8 N w6 m wr) (fun _ wr => wr.rangeLeft mo g8)
          case atStart => exact ⟨0, rfl, Nat.zero_le _, HD0.out⟩
          case round =>
            obtain ⟨m, rfl, hm, hrel⟩ := hrel
            have hu : Upd (fun k => k = mo ∨ k = g8) w6 wr := by obtain ⟨_, _, _, _, _, _, hu⟩ := hrel; exact hu
            have E1 : wr.cell? ⟨g7, 1, none⟩ = some (.int .i64 id) := hu.cell HE1.out (by have := HG.out; have := HG8.out; simp; omega)
            rcases hrel.next with ⟨hnx, hmT, N', hon', hN'⟩ | ⟨key2, v, w7, hnx, hent, hu7, hyes, hno⟩
            · have HU7 := Lib.hid hu
              have HON7 := Lib.hid hon'
              clear hrel hu hon'
              subst hmT
              go_wp2
              go_roundw
              case rel => exact ⟨j + 1, by omega, by go_num, dropO O id er, N', (HST6.out.upd HU7.out (by have := HG.out; have := HLT.out; have := HG8.out; omega) (by have := HG.out; have := HLT.out; have := HG8.out; omega) (by have := HG.out; have := HLT.out; have := HG8.out; omega)).more (by omega), HON7.out, by omega, (HU4.out.trans (HU6.out.mono (fun _ _ e => by omega))).trans' HU7.out (fun x hx e => by have := HW3.out; have := HG8.out; omega)⟩
              case measure => simp [intOf]; omega
            · have E1 := hu7.cell E1 (by have := HG8.out; simp; omega)
              by_cases hd : v = id ∧ er = 0
              · obtain ⟨hmT, o7, hdl, hrel', hleft⟩ := hyes hd
                obtain ⟨rfl, rfl⟩ := hd
                have HREL := Lib.hid hrel'
                have HLEFT := Lib.hid hleft
                clear hrel' hleft hyes hno hrel hu hu7
                go_wp2_with (at_builtin; refine wpList_delete hdl rfl rfl rfl rfl ?_)
                go_roundw
                case rel => exact ⟨m + 1, by go_num, by omega, HREL.out⟩
                case measure => exact HLEFT.out
              · obtain ⟨hrel', hleft⟩ := hno hd
                have HREL := Lib.hid hrel'
                have HLEFT := Lib.hid hleft
                clear hrel' hleft hyes hno hrel hu hu7
                by_cases hv : v = id
                · have her : ¬ er = 0 := fun e => hd ⟨hv, e⟩
                  subst hv
                  clear hd
                  go_wp2
                  go_roundw
                  case rel => exact ⟨m, rfl, hm, HREL.out⟩
                  case measure => exact HLEFT.out
                · clear hd
                  go_wp2
                  go_roundw
                  case rel => exact ⟨m, rfl, hm, HREL.out⟩
                  case measure => exact HLEFT.out
        · by_cases hk4 : kind = 4
          · subst hk4
            have hat := att_any b ml mk O j (.slice ka key.length kc) key id W4 HST4.out (HBY.out.low HWR4.out (fun k hk e => by omega)) (by have := HKL.out; omega)
            go_wp2_with (go_at_call 19; (with_reducible refine hat.mono ?_); intro e5 w5 h5; obtain ⟨hu5, h5⟩ := h5; have HON5 := Lib.hid (show OnMap w5 mo O N from IsMap.upd HON4.out hu5 (by have := HLT.out; omega)); have hcv := run_to_str (src := 50) (dst := 9) Try.underlying50 Try.underlying5 Try.underlying9 (HBY.out.low (HWR4.out.trans (hu5.mono (fun k _ e => by have := HB2.out; omega))) (fun k hk e => by omega)); obtain ⟨w6, hup, hm6, o6, hw6⟩ := HON5.out.update (P := Try.prog) keyT_skey Try.underlying49 Try.underlying9 key (.int .i64 id); have HM6 := Lib.hid hm6; have HW6 := Lib.hid hw6; have HU5 := Lib.hid hu5; have E1 := hu5.cell e1 (by have := HG.out; simp; omega); have E3 := hu5.cell e3 (by have := HG.out; simp; omega); unfold skey at hup; rcases h5 with ⟨rfl, hst5⟩ | ⟨rfl, hst5⟩ <;> have HST5 := Lib.hid hst5 <;> clear hst5 hm6 hw6 hu5)
            · go_roundw
              case rel =>
                have hu6 : Upd (fun k => k = mo) w5 w6 := by rw [HW6.out]; exact upd_setBlock _ _ _ _ rfl
                have e9 : (fun s => if s = key then some (Value.int .i64 id) else (O s).map (Value.int .i64)) = fun s => (putO O key id s).map (Value.int .i64) := by
                  funext s
                  show _ = Option.map _ (if s = key then some id else O s)
                  split <;> rfl
                have hm6 := HM6.out
                rw [e9] at hm6
                refine ⟨j + 1, by omega, by go_num, putO O key id, _, HST5.out.upd hu6 (by have := HLT.out; omega) (by have := HLT.out; omega) (by have := HLT.out; omega), hm6, ?_, HU4.out.trans ((HU5.out.mono (fun _ _ e => by omega)).trans (hu6.mono (fun _ _ e => by omega)))⟩
                have hc : ∀ c : Bool, (if c = true then N else N + 1) ≤ j + 1 := fun c => by cases c <;> simp <;> omega
                exact hc _
              case measure => simp [intOf]; omega
            · go_roundw
              case rel => exact ⟨j + 1, by omega, by go_num, O, N, HST5.out, HON5.out, by omega, HU4.out.trans (HU5.out.mono (fun _ _ e => by omega))⟩
              case measure => simp [intOf]; omega
          · go_wp2
            go_roundw
            case rel => exact ⟨j + 1, by omega, by go_num, O, N, HST4.out.more (by omega), HON4.out, by omega, HU4.out⟩
            case measure => simp [intOf]; omega
    · obtain rfl : j = n := by omega
      obtain ⟨L, hL, hK, hnk⟩ := HST.out
      have HL := Lib.hid hL
      have HK := Lib.hid hK
      have HNK := Lib.hid hnk
      have hls := leases_calls b ml mk L wr hL hK.ok
      have HW := Lib.hid (show Upd (fun _ => False) w wr from HWR.out.mono (fun k hk e => by omega))
      have h64 := hK.ok.few
      clear hL hK hnk HWR HU HST HF
      go_upto_region 30 with (go_at_call 16; (with_reducible refine hls.mono ?_); intro e5 w5 h5; obtain ⟨la, lc, ids, rfl, hl5, hpw5, hm5, hsl5, hu5⟩ := h5; have HL5 := Lib.hid hl5; have HPW5 := Lib.hid hpw5; have HM5 := Lib.hid hm5; have HSL5 := Lib.hid hsl5; have HU5 := Lib.hid hu5; clear hl5 hpw5 hm5 hsl5 hu5 hls)
      have HON5 := Lib.hid (show OnMap w5 mo O N from IsMap.upd HON.out HU5.out (fun x => x))
      have HLL5 := Lib.hid (HL.out.grow HU5.out)
      have HW5 := Lib.hid (HW.out.trans HU5.out)
      have hmo5 : mo < w5.heap.size := HON5.out.lt
      have HMO := Lib.hid hmo5
      clear HL HON HU5 HW hmo5
      generalize hnl : L.n = nl at *
      have HNL := Lib.hid hnl
      clear hnl
      rename World => W1
      go_loopw [13, 108] (fun nv iv wr => ∃ j2 : Nat, j2 ≤ nl ∧ iv = .int .i64 j2 ∧ ∃ m : Nat, nv = .int .i64 m ∧ ∃ acc : List (List UInt8), m = acc.length ∧ AccOk L ids j2 acc ∧ Upd (fun _ => False) W1 wr) (fun _ iv _ => nl - (intOf iv).toNat)
      case atStart => exact ⟨0, Nat.zero_le _, rfl, 0, rfl, [], rfl, AccOk.start _ _, Upd.refl _ _⟩
      case round =>
        obtain ⟨j2, hj2, rfl, m, rfl, acc, hm, hacc, hu⟩ := hrel
        have hLw := HLL5.out.grow hu
        have hnk : acc.length ≤ L.nk := keys_few hLw.km hacc.nd (fun s hs => by obtain ⟨i, _, e⟩ := (hacc.mem s).1 hs; rw [e]; rfl)
        have hm80 : m ≤ 80 := by have := HNK.out; omega
        have HACC := Lib.hid hacc
        have HM := Lib.hid hm
        have HU := Lib.hid hu
        have HLW := Lib.hid hLw
        have HONW := Lib.hid (show OnMap wr mo O N from IsMap.upd HON5.out hu (fun x => x))
        clear hacc hm hu hLw hnk
        by_cases hlt2 : j2 < nl
        · have hlm : (ids.map fun i => (i, L.ttlOf i)).length = nl := by rw [List.length_map, HL5.out]
          obtain ⟨bb, off, hbb, q0, q1⟩ := lease_at (w := wr) (a := la) (c := lc) (ls := ids.map fun i => (i, L.ttlOf i)) (by rw [hlm]; exact HSL5.out.grow HU.out) (k := j2) (by rw [hlm]; exact hlt2)
          subst hbb
          have hj3 : j2 < ids.length := by rw [HL5.out]; exact hlt2
          simp only [List.getElem_map] at q0 q1
          obtain ⟨x, hx⟩ := Option.isSome_iff_exists.1 ((HM5.out _).1 (List.getElem_mem hj3))
          have hid1 : 1 ≤ ids[j2] := (HK.out.ok.ids _ _ hx).1
          have hleft := left_calls b ml mk L ids[j2] x _ (HLW.out.grow (upd_alloc _ wr (.cells #[.int .i64 ids[j2], .int .i64 (L.ttlOf ids[j2])] 28))) HK.out.ok HK.out.k (by have := HNK.out; omega) hx
          have HSTEP := Lib.hid (fun ks hn hk => HACC.out.step (ks := ks) hj3 HPW5.out hn hk)
          have hal := heap_alloc wr (.cells #[.int .i64 ids[j2], .int .i64 (L.ttlOf ids[j2])] 28)
          have hua := HU.out.alloc (.cells #[.int .i64 ids[j2], .int .i64 (L.ttlOf ids[j2])] 28)
          have HUA := Lib.hid hua
          have E0 := Lib.hid (cell_of hal.1 0)
          have HONA := Lib.hid (show OnMap (wr.alloc (.cells #[.int .i64 ids[j2], .int .i64 (L.ttlOf ids[j2])] 28)) mo O N from IsMap.upd HON5.out hua (fun x => x))
          unfold LeftSays at hleft
          generalize max (0 : Int) (x.2 - L.now) = mx at *
          generalize x.1 = x1 at *
          clear hx hal hua
          generalize L.ttlOf ids[j2] = ty at *
          generalize ids[j2] = id at *
          clear hj3 hlm
          go_upto_region 34 with (go_at_call 15; (with_reducible refine hleft.mono ?_); rintro e6 w6 ⟨ka, kc, rows, rfl, hrows, hu6⟩; have HROWS := Lib.hid hrows; have HU6 := Lib.hid hu6; clear hrows hu6 hleft)
          have HON6 := Lib.hid (show OnMap w6 mo O N from IsMap.upd HONA.out HU6.out (fun x => x))
          have E06 := Lib.hid (HU6.out.cell E0.out (fun x => x))
          have HU7 := Lib.hid (HUA.out.trans HU6.out)
          have hrl : rows.length ≤ 80 := by have h1 := HROWS.out.len; have h2 := HNK.out; omega
          clear HU HLW HONW E0 HONA HUA
          generalize wr.heap.size = g15 at *
          rename World => W2
          go_loopw [13, 123] (fun nv iv wr => ∃ j3 : Nat, j3 ≤ rows.length ∧ iv = .int .i64 j3 ∧ ∃ m2 : Nat, nv = .int .i64 m2 ∧ m2 = m + j3 ∧ Upd (fun _ => False) W2 wr) (fun _ iv _ => rows.length - (intOf iv).toNat)
          case atStart => exact ⟨0, Nat.zero_le _, rfl, m, rfl, rfl, Upd.refl _ _⟩
          case round =>
            obtain ⟨j3, hj3, rfl, m2, rfl, hm2, hu⟩ := hrel
            have HU := Lib.hid hu
            by_cases hlt3 : j3 < rows.length
            · have hslw := HROWS.out.sl.grow hu
              obtain ⟨bk, ofk, cap, hee, hcap, hbk, -⟩ := hslw.block (by omega)
              cases hee
              have q0 := hslw.at renc_length j3 hlt3 0 (by decide) _ rfl
              rw [Nat.mul_one, Nat.add_zero] at q0
              have hby := (Bytes.of (HROWS.out.ok rows[j3] (List.getElem_mem _)).1).grow hu
              unfold KRow.val at hby
              have hcv := run_to_str (src := 50) (dst := 9) Try.underlying50 Try.underlying5 Try.underlying9 hby
              have hkey := (HROWS.out.mem rows[j3].2).1 (List.mem_map.2 ⟨_, List.getElem_mem hlt3, rfl⟩)
              have hOk := (HK.out.iff _ id (by omega)).1 hkey
              have hlk := IsMap.lookup (P := Try.prog) (show OnMap wr mo O N from IsMap.upd HON6.out hu (fun x => x)) keyT_skey Try.underlying49 Try.underlying9 (zero_key wr) rows[j3].2 false
              simp only [hOk, Option.map_some, Option.getD_some, Bool.false_eq_true, if_false] at hlk
              unfold skey at hlk
              have E07 := hu.cell E06.out (fun x => x)
              clear hu hslw hby hkey hOk
              generalize rows[j3].2 = key at *
              generalize rows[j3].1.1 = ka2 at *
              generalize rows[j3].1.2 = kc2 at *
              go_wp2
              go_roundw
              case rel => exact ⟨j3 + 1, by omega, by go_num, m2 + 1, by go_num, by omega, HU.out⟩
              case measure => simp [intOf]; omega
            · obtain rfl : j3 = rows.length := by omega
              clear hu
              go_wp2
              go_roundw
              case rel => exact ⟨j2 + 1, by omega, by go_num, m2, rfl, acc ++ rows.map (·.2), by rw [List.length_append, List.length_map, ← HM.out]; exact hm2, HSTEP.out _ (rises_nodup HROWS.out.pw) HROWS.out.mem, HU7.out.trans HU.out⟩
              case measure => simp [intOf]; omega
        · obtain rfl : j2 = nl := by omega
          obtain ⟨o, todo, hrun, hit, hlen, hmem⟩ := IsMap.range (P := Try.prog) HONW.out keyT_skey Try.underlying49
          have hcnt := HACC.out.all (by rw [HL5.out]; exact Nat.le_refl _) HK.out HM5.out hit.nodup (fun s => by rw [hmem s, some_map])
          have hst : CntRel O mo wr.heap.size (wr.alloc o) m (wr.alloc o) := ⟨todo, hit, by rw [HM.out]; exact hcnt, Upd.refl _ _⟩
          have HST := Lib.hid hst
          have HU8 := Lib.hid (HW5.out.trans (HU.out.alloc o))
          have HSZ := Lib.hid (Nat.le_trans HW5.out.size HU.out.size)
          clear hst hit hlen hmem hcnt
          go_wp2
          clear hrun HU HLW HONW
          generalize wr.alloc o = w9 at *
          generalize wr.heap.size = g9 at *
          rename World => W9
          go_loopw [13] (fun nv wr => ∃ m2 : Nat, nv = .int .i64 m2 ∧ m2 ≤ 80 ∧ CntRel O mo g9 W9 m2 wr) (fun _ wr => wr.rangeLeft mo g9)
          case atStart => exact ⟨m, rfl, hm80, HST.out⟩
          case round =>
            obtain ⟨m2, rfl, hm2, hrel⟩ := hrel
            have HUR := Lib.hid (show Upd (fun k => k = g9) W9 wr by obtain ⟨_, _, _, hu⟩ := hrel; exact hu)
            rcases hrel.next with ⟨hnx, rfl⟩ | ⟨key2, v, w7, hnx, hent, hleft, hyes, hno⟩
            · clear hrel
              go_wp2
              go_ret
              exact ⟨rfl, HU8.out.trans' HUR.out (fun x hx e => by have := HSZ.out; omega)⟩
            · have HLEFT := Lib.hid hleft
              by_cases hv : v = 0
              · have HREL := Lib.hid (hno hv)
                subst hv
                clear hleft hyes hno hrel
                go_wp2
                go_roundw
                case rel => exact ⟨m2, rfl, hm2, HREL.out⟩
                case measure => exact HLEFT.out
              · obtain ⟨hpos, hr2⟩ := hyes hv
                have HREL := Lib.hid hr2
                clear hleft hyes hno hrel hr2
                go_wp2
                go_roundw
                case rel => exact ⟨m2 - 1, by go_num, by omega, HREL.out⟩
                case measure => exact HLEFT.out

set_option maxRecDepth 100000 in
theorem keys_walk (a : Option Addr) (c : Nat) (l : List AP) (w : World) (h : Acts w (.slice a l.length c) l) (hb : l.length ≤ 9223372036854775807) :
    Calls Try.prog 6 #[.slice a l.length c] w fun e w' => e = .returned (.bool true) ∧ Upd (fun _ => False) w w' := by
  by_cases hf : FewOk l
  · exact keys_ok a c l w h hb hf
  · have hfew := fun W (hu : Upd (fun _ => False) w W) => few_calls a c l W (h.grow hu) hb
    rw [decide_eq_false hf] at hfew
    have HFEW := Lib.hid hfew
    clear h hb hf hfew
    generalize l.length = n at *
    go_enter Try.func6, Try.ntmps6
    go_upto_region 2 with (first
      | (go_at_call 8; (with_reducible refine (lives_calls w).mono ?_); rintro e0 w0 ⟨rfl, hu0⟩; have hfw := HFEW.out w0 hu0; have HU0 := Lib.hid hu0; clear hu0)
      | (go_at_call 18; (with_reducible refine hfw.mono ?_); rintro e1 w1 ⟨rfl, hu1⟩; have HU1 := Lib.hid (HU0.out.trans hu1); clear hu1 hfw))
    go_wp2_with (go_at_call 8; (with_reducible refine (lives_calls w1).mono ?_); rintro e2 w2 ⟨rfl, hu2⟩)
    go_ret
    exact ⟨rfl, HU1.out.trans hu2⟩

end Go.Proofs.Ytcbngjlgcgcljaa
