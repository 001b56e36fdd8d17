/-
  A lessor with keys: Left, Revoke.
-/
import Derived.Test.YtcbngjlgcgcljaaGreatLeaseL
import Derived.IntWalk
namespace Go.Proofs.YtcbngjlgcgcljaaGreat
open Go.RowKit Go.Tb Go.MapKept Go.ChangeMaps Go.Lib
set_option linter.unusedVariables false

/-- What Left says of a lease that is there. -/
def LeftSays (L : LS) (id : Int) (x : Int × Int) (w : World) (e : Ending) (w' : World) : Prop :=
  ∃ a c, ∃ rows : List KRow, e = .returned (.tuple #[.int .i64 (max 0 (x.2 - L.now)), .int .i64 x.1, .slice a rows.length c, .int .i64 0]) ∧ OfRows L id w (.slice a rows.length c) rows w' ∧ Upd (fun _ => False) w w'

set_option maxRecDepth 100000 in
set_option maxHeartbeats 1000000 in
theorem left_calls (b ml mk : Nat) (L : LS) (id : Int) (x : Int × Int) (w : World) (h : IsLs w b ml mk L) (hok : LOk L) (hk : KOk L) (hnk : L.nk ≤ 1000) (hn : L.l id = some x) :
    Calls Tryz.prog 31 #[.pointer (some ⟨b, 0, none⟩), .int .i64 id] w (LeftSays L id x w) := by
  have hf := find_yes b ml mk L id x w h hn
  have hof := fun W (hu : Upd (fun _ => False) w W) => of_calls b ml mk L id W (h.grow hu) hk hnk
  have c0 := cell_of h.blk 0
  have hids := hok.ids id x hn
  have hnow0 := hok.now0
  have hnow1 := hok.now1
  unfold topT at hids hnow1
  have HX : Hid (∀ e w', LeftSays L id x w e w' ↔ ∃ a c, ∃ rows : List KRow, e = .returned (.tuple #[.int .i64 (max 0 (x.2 - L.now)), .int .i64 x.1, .slice a rows.length c, .int .i64 0]) ∧ OfRows L id w (.slice a rows.length c) rows w' ∧ Upd (fun _ => False) w w') := Lib.hid (fun e w' => Iff.rfl)
  generalize LeftSays L id x w = POST at *
  obtain ⟨ttl, due⟩ := x
  obtain ⟨-, -, -, -, hd0, hd1⟩ := hids
  simp only at hd0 hd1 hf
  generalize hnow : L.now = now at *
  clear h hok hk hn hnk hnow
  have HOF := Lib.hid hof
  clear hof
  go_enter Tryz.func31, Tryz.ntmps31
  go_upto_region 4 with (go_at_call 39; (with_reducible refine hf.mono ?_); rintro e1 w1 ⟨rfl, hu1⟩)
  have hW := heap_alloc w1 (.cells #[.int .i64 ttl, .int .i64 due] 67)
  have hu2 := hu1.alloc (.cells #[.int .i64 ttl, .int .i64 due] 67)
  have r0 := cell_of hW.1 0
  have r1 := cell_of hW.1 1
  have b0 := hu2.cell c0 (fun x => x)
  clear hW hu1 c0
  generalize w1.alloc (.cells #[.int .i64 ttl, .int .i64 due] 67) = W at *
  generalize w1.heap.size = r at *
  have hof2 := HOF.out W.drew hu2.drew
  have HU2 := Lib.hid hu2
  have hw : IntKind.i64.wrap (due - now) = due - now := IntWalk.i64_in _ (by omega)
  have Hw := Lib.hid hw
  clear hu2 HOF
  go_region_held3 (fun w' => w'.cell? ⟨r, 0, none⟩ = some (.int .i64 ttl) ∧ w'.cell? ⟨r, 1, none⟩ = some (.int .i64 due) ∧ w'.cell? ⟨b, 0, none⟩ = some (.int .i64 now))
    (first | exact ⟨r0, r1, b0⟩ | exact ⟨hu9.cell r0 (fun x => x), hu9.cell r1 (fun x => x), hu9.cell b0 (fun x => x)⟩)
    ((go_at_call 40; (with_reducible refine hof2.mono ?_); rintro e9 w9 ⟨oa, oc, rows, rfl, hrows, hu9⟩; have HROWS := Lib.hid hrows; clear hrows))
  all_goals clear hw
  all_goals go_wp2
  all_goals refine bodyPost_ret (v := .tuple #[.int .i64 (max 0 (due - now)), .int .i64 ttl, .slice oa rows.length oc, .int .i64 0]) (by simp [results, Tryz.results31, go_sem]) rfl ((HX.out _ _).2 ⟨oa, oc, rows, rfl, HROWS.out.base HU2.out.drew.size, HU2.out.trans hu9.undrew⟩)

/-- A lease is gone, and its keys. -/
def LS.gone (L : LS) (id : Int) (m : Nat) : LS := { L with l := fun k => if k = id then none else L.l k, n := L.n - 1, keys := fun s => if L.keys s = some id then none else L.keys s, nk := m }
def LS.less (L : LS) (ks : List (List UInt8)) (m : Nat) : LS := { L with keys := fun s => if s ∈ ks then none else L.keys s, nk := m }

/-- What Revoke says of a lease that is there. -/
def RevSays (b ml mk : Nat) (L : LS) (id : Int) (w : World) (e : Ending) (w' : World) : Prop :=
  ∃ a c m, ∃ rows : List KRow, e = .returned (.tuple #[.slice a rows.length c, .int .i64 0]) ∧ OfRows L id w (.slice a rows.length c) rows w' ∧ m ≤ L.nk ∧ IsLs w' b ml mk (L.gone id m) ∧ Upd (fun k => k = ml ∨ k = mk) w w'

def RevRel (b ml mk : Nat) (L : LS) (rows : List KRow) (w2 : World) (j : Nat) (wr : World) : Prop :=
  ∃ m, m ≤ L.nk ∧ IsLs wr b ml mk (L.less ((rows.take j).map (·.2)) m) ∧ Upd (fun k => k = mk) w2 wr

theorem RevRel.more {b ml mk : Nat} {L : LS} {rows : List KRow} {w2 wr : World} {j : Nat} (h : RevRel b ml mk L rows w2 j wr) (hj : j < rows.length) {w0 : World} (hmk : mk < w0.heap.size) (hrows : RowsOk w0.heap.size w2 rows) :
    wr.drew.cell? ⟨b, 3, none⟩ = some (.map (some mk)) ∧
    (convert 32 9 (.slice rows[j].1.1 rows[j].2.length rows[j].1.2)).run Tryz.prog wr.drew = .ok (.string (strB rows[j].2)) wr.drew ∧
    ∃ o, (∀ ty, (Builtin.delete_ #[49, 9] ty #[.map (some mk), .string (strB rows[j].2)]).run Tryz.prog wr.drew = .ok (.tuple #[]) (setBlock wr.drew mk o)) ∧
      (setBlock wr.drew mk o).cell? ⟨b, 3, none⟩ = some (.map (some mk)) ∧
      (convert 32 9 (.slice rows[j].1.1 rows[j].2.length rows[j].1.2)).run Tryz.prog (setBlock wr.drew mk o) = .ok (.string (strB rows[j].2)) (setBlock wr.drew mk o) ∧
      RevRel b ml mk L rows w2 (j + 1) (setBlock wr.drew mk o) := by
  obtain ⟨m, hm, hls, hu⟩ := h
  have hd : Upd (fun _ => False) wr wr.drew := (Upd.refl _ _).drew
  have hL := hls.grow hd
  have hbk : b ≠ mk := Ne.symm hL.n2
  have hby : Bytes wr.drew (.slice rows[j].1.1 rows[j].2.length rows[j].1.2) rows[j].2 := by
    have h1 := (hrows rows[j] (List.getElem_mem _))
    have h2 : Bytes w2 (.slice rows[j].1.1 rows[j].2.length rows[j].1.2) rows[j].2 := .of h1.1
    exact (h2.upd hu (fun b hb e => by have := h1.2 b hb; omega)).grow hd
  have c3 : wr.drew.cell? ⟨b, 3, none⟩ = some (.map (some mk)) := cell_of hL.blk 3
  obtain ⟨o, hdel, hmm⟩ := hL.km.delete (P := Tryz.prog) keyT_skey Tryz.underlying49 Tryz.underlying9 rows[j].2
  have hu2 : Upd (fun k => k = mk) wr (setBlock wr.drew mk o) := (hd.weak _).trans (upd_setBlock _ _ _ _ rfl)
  refine ⟨c3, run_to_str Tryz.underlying32 Tryz.underlying5 Tryz.underlying9 hby, o, hdel, (cell_setBlock _ hbk).trans c3, run_to_str Tryz.underlying32 Tryz.underlying5 Tryz.underlying9 (hby.setMap hL.km o), ?_⟩
  have e1 : (fun s => if s = rows[j].2 then none else ((L.less ((rows.take j).map (·.2)) m).keys s).map (Value.int .i64)) = fun s => (if s ∈ (rows.take (j + 1)).map (·.2) then none else L.keys s).map (Value.int .i64) := by
    funext s
    rw [List.take_succ_eq_append_getElem hj, List.map_append]
    show (if s = rows[j].2 then none else (if s ∈ (rows.take j).map (·.2) then none else L.keys s).map (Value.int .i64)) = _
    by_cases q1 : s = rows[j].2
    · rw [if_pos q1, if_pos (by rw [q1]; simp)]; rfl
    · rw [if_neg q1]
      by_cases q2 : s ∈ (rows.take j).map (·.2)
      · rw [if_pos q2, if_pos (List.mem_append_left _ q2)]
      · rw [if_neg q2, if_neg (show ¬ s ∈ (rows.take j).map (·.2) ++ [rows[j]].map (·.2) from fun q => (List.mem_append.1 q).elim q2 (fun q => q1 (List.mem_singleton.1 q)))]
  rw [e1] at hmm
  have hex : ∃ m2, m2 ≤ L.nk ∧ IsMap skey (setBlock wr.drew mk o) mk (fun s => (if s ∈ (rows.take (j + 1)).map (·.2) then none else L.keys s).map (Value.int .i64)) m2 := by
    refine ⟨_, ?_, hmm⟩
    have hc : ∀ c : Bool, (if c = true then m - 1 else m) ≤ L.nk := fun c => by cases c <;> simp <;> omega
    exact hc _
  obtain ⟨m2, hm2, hmm2⟩ := hex
  exact ⟨m2, hm2, { blk := hu2.heap hls.blk hbk, lm := hls.lm.upd hu2 hls.n3, km := hmm2, n1 := hls.n1, n2 := hls.n2, n3 := hls.n3 }, hu.trans hu2⟩

set_option maxRecDepth 100000 in
set_option maxHeartbeats 1000000 in
theorem revoke_calls (b ml mk : Nat) (L : LS) (id : Int) (x : Int × Int) (w : World) (h : IsLs w b ml mk L) (hk : KOk L) (hnk : L.nk ≤ 1000) (hn : L.l id = some x) :
    Calls Tryz.prog 17 #[.pointer (some ⟨b, 0, none⟩), .int .i64 id] w (RevSays b ml mk L id w) := by
  have hf := find_yes b ml mk L id x w h hn
  have hof := fun W (hu : Upd (fun _ => False) w W) => of_calls b ml mk L id W (h.grow hu) hk hnk
  have hml := h.lm.lt
  have hmk := h.km.lt
  have HOF := Lib.hid hof
  have H := Lib.hid h
  have HN := Lib.hid hn
  have HML := Lib.hid hml
  have HNK := Lib.hid hnk
  have HMK := Lib.hid hmk
  clear h hn hof hk hnk hml hmk
  obtain ⟨ttl, due⟩ := x
  go_enter Tryz.func17, Tryz.ntmps17
  go_upto_region 6 with (first
    | (go_at_call 39; (with_reducible refine hf.mono ?_); rintro e1 w1 ⟨rfl, hu1⟩; have hof1 := HOF.out _ (hu1.alloc (.cells #[.int .i64 ttl, .int .i64 due] 67)); have HU1 := Lib.hid hu1; clear hu1)
    | (go_at_call 40; (with_reducible refine hof1.mono ?_); rintro e2 w2 ⟨oa, oc, rows, rfl, hrows, hu2⟩; have HU2 := Lib.hid ((HU1.out.alloc _).trans hu2); have HROWS := Lib.hid (hrows.base (HU1.out.alloc _).size); clear hu2 hof1 hrows))
  go_loopw [25] (fun i wr => ∃ j : Nat, j ≤ rows.length ∧ i = .int .i64 j ∧ RevRel b ml mk L rows w2 j wr) (fun i _ => rows.length - (intOf i).toNat)
  case atStart =>
    refine ⟨0, Nat.zero_le _, rfl, L.nk, Nat.le_refl _, ?_, Upd.refl _ _⟩
    have e : L.less ((rows.take 0).map (·.2)) L.nk = L := by unfold LS.less; simp
    rw [e]
    exact H.out.grow HU2.out
  case round =>
    obtain ⟨j, hj, rfl, hr⟩ := hrel
    have HR := Lib.hid hr
    have hu : Upd (fun k => k = mk) w2 wr := by obtain ⟨_, _, _, hu⟩ := hr; exact hu
    have hslw := HROWS.out.sl.upd hu (fun b hb e => by have := HROWS.out.ge b hb; have := HMK.out; omega)
    by_cases hlt : j < rows.length
    · obtain ⟨bk, off, cap, hee, hcap, hbk, -⟩ := hslw.block (by omega)
      cases hee
      have q0 := hslw.at renc_length j hlt 0 (by decide) _ rfl
      rw [Nat.mul_one, Nat.add_zero] at q0
      obtain ⟨c3, hcv, o, hdel, c3', hcv', hrel'⟩ := hr.more hlt HMK.out HROWS.out.ok
      have HREL := Lib.hid hrel'
      clear hrel' hr hu hslw
      have hsm : rows.length ≤ 1000 := Nat.le_trans HROWS.out.len HNK.out
      generalize rows[j].2 = key at *
      generalize rows[j].1.1 = ka at *
      generalize rows[j].1.2 = kc at *
      go_upto_region 8 with (fail)
      go_region_held3 (fun w' => w'.cell? ⟨b, 3, none⟩ = some (.map (some mk)) ∧ (convert 32 9 (.slice ka key.length kc)).run Tryz.prog w' = .ok (.string (strB key)) w') (first | exact ⟨c3, hcv⟩ | exact ⟨c3', hcv'⟩)
        (first | (refine step_delete hdel (by rfl) (by rfl) (by rfl) (by rfl) ?_))
      go_wp2
      go_roundw
      case rel => exact ⟨j + 1, by omega, by go_num, HREL.out⟩
      case measure => simp [intOf]; omega
    · obtain rfl : j = rows.length := by omega
      clear hslw
      obtain ⟨m, hm, hls, -⟩ := hr
      have HM := Lib.hid hm
      have c2 : wr.cell? ⟨b, 2, none⟩ = some (.map (some ml)) := cell_of hls.blk 2
      obtain ⟨o, hdel, hmm⟩ := hls.lm.delete (P := Tryz.prog) (keyT_int .i64) Tryz.underlying48 Tryz.underlying2 id
      have HMM := Lib.hid hmm
      have HLS := Lib.hid hls
      have HU := Lib.hid hu
      clear hmm hls hm hu
      go_wp2_with (at_builtin; refine wpList_delete hdel rfl rfl rfl rfl ?_)
      go_ret2
      have hu3 : Upd (fun k => k = ml) wr (setBlock wr ml o) := upd_setBlock _ _ _ _ rfl
      have htk : rows.take rows.length = rows := List.take_length
      have huw : Upd (fun k => k = ml ∨ k = mk) w2 (setBlock wr ml o) := HU.out.seq hu3 _ (fun _ _ e => .inr e) (fun _ _ e => .inl e)
      refine ⟨oa, oc, m, rows, rfl, HROWS.out.upd huw (fun k hk e => by have := HML.out; have := HMK.out; omega), HM.out, { blk := hu3.heap HLS.out.blk (Ne.symm HLS.out.n1), lm := ?_, km := ?_, n1 := HLS.out.n1, n2 := HLS.out.n2, n3 := HLS.out.n3 }, (HU2.out.weak _).trans huw⟩
      · have hm := HMM.out
        have e1 : (fun k => if k = id then none else ((L.less ((rows.take rows.length).map (·.2)) m).l k).map heldV) = fun k => ((L.gone id m).l k).map heldV := by
          funext k
          show (if k = id then none else (L.l k).map heldV) = Option.map heldV (if k = id then none else L.l k)
          split <;> rfl
        have e2 : (if (((L.less ((rows.take rows.length).map (·.2)) m).l id).map heldV).isSome = true then (L.less ((rows.take rows.length).map (·.2)) m).n - 1 else (L.less ((rows.take rows.length).map (·.2)) m).n) = L.n - 1 := by
          show (if ((L.l id).map heldV).isSome = true then L.n - 1 else L.n) = _
          rw [HN.out]; rfl
        rw [e1, e2] at hm
        exact hm
      · have hk := HLS.out.km.upd hu3 (Ne.symm HLS.out.n3)
        rw [htk] at hk
        have e1 : (fun s => ((L.less (rows.map (·.2)) m).keys s).map (Value.int .i64)) = fun s => ((L.gone id m).keys s).map (Value.int .i64) := by
          funext s
          show Option.map _ (if s ∈ rows.map (·.2) then none else L.keys s) = Option.map _ (if L.keys s = some id then none else L.keys s)
          by_cases q : s ∈ rows.map (·.2)
          · rw [if_pos q, if_pos ((HROWS.out.mem s).1 q)]
          · rw [if_neg q, if_neg (fun e => q ((HROWS.out.mem s).2 e))]
        rw [e1] at hk
        exact hk

end Go.Proofs.YtcbngjlgcgcljaaGreat
