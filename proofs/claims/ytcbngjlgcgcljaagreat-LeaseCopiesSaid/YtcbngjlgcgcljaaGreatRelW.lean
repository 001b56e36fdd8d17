/-
  What both lessors tell is the same.
-/
import Derived.Test.YtcbngjlgcgcljaaGreatRelU
import Derived.Test.YtcbngjlgcgcljaaGreatLeaseE
import Derived.Test.YtcbngjlgcgcljaaGreatLeaseI
import Derived.Deep.RegionHeld3
import Derived.Deep.QuietTactic
import Derived.BigQuiet
namespace Go.Proofs.YtcbngjlgcgcljaaGreat
open Go.RowKit Go.Tb Go.MapKept Go.ChangeMaps Go.Lib
set_option linter.unusedVariables false

theorem pw_eq {α : Type} {lt : α → α → Prop} (has : ∀ a b, lt a b → lt b a → False) : ∀ {l m : List α}, l.Pairwise lt → m.Pairwise lt → (∀ x, x ∈ l ↔ x ∈ m) → l = m
  | [], [], _, _, _ => rfl
  | [], a :: r, _, _, h => absurd ((h a).2 (.head _)) List.not_mem_nil
  | a :: r, [], _, _, h => absurd ((h a).1 (.head _)) List.not_mem_nil
  | a :: r, c :: s, h1, h2, h => by
    obtain ⟨p1, p2⟩ := List.pairwise_cons.1 h1
    obtain ⟨q1, q2⟩ := List.pairwise_cons.1 h2
    have e : a = c := by
      rcases List.mem_cons.1 ((h a).1 (.head _)) with e | e
      · exact e
      · rcases List.mem_cons.1 ((h c).2 (.head _)) with e2 | e2
        · exact e2.symm
        · exact (has _ _ (q1 a e) (p1 c e2)).elim
    subst e
    have hr : ∀ x, x ∈ r ↔ x ∈ s := fun x => by
      constructor
      · intro hx
        rcases List.mem_cons.1 ((h x).1 (.tail _ hx)) with e | e
        · subst e; exact (has _ _ (p1 x hx) (p1 x hx)).elim
        · exact e
      · intro hx
        rcases List.mem_cons.1 ((h x).2 (.tail _ hx)) with e | e
        · subst e; exact (has _ _ (q1 x hx) (q1 x hx)).elim
        · exact e
    rw [pw_eq has p2 q2 hr]

theorem Rel.due {L : LS} {R : RS} (h : Rel L R) {r : RL} (hr : r ∈ R.l) : L.due r.id = r.due := by
  unfold LS.due
  rw [(h.mem r.id (r.ttl, r.due)).2 ⟨r, hr, rfl, rfl⟩]; rfl

/-- What is due is the same. -/
theorem Rel.dues {L : LS} {R : RS} (h : Rel L R) {l : List Int} (hm : ∀ i, i ∈ l ↔ L.isDue i) (hn : l.Nodup) (hp : l.Pairwise (fun x y => ¬ L.cmp y x < 0)) {acc : List RL} (hd : DueL R.now R.l acc) : acc.map (·.id) = l := by
  refine pw_eq (lt := fun x y => L.due x < L.due y ∨ (L.due x = L.due y ∧ x < y)) (fun a b h1 h2 => by omega) ?_ ?_ (fun i => ?_)
  · rw [List.pairwise_map]
    refine hd.pw.imp_of_mem (fun {r s} hr hs hrs => ?_)
    rw [h.due ((hd.mem r).1 hr).1, h.due ((hd.mem s).1 hs).1]
    exact hrs
  · have h2 := (List.pairwise_and_iff.2 ⟨hp, hn⟩)
    refine h2.imp (fun {x y} hxy => ?_)
    have h3 := (not_congr (cmpL_neg L y x)).1 hxy.1
    have h4 : x ≠ y := hxy.2
    omega
  · rw [hm i, List.mem_map]
    unfold LS.isDue
    constructor
    · rintro ⟨r, hr, rfl⟩
      have h1 := (hd.mem r).1 hr
      exact ⟨(r.ttl, r.due), (h.mem _ _).2 ⟨r, h1.1, rfl, rfl⟩, by rw [← h.now]; exact h1.2⟩
    · rintro ⟨x, hx, hle⟩
      obtain ⟨r, hr, e1, e2⟩ := (h.mem i x).1 hx
      exact ⟨r, (hd.mem r).2 ⟨hr, by rw [h.now]; rw [← e2] at hle; exact hle⟩, e1⟩

theorem Rel.few {L : LS} {R : RS} (h : Rel L R) {l : List Int} (hm : ∀ i, i ∈ l ↔ L.isDue i) (hn : l.Nodup) : l.length ≤ R.l.length := by
  have := nodup_len l (R.l.map (·.id)) hn (fun i hi => by
    obtain ⟨x, hx, _⟩ := (hm i).1 hi
    obtain ⟨r, hr, e, _⟩ := (h.mem i x).1 hx
    exact List.mem_map.2 ⟨r, hr, e⟩)
  rw [List.length_map] at this; exact this

theorem Rel.ids {L : LS} {R : RS} (h : Rel L R) {ids : List Int} (hp : ids.Pairwise (· < ·)) (hm : ∀ i, i ∈ ids ↔ (L.l i).isSome = true) : ids = R.l.map (·.id) :=
  pw_eq (lt := fun x y : Int => x < y) (fun a b h1 h2 => by omega) hp h.pw (fun i => by
    rw [hm i, List.mem_map]
    constructor
    · intro q
      obtain ⟨x, hx⟩ := Option.isSome_iff_exists.1 q
      obtain ⟨r, hr, e1, _⟩ := (h.mem i x).1 hx
      exact ⟨r, hr, e1⟩
    · rintro ⟨r, hr, rfl⟩
      rw [(h.mem r.id (r.ttl, r.due)).2 ⟨r, hr, rfl, rfl⟩]; rfl)

/-- Due of the document's, where Due of the lessor is known. -/
theorem rdue_same {F : Nat → Prop} {rb : Nat} {L : LS} {R : RS} {w : World} (href : IsRef F w rb R) (hrel : Rel L R) (hok : LOk L) {l : List Int} (hm : ∀ i, i ∈ l ↔ L.isDue i) (hn : l.Nodup) (hp : l.Pairwise (fun x y => ¬ L.cmp y x < 0)) :
    Calls Tryz.prog 30 #[.pointer (some ⟨rb, 0, none⟩)] w fun e w' => ∃ a c, e = .returned (.slice a l.length c) ∧ Sl nenc w' (.slice a l.length c) l ∧ Upd (fun _ => False) w w' := by
  have hlen := hrel.len
  have hfew := hok.few
  refine (rdue_calls F rb R w href (by omega) hrel.pw).mono fun e w' h => ?_
  obtain ⟨a, c, acc, he, hd, hsl, hu⟩ := h
  have e := hrel.dues hm hn hp hd
  have el : acc.length = l.length := by rw [← e, List.length_map]
  rw [e, el] at hsl
  rw [el] at he
  exact ⟨a, c, he, hsl, hu⟩

set_option maxRecDepth 100000 in
set_option maxHeartbeats 4000000 in
theorem same_calls (F : Nat → Prop) (b ml mk rb j : Nat) (L : LS) (R : RS) (w : World) (h : Both F w b ml mk rb L R j) (hj : j ≤ 1000) :
    Calls Tryz.prog 11 #[.pointer (some ⟨b, 0, none⟩), .pointer (some ⟨rb, 0, none⟩)] w fun e w' => e = .returned (.bool true) ∧ Upd (fun _ => False) w w' := by
  have hls := leases_calls b ml mk L w h.ls h.ok
  have H := Lib.hid h
  have hlen := h.rel.len
  have HLEN := Lib.hid hlen
  obtain ⟨v, hblk, hsl, -⟩ := h.ref.blk
  obtain ⟨a, c, rfl, -⟩ := hsl.shape
  rw [hlen, h.rel.now, h.rel.last] at hblk
  rw [hlen] at hsl
  have HBLK := Lib.hid hblk
  have HSL := Lib.hid hsl
  have hfew := h.ok.few
  clear h hlen hblk hsl
  generalize hn : L.n = n at *
  generalize hnow : L.now = now at *
  have HN := Lib.hid (And.intro hn hnow)
  clear hn hnow
  go_enter Tryz.func11, Tryz.ntmps11
  go_upto_region 2 with (go_at_call 27; (with_reducible refine hls.mono ?_); intro e1 w1 h1; obtain ⟨la, lc, ids, rfl, hl1, hp1, hm1, hsl1, hu1⟩ := h1; rw [HN.out.1] at hsl1 hl1; rw [HN.out.1]; have HID := Lib.hid (H.out.rel.ids hp1 hm1); have HSL1 := Lib.hid hsl1; have HU1 := Lib.hid hu1; clear hl1 hp1 hm1 hsl1 hu1 hls)
  have hd1 := HU1.out.drew
  have HD1 := Lib.hid hd1
  have hnw := now_calls b ml mk L w1.drew (H.out.ls.grow hd1)
  have hdu := due_calls b ml mk L w1.drew (H.out.ls.grow hd1) H.out.ok
  have hb1 := hd1.heap HBLK.out (fun x => x)
  have c0 := cell_of hb1 0
  have c2 := cell_of hb1 2
  rw [HN.out.2] at hnw
  clear hd1 hb1
  go_region_held3 (fun w' => w'.cell? ⟨rb, 0, none⟩ = some (.int .i64 now) ∧ w'.cell? ⟨rb, 2, none⟩ = some (.slice a n c)) (first | exact ⟨c0, c2⟩ | exact ⟨c0d, c2d⟩)
    (first
    | (go_at_call 28; (with_reducible refine hnw.mono ?_); rintro e2 w2 ⟨rfl, rfl⟩)
    | (go_at_call 14; (with_reducible refine hdu.mono ?_); intro e3 w3 h3; obtain ⟨da, dc, dl, rfl, hm3, hn3, hp3, hsl3, hu3, -⟩ := h3; have HU3 := Lib.hid (HD1.out.trans hu3); have HX3 := Lib.hid hu3; have HSL3 := Lib.hid hsl3; have c0d := hu3.cell c0 (fun x => x); have c2d := hu3.cell c2 (fun x => x); have hdl : dl.length ≤ 1000000 := (by have := H.out.rel.few hm3 hn3; have := HLEN.out; have := HN.out; omega); have HDL := Lib.hid hdl; clear hdl; have hrd := rdue_same (H.out.ref.grow HU3.out) H.out.rel H.out.ok hm3 hn3 hp3; clear hm3 hn3 hp3 hsl3 hu3)
    | (go_at_call 30; (with_reducible refine hrd.mono ?_); rintro e4 w4 ⟨ra, rc, rfl, hsl4, hu4⟩; have hsn := samenums_calls da ra dc rc dl w4 (HSL3.out.grow hu4) hsl4 HDL.out; have HU4 := Lib.hid (HU3.out.trans hu4); have HX4 := Lib.hid (HX3.out.trans hu4); have c0d := hu4.cell c0d (fun x => x); have c2d := hu4.cell c2d (fun x => x); clear hsl4 hu4)
    | (go_at_call 29; (with_reducible refine hsn.mono ?_); rintro e5 w5 ⟨rfl, hu5⟩; have HU5 := Lib.hid (HU4.out.trans hu5); have HX5 := Lib.hid (HX4.out.trans hu5); have c0d := hu5.cell c0d (fun x => x); have c2d := hu5.cell c2d (fun x => x); clear hu5))
  go_upto_region 5 with (fail)
  have HSL5 := Lib.hid (HSL.out.grow HU5.out)
  have HL5 := Lib.hid ((HSL1.out.grow (Upd.refl _ _).drew).grow HX5.out)
  clear c0 c2 c0d c2d hnw hdu hrd hsn
  rename World => W5
  go_loopw [45] (fun i wr => ∃ k : Nat, k ≤ n ∧ i = .int .i64 k ∧ Upd (fun _ => False) W5 wr) (fun i _ => n - (intOf i).toNat)
  case atStart => exact ⟨0, Nat.zero_le _, rfl, Upd.refl _ _⟩
  case round =>
    obtain ⟨k, hk, rfl, hu⟩ := hrel
    have HU := Lib.hid hu
    by_cases hlt : k < n
    · have hk' : k < R.l.length := by rw [HLEN.out]; exact hlt
      obtain ⟨bk, off, cap, hee, -, -, -⟩ := (show Sl rlenc wr (.slice a R.l.length c) R.l by rw [HLEN.out]; exact HSL5.out.grow hu).block (by omega)
      cases hee
      have hsr : Sl rlenc wr (.slice (some ⟨bk, off, none⟩) n c) R.l := HSL5.out.grow hu
      have q0 := hsr.at rlenc_length k hk' 0 (by decide) _ rfl
      have q1 := hsr.at rlenc_length k hk' 1 (by decide) _ rfl
      have q2 := hsr.at rlenc_length k hk' 2 (by decide) _ rfl
      have q3 := hsr.at rlenc_length k hk' 3 (by decide) _ rfl
      rw [Nat.add_zero] at q0
      have hil : k < (ids.map fun i => (i, L.ttlOf i)).length := by rw [HID.out]; simpa using hk'
      obtain ⟨bl, ol, capl, heel, -, -, -⟩ := (show Sl lenc wr (.slice la (ids.map fun i => (i, L.ttlOf i)).length lc) (ids.map fun i => (i, L.ttlOf i)) by
        have e : (ids.map fun i => (i, L.ttlOf i)).length = n := by rw [HID.out]; simpa using HLEN.out
        rw [e]; exact HL5.out.grow hu).block (by omega)
      cases heel
      have hsl : Sl lenc wr (.slice (some ⟨bl, ol, none⟩) n lc) (ids.map fun i => (i, L.ttlOf i)) := HL5.out.grow hu
      have p0 := hsl.at lenc_length k hil 0 (by decide) _ rfl
      have p1 := hsl.at lenc_length k hil 1 (by decide) _ rfl
      have hin := (H.out.rel.mem R.l[k].id (R.l[k].ttl, R.l[k].due)).2 ⟨_, List.getElem_mem hk', rfl, rfl⟩
      have e0 : (ids.map fun i => (i, L.ttlOf i))[k] = (R.l[k].id, R.l[k].ttl) := by
        rw [List.getElem_map]
        have hik : k < ids.length := by simpa using hil
        have e1 : ids[k] = R.l[k].id := by
          have h2 : ids[k]? = some R.l[k].id := by rw [HID.out, List.getElem?_map, List.getElem?_eq_getElem hk']; rfl
          rw [List.getElem?_eq_getElem hik] at h2
          exact Option.some.inj h2
        rw [e1]
        unfold LS.ttlOf
        rw [hin]; rfl
      rw [e0] at p0 p1
      rw [Nat.add_zero] at p0
      have hYO := H.out.ref.ok _ (List.getElem_mem hk')
      have hkp := H.out.rel.kpw _ (List.getElem_mem hk')
      have hkm := H.out.rel.kmem _ (List.getElem_mem hk')
      have HYO := Lib.hid hYO
      have HKP := Lib.hid hkp
      have HKM := Lib.hid hkm
      have HIN := Lib.hid hin
      clear hsr hsl hil e0 hin hYO hkp hkm
      generalize R.l[k] = y at *
      have hk2 := H.out.kok
      have hnk : L.nk ≤ 1000 := by have := H.out.nk; omega
      have hok := H.out.ok
      generalize hyi : y.id = yid at *
      generalize hyt : y.ttl = yt at *
      generalize hyd : y.due = yd at *
      generalize hya : y.ka = ya at *
      generalize hyc : y.kc = yc at *
      generalize hym : y.rows.length = ym at *
      have HY := Lib.hid (And.intro hya (And.intro hyc hym))
      have HYI := Lib.hid hyi
      clear hyi hyt hyd hya hyc hym
      have hu6 := hu.alloc (.cells #[.int .i64 yid, .int .i64 yt, .int .i64 yd, .slice ya ym yc] 73)
      have hw6 := HU5.out.trans hu6
      have hlf := left_calls b ml mk L yid (yt, yd) _ (H.out.ls.grow hw6) hok hk2 hnk HIN.out
      unfold LeftSays at hlf
      rw [HN.out.2] at hlf
      have ha6 := heap_alloc wr (.cells #[.int .i64 yid, .int .i64 yt, .int .i64 yd, .slice ya ym yc] 73)
      have HW6 := Lib.hid hw6
      have HY6 := Lib.hid ha6.1
      have HU6 := Lib.hid hu6
      have hp6 : Upd (fun _ => False) wr (wr.alloc (.cells #[.int .i64 yid, .int .i64 yt, .int .i64 yd, .slice ya ym yc] 73)) := upd_alloc _ _ _
      have HP6 := Lib.hid hp6
      clear hu6 hw6 ha6 hk2 hok hnk hp6
      go_upto_region 7 with (fail)
      generalize wr.alloc (.cells #[.int .i64 yid, .int .i64 yt, .int .i64 yd, .slice ya ym yc] 73) = w6 at *
      generalize wr.heap.size = g at *
      have e0 := cell_of HY6.out 0
      have e1 := cell_of HY6.out 1
      have e2 := cell_of HY6.out 2
      have e3 := cell_of HY6.out 3
      go_upto_region 9 with (go_at_call 31; (with_reducible refine hlf.mono ?_); rintro e7 w7 ⟨ka7, kc7, rows, rfl, hof, hu7⟩; have HOF := Lib.hid hof; have HU7 := Lib.hid hu7; have e0 := hu7.cell e0 (fun x => x); have e1 := hu7.cell e1 (fun x => x); have e2 := hu7.cell e2 (fun x => x); have e3 := hu7.cell e3 (fun x => x); clear hof hu7)
      have hblkw := (HW6.out.trans HU7.out).heap HBLK.out (fun x => x)
      have c0 := cell_of hblkw 0
      have hnl := H.out.ok.now0
      have hnh := H.out.ok.now1
      rw [HN.out.2] at hnl hnh
      have hids := H.out.ok.ids yid (yt, yd) HIN.out
      have hd0 : 0 ≤ yd := hids.2.2.2.2.1
      have hd1 : yd ≤ topT := hids.2.2.2.2.2
      unfold topT at hnh hd1
      clear hids
      by_cases hdn : now < yd
      · have hmx : max 0 (yd - now) = yd - now := by omega
        go_quiet (fail)
        obtain ⟨nq1, hnq1⟩ : ∃ z : Nat, z = nq := ⟨_, rfl⟩
        subst hnq1
        go_upto_region 10 with (fail)
        go_quiet (fail)
        go_upto_region 11 with (fail)
        have hwx := ((Upd.refl (fun _ => False) w7).drewN nq1).drewN nq
        have HWX := Lib.hid hwx
        have e0 := hwx.cell e0 (fun x => x)
        have e1 := hwx.cell e1 (fun x => x)
        have e3 := hwx.cell e3 (fun x => x)
        have p0 := (HP6.out.trans (HU7.out.trans hwx)).cell p0 (fun x => x)
        have p1 := (HP6.out.trans (HU7.out.trans hwx)).cell p1 (fun x => x)
        clear hwx hblkw c0 e2 hlf hu
        generalize (w7.drewN nq1).drewN nq = W at *
        have hof := HOF.out.upd (S := fun _ => False) HWX.out (fun _ _ x => x)
        have hyo := HYO.out.upd (S := fun _ => False) (HW6.out.trans (HU7.out.trans HWX.out)) (fun _ _ x => x.elim)
        have hsk := samekeys_calls ka7 y.ka kc7 y.kc rows y.rows W.drew (hof.sl.grow (Upd.refl _ _).drew) (hyo.sl.grow (Upd.refl _ _).drew) (fun k hk => Go.Tb.Bytes.upd (hof.ok k hk).1 (Upd.refl (fun _ => False) _).drew (fun _ _ x => x)) (fun k hk => Go.Tb.Bytes.upd (hyo.by_ k hk) (Upd.refl (fun _ => False) _).drew (fun _ _ x => x)) (rises_eq hof.pw HKP.out (fun s => (hof.mem s).trans (HKM.out s).symm)) (by have := hof.len; have := H.out.nk; omega)
        rw [HY.out.1, HY.out.2.1, HY.out.2.2] at hsk
        have hLW := H.out.ls.grow ((HW6.out.trans (HU7.out.trans HWX.out)).drew)
        have hhs := fun W' (hu : Upd (fun _ => False) W.drew W') => has_yes b ml mk L yid (yt, yd) W' (hLW.grow hu) HIN.out
        have HHS := Lib.hid hhs
        have d0 : W.drew.cell? ⟨g, 0, none⟩ = some (.int .i64 yid) := e0
        have d1 : W.drew.cell? ⟨g, 1, none⟩ = some (.int .i64 yt) := e1
        have d3 : W.drew.cell? ⟨g, 3, none⟩ = some (.slice ya ym yc) := e3
        have dp0 : W.drew.cell? ⟨bl, ol + k * 2, none⟩ = some (.int .i64 yid) := p0
        have dp1 : W.drew.cell? ⟨bl, ol + k * 2 + 1, none⟩ = some (.int .i64 yt) := p1
        clear hof hyo hLW hhs e0 e1 e3 p0 p1
        go_region_held3 (fun w' => w'.cell? ⟨g, 0, none⟩ = some (.int .i64 yid) ∧ w'.cell? ⟨g, 1, none⟩ = some (.int .i64 yt) ∧ w'.cell? ⟨g, 3, none⟩ = some (.slice ya ym yc) ∧ w'.cell? ⟨bl, ol + k * 2, none⟩ = some (.int .i64 yid) ∧ w'.cell? ⟨bl, ol + k * 2 + 1, none⟩ = some (.int .i64 yt)) (first | exact ⟨d0, d1, d3, dp0, dp1⟩ | exact ⟨x0, x1, x3, xp0, xp1⟩)
          (first
          | (go_at_call 19; (with_reducible refine hsk.mono ?_); rintro e8 w8 ⟨rfl, hu8⟩; have HU8 := Lib.hid hu8; have x0 := hu8.cell d0 (fun x => x); have x1 := hu8.cell d1 (fun x => x); have x3 := hu8.cell d3 (fun x => x); have xp0 := hu8.cell dp0 (fun x => x); have xp1 := hu8.cell dp1 (fun x => x); have hh := HHS.out w8 hu8; clear hu8)
          | (go_at_call 32; (with_reducible refine hh.mono ?_); rintro e9 w9 ⟨rfl, hu9⟩; have HU9 := Lib.hid hu9; have x0 := hu9.cell x0 (fun x => x); have x1 := hu9.cell x1 (fun x => x); have x3 := hu9.cell x3 (fun x => x); have xp0 := hu9.cell xp0 (fun x => x); have xp1 := hu9.cell xp1 (fun x => x); clear hu9))
        go_wp2
        go_roundw
        case rel => exact ⟨k + 1, by omega, by go_num, HU6.out.trans (HU7.out.trans (HWX.out.drew.trans (HU8.out.trans HU9.out)))⟩
        case measure => simp [intOf]; omega
      · have hmx : max 0 (yd - now) = 0 := by omega
        go_quiet (fail)
        go_upto_region 11 with (fail)
        have hwx := (Upd.refl (fun _ => False) w7).drewN nq
        have HWX := Lib.hid hwx
        have e0 := hwx.cell e0 (fun x => x)
        have e1 := hwx.cell e1 (fun x => x)
        have e3 := hwx.cell e3 (fun x => x)
        have p0 := (HP6.out.trans (HU7.out.trans hwx)).cell p0 (fun x => x)
        have p1 := (HP6.out.trans (HU7.out.trans hwx)).cell p1 (fun x => x)
        clear hwx hblkw c0 e2 hlf hu
        generalize w7.drewN nq = W at *
        have hof := HOF.out.upd (S := fun _ => False) HWX.out (fun _ _ x => x)
        have hyo := HYO.out.upd (S := fun _ => False) (HW6.out.trans (HU7.out.trans HWX.out)) (fun _ _ x => x.elim)
        have hsk := samekeys_calls ka7 y.ka kc7 y.kc rows y.rows W.drew (hof.sl.grow (Upd.refl _ _).drew) (hyo.sl.grow (Upd.refl _ _).drew) (fun k hk => Go.Tb.Bytes.upd (hof.ok k hk).1 (Upd.refl (fun _ => False) _).drew (fun _ _ x => x)) (fun k hk => Go.Tb.Bytes.upd (hyo.by_ k hk) (Upd.refl (fun _ => False) _).drew (fun _ _ x => x)) (rises_eq hof.pw HKP.out (fun s => (hof.mem s).trans (HKM.out s).symm)) (by have := hof.len; have := H.out.nk; omega)
        rw [HY.out.1, HY.out.2.1, HY.out.2.2] at hsk
        have hLW := H.out.ls.grow ((HW6.out.trans (HU7.out.trans HWX.out)).drew)
        have hhs := fun W' (hu : Upd (fun _ => False) W.drew W') => has_yes b ml mk L yid (yt, yd) W' (hLW.grow hu) HIN.out
        have HHS := Lib.hid hhs
        have d0 : W.drew.cell? ⟨g, 0, none⟩ = some (.int .i64 yid) := e0
        have d1 : W.drew.cell? ⟨g, 1, none⟩ = some (.int .i64 yt) := e1
        have d3 : W.drew.cell? ⟨g, 3, none⟩ = some (.slice ya ym yc) := e3
        have dp0 : W.drew.cell? ⟨bl, ol + k * 2, none⟩ = some (.int .i64 yid) := p0
        have dp1 : W.drew.cell? ⟨bl, ol + k * 2 + 1, none⟩ = some (.int .i64 yt) := p1
        clear hof hyo hLW hhs e0 e1 e3 p0 p1
        go_region_held3 (fun w' => w'.cell? ⟨g, 0, none⟩ = some (.int .i64 yid) ∧ w'.cell? ⟨g, 1, none⟩ = some (.int .i64 yt) ∧ w'.cell? ⟨g, 3, none⟩ = some (.slice ya ym yc) ∧ w'.cell? ⟨bl, ol + k * 2, none⟩ = some (.int .i64 yid) ∧ w'.cell? ⟨bl, ol + k * 2 + 1, none⟩ = some (.int .i64 yt)) (first | exact ⟨d0, d1, d3, dp0, dp1⟩ | exact ⟨x0, x1, x3, xp0, xp1⟩)
          (first
          | (go_at_call 19; (with_reducible refine hsk.mono ?_); rintro e8 w8 ⟨rfl, hu8⟩; have HU8 := Lib.hid hu8; have x0 := hu8.cell d0 (fun x => x); have x1 := hu8.cell d1 (fun x => x); have x3 := hu8.cell d3 (fun x => x); have xp0 := hu8.cell dp0 (fun x => x); have xp1 := hu8.cell dp1 (fun x => x); have hh := HHS.out w8 hu8; clear hu8)
          | (go_at_call 32; (with_reducible refine hh.mono ?_); rintro e9 w9 ⟨rfl, hu9⟩; have HU9 := Lib.hid hu9; have x0 := hu9.cell x0 (fun x => x); have x1 := hu9.cell x1 (fun x => x); have x3 := hu9.cell x3 (fun x => x); have xp0 := hu9.cell xp0 (fun x => x); have xp1 := hu9.cell xp1 (fun x => x); clear hu9))
        go_wp2
        go_roundw
        case rel => exact ⟨k + 1, by omega, by go_num, HU6.out.trans (HU7.out.trans (HWX.out.drew.trans (HU8.out.trans HU9.out)))⟩
        case measure => simp [intOf]; omega
    · obtain rfl : k = n := by omega
      go_wp2
      go_ret
      exact ⟨rfl, HU5.out.trans HU.out⟩

end Go.Proofs.YtcbngjlgcgcljaaGreat
