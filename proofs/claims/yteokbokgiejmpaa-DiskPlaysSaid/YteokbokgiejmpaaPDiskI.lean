/-
  A disk and the document's: what both show is the same.
-/
import Derived.Test.YteokbokgiejmpaaPDiskH
import Derived.Test.YteokbokgiejmpaaDiskI
import Derived.Deep.RegionHeld3
namespace Go.Proofs.Yteokbokgiejmpaa
open Go.RowKit Go.Tb Go.MapKept Go.ChangeMaps
set_option linter.unusedVariables false

structure Two (P : Nat → Prop) (w : World) (b mp mc rb : Nat) (D : DS) (E : RD) (I : Nat → Prop) (j : Nat) : Prop where
  dk : IsDisk w b mp mc D I
  rd : IsRD P w rb E
  rel : RelD D E j
  inn : D.In
  pb : ¬ P b
  pm : ¬ P mp
  pc : ¬ P mc
  pi : ∀ k, I k → ¬ P k

theorem pw_eq {α : Type} {lt : α → α → Prop} (has : ∀ a b, lt a b → lt b a → False) : ∀ {l m : List α}, l.Pairwise lt → m.Pairwise lt → (∀ x, x ∈ l ↔ x ∈ m) → l = m
  | [], [], _, _, _ => rfl
  | [], a :: r, _, _, h => absurd ((h a).2 (.head _)) List.not_mem_nil
  | a :: r, [], _, _, h => absurd ((h a).1 (.head _)) List.not_mem_nil
  | a :: r, c :: s, h1, h2, h => by
    obtain ⟨p1, p2⟩ := List.pairwise_cons.1 h1
    obtain ⟨q1, q2⟩ := List.pairwise_cons.1 h2
    have e : a = c := by
      rcases List.mem_cons.1 ((h a).1 (.head _)) with e | e
      · exact e
      · rcases List.mem_cons.1 ((h c).2 (.head _)) with e2 | e2
        · exact e2.symm
        · exact (has _ _ (q1 a e) (p1 c e2)).elim
    subst e
    have hr : ∀ x, x ∈ r ↔ x ∈ s := fun x => by
      constructor
      · intro hx
        rcases List.mem_cons.1 ((h x).1 (.tail _ hx)) with e | e
        · subst e; exact (has _ _ (p1 x hx) (p1 x hx)).elim
        · exact e
      · intro hx
        rcases List.mem_cons.1 ((h x).2 (.tail _ hx)) with e | e
        · subst e; exact (has _ _ (q1 x hx) (q1 x hx)).elim
        · exact e
    rw [pw_eq has p2 q2 hr]

theorem cached_same (b mp mc : Nat) (D : DS) (I : Nat → Prop) (l : List Int) (w : World) (h : IsDisk w b mp mc D I) (hi : D.In) (hp : l.Pairwise (· < ·)) (hm : ∀ x, x ∈ l ↔ (D.cache x).isSome = true) :
    Calls Try.prog 23 #[.pointer (some ⟨b, 0, none⟩)] w fun e w' => ∃ a c, e = .returned (.slice a l.length c) ∧ Sl zenc w' (.slice a l.length c) l ∧ Upd (fun _ => False) w w' :=
  (cached_calls b mp mc D I w h hi).mono fun e w' ⟨a, c, l', he, hp', hm', hsl, _, hu⟩ => by
    obtain rfl : l' = l := pw_eq (lt := fun x y : Int => x < y) (fun a b h1 h2 => by omega) hp' hp (fun x => (hm' x).trans (hm x).symm)
    exact ⟨a, c, he, hsl, hu⟩

theorem IsDisk.grow {w w' : World} {b mp mc : Nat} {D : DS} {I : Nat → Prop} (h : IsDisk w b mp mc D I) (hu : Upd (fun _ => False) w w') : IsDisk w' b mp mc D I := h.upd hu (fun x => x) (fun x => x) (fun x => x) (fun _ _ x => x)

/-- The sorted keys of the cache. -/
theorem keys_there {D : DS} {E : RD} {j : Nat} (h : RelD D E j) {l : List Int} (hp : l.Pairwise (· < ·)) (hm : ∀ x, x ∈ l ↔ (D.cache x).isSome = true) : l.length = E.cache.length ∧ ∀ x, x ∈ l ↔ ∃ r ∈ E.cache, r.1 = x := by
  have hmem : ∀ x, x ∈ l ↔ x ∈ E.cache.map (·.1) := fun x => by rw [hm x, ← h.cache x, look_in]
  have hn : l.Nodup := hp.imp (fun {a b} hab e => by omega)
  refine ⟨?_, fun x => by rw [hmem x, List.mem_map]⟩
  have := ((List.perm_ext_iff_of_nodup hn h.nd).2 hmem).length_eq
  rw [List.length_map] at this; exact this

set_option maxRecDepth 100000 in
set_option maxHeartbeats 4000000 in
theorem psame_calls (P : Nat → Prop) (b mp mc rb : Nat) (D : DS) (E : RD) (I : Nat → Prop) (j : Nat) (w : World) (h : Two P w b mp mc rb D E I j) (hj : j ≤ 1000) :
    Calls Try.prog 31 #[.pointer (some ⟨b, 0, none⟩), .pointer (some ⟨rb, 0, none⟩)] w fun e w' => e = .returned (.bool true) ∧ Upd (fun _ => False) w w' := by
  have H := Lib.hid h
  obtain ⟨pv, cv, rows, cs, hr⟩ := h.rd
  obtain ⟨hsl, -⟩ := sl_of_own wenc_length hr.cown
  obtain ⟨ca, cc, rfl, -⟩ := hsl.shape
  obtain ⟨hsp, -⟩ := sl_of_own renc_length hr.pown
  obtain ⟨pa, pc, rfl, -⟩ := hsp.shape
  have hnc := hr.nc
  have hcl := h.rel.cl
  have HCM := Lib.hid hr.cache
  have HBLK := Lib.hid hr.blk
  have hsz : D.size = (rows.length : Int) := by rw [h.rel.size, hr.np]
  have c0 : w.drew.cell? ⟨rb, 0, none⟩ = some (.slice pa rows.length pc) := cell_of hr.blk 0
  have c1 : w.drew.cell? ⟨rb, 1, none⟩ = some (.slice ca cs.length cc) := cell_of hr.blk 1
  have c4 : w.drew.cell? ⟨rb, 4, none⟩ = some (.int .i64 D.done) := by rw [← h.rel.done]; exact cell_of hr.blk 4
  have hd := h.dk.grow (Upd.refl (fun _ => False) w).drew
  have hs := size_calls b mp mc D I w.drew hd
  rw [hsz] at hs
  have hdo := done_calls b mp mc D I w.drew hd
  have hca := cached_calls b mp mc D I w.drew hd h.inn
  have HSL := Lib.hid hsl
  have HNC := Lib.hid hnc
  clear h hr hsl hsp hsz hd
  generalize rows.length = np at *
  generalize hn : cs.length = n at *
  have HN := Lib.hid hn
  have hn1000 : n ≤ 1000 := by have := HNC.out; omega
  clear hn hnc
  generalize D.done = dn at *
  go_enter Try.func31, Try.ntmps31
  go_upto_region 1 with (fail)
  go_region_held3 (fun w' => w'.cell? ⟨rb, 0, none⟩ = some (.slice pa np pc) ∧ w'.cell? ⟨rb, 1, none⟩ = some (.slice ca n cc) ∧ w'.cell? ⟨rb, 4, none⟩ = some (.int .i64 dn)) (first | exact ⟨c0, c1, c4⟩ | exact ⟨x0, x1, x4⟩)
    (first
    | (go_at_call 24; (with_reducible refine hs.mono ?_); rintro e1 w1 ⟨rfl, rfl⟩)
    | (go_at_call 20; (with_reducible refine hdo.mono ?_); rintro e2 w2 ⟨rfl, rfl⟩)
    | (go_at_call 23; (with_reducible refine hca.mono ?_); rintro e3 w3 ⟨ka, kc, kl, rfl, hp3, hm3, hsl3, -, hu3⟩; obtain ⟨hkl, hkm⟩ := keys_there H.out.rel hp3 hm3; rw [← HNC.out] at hkl; rw [hkl]; have x0 := hu3.cell c0 (fun x => x); have x1 := hu3.cell c1 (fun x => x); have x4 := hu3.cell c4 (fun x => x); have HU3 := Lib.hid ((Upd.refl (fun _ => False) w).drew.trans hu3); have HKL := Lib.hid hkl; have HKM := Lib.hid hkm; have HPM := Lib.hid (And.intro hp3 hm3); clear hp3 hm3 hsl3 hu3 hkl hkm))
  have HCA := Lib.hid (fun W (hu : Upd (fun _ => False) w W) => (show Calls Try.prog 23 #[.pointer (some ⟨b, 0, none⟩)] W fun e w' => ∃ a c, e = .returned (.slice a n c) ∧ Sl zenc w' (.slice a n c) kl ∧ Upd (fun _ => False) W w' from by
    have := cached_same b mp mc D I kl W (H.out.dk.grow hu) H.out.inn HPM.out.1 HPM.out.2
    rw [HKL.out] at this; exact this))
  have hca2 := HCA.out w3 HU3.out
  clear hs hdo hca c0 c1 c4 x0 x4
  go_upto_region 4 with (go_at_call 23; (with_reducible refine hca2.mono ?_); rintro e4 w4 ⟨k4, c4, rfl, hsl4, hu4⟩; have HSL4 := Lib.hid hsl4; have HU4 := Lib.hid (HU3.out.trans hu4); clear hsl4 hu4)
  clear hca2 x1
  go_loopw [42] (fun i wr => ∃ i' : Nat, i' ≤ n ∧ i = .int .i64 i' ∧ Upd (fun _ => False) w4 wr) (fun i _ => n - (intOf i).toNat)
  case atStart => exact ⟨0, Nat.zero_le _, rfl, Upd.refl _ _⟩
  case round =>
    obtain ⟨i, hi, rfl, hu⟩ := hrel
    have HU := Lib.hid hu
    have HUW := Lib.hid (HU4.out.trans hu)
    by_cases hlt : i < n
    · have hik : i < kl.length := by rw [HKL.out]; exact hlt
      obtain ⟨bk, off, cap, hee, -, -, -⟩ := (show Sl zenc wr (.slice k4 kl.length c4) kl by rw [HKL.out]; exact HSL4.out.grow hu).block (by omega)
      cases hee
      have q0 := (show Sl zenc wr (.slice (some ⟨bk, off, none⟩) n c4) kl from HSL4.out.grow hu).at zenc_length i hik 0 (by decide) _ rfl
      rw [Nat.mul_one, Nat.add_zero] at q0
      have hany : cs.any (fun c => c.1 == kl[i]) = true := by
        obtain ⟨r, hr, e⟩ := (HKM.out kl[i]).1 (List.getElem_mem hik)
        rw [← HCM.out] at hr
        obtain ⟨c, hc, rfl⟩ := List.mem_map.1 hr
        exact List.any_eq_true.2 ⟨c, hc, by simpa using e⟩
      have HANY := Lib.hid hany
      have hcc := HCA.out wr HUW.out
      have HPREV := Lib.hid (show ∀ q, 0 < i → kl[i - 1]? = some q → q < kl[i] from fun q h0 hq => by
        obtain ⟨h1, rfl⟩ := List.getElem?_eq_some_iff.1 hq
        exact List.pairwise_iff_getElem.1 HPM.out.1 (i - 1) i h1 hik (by omega))
      clear hany hu
      generalize kl[i] = p at *
      clear hik
      obtain ⟨wo, hwo⟩ : ∃ wo : World, wo = wr := ⟨_, rfl⟩
      subst hwo
      go_upto_region 6 with (fail)
      clear q0
      by_cases hi0 : i = 0
      case' pos =>
        have hb0 : ((i : Int) == 0) = true := by rw [hi0]; rfl
        clear hcc hi0
        go_upto_region 8 with (fail)
        clear hb0
        obtain ⟨W, hWW⟩ : ∃ W, W = wo := ⟨_, rfl⟩
        rw [← hWW]
        have HWO := Lib.hid (show Upd (fun _ => False) wo W by rw [hWW]; exact Upd.refl _ _)
        clear hWW
      case' neg =>
        have hb0 : ((i : Int) == 0) = false := by simpa using hi0
        have hil : i - 1 < kl.length := by rw [HKL.out]; omega
        have hwp : IntKind.i64.wrap ((i : Int) - 1) = ((i - 1 : Nat) : Int) := by rw [IntWalk.i64_in _ (by omega)]; omega
        have hwq : (i : Int) - 1 = ((i - 1 : Nat) : Int) := by omega
        have hpr := HPREV.out kl[i - 1] (by omega) (List.getElem?_eq_getElem hil)
        generalize hqq : kl[i - 1] = q at *
        have HQQ := Lib.hid hqq
        clear hqq hi0
        generalize hi1 : i - 1 = i1 at *
        have HI1 := Lib.hid hi1
        clear hi1
        have hi1n : (i1 : Int) < (n : Int) := by have := HI1.out; omega
        go_upto_region 8 with (go_at_call 23; (with_reducible refine hcc.mono ?_); rintro e5 w5 ⟨k5, c5, rfl, hsl5, hu5⟩; obtain ⟨bk5, off5, cap5, hee5, -, -, -⟩ := (show Sl zenc w5 (.slice k5 kl.length c5) kl by rw [HKL.out]; exact hsl5).block (by omega); cases hee5; have q5 := hsl5.at zenc_length i1 hil 0 (by decide) _ rfl; rw [Nat.mul_one, Nat.add_zero, HQQ.out] at q5; have HWO := Lib.hid hu5; clear hsl5 hu5)
        clear hpr hwp hwq hb0
        rename World => W
      all_goals (
        have HWW := Lib.hid (HUW.out.trans HWO.out)
        have x1 : W.cell? ⟨rb, 1, none⟩ = some (.slice ca n cc) := cell_of (HWW.out.heap HBLK.out (fun x => x)) 1
        go_upto_region 9 with (fail)
        clear x1
        go_loopw [8, 64] (fun tv iv wr => ∃ t : Nat, t ≤ n ∧ iv = .int .i64 t ∧ tv = .bool ((cs.take t).any (fun c => c.1 == p)) ∧ Upd (fun _ => False) W wr) (fun _ iv _ => n - (intOf iv).toNat)
        case atStart => exact ⟨0, Nat.zero_le _, rfl, rfl, Upd.refl _ _⟩
        case round =>
          obtain ⟨t, ht, rfl, rfl, hu⟩ := hrel
          have HUT := Lib.hid hu
          by_cases htn : t < n
          · have htc : t < cs.length := by rw [HN.out]; exact htn
            obtain ⟨bq, oq, capq, heeq, -, -, -⟩ := (show Sl wenc wr (.slice ca cs.length cc) cs by rw [HN.out]; exact HSL.out.grow (HWW.out.trans hu)).block (by omega)
            cases heeq
            have hsw : Sl wenc wr (.slice (some ⟨bq, oq, none⟩) n cc) cs := HSL.out.grow (HWW.out.trans hu)
            have r0 := hsw.at wenc_length t htc 0 (by decide) _ rfl
            have r1 := hsw.at wenc_length t htc 1 (by decide) _ rfl
            rw [Nat.add_zero] at r0
            have HST := Lib.hid (show (cs.take (t + 1)).any (fun c => c.1 == p) = ((cs.take t).any (fun c => c.1 == p) || cs[t].1 == p) by rw [List.take_succ_eq_append_getElem htc, List.any_append]; simp)
            clear hsw hu
            generalize cs[t].1 = y at *
            generalize cs[t].2.1.1 = z1 at *
            generalize cs[t].2.1.2 = z3 at *
            generalize cs[t].2.2.length = z2 at *
            clear htc
            generalize hany : (cs.take t).any (fun c => c.1 == p) = tb at *
            clear hany
            cases tb with
            | true =>
              go_wp2
              go_roundw
              case rel => exact ⟨t + 1, by omega, by go_num, by rw [HST.out]; rfl, HUT.out.alloc _⟩
              case measure => simp [intOf]; omega
            | false =>
              go_wp2
              go_roundw
              case rel => exact ⟨t + 1, by omega, by go_num, by rw [HST.out]; rfl, HUT.out.alloc _⟩
              case measure => simp [intOf]; omega
          · obtain rfl : t = n := by omega
            have hany2 : (cs.take t).any (fun c => c.1 == p) = true := by rw [List.take_of_length_le (by rw [HN.out]; exact Nat.le_refl _)]; exact HANY.out
            rw [hany2]
            clear hany2 hu
            go_wp2
            go_roundw
            case rel => exact ⟨i + 1, by omega, by go_num, HU.out.trans (HWO.out.trans HUT.out)⟩
            case measure => simp [intOf]; omega)
    · obtain rfl : i = n := by omega
      clear hu
      go_wp2
      go_ret
      exact ⟨rfl, HUW.out⟩

end Go.Proofs.Yteokbokgiejmpaa
