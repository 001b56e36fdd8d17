/-
  The document's lessor: Keep.
-/
import Derived.Test.YtcbngjlgcgcljaaGreatRefL
import Derived.Deep.RegionHeld3
namespace Go.Proofs.YtcbngjlgcgcljaaGreat
open Go.RowKit Go.Tb Go.MapKept Go.ChangeMaps Go.Lib
set_option linter.unusedVariables false

set_option maxRecDepth 100000 in
theorem rkeep_no (F : Nat → Prop) (b : Nat) (R : RS) (id : Int) (w : World) (h : IsRef F w b R) (hlen : R.l.length ≤ 1000) (hno : ∀ r ∈ R.l, r.id ≠ id) :
    Calls Tryz.prog 21 #[.pointer (some ⟨b, 0, none⟩), .int .i64 id] w fun e w' => e = .returned (.tuple #[.int .i64 0, .int .i64 17]) ∧ w = w' := by
  have ha := rat_no F b R id w h hlen hno
  clear h hno
  go_enter Tryz.func21, Tryz.ntmps21
  go_wp2_with (go_at_call 38; (with_reducible refine ha.mono ?_); rintro e1 w1 ⟨rfl, rfl⟩)
  go_ret2
  exact ⟨rfl, rfl⟩

def RL.kept (r : RL) (now : Int) : RL := { r with due := laterI now r.ttl }
def RS.kept (R : RS) (j : Nat) (r : RL) : RS := { R with l := R.l.set j (r.kept R.now) }

/-- A row of the call's own, of one element at least, lies in a block. -/
theorem own_block {α : Type} {enc : α → List Value} {w : World} {base : Nat} {e : TypeId} {k : Nat} {v : Value} {l : List α} (h : w.ownsRow base e k v l.length (l.flatMap enc)) (hl : 0 < l.length) : ∃ g cap cur, v = .slice (some ⟨g, 0, none⟩) l.length cap ∧ base ≤ g ∧ w.heap[g]? = some (.cells cur e (0, 0)) := by
  rcases h.2 with ⟨_, q⟩ | ⟨g, cap, cur, q, hg, hh, _⟩
  · omega
  · exact ⟨g, cap, cur, q, hg, hh⟩

set_option maxRecDepth 100000 in
set_option maxHeartbeats 1000000 in
theorem rkeep_yes (F : Nat → Prop) (b : Nat) (R : RS) (id : Int) (w : World) (h : IsRef F w b R) (hF : ∀ k, F k → k < w.heap.size) (hlen : R.l.length ≤ 1000) (hp : (R.l.map (·.id)).Pairwise (· < ·)) (j : Nat) (hj : j < R.l.length) (hid : R.l[j].id = id)
    (h0 : 0 ≤ R.now) (h1 : R.now ≤ topT) (h2 : 0 ≤ R.l[j].ttl) (h3 : R.l[j].ttl ≤ topT) :
    Calls Tryz.prog 21 #[.pointer (some ⟨b, 0, none⟩), .int .i64 id] w fun e w' => e = .returned (.tuple #[.int .i64 R.l[j].ttl, .int .i64 0]) ∧ IsRef F w' b (R.kept j R.l[j]) ∧ Upd (fun k => k = b) w w' := by
  have ha := rat_yes F b R id w h hlen hp j hj hid
  have hlt := fun W => rlater_calls R.now R.l[j].ttl W h0 h1 h2 (by unfold topT at h3; omega)
  obtain ⟨v, hblk, hsl, hvF⟩ := h.blk
  have H := Lib.hid h
  obtain ⟨bk, off, cap, rfl, hcap, hbk, -⟩ := hsl.block (by omega)
  have c2 : w.cell? ⟨b, 2, none⟩ = some (.slice (some ⟨bk, off, none⟩) R.l.length cap) := cell_of hblk 2
  have c0 : w.cell? ⟨b, 0, none⟩ = some (.int .i64 R.now) := cell_of hblk 0
  have hu1 : Upd (fun _ => False) w (w.alloc (.cells #[] 73)) := upd_alloc _ _ _
  have hown0 := own_empty (enc := rlenc) (k := 4) rlenc_length (heap_alloc w (.cells #[] 73)).1 (Nat.le_refl _)
  obtain ⟨a2, n2, w2, hap, hown, hu2, hbl2⟩ := run_append_any (P := Tryz.prog) (t := 52) Tryz.underlying52 info_RLease rfl (by decide) rlenc_length rlenc_one hown0 (hsl.grow hu1) (by simp) (by simp [maxLen]; omega) (by simp; omega)
  have e0 : ([] ++ R.l : List RL) = R.l := rfl
  rw [e0] at hap hown hbl2
  have hu2' : Upd (fun _ => False) w w2 := hu1.trans' hu2 (fun x hx e => by cases e; simp at hx)
  obtain ⟨g, cap2, cur, hv2, hg, hcur⟩ := own_block hown (by omega)
  injection hv2 with e1 _ e3
  subst e1 e3
  obtain ⟨og, hog⟩ : ∃ og : Nat, og = 0 := ⟨0, rfl⟩
  have hsl2 : Sl rlenc w2 (.slice (some ⟨g, og, none⟩) R.l.length n2) R.l := by rw [hog]; exact (sl_of_own rlenc_length hown).1
  have hap' : ∀ ty, (Builtin.append_ #[52, 52] ty #[.slice (some ⟨w.heap.size, 0, none⟩) 0 0, .slice (some ⟨bk, off, none⟩) R.l.length cap]).run Tryz.prog (w.alloc (.cells #[] 73)) = .ok (.slice (some ⟨g, og, none⟩) R.l.length n2) w2 := by rw [hog]; exact hap
  have hblt : b < w.heap.size := lt_of_heap hblk
  have hbg : b ≠ g := by omega
  have hblk2 := hu2'.heap hblk (fun x => x)
  have f2 := free_of hblk2 2
  have ff2 : w2.frozen? ⟨b, 2, none⟩ = false := f2
  have cb2 := cell_of hblk2 2
  -- the world behind the first store
  have hblk3 : (w2.setCell ⟨b, 2, none⟩ (.slice (some ⟨g, og, none⟩) R.l.length n2)).heap[b]? = some (.cells #[.int .i64 R.now, .int .i64 R.last, .slice (some ⟨g, og, none⟩) R.l.length n2] 54 (0, 0)) := by
    rw [heap_setCell_at hblk2 2 _]; rfl
  have hcur3 : (w2.setCell ⟨b, 2, none⟩ (.slice (some ⟨g, og, none⟩) R.l.length n2)).heap[g]? = some (.cells cur 73 (0, 0)) := by rw [heap_setCell_ne _ (Ne.symm hbg)]; exact hcur
  have hu3 : Upd (fun k => k = b) w (w2.setCell ⟨b, 2, none⟩ (.slice (some ⟨g, og, none⟩) R.l.length n2)) := Upd.setCell (p := ⟨b, 2, none⟩) (S := fun k => k = b) (hu2'.weak _) (fun _ => rfl) _
  have hsl3 : Sl rlenc (w2.setCell ⟨b, 2, none⟩ (.slice (some ⟨g, og, none⟩) R.l.length n2)) (.slice (some ⟨g, og, none⟩) R.l.length n2) R.l :=
    hsl2.upd (upd_setCell (fun k => k = b) w2 ⟨b, 2, none⟩ _ rfl) (fun q hq e => by cases hq; exact hbg e.symm)
  have HBLK := Lib.hid hblk3
  have HCUR := Lib.hid hcur3
  have HU := Lib.hid hu3
  have HSL := Lib.hid hsl3
  have HG := Lib.hid hg
  have HNF := Lib.hid hF
  have HJ := Lib.hid hj
  clear hog hblk3 hcur3 hu3 hsl3 hsl2 hap hblk2 hcur hu2 hu2' hbl2 hown hown0 hu1 hsl hvF h hp hid hblk c0 h0 h1 h2 h3 f2
  go_enter Tryz.func21, Tryz.ntmps21
  go_upto_region 5 with (first
    | (go_at_call 38; (with_reducible refine ha.mono ?_); rintro e1 w1 ⟨rfl, rfl⟩)
    | (at_builtin; refine wpList_append hap' rfl rfl rfl rfl ?_))
  clear hap' c2 ff2 cb2 ha
  generalize w2.setCell ⟨b, 2, none⟩ (.slice (some ⟨g, og, none⟩) R.l.length n2) = w3 at *
  have c0 : w3.drew.cell? ⟨b, 0, none⟩ = some (.int .i64 R.now) := cell_of HBLK.out 0
  have c2 : w3.drew.cell? ⟨b, 2, none⟩ = some (.slice (some ⟨g, og, none⟩) R.l.length n2) := cell_of HBLK.out 2
  have q1 : w3.drew.cell? ⟨g, og + j * 4 + 1, none⟩ = some (.int .i64 R.l[j].ttl) := HSL.out.at rlenc_length j hj 1 (by decide) _ rfl
  have q2 : w3.drew.cell? ⟨g, og + j * 4 + 2, none⟩ = some (.int .i64 R.l[j].due) := HSL.out.at rlenc_length j hj 2 (by decide) _ rfl
  have hfz : w3.drew.frozen? ⟨g, og + j * 4 + 2, none⟩ = false := free_of HCUR.out _
  have hl := hlt w3.drew
  have hsl4 := (show Sl rlenc w3.drew (.slice (some ⟨g, og, none⟩) R.l.length n2) R.l from HSL.out).setCell rlenc_length j hj 2 (by decide) (.int .i64 (laterI R.now R.l[j].ttl)) (R.l[j].kept R.now) rfl
  have HSL4 := Lib.hid hsl4
  have cc0 : (w3.drew.setCell ⟨g, og + j * 4 + 2, none⟩ (.int .i64 (laterI R.now R.l[j].ttl))).cell? ⟨b, 0, none⟩ = some (.int .i64 R.now) := (World.cell?_setCell_far _ _ _ _ (Ne.symm hbg)).trans c0
  have cc2 : (w3.drew.setCell ⟨g, og + j * 4 + 2, none⟩ (.int .i64 (laterI R.now R.l[j].ttl))).cell? ⟨b, 2, none⟩ = some (.slice (some ⟨g, og, none⟩) R.l.length n2) := (World.cell?_setCell_far _ _ _ _ (Ne.symm hbg)).trans c2
  have qq1 : (w3.drew.setCell ⟨g, og + j * 4 + 2, none⟩ (.int .i64 (laterI R.now R.l[j].ttl))).cell? ⟨g, og + j * 4 + 1, none⟩ = some (.int .i64 R.l[j].ttl) := (World.cell?_setCell_other _ _ _ _ (fun e => by injection e with _ e _; omega)).trans q1
  have HPOST := Lib.hid (show IsRef F (w3.drew.setCell ⟨g, og + j * 4 + 2, none⟩ (.int .i64 (laterI R.now R.l[j].ttl))) b (R.kept j R.l[j]) ∧ Upd (fun k => k = b) w (w3.drew.setCell ⟨g, og + j * 4 + 2, none⟩ (.int .i64 (laterI R.now R.l[j].ttl))) from by
    have hu4 : Upd (fun k => k = b) w (w3.drew.setCell ⟨g, og + j * 4 + 2, none⟩ (.int .i64 (laterI R.now R.l[j].ttl))) := Upd.setCell (p := ⟨g, og + j * 4 + 2, none⟩) HU.out.drew (fun e => absurd e (by have := HG.out; simp; omega)) _
    refine ⟨{ blk := ⟨.slice (some ⟨g, og, none⟩) R.l.length n2, ?_, hsl4, fun q hq hFq => ?_⟩, ok := fun r hr => ?_, self := H.out.self }, hu4⟩
    · rw [heap_setCell_ne _ hbg]; exact HBLK.out
    · cases hq
      have h9 : g < w.heap.size := HNF.out _ hFq
      have := HG.out
      omega
    · have hup : ∀ r ∈ R.l, r.Ok F (w3.drew.setCell ⟨g, og + j * 4 + 2, none⟩ (.int .i64 (laterI R.now R.l[j].ttl))) := fun r hr => (H.out.ok r hr).upd hu4 (fun k _ e => e ▸ H.out.self)
      rcases List.mem_or_eq_of_mem_set hr with hr | rfl
      · exact hup r hr
      · exact { hup _ (List.getElem_mem hj) with })
  clear hsl4 HSL HBLK HCUR HU
  generalize laterI R.now R.l[j].ttl = due at *
  generalize httl : R.l[j].ttl = ttl at *
  have HT := Lib.hid httl
  clear httl
  generalize R.l[j].due = due0 at *
  generalize R.now = now at *
  go_region_held3 (fun w' => w'.cell? ⟨b, 0, none⟩ = some (.int .i64 now) ∧ w'.cell? ⟨b, 2, none⟩ = some (.slice (some ⟨g, og, none⟩) R.l.length n2) ∧ w'.cell? ⟨g, og + j * 4 + 1, none⟩ = some (.int .i64 ttl))
    (first | exact ⟨c0, c2, q1⟩ | exact ⟨cc0, cc2, qq1⟩)
    (first | (go_at_call 16; (with_reducible refine hl.mono ?_); rintro e5 w5 ⟨rfl, rfl⟩))
  go_wp2
  refine bodyPost_ret (v := .tuple #[.int .i64 ttl, .int .i64 0]) (by simp [results, Tryz.results21, go_sem]) rfl ⟨(congrArg (fun t => Ending.returned (.tuple #[.int .i64 t, .int .i64 0])) HT.out).symm, HPOST.out⟩

end Go.Proofs.YtcbngjlgcgcljaaGreat
