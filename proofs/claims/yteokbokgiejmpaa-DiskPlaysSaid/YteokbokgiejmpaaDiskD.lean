/-
  maps.Copy, Sync.
-/
import Derived.Test.YteokbokgiejmpaaDiskC
namespace Go.Proofs.Yteokbokgiejmpaa
open Go.RowKit Go.Tb Go.MapKept Go.ChangeMaps
set_option linter.unusedVariables false

/-- How far a copying of maps has come. -/
def CopyRel (mp mc : Nat) (fq : Int → Option Value) (g q : Int → Option (List UInt8)) (I : Nat → Prop) (w wr : World) : Prop :=
  ∃ todo, Iter (Value.int .i64) wr w.heap.size mc fq todo ∧ (∃ g', PagesAt wr mp g' I ∧ (∀ k, k ∈ todo → g' k = g k) ∧ ∀ k, k ∉ todo → g' k = (q k).or (g k)) ∧ PagesOf wr fq q I ∧ Upd (fun k => k = mp) w wr

theorem PagesOf.at {w : World} {f : Int → Option Value} {g : Int → Option (List UInt8)} {I : Nat → Prop} (h : PagesOf w f g I) {k : Int} {v : Value} (hf : f k = some v) :
    ∃ l, g k = some l ∧ l.length = 256 ∧ Bytes w v l ∧ ∀ b, sliceBlock v = some b → I b := by
  obtain ⟨h0, h2, h3⟩ := h
  cases hg : g k with
  | none => rw [h2 k hg] at hf; cases hf
  | some l =>
    obtain ⟨q1, v', q2, q3, q4⟩ := h3 k l hg
    rw [hf] at q2
    cases q2
    exact ⟨l, rfl, q1, q3, q4⟩

set_option maxHeartbeats 400000 in
/-- maps.Copy: the entries of the one are put into the other. -/
theorem copy_calls (mp mc : Nat) (g : Int → Option (List UInt8)) (q : Int → Option (List UInt8)) (I : Nat → Prop) (w : World) (hne : mp ≠ mc) (hp : PagesAt w mp g I) (hc : PagesAt w mc q I) (hI : ¬ I mp) :
    Calls Try.prog 35 #[.map (some mp), .map (some mc)] w fun e w' => e = .returned (.tuple #[]) ∧ PagesAt w' mp (fun k => (q k).or (g k)) I ∧ Upd (fun k => k = mp) w w' := by
  obtain ⟨fq, nq, hq1, hq⟩ := hc
  obtain ⟨o, todo, hrun, hit, -, htodo⟩ := hq1.range (P := Try.prog) (keyT_int .i64) Try.underlying64
  have hlp := hp.lt
  have hlc := hq1.lt
  have hbound := hp.bound
  have hua : Upd (fun k => k = mp) w (w.alloc o) := upd_alloc _ w o
  have hstart : CopyRel mp mc fq g q I w (w.alloc o) := by
    refine ⟨todo, hit, ⟨g, hp.upd (upd_alloc (fun _ => False) w o) (fun x => x) (fun _ _ x => x), fun _ _ => rfl, fun k hk => ?_⟩, hq.upd (upd_alloc (fun _ => False) w o) (fun _ _ x => x), hua⟩
    cases hqk : q k with
    | none => rfl
    | some l => exact absurd ((htodo k).2 (by obtain ⟨_, v, hv, _⟩ := hq.2.2 k l hqk; rw [hv]; rfl)) hk
  clear hit htodo hq hp hq1
  have hb := Lib.hid hbound; clear hbound
  go_enter Try.func35, Try.ntmps35
  go_wp2
  go_loopw [] (fun wr => CopyRel mp mc fq g q I w wr) (fun wr => wr.rangeLeft mc w.heap.size)
  case atStart => exact hstart
  case round =>
    obtain ⟨todo', hit, ⟨g', hp', hg1, hg2⟩, hc', hu⟩ := hrel
    rcases hit.next (P := Try.prog) (keyT_int .i64) with ⟨rfl, hnx⟩ | ⟨k, v, t2, w1, hperm, hf, hnx, hit1, hu1, hsz, hlt, hen⟩
    · have HG := Lib.hid hg2; clear hg2 hg1
      go_wp2
      go_end0
      refine ⟨rfl, ?_, hu⟩
      have : g' = fun k => (q k).or (g k) := funext fun k => HG.out k (by simp)
      rw [← this]; exact hp'
    · have HG1 := Lib.hid hg1; clear hg1
      have HG2 := Lib.hid hg2; clear hg2
      have hpl := hp'.lt
      obtain ⟨l, hql, hl, hv, hvI⟩ := hc'.at hf
      have Hq := Lib.hid hql; clear hql hf
      have hfar : ∀ x, I x → ¬ x = w.heap.size := fun x hx e => by have := hb.out x hx; omega
      obtain ⟨o', hst, hp2⟩ := (hp'.upd hu1 (fun e => by omega) hfar).put k (hv.upd hu1 (fun x hx => hfar x (hvI x hx))) hl hI (fun x hx e => hI (e ▸ hvI x hx)) I (fun _ => id) hvI (fun x hx => Nat.lt_of_lt_of_le (hb.out x hx) (Nat.le_trans hu.size hu1.size))
      have hu2 : Upd (fun k => k = mp) w1 (setBlock w1 mp o') := upd_setBlock _ _ _ _ rfl
      have hrel2 : CopyRel mp mc fq g q I w (setBlock w1 mp o') := by
        have hnd := hperm.nodup_iff.1 hit.nodup
        refine ⟨t2, hit1.upd hu2 (Ne.symm hne) (by omega), ⟨_, hp2, fun k' hk' => ?_, fun k' hk' => ?_⟩, (hc'.upd hu1 hfar).upd hu2 (fun x hx e => hI (e ▸ hx)), (hu.trans' hu1 (fun x hx e => by omega)).trans hu2⟩
        · have h1 : k' ≠ k := fun e => (List.nodup_cons.1 hnd).1 (e ▸ hk')
          simp only [if_neg h1]
          exact HG1.out k' (hperm.mem_iff.2 (.tail _ hk'))
        · by_cases h1 : k' = k
          · subst h1; simp only [if_true]; rw [Hq.out]; rfl
          · simp only [if_neg h1]
            exact HG2.out k' (fun hm => (List.mem_cons.1 (hperm.mem_iff.1 hm)).elim h1 hk')
      have hmeas : (setBlock w1 mp o').rangeLeft mc w.heap.size < wr.rangeLeft mc w.heap.size := by
        rw [rangeLeft_upd hit1 hu2 (Ne.symm hne) (by omega)]; exact hlt
      clear hit hp' hc' hperm hit1 hp2
      go_wp2
      go_roundw
      case rel => exact hrel2
      case measure => exact hmeas

def DS.sync (D : DS) : DS := ({ D with pages := fun k => (D.cache k).or (D.pages k), cache := fun _ => none } : DS).burn

theorem sync_ok (b mp mc : Nat) (D : DS) (I : Nat → Prop) (w : World) (h : IsDisk w b mp mc D I) (hc : D.dead = false) :
    Calls Try.prog 14 #[.pointer (some ⟨b, 0, none⟩)] w fun e w' => e = .returned (.int .i64 0) ∧ IsDisk w' b mp mc D.sync I ∧ Upd (fun k => k = b ∨ k = mp ∨ k = mc) w w' := by
  have hcheck := check_calls b _ _ _ _ 0 _ _ w h.blk
  have h8 := h.s1
  rw [show (if D.dead = true then (10 : Int) else if (0 : Int) < 0 ∨ D.size ≤ 0 then 2 else 0) = 0 by rw [hc, if_neg (by decide), if_neg (by omega)]] at hcheck
  have h1 : w.cell? ⟨b, 1, none⟩ = some (.map (some mp)) := cell_of h.blk 1
  have h2 : w.cell? ⟨b, 2, none⟩ = some (.map (some mc)) := cell_of h.blk 2
  have hcopy := copy_calls mp mc D.pages D.cache I w.drew h.n3 h.pg h.ch h.a2
  go_enter Try.func14, Try.ntmps14
  go_wp2_with (go_at_call 32; refine hcheck.mono ?_; rintro e w' ⟨rfl, rfl⟩)
  go_region_held3 (fun w' => w'.cell? ⟨b, 1, none⟩ = some (.map (some mp)) ∧ w'.cell? ⟨b, 2, none⟩ = some (.map (some mc))) (first | exact ⟨h1, h2⟩ | exact ⟨hu1.cell h1 (Ne.symm h.n1), hu1.cell h2 (Ne.symm h.n1)⟩)
    (first | (go_at_call 35; refine hcopy.mono ?_; rintro e w1 ⟨rfl, hp1, hu1⟩))
  have hu1' : Upd (fun k => k = mp) w w1 := hu1.undrew
  have hch1 := h.ch.upd hu1' (fun e => h.n3 e.symm) (fun x hx e => h.a2 (e ▸ hx))
  obtain ⟨fq, nq, hq1, hq⟩ := hch1
  obtain ⟨o, hclr, hq2⟩ := hq1.clear (P := Try.prog) Try.underlying64 0
  have hclr' : ∀ ty, (Builtin.clear_ #[64] ty #[.map (some mc)]).run Try.prog w1 = .ok (.tuple #[]) (setBlock w1 mc o) := fun ty => hclr
  have h2' : w1.cell? ⟨b, 2, none⟩ = some (.map (some mc)) := hu1'.cell h2 (Ne.symm h.n1)
  have hblk : (setBlock w1 mc o).heap[b]? = _ := (heap_setBlock_ne o (Ne.symm h.n2)).trans (hu1'.heap h.blk (Ne.symm h.n1))
  have hburn := burn_calls b _ _ _ _ _ _ (setBlock w1 mc o) h.f1 h.f2 hblk
  have hu2 : Upd (fun k => k = mc) w1 (setBlock w1 mc o) := upd_setBlock _ _ _ _ rfl
  have hd : IsDisk (setBlock w1 mc o) b mp mc { D with pages := fun k => (D.cache k).or (D.pages k), cache := fun _ => none } I :=
    { blk := hblk, pg := hp1.upd hu2 h.n3 (fun x hx e => h.a3 (e ▸ hx)), ch := .empty _ _ _ _ hq2 (fun x hx => Nat.lt_of_lt_of_le (h.pg.bound x hx) (Nat.le_trans hu1'.size hu2.size)), n1 := h.n1, n2 := h.n2, n3 := h.n3, a1 := h.a1, a2 := h.a2, a3 := h.a3, s1 := h.s1, s2 := h.s2, f1 := h.f1, f2 := h.f2 }
  clear hq1 hq hclr hq2 hp1
  go_wp2_with (go_at_call 34; refine hburn.mono ?_; rintro e w2 ⟨rfl, hb2, hu3, hs3⟩)
  go_ret
  exact ⟨rfl, hd.burned hu3 hb2, ((hu1'.seq hu2 (fun k => k = mp ∨ k = mc) (fun _ _ => .inl) (fun _ _ => .inr)).seq hu3 _ (fun _ _ => .inr) (fun _ _ => .inl))⟩

theorem sync_dead (b mp mc : Nat) (D : DS) (I : Nat → Prop) (w : World) (h : IsDisk w b mp mc D I) (hc : D.dead = true) :
    Calls Try.prog 14 #[.pointer (some ⟨b, 0, none⟩)] w fun e w' => e = .returned (.int .i64 10) ∧ w = w' := by
  have hcheck := check_calls b _ _ _ _ 0 _ _ w h.blk
  rw [show (if D.dead = true then (10 : Int) else if (0 : Int) < 0 ∨ D.size ≤ 0 then 2 else 0) = 10 by rw [if_pos hc]] at hcheck
  go_enter Try.func14, Try.ntmps14
  go_wp2_with (go_at_call 32; refine hcheck.mono ?_; rintro e w' ⟨rfl, rfl⟩)
  go_ret
  exact ⟨rfl, rfl⟩

end Go.Proofs.Yteokbokgiejmpaa
