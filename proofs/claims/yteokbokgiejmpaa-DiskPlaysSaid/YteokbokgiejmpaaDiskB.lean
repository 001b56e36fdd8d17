/-
  bytes.Clone and Write.
-/
import Derived.Test.YteokbokgiejmpaaDiskA
import Derived.Test.YteokbokgiejmpaaShelf
namespace Go.Proofs.Yteokbokgiejmpaa
open Go.RowKit Go.Tb Go.MapKept Go.ChangeMaps
set_option linter.unusedVariables false

theorem u8_toNat_inj {a b : UInt8} (h : a.toNat = b.toNat) : a = b := UInt8.toNat_inj.1 h

/-- bytes.Clone: the same bytes in a block of its own. -/
theorem clone_calls (v : Value) (l : List UInt8) (w : World) (h : Bytes w v l) (hl : l.length ≤ 140737488355328) :
    Calls Try.prog 33 #[v] w fun e w' => ∃ v', e = .returned v' ∧ Bytes w' v' l ∧ (∀ b, sliceBlock v' = some b → w.heap.size ≤ b) ∧ Upd (fun _ => False) w w' ∧ (v' = .slice none 0 0 ↔ v = .slice none 0 0) ∧ w'.ownsRow w.heap.size 5 1 v' l.length (l.map u8v) := by
  rcases h with ⟨rfl, rfl⟩ | ⟨b, off, cap, rfl, hc, hb, h⟩
  · refine (Try.bytes_Clone_nil 0 0 w).mono ?_
    rintro e w' ⟨rfl, rfl⟩
    exact ⟨_, rfl, .inl ⟨rfl, rfl⟩, by simp [Value.ownBlock], Upd.refl _ _, by simp, World.ownsRow_nil _ _ _ _⟩
  · refine (Try.bytes_Clone_at ⟨b, off, none⟩ l.length cap (l.map fun x => (x.toNat : Int)) w (by simp) hl (fun i hi => ?_)).mono ?_
    · rw [show (⟨b, off, none⟩ : Addr).add i = ⟨b, off + i, none⟩ from Addr.add_lit b off i, h i hi]
      simp [List.getD, hi]
    · rintro e w' ⟨v', rfl, hown, hnn, hbel⟩
      have hu : Upd (fun _ => False) w w' := Upd.ofBelow hbel
      have hown' : w'.ownsRow w.heap.size 5 1 v' l.length (l.map u8v) := by
        have e : l.map u8v = (l.map fun x => (x.toNat : Int)).map (Value.int .u8) := by simp [Function.comp_def, u8v]
        rw [e]; exact hown
      exact ⟨v', rfl, (bytes_of_own hown').1, (bytes_of_own hown').2, hu, by simp [hnn], hown'⟩

theorem zero_dmap (w : World) : (zeroValue 29).run Try.prog w = .ok (.slice none 0 0) w := by kernel_rfl

theorem PagesAt.empty (w : World) (m : Nat) (I : Nat → Prop) (n : Nat) (h : IsMap (Value.int .i64) w m (fun _ => none) n) (hI : ∀ x, I x → x < w.heap.size) : PagesAt w m (fun _ => none) I :=
  ⟨_, n, h, hI, fun _ _ => rfl, fun k l h => by cases h⟩

/-- What is read of a map of pages. -/
theorem PagesAt.look {w : World} {m : Nat} {g : Int → Option (List UInt8)} {I : Nat → Prop} (h : PagesAt w m g I) (page : Int) :
    (g page = none ∧ (Instr.lookup 64 (.map (some m)) (.int .i64 page) true).run Try.prog w = .ok (.tuple #[.slice none 0 0, .bool false]) w) ∨
    ∃ l v, g page = some l ∧ l.length = 256 ∧ Bytes w v l ∧ (∀ b, sliceBlock v = some b → I b) ∧ (Instr.lookup 64 (.map (some m)) (.int .i64 page) true).run Try.prog w = .ok (.tuple #[v, .bool true]) w := by
  obtain ⟨f, n, h1, h0, h2, h3⟩ := h
  have hl := h1.lookup (P := Try.prog) (keyT_int .i64) Try.underlying64 Try.underlying3 (zero_dmap w) page true
  cases hg : g page with
  | none =>
    left
    rw [h2 page hg] at hl
    exact ⟨rfl, by simpa using hl⟩
  | some l =>
    right
    obtain ⟨q1, v, q2, q3, q4⟩ := h3 page l hg
    rw [q2] at hl
    exact ⟨l, v, rfl, q1, q3, q4, by simpa using hl⟩

/-- A page is stored in a map of pages. -/
theorem PagesAt.put {w : World} {m : Nat} {g : Int → Option (List UInt8)} {I : Nat → Prop} (h : PagesAt w m g I) (page : Int) {v : Value} {l : List UInt8} (hv : Bytes w v l) (hl : l.length = 256)
    (hm : ¬ I m) (hvm : ∀ b, sliceBlock v = some b → b ≠ m) (J : Nat → Prop) (hJ : ∀ b, I b → J b) (hJ2 : ∀ b, sliceBlock v = some b → J b) (hJ3 : ∀ x, J x → x < w.heap.size) :
    ∃ o, (Instr.mapUpdate 64 (.map (some m)) (.int .i64 page) v).run Try.prog w = .ok () (setBlock w m o) ∧ PagesAt (setBlock w m o) m (fun k => if k = page then some l else g k) J := by
  obtain ⟨f, n, h1, h0, h2, h3⟩ := h
  obtain ⟨w', hr, hi, o, rfl⟩ := h1.update (P := Try.prog) (keyT_int .i64) Try.underlying64 Try.underlying3 page v
  have hu : Upd (fun k => k = m) w (setBlock w m o) := upd_setBlock _ _ _ _ rfl
  refine ⟨o, hr, _, _, hi, fun x hx => Nat.lt_of_lt_of_le (hJ3 x hx) hu.size, fun k hk => ?_, fun k l' hk => ?_⟩
  · by_cases e : k = page
    · simp [e] at hk
    · simp only [if_neg e] at hk ⊢
      exact h2 k hk
  · by_cases e : k = page
    · simp only [if_pos e, Option.some.injEq] at hk ⊢
      subst hk
      exact ⟨hl, v, rfl, hv.upd hu hvm, hJ2⟩
    · simp only [if_neg e] at hk ⊢
      obtain ⟨q1, v', q2, q3, q4⟩ := h3 k l' hk
      exact ⟨q1, v', q2, q3.upd hu (fun b hb e' => hm (e' ▸ q4 b hb)), fun b hb => hJ b (q4 b hb)⟩

def DS.write (D : DS) (page : Int) (l : List UInt8) : DS := ({ D with cache := fun k => if k = page then some l else D.cache k } : DS).burn

/-- Write, where it is done. -/
theorem write_ok (b mp mc : Nat) (D : DS) (I : Nat → Prop) (page : Int) (v : Value) (l : List UInt8) (w : World) (h : IsDisk w b mp mc D I) (hv : Bytes w v l) (hl : l.length = 256) (hc : D.check page = 0) :
    Calls Try.prog 12 #[.pointer (some ⟨b, 0, none⟩), .int .i64 page, v] w fun e w' => e = .returned (.int .i64 0) ∧
      (∃ J : Nat → Prop, IsDisk w' b mp mc (D.write page l) J ∧ ∀ x, J x → I x ∨ w.heap.size ≤ x) ∧ Upd (fun k => k = b ∨ k = mc) w w' := by
  have hcheck := check_calls b _ _ _ _ page _ _ w h.blk
  rw [show (if D.dead = true then (10 : Int) else if page < 0 ∨ D.size ≤ page then 2 else 0) = 0 from hc] at hcheck
  have h2 : w.cell? ⟨b, 2, none⟩ = some (.map (some mc)) := cell_of h.blk 2
  obtain ⟨a, cap, rfl⟩ : ∃ a cap, v = .slice a 256 cap := by
    rcases hv with ⟨rfl, rfl⟩ | ⟨b', off, cap, rfl, _⟩
    · simp at hl
    · exact ⟨_, cap, by rw [hl]⟩
  have hclone := fun w1 (hw : Bytes w1 (.slice a 256 cap) l) => clone_calls _ l w1 hw (by omega)
  go_enter Try.func12, Try.ntmps12
  go_wp2_with (go_at_call 32; refine hcheck.mono ?_; rintro e w' ⟨rfl, rfl⟩)
  have hv' : Bytes w.drew (.slice a 256 cap) l := hv
  have hch' : PagesAt w.drew mc D.cache I := h.ch
  have hmcl := h.ch.lt
  have hbl := lt_of_heap h.blk
  go_region_held3 (fun w' => w'.cell? ⟨b, 2, none⟩ = some (.map (some mc))) (first | exact h2 | (exact hu1.cell h2 (fun x => x)) | (rw [cell_setBlock _ (Ne.symm h.n2)]; exact hu1.cell h2 (fun x => x)))
    (first | (go_at_call 33; refine (hclone _ hv').mono ?_; rintro e w1 ⟨v1, rfl, hv1, hf1, hu1, -⟩; obtain ⟨o, hrun, hpg⟩ := (hch'.upd hu1 (fun x => x) (fun _ _ x => x)).put page hv1 hl h.a3 (fun x hx e => absurd (hf1 x hx) (by subst e; exact Nat.not_le.2 hmcl)) (fun x => I x ∨ (w.heap.size ≤ x ∧ x < w1.heap.size)) (fun _ => .inl) (fun x hx => .inr ⟨hf1 x hx, hv1.lt hx⟩) (fun x hx => hx.elim (fun h' => Nat.lt_of_lt_of_le (hch'.bound x h') hu1.size) (fun h' => h'.2))))
  have hblk : (setBlock w1 mc o).heap[b]? = _ := (heap_setBlock_ne o (Ne.symm h.n2)).trans (hu1.heap h.blk (fun x => x))
  have hburn := burn_calls b _ _ _ _ _ _ (setBlock w1 mc o) h.f1 h.f2 hblk
  go_wp2_with (go_at_call 34; refine hburn.mono ?_; rintro e w2 ⟨rfl, hb2, hu2, hs2⟩)
  go_ret
  have hu01 : Upd (fun k => k = mc) w (setBlock w1 mc o) := (hu1.undrew.weak (fun k => k = mc)).setBlock (fun _ => rfl) o
  have hpl := h.pg.lt
  have hd : IsDisk (setBlock w1 mc o) b mp mc { D with cache := fun k => if k = page then some l else D.cache k } (fun x => I x ∨ (w.heap.size ≤ x ∧ x < w1.heap.size)) :=
    { blk := hblk, pg := (h.pg.upd hu01 h.n3 (fun x hx e => h.a3 (e ▸ hx))).wider (fun _ => .inl) (fun x hx => hpg.bound x hx), ch := hpg, n1 := h.n1, n2 := h.n2, n3 := h.n3,
      a1 := fun hx => hx.elim h.a1 (by omega), a2 := fun hx => hx.elim h.a2 (by omega), a3 := fun hx => hx.elim h.a3 (by omega), s1 := h.s1, s2 := h.s2, f1 := h.f1, f2 := h.f2 }
  exact ⟨rfl, ⟨_, hd.burned hu2 hb2, fun x hx => hx.elim .inl (fun h' => .inr h'.1)⟩, (hu01.mono (fun _ _ => .inr)).trans' hu2 (fun x _ e => .inl e)⟩

/-- Write, where it is refused. -/
theorem write_no (b mp mc : Nat) (D : DS) (I : Nat → Prop) (page : Int) (v : Value) (w : World) (h : IsDisk w b mp mc D I) (hc : D.check page ≠ 0) :
    Calls Try.prog 12 #[.pointer (some ⟨b, 0, none⟩), .int .i64 page, v] w fun e w' => e = .returned (.int .i64 (D.check page)) ∧ w = w' := by
  have hcheck := check_calls b _ _ _ _ page _ _ w h.blk
  rw [show (if D.dead = true then (10 : Int) else if page < 0 ∨ D.size ≤ page then 2 else 0) = D.check page from rfl] at hcheck
  generalize D.check page = e at *
  have he : (e != 0) = true := by simpa using hc
  go_enter Try.func12, Try.ntmps12
  go_wp2_with (go_at_call 32; refine hcheck.mono ?_; rintro e w' ⟨rfl, rfl⟩)
  go_ret
  exact ⟨rfl, rfl⟩

theorem write_nil (page : Int) (v : Value) (w : World) :
    Calls Try.prog 12 #[.pointer none, .int .i64 page, v] w fun e w' => e = .returned (.int .i64 1) ∧ w = w' := by
  have hcheck := check_nil page w
  go_enter Try.func12, Try.ntmps12
  go_wp2_with (go_at_call 32; refine hcheck.mono ?_; rintro e w' ⟨rfl, rfl⟩)
  go_ret
  exact ⟨rfl, rfl⟩

/-- Write of something that is no page. -/
theorem write_form (b mp mc : Nat) (D : DS) (I : Nat → Prop) (page : Int) (a : Option Addr) (n cap : Nat) (w : World) (h : IsDisk w b mp mc D I) (hl : n ≠ 256) (hc : D.check page = 0) :
    Calls Try.prog 12 #[.pointer (some ⟨b, 0, none⟩), .int .i64 page, .slice a n cap] w fun e w' => e = .returned (.int .i64 4) ∧ w = w' := by
  have hcheck := check_calls b _ _ _ _ page _ _ w h.blk
  rw [show (if D.dead = true then (10 : Int) else if page < 0 ∨ D.size ≤ page then 2 else 0) = 0 from hc] at hcheck
  have he : ((n : Int) != 256) = true := by simp; omega
  go_enter Try.func12, Try.ntmps12
  go_wp2_with (go_at_call 32; refine hcheck.mono ?_; rintro e w' ⟨rfl, rfl⟩)
  go_ret
  exact ⟨rfl, rfl⟩

end Go.Proofs.Yteokbokgiejmpaa
