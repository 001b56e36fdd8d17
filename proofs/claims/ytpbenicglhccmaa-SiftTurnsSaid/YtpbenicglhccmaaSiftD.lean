/-
  Records, sorted by a query.
-/
import Derived.Test.YtpbenicglhccmaaSiftC
import Derived.Test.YtpbenicglhccmaaSortK
import Derived.Shelf.SlSortCmp.NoneTotal
namespace Go.Proofs.Ytpbenicglhccmaa
open Go.RowKit Go.Tb Go.MapKept Go.ChangeMaps Go.Lib Go.Sort Go.Shelf
set_option linter.unusedVariables false

theorem aggKV (w : World) : (isAgg 37).run Try.prog w = .ok true w := by kernel_rfl
theorem sizeKV (w : World) : (Go.sizeOf 37).run Try.prog w = .ok 6 w := by kernel_rfl

/-! the order is one -/
def cmp1 (s : Int) (a b : KV) : Int := if s = 1 then compareInt a.version b.version else if s = 2 then compareInt a.create b.create else if s = 3 then compareInt a.mod b.mod else if s = 4 then compareBytes a.val b.val else 0
theorem cmpQ_eq (s : Int) (a b : KV) : cmpQ s a b = orI (cmp1 s a b) (compareBytes a.key b.key) := rfl
theorem cmp1_cases (s : Int) : (∃ f : KV → Int, ∀ a b, cmp1 s a b = compareInt (f a) (f b)) ∨ (∃ f : KV → List UInt8, ∀ a b, cmp1 s a b = compareBytes (f a) (f b)) ∨ ∀ a b, cmp1 s a b = 0 := by
  unfold cmp1
  by_cases h1 : s = 1
  · exact .inl ⟨fun x => x.version, fun a b => if_pos h1⟩
  · by_cases h2 : s = 2
    · exact .inl ⟨fun x => x.create, fun a b => by rw [if_neg h1, if_pos h2]⟩
    · by_cases h3 : s = 3
      · exact .inl ⟨fun x => x.mod, fun a b => by rw [if_neg h1, if_neg h2, if_pos h3]⟩
      · by_cases h4 : s = 4
        · exact .inr (.inl ⟨fun x => x.val, fun a b => by rw [if_neg h1, if_neg h2, if_neg h3, if_pos h4]⟩)
        · exact .inr (.inr fun a b => by rw [if_neg h1, if_neg h2, if_neg h3, if_neg h4])
theorem cmp1_swap (s : Int) (a b : KV) : cmp1 s b a = - cmp1 s a b := by
  rcases cmp1_cases s with ⟨f, h⟩ | ⟨f, h⟩ | h
  · rw [h, h]; exact compareInt_swap _ _
  · rw [h, h]; exact cmpB_swap _ _
  · rw [h, h]; rfl
theorem cmp1_trans (s : Int) {a b c : KV} (h : cmp1 s a b < 0) (k : cmp1 s b c < 0) : cmp1 s a c < 0 := by
  rcases cmp1_cases s with ⟨f, e⟩ | ⟨f, e⟩ | e
  · rw [e, compareInt_neg] at *; omega
  · rw [e] at *; exact ltB_trans h k
  · rw [e] at h; omega
theorem cmp1_alike (s : Int) {a b : KV} (c : KV) (h : cmp1 s a b = 0) : cmp1 s a c = cmp1 s b c := by
  rcases cmp1_cases s with ⟨f, e⟩ | ⟨f, e⟩ | e
  · rw [e, compareInt_zero] at h; rw [e, e, h]
  · rw [e, cmpB_zero] at h; rw [e, e, h]
  · rw [e, e]
theorem cmp1_alike' (s : Int) {a b : KV} (c : KV) (h : cmp1 s a b = 0) : cmp1 s c a = cmp1 s c b := by rw [cmp1_swap s a c, cmp1_swap s b c, cmp1_alike s c h]

theorem cmpQ_swap (s : Int) (a b : KV) : cmpQ s b a = - cmpQ s a b := by
  rw [cmpQ_eq, cmpQ_eq, cmp1_swap s a b, cmpB_swap a.key b.key]
  unfold orI
  by_cases h : cmp1 s a b = 0
  · rw [h]; simp
  · rw [if_neg h, if_neg (by omega)]
theorem cmpQ_self (s : Int) (a : KV) : cmpQ s a a = 0 := by have := cmpQ_swap s a a; omega
/-- Less, by a sort. -/
theorem cmpQ_neg (s : Int) (a b : KV) : cmpQ s a b < 0 ↔ (cmp1 s a b < 0 ∨ (cmp1 s a b = 0 ∧ ltB a.key b.key)) := by
  rw [cmpQ_eq]
  unfold orI ltB
  split <;> omega
theorem cmpQ_trans (s : Int) {a b c : KV} (h : cmpQ s a b < 0) (k : cmpQ s b c < 0) : cmpQ s a c < 0 := by
  rw [cmpQ_neg] at *
  rcases h with h | ⟨h, h'⟩
  · rcases k with k | ⟨k, k'⟩
    · exact .inl (cmp1_trans s h k)
    · exact .inl (by rw [← cmp1_alike' s a k]; exact h)
  · rcases k with k | ⟨k, k'⟩
    · exact .inl (by rw [cmp1_alike s c h]; exact k)
    · exact .inr ⟨by rw [cmp1_alike s c h]; exact k, ltB_trans h' k'⟩
theorem cmpQ_zero (s : Int) {a b : KV} (h : cmpQ s a b = 0) : cmp1 s a b = 0 ∧ a.key = b.key := by
  rw [cmpQ_eq] at h
  unfold orI at h
  split at h
  · exact ⟨by assumption, (cmpB_zero _ _).1 h⟩
  · exact absurd h (by assumption)
theorem cmpQ_alike (s : Int) {a b : KV} (c : KV) (h : cmpQ s a b = 0) : cmpQ s a c = cmpQ s b c := by
  obtain ⟨h1, h2⟩ := cmpQ_zero s h
  rw [cmpQ_eq, cmpQ_eq, cmp1_alike s c h1, h2]
theorem cmpQ_alike' (s : Int) {a b : KV} (c : KV) (h : cmpQ s a b = 0) : cmpQ s c a = cmpQ s c b := by rw [cmpQ_swap s a c, cmpQ_swap s b c, cmpQ_alike s c h]
theorem cmpD_swap (q : Qr) (a b : KV) : cmpD q b a = - cmpD q a b := by unfold cmpD; split <;> exact cmpQ_swap _ _ _
theorem cmpD_self (q : Qr) (a : KV) : cmpD q a a = 0 := by have := cmpD_swap q a a; omega
theorem cmpD_trans (q : Qr) {a b c : KV} (h : cmpD q a b < 0) (k : cmpD q b c < 0) : cmpD q a c < 0 := by
  unfold cmpD at *
  by_cases hd : q.desc = true
  · rw [if_pos hd] at *; exact cmpQ_trans _ k h
  · rw [if_neg hd] at *; exact cmpQ_trans _ h k
theorem cmpD_zero (q : Qr) {a b : KV} (h : cmpD q a b = 0) : a.key = b.key := by
  unfold cmpD at h
  split at h
  · exact (cmpQ_zero _ h).2.symm
  · exact (cmpQ_zero _ h).2
theorem cmpD_alike (q : Qr) {a b : KV} (c : KV) (h : cmpD q a b = 0) : cmpD q a c = cmpD q b c := by
  unfold cmpD at *
  by_cases hd : q.desc = true
  · rw [if_pos hd] at h ⊢
    rw [if_pos hd]
    exact (cmpQ_alike' _ c h).symm
  · rw [if_neg hd] at h ⊢
    rw [if_neg hd]
    exact cmpQ_alike _ c h
/-- 'Less' as the library asks it. -/
theorem swoD (q : Qr) {β : Type} (f : β → KV) : SWO (ltOf fun x y : β => cmpD q (f x) (f y)) where
  irrefl x := by simp only [ltOf, cmpD_self]; decide
  trans x y z h1 h2 := by
    simp only [ltOf, decide_eq_true_eq] at *
    exact cmpD_trans q h1 h2
  ntrans x y z h1 h2 := by
    simp only [ltOf, decide_eq_false_iff_not] at *
    intro h3
    by_cases e : cmpD q (f x) (f y) = 0
    · have := cmpD_swap q (f x) (f y)
      exact h2 (by rw [← cmpD_alike q _ e]; exact h3)
    · have e1 : cmpD q (f y) (f x) < 0 := by have := cmpD_swap q (f x) (f y); omega
      exact h2 (cmpD_trans q e1 h3)

/-- A record that reads in a world. -/
abbrev KvIn (w : World) (I : Nat → Prop) : Type := { p : KvP // p.Ok w I }
def inenc {w : World} {I : Nat → Prop} (p : KvIn w I) : List Value := kvenc p.1
instance {w : World} {I : Nat → Prop} : Inhabited (KvIn w I) := ⟨⟨⟨⟨[], [], 0, 0, 0, 0⟩, ⟨none, 0, 0⟩, ⟨none, 0, 0⟩⟩, .inl (.inl ⟨rfl, rfl⟩), .inl (.inl ⟨rfl, rfl⟩), fun b h => (by cases h), fun b h => (by cases h)⟩⟩

theorem heap_sortWorldK {α : Type} [Inhabited α] {enc : α → List Value} {k : Nat} {w : World} {blk off m : Nat} {dk : Array α} {os : Array Obj} {cur : Array Value} {t : TypeId} {f : Nat × Nat} (h : w.heap[blk]? = some (.cells cur t f)) :
    ∃ cur' : Array Value, (sortWorldK enc k w blk off m dk os).heap[blk]? = some (.cells cur' t f) ∧ cur'.size = cur.size := by
  have hb := lt_of_heap h
  have e : (sortWorldK enc k w blk off m dk os).heap[blk]? = (mapBlock (Sort.ahead w m) blk (putCells id off (flatK enc k dk))).heap[blk]? := by
    unfold sortWorldK
    simp only [Sort.grow]
    rw [Array.getElem?_append_left (by simp [putRowK, putRow, mapBlock, Sort.ahead, hb])]
    rfl
  rw [e]
  simp only [mapBlock, Sort.ahead, Array.getElem?_modify, if_pos, h, Option.map_some, onCells]
  exact ⟨_, rfl, by simp [putCells]⟩

set_option maxRecDepth 100000 in
theorem sortkv_calls (base qb : Nat) (k e : Value) (q : Qr) (v : Value) (ps : List KvP) (I : Nat → Prop) (w : World) (hown : w.ownsRow base 37 6 v ps.length (ps.flatMap kvenc)) (hps : ∀ p ∈ ps, p.Ok w I)
    (hI : ∀ b, sliceBlock v = some b → ¬ I b) (hq : w.heap[qb]? = some (.cells (qcells k e q) 24 (0, 0))) (hne : sliceBlock v ≠ some qb) (hbig : ps.length ≤ 1000000) :
    Calls Try.prog 17 #[v, .func (.func 18) #[] #[.pointer (some ⟨qb, 0, none⟩)]] w fun e w' => e = .returned (.tuple #[]) ∧ ∃ qs : List KvP, qs.Perm ps ∧ qs.Pairwise (fun a b => ¬ cmpD q b.x a.x < 0) ∧
      w'.ownsRow base 37 6 v qs.length (qs.flatMap kvenc) ∧ (∀ p ∈ qs, p.Ok w' I) ∧ Upd (fun b => sliceBlock v = some b) w w' := by
  rcases hown.2 with ⟨rfl, h0⟩ | ⟨g, cap, cur, rfl, hg, hh, hnc, hm, hs, htake⟩
  · have hp0 : ps = [] := List.eq_nil_of_length_eq_zero h0
    subst hp0
    refine (AnyF.slices_SortFunc_none Try.laysSortKV none 0 _ w).mono ?_
    rintro e' w' ⟨rfl, rfl⟩
    exact ⟨rfl, [], List.Perm.refl _, List.Pairwise.nil, hown, (fun p hp => by cases hp), Upd.refl _ _⟩
  · have hgI : ¬ I g := hI g rfl
    have hqg : qb ≠ g := fun e => hne (by rw [e]; rfl)
    -- the row as an array of records that read
    have hlift : ∀ l : List KvP, (∀ p ∈ l, p.Ok w I) → ∃ d : List (KvIn w I), d.map Subtype.val = l := by
      intro l
      induction l with
      | nil => exact fun _ => ⟨[], rfl⟩
      | cons a r ih =>
        intro h
        obtain ⟨d, hd⟩ := ih (fun p hp => h p (.tail _ hp))
        exact ⟨⟨a, h a (.head _)⟩ :: d, by simp [hd]⟩
    obtain ⟨d, hd⟩ := hlift ps hps
    have hdl : d.length = ps.length := by rw [← hd]; simp
    have hflat : d.flatMap inenc = ps.flatMap kvenc := by rw [← hd, List.flatMap_map]; rfl
    have hlen6 : ∀ x : KvIn w I, (inenc x).length = 6 := fun _ => rfl
    have hcells : CellsAt w g 0 (d.toArray.toList.flatMap inenc) := by
      intro j u hj
      rw [List.toList_toArray, hflat] at hj
      rw [cell_of hh, Nat.zero_add]
      have hlt : j < ps.length * 6 := by
        have := (List.getElem?_eq_some_iff.1 hj).1
        rw [flat_length kvenc_length] at this; exact this
      rw [← htake, List.getElem?_take, if_pos hlt] at hj
      simpa using hj
    have hH : HoldsK inenc 6 w g 0 d.toArray := holdsK_of hlen6 hcells (fun j hj => free_of hh _)
    have hcmp : CmpLays Try.prog 18 #[.pointer (some ⟨qb, 0, none⟩)] inenc 6 (fun x y : KvIn w I => cmpD q x.1.x y.1.x) g 0 d.toArray.size w := by
      intro m os dk hdk x y
      have hu : Upd (fun b => b = g) w (sortWorldK inenc 6 w g 0 m dk os) := upd_sortWorldK w g 0 m dk os
      refine (clos_calls qb k e q x.1 y.1 I I _ (hu.heap hq hqg) (x.2.upd hu (fun b hb e => hgI (e ▸ hb))) (y.2.upd hu (fun b hb e => hgI (e ▸ hb)))).mono ?_
      rintro e' w' ⟨rfl, hu', hd'⟩
      exact ⟨rfl, grows_of hu' hd'⟩
    have hc := AnyQ.slices_SortFunc Try.laysSortKV 6 aggKV sizeKV inenc hlen6 (fun x u hu => kvenc_one x.1 u hu) _ (swoD q fun x : KvIn w I => x.1.x) 18 #[.pointer (some ⟨qb, 0, none⟩)] g 0 cap d.toArray w (enters_of Try.func18 (by kernel_rfl) rfl) hcmp hH (lt_of_heap hh) (by simp; omega)
    change Calls Try.prog 17 _ _ _ at hc
    rw [show d.toArray.size = ps.length by simp [hdl]] at hc
    refine hc.mono ?_
    rintro e' w' ⟨rfl, d', n, os, hp, hsrt, rfl⟩
    have hsz : d.toArray.size = ps.length := by simp [hdl]
    have hp' : PermIn 0 d.toArray.size d.toArray d' := by rw [hsz]; exact hp
    obtain ⟨hperm, hsz'⟩ := perm_of_permIn hp'
    rw [List.toList_toArray] at hperm
    have hu : Upd (fun b => b = g) w (sortWorldK inenc 6 w g 0 n d' os) := upd_sortWorldK w g 0 n d' os
    have hH' := holdsK_sortWorldK_c (enc := inenc) (k := 6) (w := w) (blk := g) (off := 0) d.toArray d' n os hH (lt_of_heap hh) hsz'
    obtain ⟨cur', hh', hs'⟩ := heap_sortWorldK (enc := inenc) (k := 6) (off := 0) (m := n) (dk := d') (os := os) hh
    have hqp : (d'.toList.map Subtype.val).Perm ps := by rw [← hd]; exact hperm.map _
    have hql : (d'.toList.map Subtype.val).length = ps.length := hqp.length_eq
    have hqf : (d'.toList.map Subtype.val).flatMap kvenc = d'.toList.flatMap inenc := by rw [List.flatMap_map]; rfl
    refine ⟨rfl, d'.toList.map Subtype.val, hqp, ?_, ?_, ?_, hu.mono (fun b _ e => by subst e; rfl)⟩
    · rw [List.pairwise_map, List.pairwise_iff_getElem]
      intro i j hi hj hij
      have hn : d'.size = ps.length := by rw [hsz', hsz]
      have := hsrt i j (Nat.zero_le _) hij (by rw [← hn]; simpa using hj)
      simp only [ltOf, decide_eq_false_iff_not] at this
      rw [getElem!_pos d' i (by simpa using hi), getElem!_pos d' j (by simpa using hj)] at this
      simpa using this
    · refine ⟨by rw [flat_length kvenc_length], .inr ⟨g, cap, cur', by rw [hql], hg, hh', by rw [hql]; exact hnc, hm, by rw [hs']; exact hs, ?_⟩⟩
      rw [hqf]
      have hc' := cells_of_holdsK hlen6 hH'
      have hfl : (d'.toList.flatMap inenc).length = ps.length * 6 := by rw [flat_length hlen6]; simp [hsz', hdl]
      apply List.ext_getElem?
      intro i
      rw [hql, List.getElem?_take]
      by_cases hi : i < ps.length * 6
      · rw [if_pos hi]
        have h1 := hc' i _ (List.getElem?_eq_getElem (by omega))
        rw [cell_of hh', Nat.zero_add] at h1
        have hcl : cur'.toList.length = cap * 6 := by rw [Array.length_toList, hs', hs]
        rw [List.getElem?_eq_getElem (show i < (d'.toList.flatMap inenc).length by omega), ← h1]
        simp
      · rw [if_neg hi, List.getElem?_eq_none (by omega)]
    · intro p hp
      obtain ⟨x, hx, rfl⟩ := List.mem_map.1 hp
      exact x.2.upd hu (fun b hb e => hgI (e ▸ hb))

end Go.Proofs.Ytpbenicglhccmaa
