/-
  Plain lemmas on worlds, byte slices and maps (no program in sight).
-/
import Derived.WalkKit
import Derived.Handy
import Derived.WalkLawsBesides
import Derived.WalkSpells
import Derived.MapKept
import Derived.ChangeMaps4
import Derived.Maps.RangeRun
import Derived.Maps.Range
import Derived.Lib.Hide
namespace Go.Tb
open Go.RowKit Go.MapKept Go.ChangeMaps
set_option linter.unusedVariables false

/-- Of what was there in `w` nothing has turned in `w'` but blocks of `S`. -/
structure Upd (S : Nat → Prop) (w w' : World) : Prop where
  os : w'.os = w.os
  tape : w'.tape = w.tape
  output : w'.output = w.output
  size : w.heap.size ≤ w'.heap.size
  block : ∀ k, k < w.heap.size → ¬ S k → w'.heap[k]? = w.heap[k]?

theorem Upd.refl (S : Nat → Prop) (w : World) : Upd S w w := ⟨rfl, rfl, rfl, Nat.le_refl _, fun _ _ _ => rfl⟩
theorem Upd.mono {S T : Nat → Prop} {w w' : World} (h : Upd S w w') (hs : ∀ k, k < w.heap.size → S k → T k) : Upd T w w' :=
  ⟨h.os, h.tape, h.output, h.size, fun k hk hn => h.block k hk (fun hS => hn (hs k hk hS))⟩
/-- Two steps, the second of which may write what is new besides. -/
theorem Upd.trans' {S T : Nat → Prop} {a b c : World} (h : Upd S a b) (k : Upd T b c) (hT : ∀ x, x < a.heap.size → T x → S x) : Upd S a c :=
  ⟨k.os.trans h.os, k.tape.trans h.tape, k.output.trans h.output, Nat.le_trans h.size k.size, fun x hx hn =>
    (k.block x (Nat.lt_of_lt_of_le hx h.size) (fun hx' => hn (hT x hx hx'))).trans (h.block x hx hn)⟩
/-- Two steps, each of which writes in `R` or what is new. -/
theorem Upd.seq {S T : Nat → Prop} {a b c : World} (h : Upd S a b) (k : Upd T b c) (R : Nat → Prop) (hS : ∀ x, x < a.heap.size → S x → R x) (hT : ∀ x, x < a.heap.size → T x → R x) : Upd R a c :=
  (h.mono hS).trans' k hT
theorem Upd.trans {S : Nat → Prop} {a b c : World} (h : Upd S a b) (k : Upd S b c) : Upd S a c := h.trans' k (fun _ _ => id)
theorem Upd.drew {S : Nat → Prop} {a w : World} (h : Upd S a w) : Upd S a w.drew := ⟨h.os, h.tape, h.output, h.size, h.block⟩
theorem Upd.ofDrew {S : Nat → Prop} {a w : World} (h : Upd S a w.drew) : Upd S a w := ⟨h.os, h.tape, h.output, h.size, h.block⟩
theorem Upd.undrew {S : Nat → Prop} {a w : World} (h : Upd S a.drew w) : Upd S a w := ⟨h.os, h.tape, h.output, h.size, h.block⟩
theorem upd_alloc (S : Nat → Prop) (w : World) (o : Obj) : Upd S w (w.alloc o) :=
  ⟨rfl, rfl, rfl, by simp, fun k hk _ => Below.heap_alloc _ _ _ hk⟩
theorem upd_setCell (S : Nat → Prop) (w : World) (a : Addr) (v : Value) (h : S a.block) : Upd S w (w.setCell a v) :=
  ⟨rfl, rfl, rfl, by simp, fun k _ hn => Below.heap_setCell _ _ _ _ (fun e => hn (e ▸ h))⟩
theorem Upd.alloc {S : Nat → Prop} {a w : World} (h : Upd S a w) (o : Obj) : Upd S a (w.alloc o) := h.trans (upd_alloc S w o)
theorem Upd.setCell {S : Nat → Prop} {a w : World} (h : Upd S a w) {p : Addr} (hp : p.block < a.heap.size → S p.block) (u : Value) : Upd S a (w.setCell p u) :=
  h.trans' (upd_setCell (fun k => k = p.block) w p u rfl) (fun x hx e => by subst e; exact hp hx)
theorem upd_setBlock (S : Nat → Prop) (w : World) (b : Nat) (o : Obj) (h : S b) : Upd S w (setBlock w b o) :=
  ⟨rfl, rfl, rfl, by simp [setBlock], fun k _ hn => by
    simp only [setBlock]
    exact Array.getElem?_setIfInBounds_ne (fun e => hn (by rw [← e]; exact h))⟩
theorem Upd.setBlock {S : Nat → Prop} {a w : World} (h : Upd S a w) {b : Nat} (hp : b < a.heap.size → S b) (o : Obj) : Upd S a (setBlock w b o) :=
  h.trans' (upd_setBlock (fun k => k = b) w b o rfl) (fun x hx e => by subst e; exact hp hx)
theorem Upd.ofBelow {S : Nat → Prop} {w w' : World} (h : Below w.heap.size w w') : Upd S w w' := ⟨h.os, h.tape, h.output, h.size, fun k hk _ => h.block k hk⟩
theorem Upd.below {w w' : World} (h : Upd (fun _ => False) w w') : Below w.heap.size w w' := ⟨h.os, h.tape, h.output, h.size, fun k hk => h.block k hk (fun x => x)⟩
theorem Upd.cell {S : Nat → Prop} {w w' : World} (h : Upd S w w') {a : Addr} {v : Value} (hv : w.cell? a = some v) (hn : ¬ S a.block) : w'.cell? a = some v := by
  rw [World.cell?_of_block (w := w) (h.block a.block (World.block_lt_of_cell? w a hv) hn)]; exact hv
theorem Upd.heap {S : Nat → Prop} {w w' : World} (h : Upd S w w') {b : Nat} {o : Obj} (hv : w.heap[b]? = some o) (hn : ¬ S b) : w'.heap[b]? = some o := by
  rw [h.block b (Array.getElem?_eq_some_iff.1 hv).1 hn]; exact hv

theorem Upd.weak {w w' : World} (h : Upd (fun _ => False) w w') (S : Nat → Prop) : Upd S w w' := h.mono (fun _ _ x => x.elim)

theorem lt_of_heap {w : World} {b : Nat} {o : Obj} (h : w.heap[b]? = some o) : b < w.heap.size := (Array.getElem?_eq_some_iff.1 h).1

/-- One cell of a block that is known whole. -/
theorem cell_of {w : World} {b : Nat} {c : Array Value} {t : TypeId} {f : Nat × Nat} (h : w.heap[b]? = some (.cells c t f)) (i : Nat) : w.cell? ⟨b, i, none⟩ = c[i]? := by
  simp [World.cell?, h]
theorem free_of {w : World} {b : Nat} {c : Array Value} {t : TypeId} (h : w.heap[b]? = some (.cells c t (0, 0))) (i : Nat) : w.frozen? ⟨b, i, none⟩ = false := by
  simp [World.frozen?, h]
theorem heap_setCell_at {w : World} {b : Nat} {c : Array Value} {t : TypeId} {f : Nat × Nat} (h : w.heap[b]? = some (.cells c t f)) (i : Nat) (v : Value) :
    (w.setCell ⟨b, i, none⟩ v).heap[b]? = some (.cells (c.setIfInBounds i v) t f) := by
  simp [World.setCell, Array.getElem?_modify, h]
theorem heap_setCell_ne {w : World} {b : Nat} {a : Addr} (v : Value) (h : b ≠ a.block) : (w.setCell a v).heap[b]? = w.heap[b]? := Below.heap_setCell _ _ _ _ h

/-! ### bytes -/

/-- `v` is a slice of bytes that reads as `l`. -/
def Bytes (w : World) (v : Value) (l : List UInt8) : Prop :=
  (v = .slice none 0 0 ∧ l = []) ∨
  ∃ b off cap, v = .slice (some ⟨b, off, none⟩) l.length cap ∧ l.length ≤ cap ∧ b < w.heap.size ∧ ∀ i (h : i < l.length), w.cell? ⟨b, off + i, none⟩ = some (.int .u8 (l[i].toNat : Int))

abbrev sliceBlock : Value → Option Nat := Value.ownBlock

theorem Bytes.upd {S : Nat → Prop} {w w' : World} {v : Value} {l : List UInt8} (h : Bytes w v l) (hu : Upd S w w') (hn : ∀ b, sliceBlock v = some b → ¬ S b) : Bytes w' v l := by
  rcases h with h | ⟨b, off, cap, rfl, hc, hb, h⟩
  · exact .inl h
  · exact .inr ⟨b, off, cap, rfl, hc, Nat.lt_of_lt_of_le hb hu.size, fun i hi => hu.cell (h i hi) (hn b rfl)⟩
theorem Bytes.lt {w : World} {v : Value} {l : List UInt8} (h : Bytes w v l) {b : Nat} (hb : sliceBlock v = some b) : b < w.heap.size := by
  rcases h with ⟨rfl, _⟩ | ⟨b', off, cap, rfl, hc, hl, h⟩
  · cases hb
  · cases hb; exact hl


/-! ### maps -/

/-- How keys are made: `mk a` is a key of a type that is described by `d`. -/
structure KeyT {α : Type} (d : TypeDesc) (mk : α → Value) : Prop where
  isKey : ∀ a, IsKey d (mk a)
  inj : ∀ a b, mk a = mk b → a = b

theorem keyT_int (q : IntKind) : KeyT (.int q) (Value.int q) := ⟨fun _ => rfl, fun a b h => by cases h; rfl⟩
theorem keyT_string : KeyT .string Value.string := ⟨fun _ => trivial, fun a b h => by cases h; rfl⟩

/-- What entries tell. -/
structure MapOk {α : Type} (mk : α → Value) (es : Array MapEntry) (clock : Nat) (f : α → Option Value) (n : Nat) : Prop where
  st : Stamped es clock
  keys : ∀ x ∈ es.toList, ∃ a, x.key = mk a
  tells : ∀ a v, f a = some v ↔ ∃ e ∈ es.toList, e.key = mk a ∧ e.val = v
  size : es.size = n

/-- Block `m` is a map that tells `f`, of `n` keys. -/
def IsMap {α : Type} (mk : α → Value) (w : World) (m : Nat) (f : α → Option Value) (n : Nat) : Prop :=
  ∃ es clock, w.heap[m]? = some (.map es clock) ∧ MapOk mk es clock f n

theorem IsMap.lt {α : Type} {mk : α → Value} {w : World} {m : Nat} {f : α → Option Value} {n : Nat} (h : IsMap mk w m f n) : m < w.heap.size := by
  obtain ⟨es, c, h, _⟩ := h; exact lt_of_heap h
theorem IsMap.upd {α : Type} {mk : α → Value} {w w' : World} {m : Nat} {f : α → Option Value} {n : Nat} {S : Nat → Prop} (h : IsMap mk w m f n) (hu : Upd S w w') (hn : ¬ S m) : IsMap mk w' m f n := by
  obtain ⟨es, c, h, k⟩ := h; exact ⟨es, c, hu.heap h hn, k⟩

section
variable {α : Type} {d : TypeDesc} {mk : α → Value} {es : Array MapEntry} {clock n : Nat} {f : α → Option Value}

theorem nodup_keys {l : List MapEntry} (h : (l.map (·.key)).Nodup) {x y : MapEntry} (hx : x ∈ l) (hy : y ∈ l) (e : x.key = y.key) : x = y := by
  have hp : l.Pairwise (fun x y => x.key ≠ y.key) := by simpa [List.Nodup, List.pairwise_map] using h
  induction l with
  | nil => cases hx
  | cons a r ih =>
    obtain ⟨h1, h2⟩ := List.pairwise_cons.1 hp
    rcases List.mem_cons.1 hx with rfl | hx' <;> rcases List.mem_cons.1 hy with rfl | hy'
    · rfl
    · exact absurd e (h1 y hy')
    · exact absurd e.symm (h1 x hx')
    · exact ih (by simpa [List.Nodup, List.pairwise_map] using h2) hx' hy' h2

theorem nodup_born {l : List MapEntry} (h : (l.map (·.born)).Nodup) {x y : MapEntry} (hx : x ∈ l) (hy : y ∈ l) (e : x ≠ y) : x.born ≠ y.born := by
  have hp : l.Pairwise (fun x y => x.born ≠ y.born) := by simpa [List.Nodup, List.pairwise_map] using h
  induction l with
  | nil => cases hx
  | cons a r ih =>
    obtain ⟨h1, h2⟩ := List.pairwise_cons.1 hp
    rcases List.mem_cons.1 hx with rfl | hx' <;> rcases List.mem_cons.1 hy with rfl | hy'
    · exact absurd rfl e
    · exact h1 y hy'
    · exact (h1 x hx').symm
    · exact ih (by simpa [List.Nodup, List.pairwise_map] using h2) hx' hy' h2

theorem MapOk.isKeys (h : MapOk mk es clock f n) (K : KeyT d mk) : ∀ x ∈ es.toList, IsKey d x.key := fun x hx => by
  obtain ⟨a, ha⟩ := h.keys x hx; rw [ha]; exact K.isKey a

theorem MapOk.find (h : MapOk mk es clock f n) (K : KeyT d mk) (a : α) :
    (f a = none ∧ Instr.findNow d (mk a) es.toList 0 = some none ∧ ∀ x ∈ es.toList, x.key ≠ mk a) ∨
    ∃ j e, f a = some e.val ∧ Instr.findNow d (mk a) es.toList 0 = some (some (j, e.val)) ∧ es[j]? = some e ∧ e.key = mk a := by
  rcases findNow_spec (K.isKey a) es.toList 0 (h.isKeys K) with ⟨h1, h2⟩ | ⟨j, e, h1, h2, h3⟩
  · refine .inl ⟨?_, h1, h2⟩
    cases hf : f a with
    | none => rfl
    | some v =>
      obtain ⟨e, he, hk, _⟩ := (h.tells a v).1 hf
      exact absurd hk (h2 e he)
  · refine .inr ⟨j, e, (h.tells a e.val).2 ⟨e, List.mem_of_getElem? h2, h3, rfl⟩, by simpa using h1, by simpa using h2, h3⟩

variable {P : Program} {w : World} {m : Nat} {t kt et : TypeId}

theorem IsMap.lookup (h : IsMap mk w m f n) (K : KeyT d mk) (hm : P.underlying t = some (.map kt et)) (hd : P.underlying kt = some d) {z : Value} (hz : (zeroValue et).run P w = .ok z w) (a : α) (c : Bool) :
    (Instr.lookup t (.map (some m)) (mk a) c).run P w = .ok (if c then .tuple #[(f a).getD z, .bool (f a).isSome] else (f a).getD z) w := by
  obtain ⟨es, clock, hb, ok⟩ := h
  rcases ok.find K a with ⟨hf, h1, _⟩ | ⟨j, e, hf, h1, _, _⟩
  · simp [Instr.lookup, run_underlying hm, MapKept.run_getObj_map hb, run_checkKey hd (K.isKey a), run_findKey hd h1, hz, Result.andThen, hf]
  · simp [Instr.lookup, run_underlying hm, MapKept.run_getObj_map hb, run_checkKey hd (K.isKey a), run_findKey hd h1, Result.andThen, hf]

/-- A look-up in a nil map. -/
theorem lookup_nil (K : KeyT d mk) (hm : P.underlying t = some (.map kt et)) (hd : P.underlying kt = some d) {z : Value} (hz : (zeroValue et).run P w = .ok z w) (a : α) (c : Bool) :
    (Instr.lookup t (.map none) (mk a) c).run P w = .ok (if c then .tuple #[z, .bool false] else z) w := by
  have h1 : Instr.findNow d (mk a) [] 0 = some none := rfl
  simp [Instr.lookup, run_underlying hm, run_checkKey hd (K.isKey a), run_findKey hd h1, hz, Result.andThen]

/-- What a map's block is behind a store. -/
def upsert (d : TypeDesc) (es : Array MapEntry) (clock : Nat) (k v : Value) : Obj :=
  match Instr.findNow d k es.toList 0 with
  | some (some (i, _)) => .map (es.modify i fun e => { e with key := k, val := v }) clock
  | _ => .map (es.push { key := k, val := v, born := clock }) (clock + 1)

theorem MapOk.upsert [DecidableEq α] (h : MapOk mk es clock f n) (K : KeyT d mk) (a : α) (v : Value) :
    ∃ es' clock', Tb.upsert d es clock (mk a) v = .map es' clock' ∧ MapOk mk es' clock' (fun b => if b = a then some v else f b) (if (f a).isSome then n else n + 1) := by
  rcases h.find K a with ⟨hf, h1, h2⟩ | ⟨j, e, hf, h1, hj, he⟩
  · refine ⟨_, _, by simp only [Tb.upsert, h1]; rfl, stamped_push h.st h2, ?_, ?_, by simp [hf, h.size]⟩
    · intro x hx
      simp only [Array.toList_push, List.mem_append, List.mem_singleton] at hx
      rcases hx with hx | rfl
      · exact h.keys x hx
      · exact ⟨a, rfl⟩
    · intro b u
      simp only [Array.toList_push, List.mem_append, List.mem_singleton]
      by_cases hba : b = a
      · subst hba
        simp only [if_true, Option.some.injEq]
        constructor
        · rintro rfl; exact ⟨_, .inr rfl, rfl, rfl⟩
        · rintro ⟨e, he | rfl, hk, hv⟩
          · exact absurd hk (h2 e he)
          · exact hv
      · simp only [if_neg hba, h.tells]
        constructor
        · rintro ⟨e, he, hk, hv⟩; exact ⟨e, .inl he, hk, hv⟩
        · rintro ⟨e, he | rfl, hk, hv⟩
          · exact ⟨e, he, hk, hv⟩
          · exact absurd (K.inj _ _ hk).symm hba
  · have hjm : e ∈ es.toList := Array.mem_toList_iff.2 (Array.mem_of_getElem? hj)
    have hkey : ∀ e', es[j]? = some e' → ({ e' with key := mk a, val := v } : MapEntry).key = e'.key := fun e' he' => by rw [hj] at he'; cases he'; exact he.symm
    have hmem : ∀ x, x ∈ (es.modify j fun e => { e with key := mk a, val := v }).toList ↔ (x ∈ es.toList ∧ x.key ≠ mk a) ∨ x = { e with key := mk a, val := v } := by
      intro x
      constructor
      · intro hx
        obtain ⟨i, hi⟩ := List.getElem?_of_mem hx
        simp only [Array.getElem?_toList, Array.getElem?_modify] at hi
        by_cases hij : j = i
        · subst hij
          rw [if_pos rfl, hj] at hi
          simp at hi
          exact .inr hi.symm
        · rw [if_neg hij] at hi
          refine .inl ⟨Array.mem_toList_iff.2 (Array.mem_of_getElem? hi), fun hk => hij ?_⟩
          have hxl : es.toList[i]? = some x := by simpa using hi
          have hel : es.toList[j]? = some e := by simpa using hj
          have hnd := h.st.2.2
          have hi' : i < (es.toList.map (·.key)).length := by simpa using (List.getElem?_eq_some_iff.1 hxl).1
          have hj' : j < (es.toList.map (·.key)).length := by simpa using (List.getElem?_eq_some_iff.1 hel).1
          refine (List.getElem_inj (h₀ := hj') (h₁ := hi') hnd).1 ?_
          have h3 : (es.toList.map (·.key))[i]? = some (mk a) := by rw [List.getElem?_map, hxl]; simp [hk]
          have h4 : (es.toList.map (·.key))[j]? = some (mk a) := by rw [List.getElem?_map, hel]; simp [he]
          rw [List.getElem?_eq_getElem hi'] at h3
          rw [List.getElem?_eq_getElem hj'] at h4
          exact (Option.some.inj h4).trans (Option.some.inj h3).symm
      · rintro (⟨hx, hk⟩ | rfl)
        · obtain ⟨i, hi⟩ := List.getElem?_of_mem hx
          have hij : j ≠ i := fun q => hk (by subst q; have : es.toList[j]? = some e := by simpa using hj
                                              rw [this] at hi; cases hi; exact he)
          refine List.mem_of_getElem? (i := i) ?_
          simp only [Array.getElem?_toList, Array.getElem?_modify, if_neg hij]
          simpa using hi
        · refine List.mem_of_getElem? (i := j) ?_
          simp only [Array.getElem?_toList, Array.getElem?_modify, if_true, hj]
          rfl
    refine ⟨es.modify j fun e => { e with key := mk a, val := v }, clock, by simp only [Tb.upsert, h1], stamped_modify h.st _ _ (fun _ _ => rfl) (fun e' _ he' => hkey e' he'), ?_, ?_, by simp [hf, h.size]⟩
    · intro x hx
      rcases (hmem x).1 hx with ⟨hx, _⟩ | rfl
      · exact h.keys x hx
      · exact ⟨a, rfl⟩
    · intro b u
      simp only [hmem]
      by_cases hba : b = a
      · subst hba
        simp only [if_true, Option.some.injEq]
        constructor
        · rintro rfl; exact ⟨_, .inr rfl, rfl, rfl⟩
        · rintro ⟨x, ⟨_, hne⟩ | rfl, hk, hv⟩
          · exact absurd hk hne
          · exact hv
      · simp only [if_neg hba, h.tells]
        constructor
        · rintro ⟨x, hx, hk, hv⟩; exact ⟨x, .inl ⟨hx, fun q => hba (K.inj _ _ (hk.symm.trans q))⟩, hk, hv⟩
        · rintro ⟨x, ⟨hx, _⟩ | rfl, hk, hv⟩
          · exact ⟨x, hx, hk, hv⟩
          · exact absurd (K.inj _ _ hk).symm hba

theorem run_update (hb : w.heap[m]? = some (.map es clock)) (ok : MapOk mk es clock f n) (K : KeyT d mk) (hm : P.underlying t = some (.map kt et)) (hd : P.underlying kt = some d) (a : α) (v : Value) :
    (Instr.mapUpdate t (.map (some m)) (mk a) v).run P w = .ok () (setBlock w m (Tb.upsert d es clock (mk a) v)) := by
  rcases ok.find K a with ⟨hf, h1, h2⟩ | ⟨j, e, hf, h1, hj, he⟩
  · simp [Instr.mapUpdate, run_underlying hm, MapKept.run_getObj_map hb, run_checkKey hd (K.isKey a), run_findKey hd h1, MapKept.run_setObj_map _ hb, Result.andThen, Tb.upsert, h1, setBlock]
  · simp [Instr.mapUpdate, run_underlying hm, MapKept.run_getObj_map hb, run_checkKey hd (K.isKey a), run_findKey hd h1, hj, he, run_keyThatStays (K.isKey a), MapKept.run_setObj_map _ hb, Result.andThen, Tb.upsert, h1, setBlock]

theorem heap_setBlock {o o' : Obj} (hb : w.heap[m]? = some o) : (setBlock w m o').heap[m]? = some o' := (heap_set hb).1
theorem heap_setBlock_ne {b : Nat} (o' : Obj) (h : b ≠ m) : (setBlock w m o').heap[b]? = w.heap[b]? := by
  simp only [setBlock]; exact Array.getElem?_setIfInBounds_ne (Ne.symm h)

theorem cell_setBlock {a : Addr} (o' : Obj) (h : a.block ≠ m) : (setBlock w m o').cell? a = w.cell? a := World.cell?_of_block (heap_setBlock_ne o' h)

/-- `m[k] = v`. -/
theorem IsMap.update [DecidableEq α] (h : IsMap mk w m f n) (K : KeyT d mk) (hm : P.underlying t = some (.map kt et)) (hd : P.underlying kt = some d) (a : α) (v : Value) :
    ∃ w', (Instr.mapUpdate t (.map (some m)) (mk a) v).run P w = .ok () w' ∧ IsMap mk w' m (fun b => if b = a then some v else f b) (if (f a).isSome then n else n + 1) ∧ ∃ o, w' = setBlock w m o := by
  obtain ⟨es, clock, hb, ok⟩ := h
  obtain ⟨es', clock', e1, ok'⟩ := ok.upsert K a v
  exact ⟨_, run_update hb ok K hm hd a v, ⟨es', clock', by rw [heap_setBlock hb, e1], ok'⟩, _, rfl⟩

theorem isMap_made (mk : α → Value) (w : World) : IsMap mk (w.alloc (.map #[] 0)) w.heap.size (fun _ => none) 0 :=
  ⟨#[], 0, (MapKept.heap_alloc w _).1, stamped_empty 0, by simp, by simp, rfl⟩

/-- `clear(m)`. -/
theorem IsMap.clear (h : IsMap mk w m f n) (hm : P.underlying t = some (.map kt et)) (ty : TypeId) :
    ∃ o, (Builtin.clear_ #[t] ty #[.map (some m)]).run P w = .ok (.tuple #[]) (setBlock w m o) ∧ IsMap mk (setBlock w m o) m (fun _ => none) 0 := by
  obtain ⟨es, clock, hb, ok⟩ := h
  refine ⟨.map #[] clock, ?_, #[], clock, heap_setBlock hb, stamped_empty _, by simp, by simp, rfl⟩
  simp [Builtin.clear_, run_underlying hm, MapKept.run_getObj_map hb, MapKept.run_setObj_map _ hb, Result.andThen, setBlock]

theorem IsMap.len (h : IsMap mk w m f n) (hm : P.underlying t = some (.map kt et)) (ty : TypeId) : (Builtin.len_ #[t] ty #[.map (some m)]).run P w = .ok (goInt n) w := by
  obtain ⟨es, clock, hb, ok⟩ := h
  simp [Builtin.len_, run_underlying hm, MapKept.run_getObj_map hb, Result.andThen, ok.size]

/-! ### a range over a map -/

/-- Block `r` goes through the map `m`, which tells `f`; what is still to come are the keys `todo`. -/
def Iter (mk : α → Value) (w : World) (r m : Nat) (f : α → Option Value) (todo : List α) : Prop :=
  ∃ es clock since seen c0, w.heap[m]? = some (.map es clock) ∧ MapOk mk es clock f es.size ∧ w.heap[r]? = some (.mapIter (some m) since seen c0) ∧
    (∀ x ∈ es.toList, x.born < since) ∧ since ≤ c0 ∧ since ≤ clock ∧ todo.Nodup ∧ ∀ a, a ∈ todo ↔ ∃ e ∈ es.toList, e.key = mk a ∧ seen.contains e.born = false

theorem Iter.upd {w' : World} {r : Nat} {todo : List α} {S : Nat → Prop} (h : Iter mk w r m f todo) (hu : Upd S w w') (hm : ¬ S m) (hr : ¬ S r) : Iter mk w' r m f todo := by
  obtain ⟨es, clock, since, seen, c0, h1, h2, h3, h4⟩ := h
  exact ⟨es, clock, since, seen, c0, hu.heap h1 hm, h2, hu.heap h3 hr, h4⟩
theorem Iter.isMap {r : Nat} {todo : List α} (h : Iter mk w r m f todo) : ∃ n, IsMap mk w m f n := by
  obtain ⟨es, clock, since, seen, c0, h1, h2, _⟩ := h
  exact ⟨_, es, clock, h1, h2⟩
theorem Iter.ne {r : Nat} {todo : List α} (h : Iter mk w r m f todo) : r ≠ m := by
  obtain ⟨es, clock, since, seen, c0, h1, h2, h3, _⟩ := h
  intro e
  rw [e, h1] at h3
  cases h3
theorem Iter.lt {r : Nat} {todo : List α} (h : Iter mk w r m f todo) : r < w.heap.size := by
  obtain ⟨es, clock, since, seen, c0, h1, h2, h3, _⟩ := h
  exact lt_of_heap h3

theorem Iter.nodup {r : Nat} {todo : List α} (h : Iter mk w r m f todo) : todo.Nodup := by
  obtain ⟨es, clock, since, seen, c0, h1, h2, h3, h4, h5, h6, h7, h8⟩ := h
  exact h7

/-- `range m`. -/
theorem IsMap.range (h : IsMap mk w m f n) (K : KeyT d mk) (hm : P.underlying t = some (.map kt et)) :
    ∃ o todo, (Instr.range t (.map (some m))).run P w = .ok (.pointer (some ⟨w.heap.size, 0, none⟩)) (w.alloc o) ∧ Iter mk (w.alloc o) w.heap.size m f todo ∧ todo.length = n ∧ (∀ a, a ∈ todo ↔ (f a).isSome) := by
  obtain ⟨es, clock, hb, ok⟩ := h
  have hlt := lt_of_heap hb
  -- the keys
  have hex : ∀ l : List MapEntry, (∀ x ∈ l, ∃ a, x.key = mk a) → ∃ todo : List α, l.map (·.key) = todo.map mk := by
    intro l
    induction l with
    | nil => exact fun _ => ⟨[], rfl⟩
    | cons x r ih =>
      intro h
      obtain ⟨a, ha⟩ := h x (.head _)
      obtain ⟨t, ht⟩ := ih (fun y hy => h y (.tail _ hy))
      exact ⟨a :: t, by simp [ha, ht]⟩
  obtain ⟨todo, htodo⟩ := hex es.toList ok.keys
  have hmem : ∀ a, a ∈ todo ↔ ∃ e ∈ es.toList, e.key = mk a := by
    intro a
    constructor
    · intro ha
      have : mk a ∈ es.toList.map (·.key) := by rw [htodo]; exact List.mem_map.2 ⟨a, ha, rfl⟩
      obtain ⟨e, he, hk⟩ := List.mem_map.1 this
      exact ⟨e, he, hk⟩
    · rintro ⟨e, he, hk⟩
      have : mk a ∈ todo.map mk := by rw [← htodo]; exact List.mem_map.2 ⟨e, he, hk⟩
      obtain ⟨b, hb, e1⟩ := List.mem_map.1 this
      rw [← K.inj _ _ e1]; exact hb
  refine ⟨.mapIter (some m) clock #[] clock, todo, ?_, ⟨es, clock, clock, #[], clock, ?_, ⟨ok.st, ok.keys, ok.tells, rfl⟩, (MapKept.heap_alloc w _).1, fun x hx => ok.st.1 x hx, Nat.le_refl _, Nat.le_refl _, ?_, ?_⟩, ?_, ?_⟩
  · simp [Instr.range, run_underlying hm, MapKept.run_getObj_map hb, Result.andThen]
  · rw [(MapKept.heap_alloc w _).2 m hlt]; exact hb
  · have := ok.st.2.2
    rw [htodo] at this
    exact (List.Pairwise.of_map mk (fun a b h e => h (by rw [e])) this)
  · intro a; simp [hmem a]
  · have := congrArg List.length htodo
    simp at this
    rw [← this]; exact ok.size
  · intro a
    rw [hmem a]
    constructor
    · rintro ⟨e, he, hk⟩
      rw [(ok.tells a e.val).2 ⟨e, he, hk, rfl⟩]; rfl
    · intro h
      obtain ⟨v, hv⟩ := Option.isSome_iff_exists.1 h
      obtain ⟨e, he, hk, _⟩ := (ok.tells a v).1 hv
      exact ⟨e, he, hk⟩

theorem rangeLeft_upd {w' : World} {r : Nat} {todo : List α} {S : Nat → Prop} (h : Iter mk w r m f todo) (hu : Upd S w w') (hm : ¬ S m) (hr : ¬ S r) : w'.rangeLeft m r = w.rangeLeft m r := by
  obtain ⟨es, clock, since, seen, c0, h1, h2, h3, h4⟩ := h
  simp only [World.rangeLeft, h1, h3, hu.heap h1 hm, hu.heap h3 hr]

open Classical in
/-- The step of a range. -/
theorem Iter.next {r : Nat} {todo : List α} (h : Iter mk w r m f todo) (K : KeyT d mk) :
    (todo = [] ∧ ∀ ty, (Instr.next (.pointer (some ⟨r, 0, none⟩)) false ty).run P w = .ok (.tuple #[.bool false]) w) ∨
    ∃ a v todo' w', todo.Perm (a :: todo') ∧ f a = some v ∧ (∀ ty, (Instr.next (.pointer (some ⟨r, 0, none⟩)) false ty).run P w = .ok (.tuple #[.bool true, mk a, v]) w') ∧
      Iter mk w' r m f todo' ∧ Upd (fun k => k = r) w w' ∧ w'.heap.size = w.heap.size ∧ w'.rangeLeft m r < w.rangeLeft m r ∧ (Instr.entry (.pointer (some ⟨r, 0, none⟩))).run P w' = .ok (.tuple #[mk a, v]) w' := by
  have hne := h.ne
  obtain ⟨es, clock, since, seen, c0, hb, ok, hr, hold, hsc, hsk, hnd, htodo⟩ := h
  rcases run_next_at (P := P) w 0 r m since c0 seen es clock hr hb hold hsc with ⟨h0, hrun⟩ | ⟨e, he, w1, hal, hrun⟩
  · left
    refine ⟨?_, fun _ => hrun⟩
    cases todo with
    | nil => rfl
    | cons a r =>
      obtain ⟨e, he, _, hs⟩ := (htodo a).1 (.head _)
      have hmem : e ∈ (leftOf es seen).toList := by
        unfold leftOf
        have hs' : ¬ e.born ∈ seen := by simpa using hs
        have he' : e ∈ es := by simpa using he
        simp [hs', he']
      have := List.length_pos_of_mem hmem
      simp [h0] at this
  · right
    obtain ⟨hem, hes⟩ : e ∈ es.toList ∧ seen.contains e.born = false := by
      unfold leftOf at he
      simpa using he
    obtain ⟨a, ha⟩ := ok.keys e hem
    have hat : a ∈ todo := (htodo a).2 ⟨e, hem, ha, hes⟩
    obtain ⟨l1, l2, hl⟩ := List.append_of_mem hat
    have hperm : todo.Perm (a :: (l1 ++ l2)) := by rw [hl]; exact List.perm_middle
    have hr1 : w1.heap[r]? = some (.mapIter (some m) since seen c0) := by rcases hal with rfl | rfl <;> exact hr
    have hb1 : w1.heap[m]? = some (.map es clock) := by rcases hal with rfl | rfl <;> exact hb
    have hnd' := hperm.nodup_iff.1 hnd
    have hbm : (setBlock w1 r (.mapIter (some m) since (seen.push e.born) clock)).heap[m]? = some (.map es clock) := by rw [heap_setBlock_ne _ (Ne.symm hne)]; exact hb1
    refine ⟨a, e.val, l1 ++ l2, _, hperm, (ok.tells a e.val).2 ⟨e, hem, ha, rfl⟩, fun _ => by rw [← ha]; exact hrun,
      ⟨es, clock, since, seen.push e.born, clock, hbm, ok, heap_setBlock hr1, hold, hsk, hsk, (List.nodup_cons.1 hnd').2, ?_⟩, ?_, ?_, ?_, ?_⟩
    · intro b
      have h1 : b ∈ l1 ++ l2 ↔ b ∈ todo ∧ b ≠ a := by
        rw [hperm.mem_iff]
        constructor
        · intro hb
          exact ⟨.tail _ hb, fun q => (List.nodup_cons.1 hnd').1 (q ▸ hb)⟩
        · rintro ⟨hb, hba⟩
          rcases List.mem_cons.1 hb with rfl | hb
          · exact absurd rfl hba
          · exact hb
      rw [h1, htodo b]
      constructor
      · rintro ⟨⟨x, hx, hk, hs⟩, hba⟩
        refine ⟨x, hx, hk, ?_⟩
        simp only [Array.contains_push, Bool.or_eq_false_iff]
        refine ⟨hs, ?_⟩
        simp only [beq_eq_false_iff_ne]
        intro q
        have hbn := ok.st.2.1
        have : x = e := by
          have hp : es.toList.Pairwise (fun x y => x.born ≠ y.born) := by simpa [List.Nodup, List.pairwise_map] using hbn
          by_cases hxe : x = e
          · exact hxe
          · exact absurd q (nodup_born ok.st.2.1 hx hem hxe)
        subst this
        exact hba (K.inj _ _ (hk.symm.trans ha))
      · rintro ⟨x, hx, hk, hs⟩
        simp only [Array.contains_push, Bool.or_eq_false_iff, beq_eq_false_iff_ne] at hs
        refine ⟨⟨x, hx, hk, hs.1⟩, fun q => hs.2 ?_⟩
        subst q
        rw [nodup_keys ok.st.2.2 hx hem (hk.trans ha.symm)]
    · rcases hal with rfl | rfl
      · exact upd_setBlock _ _ _ _ rfl
      · exact (Upd.refl _ _).drew.trans (upd_setBlock (fun k => k = r) _ r _ rfl)
    · rcases hal with rfl | rfl <;> simp [setBlock]
    · simp only [World.rangeLeft, hbm, heap_setBlock hr1, hb, hr]; exact left_shrinks es seen e he
    · rw [← ha]; exact run_entry_at _ r m since seen es clock e (heap_setBlock hr1) hbm hem ok.st.2.1
end


theorem Bytes.take {w : World} {b off n cap m : Nat} {l : List UInt8} (h : Bytes w (.slice (some ⟨b, off, none⟩) n cap) l) (hm : m ≤ n) : Bytes w (.slice (some ⟨b, off, none⟩) m cap) (l.take m) := by
  rcases h with ⟨h, _⟩ | ⟨b', off', cap', h, hc, hb, hl⟩
  · cases h
  · cases h
    refine .inr ⟨b, off, cap, by rw [List.length_take, Nat.min_eq_left hm], by rw [List.length_take]; omega, hb, fun i hi => ?_⟩
    rw [List.length_take] at hi
    rw [hl i (by omega), List.getElem_take]
theorem Bytes.drop {w : World} {b off n cap m c : Nat} {l : List UInt8} (h : Bytes w (.slice (some ⟨b, off, none⟩) n cap) l) (hm : m ≤ n) (hc : n - m ≤ c) : Bytes w (.slice (some ⟨b, off + m, none⟩) (n - m) c) (l.drop m) := by
  rcases h with ⟨h, _⟩ | ⟨b', off', cap', h, hc', hb, hl⟩
  · cases h
  · cases h
    refine .inr ⟨b, off + m, c, by rw [List.length_drop], by rw [List.length_drop]; exact hc, hb, fun i hi => ?_⟩
    rw [List.length_drop] at hi
    rw [show off + m + i = off + (m + i) by omega, hl (m + i) (by omega), List.getElem_drop]
theorem Bytes.size {w : World} {a : Option Addr} {n cap : Nat} {l : List UInt8} (h : Bytes w (.slice a n cap) l) : l.length = n := by
  rcases h with ⟨h, rfl⟩ | ⟨b', off', cap', h, hc, hb, hl⟩
  · cases h; rfl
  · cases h; rfl

def u8v (x : UInt8) : Value := .int .u8 (x.toNat : Int)

theorem Bytes.shape {w : World} {v : Value} {l : List UInt8} (h : Bytes w v l) (hl : 0 < l.length) : ∃ b off cap, v = .slice (some ⟨b, off, none⟩) l.length cap ∧ l.length ≤ cap ∧ b < w.heap.size := by
  rcases h with ⟨_, rfl⟩ | ⟨b, off, cap, rfl, hc, hb, _⟩
  · simp at hl
  · exact ⟨b, off, cap, rfl, hc, hb⟩

/-- `s[m:]`. -/
theorem run_slice_from {P : Program} {t e : TypeId} {sz : Nat} (ht : P.underlying t = some (.slice e)) (hs : (P.info? e).map (·.size) = some sz) (b off n cap m : Nat) (hm : m ≤ n) (w : World) :
    (Instr.slice t (.slice (some ⟨b, off, none⟩) n cap) (some (.int .i64 (m : Int))) none none).run P w = .ok (.slice (some ⟨b, if cap = m then off else off + m * sz, none⟩) (n - m) (cap - m)) w := by
  obtain ⟨i, hi, rfl⟩ := Option.map_eq_some_iff.1 hs
  have he : P.elem t = e := by simp [Program.elem, ht]
  rw [run_slice_l w t _ n cap (by rw [he]; exact ht) .i64 (m : Int) (by omega) (by omega)]
  simp only [he, sizeOf, typeInfo, sliced]
  by_cases hcm : cap = m <;> simp [hi, Result.andThen, hcm, Addr.add_lit]

theorem bytes_cells {w : World} {b off n cap : Nat} {l : List UInt8} (h : Bytes w (.slice (some ⟨b, off, none⟩) n cap) l) : ∀ j u, (l.map u8v)[j]? = some u → w.cell? ((⟨b, off, none⟩ : Addr).add j) = some u := by
  rcases h with ⟨h, _⟩ | ⟨b', off', cap', h, hc', hb, hl⟩
  · cases h
  · cases h
    intro j u hj
    rw [List.getElem?_map] at hj
    obtain ⟨x, hx, rfl⟩ := Option.map_eq_some_iff.1 hj
    obtain ⟨hlt, rfl⟩ := List.getElem?_eq_some_iff.1 hx
    rw [show (⟨b, off, none⟩ : Addr).add j = ⟨b, off + j, none⟩ from Addr.add_lit b off j]
    exact hl j hlt

/-- What a row of the call's own reads as. -/
theorem bytes_of_own {w : World} {base : Nat} {e : TypeId} {v : Value} {l : List UInt8} (h : w.ownsRow base e 1 v l.length (l.map u8v)) : Bytes w v l ∧ ∀ b, sliceBlock v = some b → base ≤ b := by
  rcases h.2 with ⟨rfl, h0⟩ | ⟨g, cap', cur, rfl, hg, hheap, hn, hm, hs, htake⟩
  · exact ⟨.inl ⟨rfl, List.eq_nil_of_length_eq_zero h0⟩, fun b hb => by cases hb⟩
  · refine ⟨.inr ⟨g, 0, cap', rfl, hn, lt_of_heap hheap, fun i hi => ?_⟩, fun b hb => by cases hb; exact hg⟩
    rw [cell_of hheap]
    have h1 : (cur.toList.take (l.length * 1))[i]? = some (.int .u8 (l[i].toNat : Int)) := by
      rw [htake]; simp [hi, u8v]
    rw [List.getElem?_take] at h1
    have h2 : i < l.length * 1 := by omega
    simp only [h2, if_true] at h1
    simpa using h1

/-- `append(x, y...)` of bytes onto a row of the call's own. -/
theorem run_append_bytes {P : Program} {t e : TypeId} (ht : P.underlying t = some (.slice e)) (hi : (P.info? e).map (fun i => (i.zero, i.size, i.bytes)) = some (some (.int .u8 0), 1, 1))
    {w : World} {base : Nat} {v : Value} {l1 l2 : List UInt8} (hown : w.ownsRow base e 1 v l1.length (l1.map u8v)) {b off n cap : Nat} (h2 : Bytes w (.slice (some ⟨b, off, none⟩) n cap) l2) (hbase : base ≤ w.heap.size) (hb : l1.length + l2.length ≤ 140737488355328) :
    ∃ v' w', (∀ ty, (Builtin.append_ #[t, t] ty #[v, .slice (some ⟨b, off, none⟩) n cap]).run P w = .ok v' w') ∧ w'.ownsRow base e 1 v' (l1 ++ l2).length ((l1 ++ l2).map u8v) ∧ w.grownBy w' v.ownBlock ∧ (v' = .slice none 0 0 ↔ v = .slice none 0 0 ∧ l2 = []) := by
  obtain ⟨i0, hi0, hz0, hz1, hz2⟩ := info_parts hi
  have hn := h2.size
  subst hn
  obtain ⟨v', w', hr, h3, h4, h5⟩ := run_append_own (P := P) w base t 0 e i0 (.int .u8 0) 1 1 ht hi0 hz0 hz1 hz2 rfl (by decide) v l1.length (l1.map u8v) hown ⟨b, off, none⟩ l2.length cap (l2.map u8v) (by simp) (bytes_cells h2)
    (fun u hu => by obtain ⟨x, _, rfl⟩ := List.mem_map.1 hu; rfl) (by unfold maxLen; omega) (by omega) hbase
  refine ⟨v', w', fun _ => hr, by rw [List.length_append, List.map_append]; exact h3, h4, by rw [h5, List.length_eq_zero_iff]⟩

theorem Upd.ofGrown {w w' : World} {row : Option Nat} (h : w.grownBy w' row) : Upd (fun k => some k = row) w w' := ⟨h.os, h.tape, h.output, h.size, fun k hk hn => h.block k hk hn⟩

theorem drop_any {w : World} {b off n cap m : Nat} {l : List UInt8} (h : Bytes w (.slice (some ⟨b, off, none⟩) n cap) l) (hm : m ≤ n) (hc : n ≤ cap) : Bytes w (.slice (some ⟨b, if cap = m then off else off + m * 1, none⟩) (n - m) (cap - m)) (l.drop m) := by
  by_cases e : cap = m
  · subst e
    obtain rfl : n = cap := by omega
    have hl := h.size
    rcases h with ⟨h, _⟩ | ⟨b', off', cap', h, hc', hb, hl'⟩
    · cases h
    · cases h
      refine .inr ⟨b, off, 0, by simp, by simp, hb, fun i hi => ?_⟩
      simp at hi
  · rw [if_neg e, Nat.mul_one]
    exact h.drop hm (by omega)

/-- `s[m:]` of bytes. -/
theorem slice_from_bytes {P : Program} {t e : TypeId} (ht : P.underlying t = some (.slice e)) (hs : (P.info? e).map (·.size) = some 1) {w : World} {b off n cap : Nat} {l : List UInt8} (h : Bytes w (.slice (some ⟨b, off, none⟩) n cap) l) (hc : n ≤ cap) (m : Nat) (hm : m ≤ n) :
    ∃ o1 n1 c1, (∀ w, (Instr.slice t (.slice (some ⟨b, off, none⟩) n cap) (some (.int .i64 (m : Int))) none none).run P w = .ok (.slice (some ⟨b, o1, none⟩) n1 c1) w) ∧ Bytes w (.slice (some ⟨b, o1, none⟩) n1 c1) (l.drop m) :=
  ⟨_, _, _, run_slice_from ht hs b off n cap m hm, drop_any h hm hc⟩

/-- An append in a region that draws its order, by the equation of its run. -/
theorem step_append {P : Program} {ops : Array Oper} {o : Oper} {a : Act} {w w' : World} {K : Act → World → Prop} {Q : Exit → Act → World → Prop} {E : Prop} {s x : Operand} {t : TypeId} {vs vx v : Value}
    (hrun : ∀ ty, (Builtin.append_ #[t, t] ty #[vs, vx]).run P w = .ok v w') (hg : o.guard = none) (hop : o.op = Op.call { callee := Callee.builtin Builtin.append, args := #[s, x], argTypes := #[t, t] })
    (hs : a.eval s = vs) (hx : a.eval x = vx) (hK : K (a.put o.dst v) w') :
    if Region.wanted o (yielded ops a.tmps) = true then Oper.wp P o a w K Q else E := by
  have hw : Region.wanted o (yielded ops a.tmps) = true := by simp [Region.wanted, hg]
  rw [if_pos hw]
  have h := hrun o.type
  unfold Oper.wp
  simp [execOp, hop, resolve, invoke, builtin, hs, hx, h, Result.andThen]
  exact hK
/-- .. and where the order is the text's. -/
theorem wpList_append {P : Program} {ops : Array Oper} {rest : List Oper} {o : Oper} {a : Act} {w w' : World} {Q : Exit → Act → World → Prop} {s x : Operand} {t : TypeId} {vs vx v : Value}
    (hrun : ∀ ty, (Builtin.append_ #[t, t] ty #[vs, vx]).run P w = .ok v w') (hg : o.guard = none) (hop : o.op = Op.call { callee := Callee.builtin Builtin.append, args := #[s, x], argTypes := #[t, t] })
    (hs : a.eval s = vs) (hx : a.eval x = vx) (hK : wpList P ops Q rest (a.put o.dst v) w') : wpList P ops Q (o :: rest) a w :=
  wpList_plain hg fun K hK' => by
    have h := hrun o.type
    unfold Oper.wp
    simp [execOp, hop, resolve, invoke, builtin, hs, hx, h, Result.andThen]
    exact hK' _ _ hK

/-- The string of bytes. -/
def strB (l : List UInt8) : ByteArray := ⟨l.toArray⟩
theorem strB_inj {a b : List UInt8} (h : strB a = strB b) : a = b := by
  have := congrArg (fun s : ByteArray => s.data.toList) h
  simpa [strB] using this
theorem strB_eq (a b : List UInt8) : (strB a == strB b) = (a == b) := by
  rw [Bool.eq_iff_iff, MapKept.bytes_beq, beq_iff_eq]
  exact ⟨strB_inj, fun h => by rw [h]⟩
theorem strB_toList (s : ByteArray) : strB s.data.toList = s := by cases s; rfl

theorem run_to_string {P : Program} {src e dst : TypeId} (hs : P.underlying src = some (.slice e)) (he : P.underlying e = some (.int .u8)) (hd : P.underlying dst = some .string) {w : World} {v : Value} {l : List UInt8} (h : Bytes w v l) :
    (convert src dst v).run P w = .ok (.string (strB l)) w := by
  rcases h with ⟨rfl, rfl⟩ | ⟨b, off, cap, rfl, hc, hb, hl⟩
  · exact run_convert_bytes_nil w src e hs he 0 0 dst hd
  · have h := run_convert_bytes_arg (P := P) w src e hs he b off l.length cap (l.map fun x => (x.toNat : Int)) (by simp) (fun i hi => by rw [hl i hi]; simp [List.getD, hi]) dst hd
    rw [h]
    have e : (l.map fun x => (x.toNat : Int)).map (fun n => UInt8.ofNat n.toNat) = l := by
      rw [List.map_map]
      exact (List.map_congr_left (fun x _ => by simp)).trans (List.map_id l)
    unfold strOfNums strB
    rw [e]

end Go.Tb
