/-
  Plain lemmas on worlds, byte slices and maps (no program in sight).
-/
import Derived.WalkKit
import Derived.Handy
import Derived.WalkLawsBesides
import Derived.WalkSpells
import Derived.MapKept
import Derived.ChangeMaps4
import Derived.Maps.RangeRun
import Derived.Maps.Range
import Derived.Lib.Hide
import Derived.Deep.MidRow
import Derived.Laws.Rows
import Derived.Maps.AppendAt
namespace Go.Tb
open Go.RowKit Go.MapKept Go.ChangeMaps
set_option linter.unusedVariables false

/-- Of what was there in `w` nothing has turned in `w'` but blocks of `S`. -/
structure Upd (S : Nat → Prop) (w w' : World) : Prop where
  os : w'.os = w.os
  tape : w'.tape = w.tape
  output : w'.output = w.output
  size : w.heap.size ≤ w'.heap.size
  block : ∀ k, k < w.heap.size → ¬ S k → w'.heap[k]? = w.heap[k]?

theorem Upd.refl (S : Nat → Prop) (w : World) : Upd S w w := ⟨rfl, rfl, rfl, Nat.le_refl _, fun _ _ _ => rfl⟩
theorem Upd.mono {S T : Nat → Prop} {w w' : World} (h : Upd S w w') (hs : ∀ k, k < w.heap.size → S k → T k) : Upd T w w' :=
  ⟨h.os, h.tape, h.output, h.size, fun k hk hn => h.block k hk (fun hS => hn (hs k hk hS))⟩
/-- Two steps, the second of which may write what is new besides. -/
theorem Upd.trans' {S T : Nat → Prop} {a b c : World} (h : Upd S a b) (k : Upd T b c) (hT : ∀ x, x < a.heap.size → T x → S x) : Upd S a c :=
  ⟨k.os.trans h.os, k.tape.trans h.tape, k.output.trans h.output, Nat.le_trans h.size k.size, fun x hx hn =>
    (k.block x (Nat.lt_of_lt_of_le hx h.size) (fun hx' => hn (hT x hx hx'))).trans (h.block x hx hn)⟩
/-- Two steps, each of which writes in `R` or what is new. -/
theorem Upd.seq {S T : Nat → Prop} {a b c : World} (h : Upd S a b) (k : Upd T b c) (R : Nat → Prop) (hS : ∀ x, x < a.heap.size → S x → R x) (hT : ∀ x, x < a.heap.size → T x → R x) : Upd R a c :=
  (h.mono hS).trans' k hT
theorem Upd.trans {S : Nat → Prop} {a b c : World} (h : Upd S a b) (k : Upd S b c) : Upd S a c := h.trans' k (fun _ _ => id)
theorem Upd.drew {S : Nat → Prop} {a w : World} (h : Upd S a w) : Upd S a w.drew := ⟨h.os, h.tape, h.output, h.size, h.block⟩
theorem Upd.ofDrew {S : Nat → Prop} {a w : World} (h : Upd S a w.drew) : Upd S a w := ⟨h.os, h.tape, h.output, h.size, h.block⟩
theorem Upd.undrew {S : Nat → Prop} {a w : World} (h : Upd S a.drew w) : Upd S a w := ⟨h.os, h.tape, h.output, h.size, h.block⟩
theorem upd_alloc (S : Nat → Prop) (w : World) (o : Obj) : Upd S w (w.alloc o) :=
  ⟨rfl, rfl, rfl, by simp, fun k hk _ => Below.heap_alloc _ _ _ hk⟩
theorem upd_setCell (S : Nat → Prop) (w : World) (a : Addr) (v : Value) (h : S a.block) : Upd S w (w.setCell a v) :=
  ⟨rfl, rfl, rfl, by simp, fun k _ hn => Below.heap_setCell _ _ _ _ (fun e => hn (e ▸ h))⟩
theorem Upd.alloc {S : Nat → Prop} {a w : World} (h : Upd S a w) (o : Obj) : Upd S a (w.alloc o) := h.trans (upd_alloc S w o)
theorem Upd.setCell {S : Nat → Prop} {a w : World} (h : Upd S a w) {p : Addr} (hp : p.block < a.heap.size → S p.block) (u : Value) : Upd S a (w.setCell p u) :=
  h.trans' (upd_setCell (fun k => k = p.block) w p u rfl) (fun x hx e => by subst e; exact hp hx)
theorem upd_setBlock (S : Nat → Prop) (w : World) (b : Nat) (o : Obj) (h : S b) : Upd S w (setBlock w b o) :=
  ⟨rfl, rfl, rfl, by simp [setBlock], fun k _ hn => by
    simp only [setBlock]
    exact Array.getElem?_setIfInBounds_ne (fun e => hn (by rw [← e]; exact h))⟩
theorem Upd.setBlock {S : Nat → Prop} {a w : World} (h : Upd S a w) {b : Nat} (hp : b < a.heap.size → S b) (o : Obj) : Upd S a (setBlock w b o) :=
  h.trans' (upd_setBlock (fun k => k = b) w b o rfl) (fun x hx e => by subst e; exact hp hx)
theorem Upd.ofBelow {S : Nat → Prop} {w w' : World} (h : Below w.heap.size w w') : Upd S w w' := ⟨h.os, h.tape, h.output, h.size, fun k hk _ => h.block k hk⟩
theorem Upd.below {w w' : World} (h : Upd (fun _ => False) w w') : Below w.heap.size w w' := ⟨h.os, h.tape, h.output, h.size, fun k hk => h.block k hk (fun x => x)⟩
theorem Upd.cell {S : Nat → Prop} {w w' : World} (h : Upd S w w') {a : Addr} {v : Value} (hv : w.cell? a = some v) (hn : ¬ S a.block) : w'.cell? a = some v := by
  rw [World.cell?_of_block (w := w) (h.block a.block (World.block_lt_of_cell? w a hv) hn)]; exact hv
theorem Upd.heap {S : Nat → Prop} {w w' : World} (h : Upd S w w') {b : Nat} {o : Obj} (hv : w.heap[b]? = some o) (hn : ¬ S b) : w'.heap[b]? = some o := by
  rw [h.block b (Array.getElem?_eq_some_iff.1 hv).1 hn]; exact hv

theorem Upd.weak {w w' : World} (h : Upd (fun _ => False) w w') (S : Nat → Prop) : Upd S w w' := h.mono (fun _ _ x => x.elim)

theorem lt_of_heap {w : World} {b : Nat} {o : Obj} (h : w.heap[b]? = some o) : b < w.heap.size := (Array.getElem?_eq_some_iff.1 h).1

/-- One cell of a block that is known whole. -/
theorem cell_of {w : World} {b : Nat} {c : Array Value} {t : TypeId} {f : Nat × Nat} (h : w.heap[b]? = some (.cells c t f)) (i : Nat) : w.cell? ⟨b, i, none⟩ = c[i]? := by
  simp [World.cell?, h]
theorem free_of {w : World} {b : Nat} {c : Array Value} {t : TypeId} (h : w.heap[b]? = some (.cells c t (0, 0))) (i : Nat) : w.frozen? ⟨b, i, none⟩ = false := by
  simp [World.frozen?, h]
theorem heap_setCell_at {w : World} {b : Nat} {c : Array Value} {t : TypeId} {f : Nat × Nat} (h : w.heap[b]? = some (.cells c t f)) (i : Nat) (v : Value) :
    (w.setCell ⟨b, i, none⟩ v).heap[b]? = some (.cells (c.setIfInBounds i v) t f) := by
  simp [World.setCell, Array.getElem?_modify, h]
theorem heap_setCell_ne {w : World} {b : Nat} {a : Addr} (v : Value) (h : b ≠ a.block) : (w.setCell a v).heap[b]? = w.heap[b]? := Below.heap_setCell _ _ _ _ h

/-! ### bytes -/

/-- `v` is a slice of bytes that reads as `l`. -/
def Bytes (w : World) (v : Value) (l : List UInt8) : Prop :=
  (v = .slice none 0 0 ∧ l = []) ∨
  ∃ b off cap, v = .slice (some ⟨b, off, none⟩) l.length cap ∧ l.length ≤ cap ∧ b < w.heap.size ∧ ∀ i (h : i < l.length), w.cell? ⟨b, off + i, none⟩ = some (.int .u8 (l[i].toNat : Int))

abbrev sliceBlock : Value → Option Nat := Value.ownBlock

theorem Bytes.upd {S : Nat → Prop} {w w' : World} {v : Value} {l : List UInt8} (h : Bytes w v l) (hu : Upd S w w') (hn : ∀ b, sliceBlock v = some b → ¬ S b) : Bytes w' v l := by
  rcases h with h | ⟨b, off, cap, rfl, hc, hb, h⟩
  · exact .inl h
  · exact .inr ⟨b, off, cap, rfl, hc, Nat.lt_of_lt_of_le hb hu.size, fun i hi => hu.cell (h i hi) (hn b rfl)⟩
theorem Bytes.lt {w : World} {v : Value} {l : List UInt8} (h : Bytes w v l) {b : Nat} (hb : sliceBlock v = some b) : b < w.heap.size := by
  rcases h with ⟨rfl, _⟩ | ⟨b', off, cap, rfl, hc, hl, h⟩
  · cases hb
  · cases hb; exact hl


/-! ### maps -/

/-- How keys are made: `mk a` is a key of a type that is described by `d`. -/
structure KeyT {α : Type} (d : TypeDesc) (mk : α → Value) : Prop where
  isKey : ∀ a, IsKey d (mk a)
  inj : ∀ a b, mk a = mk b → a = b

theorem keyT_int (q : IntKind) : KeyT (.int q) (Value.int q) := ⟨fun _ => rfl, fun a b h => by cases h; rfl⟩
theorem keyT_string : KeyT .string Value.string := ⟨fun _ => trivial, fun a b h => by cases h; rfl⟩

/-- What entries tell. -/
structure MapOk {α : Type} (mk : α → Value) (es : Array MapEntry) (clock : Nat) (f : α → Option Value) (n : Nat) : Prop where
  st : Stamped es clock
  keys : ∀ x ∈ es.toList, ∃ a, x.key = mk a
  tells : ∀ a v, f a = some v ↔ ∃ e ∈ es.toList, e.key = mk a ∧ e.val = v
  size : es.size = n

/-- Block `m` is a map that tells `f`, of `n` keys. -/
def IsMap {α : Type} (mk : α → Value) (w : World) (m : Nat) (f : α → Option Value) (n : Nat) : Prop :=
  ∃ es clock, w.heap[m]? = some (.map es clock) ∧ MapOk mk es clock f n

theorem IsMap.lt {α : Type} {mk : α → Value} {w : World} {m : Nat} {f : α → Option Value} {n : Nat} (h : IsMap mk w m f n) : m < w.heap.size := by
  obtain ⟨es, c, h, _⟩ := h; exact lt_of_heap h
theorem IsMap.upd {α : Type} {mk : α → Value} {w w' : World} {m : Nat} {f : α → Option Value} {n : Nat} {S : Nat → Prop} (h : IsMap mk w m f n) (hu : Upd S w w') (hn : ¬ S m) : IsMap mk w' m f n := by
  obtain ⟨es, c, h, k⟩ := h; exact ⟨es, c, hu.heap h hn, k⟩

section
variable {α : Type} {d : TypeDesc} {mk : α → Value} {es : Array MapEntry} {clock n : Nat} {f : α → Option Value}

theorem nodup_keys {l : List MapEntry} (h : (l.map (·.key)).Nodup) {x y : MapEntry} (hx : x ∈ l) (hy : y ∈ l) (e : x.key = y.key) : x = y := by
  have hp : l.Pairwise (fun x y => x.key ≠ y.key) := by simpa [List.Nodup, List.pairwise_map] using h
  induction l with
  | nil => cases hx
  | cons a r ih =>
    obtain ⟨h1, h2⟩ := List.pairwise_cons.1 hp
    rcases List.mem_cons.1 hx with rfl | hx' <;> rcases List.mem_cons.1 hy with rfl | hy'
    · rfl
    · exact absurd e (h1 y hy')
    · exact absurd e.symm (h1 x hx')
    · exact ih (by simpa [List.Nodup, List.pairwise_map] using h2) hx' hy' h2

theorem nodup_born {l : List MapEntry} (h : (l.map (·.born)).Nodup) {x y : MapEntry} (hx : x ∈ l) (hy : y ∈ l) (e : x ≠ y) : x.born ≠ y.born := by
  have hp : l.Pairwise (fun x y => x.born ≠ y.born) := by simpa [List.Nodup, List.pairwise_map] using h
  induction l with
  | nil => cases hx
  | cons a r ih =>
    obtain ⟨h1, h2⟩ := List.pairwise_cons.1 hp
    rcases List.mem_cons.1 hx with rfl | hx' <;> rcases List.mem_cons.1 hy with rfl | hy'
    · exact absurd rfl e
    · exact h1 y hy'
    · exact (h1 x hx').symm
    · exact ih (by simpa [List.Nodup, List.pairwise_map] using h2) hx' hy' h2

theorem MapOk.isKeys (h : MapOk mk es clock f n) (K : KeyT d mk) : ∀ x ∈ es.toList, IsKey d x.key := fun x hx => by
  obtain ⟨a, ha⟩ := h.keys x hx; rw [ha]; exact K.isKey a

theorem MapOk.find (h : MapOk mk es clock f n) (K : KeyT d mk) (a : α) :
    (f a = none ∧ Instr.findNow d (mk a) es.toList 0 = some none ∧ ∀ x ∈ es.toList, x.key ≠ mk a) ∨
    ∃ j e, f a = some e.val ∧ Instr.findNow d (mk a) es.toList 0 = some (some (j, e.val)) ∧ es[j]? = some e ∧ e.key = mk a := by
  rcases findNow_spec (K.isKey a) es.toList 0 (h.isKeys K) with ⟨h1, h2⟩ | ⟨j, e, h1, h2, h3⟩
  · refine .inl ⟨?_, h1, h2⟩
    cases hf : f a with
    | none => rfl
    | some v =>
      obtain ⟨e, he, hk, _⟩ := (h.tells a v).1 hf
      exact absurd hk (h2 e he)
  · refine .inr ⟨j, e, (h.tells a e.val).2 ⟨e, List.mem_of_getElem? h2, h3, rfl⟩, by simpa using h1, by simpa using h2, h3⟩

variable {P : Program} {w : World} {m : Nat} {t kt et : TypeId}

theorem IsMap.lookup (h : IsMap mk w m f n) (K : KeyT d mk) (hm : P.underlying t = some (.map kt et)) (hd : P.underlying kt = some d) {z : Value} (hz : (zeroValue et).run P w = .ok z w) (a : α) (c : Bool) :
    (Instr.lookup t (.map (some m)) (mk a) c).run P w = .ok (if c then .tuple #[(f a).getD z, .bool (f a).isSome] else (f a).getD z) w := by
  obtain ⟨es, clock, hb, ok⟩ := h
  rcases ok.find K a with ⟨hf, h1, _⟩ | ⟨j, e, hf, h1, _, _⟩
  · simp [Instr.lookup, run_underlying hm, MapKept.run_getObj_map hb, run_checkKey hd (K.isKey a), run_findKey hd h1, hz, Result.andThen, hf]
  · simp [Instr.lookup, run_underlying hm, MapKept.run_getObj_map hb, run_checkKey hd (K.isKey a), run_findKey hd h1, Result.andThen, hf]

/-- A look-up in a nil map. -/
theorem lookup_nil (K : KeyT d mk) (hm : P.underlying t = some (.map kt et)) (hd : P.underlying kt = some d) {z : Value} (hz : (zeroValue et).run P w = .ok z w) (a : α) (c : Bool) :
    (Instr.lookup t (.map none) (mk a) c).run P w = .ok (if c then .tuple #[z, .bool false] else z) w := by
  have h1 : Instr.findNow d (mk a) [] 0 = some none := rfl
  simp [Instr.lookup, run_underlying hm, run_checkKey hd (K.isKey a), run_findKey hd h1, hz, Result.andThen]

/-- What a map's block is behind a store. -/
def upsert (d : TypeDesc) (es : Array MapEntry) (clock : Nat) (k v : Value) : Obj :=
  match Instr.findNow d k es.toList 0 with
  | some (some (i, _)) => .map (es.modify i fun e => { e with key := k, val := v }) clock
  | _ => .map (es.push { key := k, val := v, born := clock }) (clock + 1)

theorem MapOk.upsert [DecidableEq α] (h : MapOk mk es clock f n) (K : KeyT d mk) (a : α) (v : Value) :
    ∃ es' clock', Tb.upsert d es clock (mk a) v = .map es' clock' ∧ MapOk mk es' clock' (fun b => if b = a then some v else f b) (if (f a).isSome then n else n + 1) := by
  rcases h.find K a with ⟨hf, h1, h2⟩ | ⟨j, e, hf, h1, hj, he⟩
  · refine ⟨_, _, by simp only [Tb.upsert, h1]; rfl, stamped_push h.st h2, ?_, ?_, by simp [hf, h.size]⟩
    · intro x hx
      simp only [Array.toList_push, List.mem_append, List.mem_singleton] at hx
      rcases hx with hx | rfl
      · exact h.keys x hx
      · exact ⟨a, rfl⟩
    · intro b u
      simp only [Array.toList_push, List.mem_append, List.mem_singleton]
      by_cases hba : b = a
      · subst hba
        simp only [if_true, Option.some.injEq]
        constructor
        · rintro rfl; exact ⟨_, .inr rfl, rfl, rfl⟩
        · rintro ⟨e, he | rfl, hk, hv⟩
          · exact absurd hk (h2 e he)
          · exact hv
      · simp only [if_neg hba, h.tells]
        constructor
        · rintro ⟨e, he, hk, hv⟩; exact ⟨e, .inl he, hk, hv⟩
        · rintro ⟨e, he | rfl, hk, hv⟩
          · exact ⟨e, he, hk, hv⟩
          · exact absurd (K.inj _ _ hk).symm hba
  · have hjm : e ∈ es.toList := Array.mem_toList_iff.2 (Array.mem_of_getElem? hj)
    have hkey : ∀ e', es[j]? = some e' → ({ e' with key := mk a, val := v } : MapEntry).key = e'.key := fun e' he' => by rw [hj] at he'; cases he'; exact he.symm
    have hmem : ∀ x, x ∈ (es.modify j fun e => { e with key := mk a, val := v }).toList ↔ (x ∈ es.toList ∧ x.key ≠ mk a) ∨ x = { e with key := mk a, val := v } := by
      intro x
      constructor
      · intro hx
        obtain ⟨i, hi⟩ := List.getElem?_of_mem hx
        simp only [Array.getElem?_toList, Array.getElem?_modify] at hi
        by_cases hij : j = i
        · subst hij
          rw [if_pos rfl, hj] at hi
          simp at hi
          exact .inr hi.symm
        · rw [if_neg hij] at hi
          refine .inl ⟨Array.mem_toList_iff.2 (Array.mem_of_getElem? hi), fun hk => hij ?_⟩
          have hxl : es.toList[i]? = some x := by simpa using hi
          have hel : es.toList[j]? = some e := by simpa using hj
          have hnd := h.st.2.2
          have hi' : i < (es.toList.map (·.key)).length := by simpa using (List.getElem?_eq_some_iff.1 hxl).1
          have hj' : j < (es.toList.map (·.key)).length := by simpa using (List.getElem?_eq_some_iff.1 hel).1
          refine (List.getElem_inj (h₀ := hj') (h₁ := hi') hnd).1 ?_
          have h3 : (es.toList.map (·.key))[i]? = some (mk a) := by rw [List.getElem?_map, hxl]; simp [hk]
          have h4 : (es.toList.map (·.key))[j]? = some (mk a) := by rw [List.getElem?_map, hel]; simp [he]
          rw [List.getElem?_eq_getElem hi'] at h3
          rw [List.getElem?_eq_getElem hj'] at h4
          exact (Option.some.inj h4).trans (Option.some.inj h3).symm
      · rintro (⟨hx, hk⟩ | rfl)
        · obtain ⟨i, hi⟩ := List.getElem?_of_mem hx
          have hij : j ≠ i := fun q => hk (by subst q; have : es.toList[j]? = some e := by simpa using hj
                                              rw [this] at hi; cases hi; exact he)
          refine List.mem_of_getElem? (i := i) ?_
          simp only [Array.getElem?_toList, Array.getElem?_modify, if_neg hij]
          simpa using hi
        · refine List.mem_of_getElem? (i := j) ?_
          simp only [Array.getElem?_toList, Array.getElem?_modify, if_true, hj]
          rfl
    refine ⟨es.modify j fun e => { e with key := mk a, val := v }, clock, by simp only [Tb.upsert, h1], stamped_modify h.st _ _ (fun _ _ => rfl) (fun e' _ he' => hkey e' he'), ?_, ?_, by simp [hf, h.size]⟩
    · intro x hx
      rcases (hmem x).1 hx with ⟨hx, _⟩ | rfl
      · exact h.keys x hx
      · exact ⟨a, rfl⟩
    · intro b u
      simp only [hmem]
      by_cases hba : b = a
      · subst hba
        simp only [if_true, Option.some.injEq]
        constructor
        · rintro rfl; exact ⟨_, .inr rfl, rfl, rfl⟩
        · rintro ⟨x, ⟨_, hne⟩ | rfl, hk, hv⟩
          · exact absurd hk hne
          · exact hv
      · simp only [if_neg hba, h.tells]
        constructor
        · rintro ⟨x, hx, hk, hv⟩; exact ⟨x, .inl ⟨hx, fun q => hba (K.inj _ _ (hk.symm.trans q))⟩, hk, hv⟩
        · rintro ⟨x, ⟨hx, _⟩ | rfl, hk, hv⟩
          · exact ⟨x, hx, hk, hv⟩
          · exact absurd (K.inj _ _ hk).symm hba

theorem run_update (hb : w.heap[m]? = some (.map es clock)) (ok : MapOk mk es clock f n) (K : KeyT d mk) (hm : P.underlying t = some (.map kt et)) (hd : P.underlying kt = some d) (a : α) (v : Value) :
    (Instr.mapUpdate t (.map (some m)) (mk a) v).run P w = .ok () (setBlock w m (Tb.upsert d es clock (mk a) v)) := by
  rcases ok.find K a with ⟨hf, h1, h2⟩ | ⟨j, e, hf, h1, hj, he⟩
  · simp [Instr.mapUpdate, run_underlying hm, MapKept.run_getObj_map hb, run_checkKey hd (K.isKey a), run_findKey hd h1, MapKept.run_setObj_map _ hb, Result.andThen, Tb.upsert, h1, setBlock]
  · simp [Instr.mapUpdate, run_underlying hm, MapKept.run_getObj_map hb, run_checkKey hd (K.isKey a), run_findKey hd h1, hj, he, run_keyThatStays (K.isKey a), MapKept.run_setObj_map _ hb, Result.andThen, Tb.upsert, h1, setBlock]

theorem heap_setBlock {o o' : Obj} (hb : w.heap[m]? = some o) : (setBlock w m o').heap[m]? = some o' := (heap_set hb).1
theorem heap_setBlock_ne {b : Nat} (o' : Obj) (h : b ≠ m) : (setBlock w m o').heap[b]? = w.heap[b]? := by
  simp only [setBlock]; exact Array.getElem?_setIfInBounds_ne (Ne.symm h)

theorem cell_setBlock {a : Addr} (o' : Obj) (h : a.block ≠ m) : (setBlock w m o').cell? a = w.cell? a := World.cell?_of_block (heap_setBlock_ne o' h)

/-- `m[k] = v`. -/
theorem IsMap.update [DecidableEq α] (h : IsMap mk w m f n) (K : KeyT d mk) (hm : P.underlying t = some (.map kt et)) (hd : P.underlying kt = some d) (a : α) (v : Value) :
    ∃ w', (Instr.mapUpdate t (.map (some m)) (mk a) v).run P w = .ok () w' ∧ IsMap mk w' m (fun b => if b = a then some v else f b) (if (f a).isSome then n else n + 1) ∧ ∃ o, w' = setBlock w m o := by
  obtain ⟨es, clock, hb, ok⟩ := h
  obtain ⟨es', clock', e1, ok'⟩ := ok.upsert K a v
  exact ⟨_, run_update hb ok K hm hd a v, ⟨es', clock', by rw [heap_setBlock hb, e1], ok'⟩, _, rfl⟩

theorem isMap_made (mk : α → Value) (w : World) : IsMap mk (w.alloc (.map #[] 0)) w.heap.size (fun _ => none) 0 :=
  ⟨#[], 0, (MapKept.heap_alloc w _).1, stamped_empty 0, by simp, by simp, rfl⟩

/-- `clear(m)`. -/
theorem IsMap.clear (h : IsMap mk w m f n) (hm : P.underlying t = some (.map kt et)) (ty : TypeId) :
    ∃ o, (Builtin.clear_ #[t] ty #[.map (some m)]).run P w = .ok (.tuple #[]) (setBlock w m o) ∧ IsMap mk (setBlock w m o) m (fun _ => none) 0 := by
  obtain ⟨es, clock, hb, ok⟩ := h
  refine ⟨.map #[] clock, ?_, #[], clock, heap_setBlock hb, stamped_empty _, by simp, by simp, rfl⟩
  simp [Builtin.clear_, run_underlying hm, MapKept.run_getObj_map hb, MapKept.run_setObj_map _ hb, Result.andThen, setBlock]

theorem IsMap.len (h : IsMap mk w m f n) (hm : P.underlying t = some (.map kt et)) (ty : TypeId) : (Builtin.len_ #[t] ty #[.map (some m)]).run P w = .ok (goInt n) w := by
  obtain ⟨es, clock, hb, ok⟩ := h
  simp [Builtin.len_, run_underlying hm, MapKept.run_getObj_map hb, Result.andThen, ok.size]

/-! ### a range over a map -/

/-- Block `r` goes through the map `m`, which tells `f`; what is still to come are the keys `todo`. -/
def Iter (mk : α → Value) (w : World) (r m : Nat) (f : α → Option Value) (todo : List α) : Prop :=
  ∃ es clock since seen c0, w.heap[m]? = some (.map es clock) ∧ MapOk mk es clock f es.size ∧ w.heap[r]? = some (.mapIter (some m) since seen c0) ∧
    (∀ x ∈ es.toList, x.born < since) ∧ since ≤ c0 ∧ since ≤ clock ∧ todo.Nodup ∧ ∀ a, a ∈ todo ↔ ∃ e ∈ es.toList, e.key = mk a ∧ seen.contains e.born = false

theorem Iter.upd {w' : World} {r : Nat} {todo : List α} {S : Nat → Prop} (h : Iter mk w r m f todo) (hu : Upd S w w') (hm : ¬ S m) (hr : ¬ S r) : Iter mk w' r m f todo := by
  obtain ⟨es, clock, since, seen, c0, h1, h2, h3, h4⟩ := h
  exact ⟨es, clock, since, seen, c0, hu.heap h1 hm, h2, hu.heap h3 hr, h4⟩
theorem Iter.isMap {r : Nat} {todo : List α} (h : Iter mk w r m f todo) : ∃ n, IsMap mk w m f n := by
  obtain ⟨es, clock, since, seen, c0, h1, h2, _⟩ := h
  exact ⟨_, es, clock, h1, h2⟩
theorem Iter.ne {r : Nat} {todo : List α} (h : Iter mk w r m f todo) : r ≠ m := by
  obtain ⟨es, clock, since, seen, c0, h1, h2, h3, _⟩ := h
  intro e
  rw [e, h1] at h3
  cases h3
theorem Iter.lt {r : Nat} {todo : List α} (h : Iter mk w r m f todo) : r < w.heap.size := by
  obtain ⟨es, clock, since, seen, c0, h1, h2, h3, _⟩ := h
  exact lt_of_heap h3

theorem Iter.nodup {r : Nat} {todo : List α} (h : Iter mk w r m f todo) : todo.Nodup := by
  obtain ⟨es, clock, since, seen, c0, h1, h2, h3, h4, h5, h6, h7, h8⟩ := h
  exact h7

/-- `range m`. -/
theorem IsMap.range (h : IsMap mk w m f n) (K : KeyT d mk) (hm : P.underlying t = some (.map kt et)) :
    ∃ o todo, (Instr.range t (.map (some m))).run P w = .ok (.pointer (some ⟨w.heap.size, 0, none⟩)) (w.alloc o) ∧ Iter mk (w.alloc o) w.heap.size m f todo ∧ todo.length = n ∧ (∀ a, a ∈ todo ↔ (f a).isSome) := by
  obtain ⟨es, clock, hb, ok⟩ := h
  have hlt := lt_of_heap hb
  -- the keys
  have hex : ∀ l : List MapEntry, (∀ x ∈ l, ∃ a, x.key = mk a) → ∃ todo : List α, l.map (·.key) = todo.map mk := by
    intro l
    induction l with
    | nil => exact fun _ => ⟨[], rfl⟩
    | cons x r ih =>
      intro h
      obtain ⟨a, ha⟩ := h x (.head _)
      obtain ⟨t, ht⟩ := ih (fun y hy => h y (.tail _ hy))
      exact ⟨a :: t, by simp [ha, ht]⟩
  obtain ⟨todo, htodo⟩ := hex es.toList ok.keys
  have hmem : ∀ a, a ∈ todo ↔ ∃ e ∈ es.toList, e.key = mk a := by
    intro a
    constructor
    · intro ha
      have : mk a ∈ es.toList.map (·.key) := by rw [htodo]; exact List.mem_map.2 ⟨a, ha, rfl⟩
      obtain ⟨e, he, hk⟩ := List.mem_map.1 this
      exact ⟨e, he, hk⟩
    · rintro ⟨e, he, hk⟩
      have : mk a ∈ todo.map mk := by rw [← htodo]; exact List.mem_map.2 ⟨e, he, hk⟩
      obtain ⟨b, hb, e1⟩ := List.mem_map.1 this
      rw [← K.inj _ _ e1]; exact hb
  refine ⟨.mapIter (some m) clock #[] clock, todo, ?_, ⟨es, clock, clock, #[], clock, ?_, ⟨ok.st, ok.keys, ok.tells, rfl⟩, (MapKept.heap_alloc w _).1, fun x hx => ok.st.1 x hx, Nat.le_refl _, Nat.le_refl _, ?_, ?_⟩, ?_, ?_⟩
  · simp [Instr.range, run_underlying hm, MapKept.run_getObj_map hb, Result.andThen]
  · rw [(MapKept.heap_alloc w _).2 m hlt]; exact hb
  · have := ok.st.2.2
    rw [htodo] at this
    exact (List.Pairwise.of_map mk (fun a b h e => h (by rw [e])) this)
  · intro a; simp [hmem a]
  · have := congrArg List.length htodo
    simp at this
    rw [← this]; exact ok.size
  · intro a
    rw [hmem a]
    constructor
    · rintro ⟨e, he, hk⟩
      rw [(ok.tells a e.val).2 ⟨e, he, hk, rfl⟩]; rfl
    · intro h
      obtain ⟨v, hv⟩ := Option.isSome_iff_exists.1 h
      obtain ⟨e, he, hk, _⟩ := (ok.tells a v).1 hv
      exact ⟨e, he, hk⟩

theorem rangeLeft_upd {w' : World} {r : Nat} {todo : List α} {S : Nat → Prop} (h : Iter mk w r m f todo) (hu : Upd S w w') (hm : ¬ S m) (hr : ¬ S r) : w'.rangeLeft m r = w.rangeLeft m r := by
  obtain ⟨es, clock, since, seen, c0, h1, h2, h3, h4⟩ := h
  simp only [World.rangeLeft, h1, h3, hu.heap h1 hm, hu.heap h3 hr]

open Classical in
/-- The step of a range. -/
theorem Iter.next {r : Nat} {todo : List α} (h : Iter mk w r m f todo) (K : KeyT d mk) :
    (todo = [] ∧ ∀ ty, (Instr.next (.pointer (some ⟨r, 0, none⟩)) false ty).run P w = .ok (.tuple #[.bool false]) w) ∨
    ∃ a v todo' w', todo.Perm (a :: todo') ∧ f a = some v ∧ (∀ ty, (Instr.next (.pointer (some ⟨r, 0, none⟩)) false ty).run P w = .ok (.tuple #[.bool true, mk a, v]) w') ∧
      Iter mk w' r m f todo' ∧ Upd (fun k => k = r) w w' ∧ w'.heap.size = w.heap.size ∧ w'.rangeLeft m r < w.rangeLeft m r ∧ (Instr.entry (.pointer (some ⟨r, 0, none⟩))).run P w' = .ok (.tuple #[mk a, v]) w' := by
  have hne := h.ne
  obtain ⟨es, clock, since, seen, c0, hb, ok, hr, hold, hsc, hsk, hnd, htodo⟩ := h
  rcases run_next_at (P := P) w 0 r m since c0 seen es clock hr hb hold hsc with ⟨h0, hrun⟩ | ⟨e, he, w1, hal, hrun⟩
  · left
    refine ⟨?_, fun _ => hrun⟩
    cases todo with
    | nil => rfl
    | cons a r =>
      obtain ⟨e, he, _, hs⟩ := (htodo a).1 (.head _)
      have hmem : e ∈ (leftOf es seen).toList := by
        unfold leftOf
        have hs' : ¬ e.born ∈ seen := by simpa using hs
        have he' : e ∈ es := by simpa using he
        simp [hs', he']
      have := List.length_pos_of_mem hmem
      simp [h0] at this
  · right
    obtain ⟨hem, hes⟩ : e ∈ es.toList ∧ seen.contains e.born = false := by
      unfold leftOf at he
      simpa using he
    obtain ⟨a, ha⟩ := ok.keys e hem
    have hat : a ∈ todo := (htodo a).2 ⟨e, hem, ha, hes⟩
    obtain ⟨l1, l2, hl⟩ := List.append_of_mem hat
    have hperm : todo.Perm (a :: (l1 ++ l2)) := by rw [hl]; exact List.perm_middle
    have hr1 : w1.heap[r]? = some (.mapIter (some m) since seen c0) := by rcases hal with rfl | rfl <;> exact hr
    have hb1 : w1.heap[m]? = some (.map es clock) := by rcases hal with rfl | rfl <;> exact hb
    have hnd' := hperm.nodup_iff.1 hnd
    have hbm : (setBlock w1 r (.mapIter (some m) since (seen.push e.born) clock)).heap[m]? = some (.map es clock) := by rw [heap_setBlock_ne _ (Ne.symm hne)]; exact hb1
    refine ⟨a, e.val, l1 ++ l2, _, hperm, (ok.tells a e.val).2 ⟨e, hem, ha, rfl⟩, fun _ => by rw [← ha]; exact hrun,
      ⟨es, clock, since, seen.push e.born, clock, hbm, ok, heap_setBlock hr1, hold, hsk, hsk, (List.nodup_cons.1 hnd').2, ?_⟩, ?_, ?_, ?_, ?_⟩
    · intro b
      have h1 : b ∈ l1 ++ l2 ↔ b ∈ todo ∧ b ≠ a := by
        rw [hperm.mem_iff]
        constructor
        · intro hb
          exact ⟨.tail _ hb, fun q => (List.nodup_cons.1 hnd').1 (q ▸ hb)⟩
        · rintro ⟨hb, hba⟩
          rcases List.mem_cons.1 hb with rfl | hb
          · exact absurd rfl hba
          · exact hb
      rw [h1, htodo b]
      constructor
      · rintro ⟨⟨x, hx, hk, hs⟩, hba⟩
        refine ⟨x, hx, hk, ?_⟩
        simp only [Array.contains_push, Bool.or_eq_false_iff]
        refine ⟨hs, ?_⟩
        simp only [beq_eq_false_iff_ne]
        intro q
        have hbn := ok.st.2.1
        have : x = e := by
          have hp : es.toList.Pairwise (fun x y => x.born ≠ y.born) := by simpa [List.Nodup, List.pairwise_map] using hbn
          by_cases hxe : x = e
          · exact hxe
          · exact absurd q (nodup_born ok.st.2.1 hx hem hxe)
        subst this
        exact hba (K.inj _ _ (hk.symm.trans ha))
      · rintro ⟨x, hx, hk, hs⟩
        simp only [Array.contains_push, Bool.or_eq_false_iff, beq_eq_false_iff_ne] at hs
        refine ⟨⟨x, hx, hk, hs.1⟩, fun q => hs.2 ?_⟩
        subst q
        rw [nodup_keys ok.st.2.2 hx hem (hk.trans ha.symm)]
    · rcases hal with rfl | rfl
      · exact upd_setBlock _ _ _ _ rfl
      · exact (Upd.refl _ _).drew.trans (upd_setBlock (fun k => k = r) _ r _ rfl)
    · rcases hal with rfl | rfl <;> simp [setBlock]
    · simp only [World.rangeLeft, hbm, heap_setBlock hr1, hb, hr]; exact left_shrinks es seen e he
    · rw [← ha]; exact run_entry_at _ r m since seen es clock e (heap_setBlock hr1) hbm hem ok.st.2.1
end


theorem Bytes.take {w : World} {b off n cap m : Nat} {l : List UInt8} (h : Bytes w (.slice (some ⟨b, off, none⟩) n cap) l) (hm : m ≤ n) : Bytes w (.slice (some ⟨b, off, none⟩) m cap) (l.take m) := by
  rcases h with ⟨h, _⟩ | ⟨b', off', cap', h, hc, hb, hl⟩
  · cases h
  · cases h
    refine .inr ⟨b, off, cap, by rw [List.length_take, Nat.min_eq_left hm], by rw [List.length_take]; omega, hb, fun i hi => ?_⟩
    rw [List.length_take] at hi
    rw [hl i (by omega), List.getElem_take]
theorem Bytes.drop {w : World} {b off n cap m c : Nat} {l : List UInt8} (h : Bytes w (.slice (some ⟨b, off, none⟩) n cap) l) (hm : m ≤ n) (hc : n - m ≤ c) : Bytes w (.slice (some ⟨b, off + m, none⟩) (n - m) c) (l.drop m) := by
  rcases h with ⟨h, _⟩ | ⟨b', off', cap', h, hc', hb, hl⟩
  · cases h
  · cases h
    refine .inr ⟨b, off + m, c, by rw [List.length_drop], by rw [List.length_drop]; exact hc, hb, fun i hi => ?_⟩
    rw [List.length_drop] at hi
    rw [show off + m + i = off + (m + i) by omega, hl (m + i) (by omega), List.getElem_drop]
theorem Bytes.size {w : World} {a : Option Addr} {n cap : Nat} {l : List UInt8} (h : Bytes w (.slice a n cap) l) : l.length = n := by
  rcases h with ⟨h, rfl⟩ | ⟨b', off', cap', h, hc, hb, hl⟩
  · cases h; rfl
  · cases h; rfl

def u8v (x : UInt8) : Value := .int .u8 (x.toNat : Int)

theorem Bytes.shape {w : World} {v : Value} {l : List UInt8} (h : Bytes w v l) (hl : 0 < l.length) : ∃ b off cap, v = .slice (some ⟨b, off, none⟩) l.length cap ∧ l.length ≤ cap ∧ b < w.heap.size := by
  rcases h with ⟨_, rfl⟩ | ⟨b, off, cap, rfl, hc, hb, _⟩
  · simp at hl
  · exact ⟨b, off, cap, rfl, hc, hb⟩

/-- `s[m:]`. -/
theorem run_slice_from {P : Program} {t e : TypeId} {sz : Nat} (ht : P.underlying t = some (.slice e)) (hs : (P.info? e).map (·.size) = some sz) (b off n cap m : Nat) (hm : m ≤ n) (w : World) :
    (Instr.slice t (.slice (some ⟨b, off, none⟩) n cap) (some (.int .i64 (m : Int))) none none).run P w = .ok (.slice (some ⟨b, if cap = m then off else off + m * sz, none⟩) (n - m) (cap - m)) w := by
  obtain ⟨i, hi, rfl⟩ := Option.map_eq_some_iff.1 hs
  have he : P.elem t = e := by simp [Program.elem, ht]
  rw [run_slice_l w t _ n cap (by rw [he]; exact ht) .i64 (m : Int) (by omega) (by omega)]
  simp only [he, sizeOf, typeInfo, sliced]
  by_cases hcm : cap = m <;> simp [hi, Result.andThen, hcm, Addr.add_lit]

theorem bytes_cells {w : World} {b off n cap : Nat} {l : List UInt8} (h : Bytes w (.slice (some ⟨b, off, none⟩) n cap) l) : ∀ j u, (l.map u8v)[j]? = some u → w.cell? ((⟨b, off, none⟩ : Addr).add j) = some u := by
  rcases h with ⟨h, _⟩ | ⟨b', off', cap', h, hc', hb, hl⟩
  · cases h
  · cases h
    intro j u hj
    rw [List.getElem?_map] at hj
    obtain ⟨x, hx, rfl⟩ := Option.map_eq_some_iff.1 hj
    obtain ⟨hlt, rfl⟩ := List.getElem?_eq_some_iff.1 hx
    rw [show (⟨b, off, none⟩ : Addr).add j = ⟨b, off + j, none⟩ from Addr.add_lit b off j]
    exact hl j hlt

/-- What a row of the call's own reads as. -/
theorem bytes_of_own {w : World} {base : Nat} {e : TypeId} {v : Value} {l : List UInt8} (h : w.ownsRow base e 1 v l.length (l.map u8v)) : Bytes w v l ∧ ∀ b, sliceBlock v = some b → base ≤ b := by
  rcases h.2 with ⟨rfl, h0⟩ | ⟨g, cap', cur, rfl, hg, hheap, hn, hm, hs, htake⟩
  · exact ⟨.inl ⟨rfl, List.eq_nil_of_length_eq_zero h0⟩, fun b hb => by cases hb⟩
  · refine ⟨.inr ⟨g, 0, cap', rfl, hn, lt_of_heap hheap, fun i hi => ?_⟩, fun b hb => by cases hb; exact hg⟩
    rw [cell_of hheap]
    have h1 : (cur.toList.take (l.length * 1))[i]? = some (.int .u8 (l[i].toNat : Int)) := by
      rw [htake]; simp [hi, u8v]
    rw [List.getElem?_take] at h1
    have h2 : i < l.length * 1 := by omega
    simp only [h2, if_true] at h1
    simpa using h1

/-- `append(x, y...)` of bytes onto a row of the call's own. -/
theorem run_append_bytes {P : Program} {t e : TypeId} (ht : P.underlying t = some (.slice e)) (hi : (P.info? e).map (fun i => (i.zero, i.size, i.bytes)) = some (some (.int .u8 0), 1, 1))
    {w : World} {base : Nat} {v : Value} {l1 l2 : List UInt8} (hown : w.ownsRow base e 1 v l1.length (l1.map u8v)) {b off n cap : Nat} (h2 : Bytes w (.slice (some ⟨b, off, none⟩) n cap) l2) (hbase : base ≤ w.heap.size) (hb : l1.length + l2.length ≤ 140737488355328) :
    ∃ v' w', (∀ ty, (Builtin.append_ #[t, t] ty #[v, .slice (some ⟨b, off, none⟩) n cap]).run P w = .ok v' w') ∧ w'.ownsRow base e 1 v' (l1 ++ l2).length ((l1 ++ l2).map u8v) ∧ w.grownBy w' v.ownBlock ∧ (v' = .slice none 0 0 ↔ v = .slice none 0 0 ∧ l2 = []) := by
  obtain ⟨i0, hi0, hz0, hz1, hz2⟩ := info_parts hi
  have hn := h2.size
  subst hn
  obtain ⟨v', w', hr, h3, h4, h5⟩ := run_append_own (P := P) w base t 0 e i0 (.int .u8 0) 1 1 ht hi0 hz0 hz1 hz2 rfl (by decide) v l1.length (l1.map u8v) hown ⟨b, off, none⟩ l2.length cap (l2.map u8v) (by simp) (bytes_cells h2)
    (fun u hu => by obtain ⟨x, _, rfl⟩ := List.mem_map.1 hu; rfl) (by unfold maxLen; omega) (by omega) hbase
  refine ⟨v', w', fun _ => hr, by rw [List.length_append, List.map_append]; exact h3, h4, by rw [h5, List.length_eq_zero_iff]⟩

theorem Upd.ofGrown {w w' : World} {row : Option Nat} (h : w.grownBy w' row) : Upd (fun k => some k = row) w w' := ⟨h.os, h.tape, h.output, h.size, fun k hk hn => h.block k hk hn⟩

theorem drop_any {w : World} {b off n cap m : Nat} {l : List UInt8} (h : Bytes w (.slice (some ⟨b, off, none⟩) n cap) l) (hm : m ≤ n) (hc : n ≤ cap) : Bytes w (.slice (some ⟨b, if cap = m then off else off + m * 1, none⟩) (n - m) (cap - m)) (l.drop m) := by
  by_cases e : cap = m
  · subst e
    obtain rfl : n = cap := by omega
    have hl := h.size
    rcases h with ⟨h, _⟩ | ⟨b', off', cap', h, hc', hb, hl'⟩
    · cases h
    · cases h
      refine .inr ⟨b, off, 0, by simp, by simp, hb, fun i hi => ?_⟩
      simp at hi
  · rw [if_neg e, Nat.mul_one]
    exact h.drop hm (by omega)

/-- `s[m:]` of bytes. -/
theorem slice_from_bytes {P : Program} {t e : TypeId} (ht : P.underlying t = some (.slice e)) (hs : (P.info? e).map (·.size) = some 1) {w : World} {b off n cap : Nat} {l : List UInt8} (h : Bytes w (.slice (some ⟨b, off, none⟩) n cap) l) (hc : n ≤ cap) (m : Nat) (hm : m ≤ n) :
    ∃ o1 n1 c1, (∀ w, (Instr.slice t (.slice (some ⟨b, off, none⟩) n cap) (some (.int .i64 (m : Int))) none none).run P w = .ok (.slice (some ⟨b, o1, none⟩) n1 c1) w) ∧ Bytes w (.slice (some ⟨b, o1, none⟩) n1 c1) (l.drop m) :=
  ⟨_, _, _, run_slice_from ht hs b off n cap m hm, drop_any h hm hc⟩

/-- An append in a region that draws its order, by the equation of its run. -/
theorem step_append {P : Program} {ops : Array Oper} {o : Oper} {a : Act} {w w' : World} {K : Act → World → Prop} {Q : Exit → Act → World → Prop} {E : Prop} {s x : Operand} {t : TypeId} {vs vx v : Value}
    (hrun : ∀ ty, (Builtin.append_ #[t, t] ty #[vs, vx]).run P w = .ok v w') (hg : o.guard = none) (hop : o.op = Op.call { callee := Callee.builtin Builtin.append, args := #[s, x], argTypes := #[t, t] })
    (hs : a.eval s = vs) (hx : a.eval x = vx) (hK : K (a.put o.dst v) w') :
    if Region.wanted o (yielded ops a.tmps) = true then Oper.wp P o a w K Q else E := by
  have hw : Region.wanted o (yielded ops a.tmps) = true := by simp [Region.wanted, hg]
  rw [if_pos hw]
  have h := hrun o.type
  unfold Oper.wp
  simp [execOp, hop, resolve, invoke, builtin, hs, hx, h, Result.andThen]
  exact hK
/-- .. and where the order is the text's. -/
theorem wpList_append {P : Program} {ops : Array Oper} {rest : List Oper} {o : Oper} {a : Act} {w w' : World} {Q : Exit → Act → World → Prop} {s x : Operand} {t : TypeId} {vs vx v : Value}
    (hrun : ∀ ty, (Builtin.append_ #[t, t] ty #[vs, vx]).run P w = .ok v w') (hg : o.guard = none) (hop : o.op = Op.call { callee := Callee.builtin Builtin.append, args := #[s, x], argTypes := #[t, t] })
    (hs : a.eval s = vs) (hx : a.eval x = vx) (hK : wpList P ops Q rest (a.put o.dst v) w') : wpList P ops Q (o :: rest) a w :=
  wpList_plain hg fun K hK' => by
    have h := hrun o.type
    unfold Oper.wp
    simp [execOp, hop, resolve, invoke, builtin, hs, hx, h, Result.andThen]
    exact hK' _ _ hK

/-- The string of bytes. -/
def strB (l : List UInt8) : ByteArray := ⟨l.toArray⟩
theorem strB_inj {a b : List UInt8} (h : strB a = strB b) : a = b := by
  have := congrArg (fun s : ByteArray => s.data.toList) h
  simpa [strB] using this
theorem strB_eq (a b : List UInt8) : (strB a == strB b) = (a == b) := by
  rw [Bool.eq_iff_iff, MapKept.bytes_beq, beq_iff_eq]
  exact ⟨strB_inj, fun h => by rw [h]⟩
theorem strB_toList (s : ByteArray) : strB s.data.toList = s := by cases s; rfl

theorem run_to_string {P : Program} {src e dst : TypeId} (hs : P.underlying src = some (.slice e)) (he : P.underlying e = some (.int .u8)) (hd : P.underlying dst = some .string) {w : World} {v : Value} {l : List UInt8} (h : Bytes w v l) :
    (convert src dst v).run P w = .ok (.string (strB l)) w := by
  rcases h with ⟨rfl, rfl⟩ | ⟨b, off, cap, rfl, hc, hb, hl⟩
  · exact run_convert_bytes_nil w src e hs he 0 0 dst hd
  · have h := run_convert_bytes_arg (P := P) w src e hs he b off l.length cap (l.map fun x => (x.toNat : Int)) (by simp) (fun i hi => by rw [hl i hi]; simp [List.getD, hi]) dst hd
    rw [h]
    have e : (l.map fun x => (x.toNat : Int)).map (fun n => UInt8.ofNat n.toNat) = l := by
      rw [List.map_map]
      exact (List.map_congr_left (fun x _ => by simp)).trans (List.map_id l)
    unfold strOfNums strB
    rw [e]

end Go.Tb

/-
  delete from a map; maps that are sets of numbers (no program in sight).
-/
namespace Go.Tb
open Go.RowKit Go.MapKept Go.ChangeMaps
set_option linter.unusedVariables false
section
variable {α : Type} {d : TypeDesc} {mk : α → Value} {es : Array MapEntry} {clock n : Nat} {f : α → Option Value}
variable {P : Program} {w : World} {m : Nat} {t kt et : TypeId}

/-- `delete(m, k)`. -/
theorem IsMap.delete [DecidableEq α] (h : IsMap mk w m f n) (K : KeyT d mk) (hm : P.underlying t = some (.map kt et)) (hd : P.underlying kt = some d) (a : α) :
    ∃ o, (∀ ty, (Builtin.delete_ #[t, kt] ty #[.map (some m), mk a]).run P w = .ok (.tuple #[]) (setBlock w m o)) ∧ IsMap mk (setBlock w m o) m (fun b => if b = a then none else f b) (if (f a).isSome then n - 1 else n) := by
  obtain ⟨es, clock, hb, ok⟩ := h
  rcases ok.find K a with ⟨hf, h1, h2⟩ | ⟨j, e, hf, h1, hj, he⟩
  · refine ⟨.map es clock, fun ty => ?_, es, clock, heap_setBlock hb, ok.st, ok.keys, fun b v => ?_, ?_⟩
    · simp [Builtin.delete_, run_underlying hm, MapKept.run_getObj_map hb, run_checkKey hd (K.isKey a), run_findKey hd h1, MapKept.run_setObj_map _ hb, Result.andThen, setBlock]
    · by_cases hba : b = a
      · subst hba
        simp only [if_true]
        constructor
        · intro h; cases h
        · rintro ⟨x, hx, hk, _⟩; exact absurd hk (h2 x hx)
      · simp only [if_neg hba]; exact ok.tells b v
    · rw [hf]; exact ok.size
  · have hjl : es.toList[j]? = some e := by simpa using hj
    have hjs : j < es.size := by simpa using (List.getElem?_eq_some_iff.1 hjl).1
    have hsub : (es.eraseIdxIfInBounds j).toList = es.toList.eraseIdx j := by
      unfold Array.eraseIdxIfInBounds
      rw [dif_pos hjs]
      simp
    have hmem : ∀ x, x ∈ (es.eraseIdxIfInBounds j).toList ↔ x ∈ es.toList ∧ x.key ≠ mk a := by
      intro x
      rw [hsub, List.mem_eraseIdx_iff_getElem?]
      constructor
      · rintro ⟨i, hij, hi⟩
        refine ⟨List.mem_of_getElem? hi, fun hk => hij ?_⟩
        have hnd := ok.st.2.2
        have hi' : i < (es.toList.map (·.key)).length := by simpa using (List.getElem?_eq_some_iff.1 hi).1
        have hj' : j < (es.toList.map (·.key)).length := by simpa using hjs
        refine (List.getElem_inj (h₀ := hi') (h₁ := hj') hnd).1 ?_
        have h3 : (es.toList.map (·.key))[i]? = some (mk a) := by rw [List.getElem?_map, hi]; simp [hk]
        have h4 : (es.toList.map (·.key))[j]? = some (mk a) := by rw [List.getElem?_map, hjl]; simp [he]
        rw [List.getElem?_eq_getElem hi'] at h3
        rw [List.getElem?_eq_getElem hj'] at h4
        exact (Option.some.inj h3).trans (Option.some.inj h4).symm
      · rintro ⟨hx, hk⟩
        obtain ⟨i, hi⟩ := List.getElem?_of_mem hx
        exact ⟨i, fun q => hk (by subst q; rw [hjl] at hi; cases hi; exact he), hi⟩
    refine ⟨.map (es.eraseIdxIfInBounds j) clock, fun ty => ?_, es.eraseIdxIfInBounds j, clock, heap_setBlock hb, stamped_erase ok.st j, fun x hx => ok.keys x ((hmem x).1 hx).1, fun b v => ?_, ?_⟩
    · simp [Builtin.delete_, run_underlying hm, MapKept.run_getObj_map hb, run_checkKey hd (K.isKey a), run_findKey hd h1, MapKept.run_setObj_map _ hb, Result.andThen, setBlock]
    · simp only [hmem]
      by_cases hba : b = a
      · subst hba
        simp only [if_true]
        constructor
        · intro h; cases h
        · rintro ⟨x, ⟨_, hk'⟩, hk, _⟩; exact absurd hk hk'
      · simp only [if_neg hba, ok.tells]
        constructor
        · rintro ⟨x, hx, hk, hv⟩; exact ⟨x, ⟨hx, fun q => hba (K.inj _ _ (hk.symm.trans q))⟩, hk, hv⟩
        · rintro ⟨x, ⟨hx, _⟩, hk, hv⟩; exact ⟨x, hx, hk, hv⟩
    · have h5 : (es.eraseIdxIfInBounds j).size = es.size - 1 := by
        rw [← Array.length_toList, hsub, List.length_eraseIdx, if_pos (by simpa using hjs)]; simp
      rw [h5, hf, ok.size]; rfl
end

/-- A delete where the order is the text's. -/
theorem wpList_delete {P : Program} {ops : Array Oper} {rest : List Oper} {o : Oper} {a : Act} {w w' : World} {Q : Exit → Act → World → Prop} {s x : Operand} {t u : TypeId} {vs vx v : Value}
    (hrun : ∀ ty, (Builtin.delete_ #[t, u] ty #[vs, vx]).run P w = .ok v w') (hg : o.guard = none) (hop : o.op = Op.call { callee := Callee.builtin Builtin.delete, args := #[s, x], argTypes := #[t, u] })
    (hs : a.eval s = vs) (hx : a.eval x = vx) (hK : wpList P ops Q rest (a.put o.dst v) w') : wpList P ops Q (o :: rest) a w :=
  wpList_plain hg fun K hK' => by
    have h := hrun o.type
    unfold Oper.wp
    simp [execOp, hop, resolve, invoke, builtin, hs, hx, h, Result.andThen]
    exact hK' _ _ hK

/-- A map that tells of each number whether it is in a list: to true. -/
def SetMap (w : World) (m : Nat) (l : List Int) : Prop := IsMap (Value.int .i64) w m (fun x => if x ∈ l then some (.bool true) else none) l.length

theorem SetMap.upd {w w' : World} {m : Nat} {l : List Int} {S : Nat → Prop} (h : SetMap w m l) (hu : Upd S w w') (hn : ¬ S m) : SetMap w' m l := IsMap.upd h hu hn
theorem SetMap.perm {w : World} {m : Nat} {l l' : List Int} (h : SetMap w m l) (hp : l.Perm l') : SetMap w m l' := by
  have e : (fun x => if x ∈ l then some (Value.bool true) else none) = fun x => if x ∈ l' then some (Value.bool true) else none := by
    funext x
    by_cases hx : x ∈ l
    · rw [if_pos hx, if_pos (hp.mem_iff.1 hx)]
    · rw [if_neg hx, if_neg (fun h => hx (hp.mem_iff.2 h))]
  unfold SetMap at h ⊢
  rw [e, hp.length_eq] at h
  exact h
theorem setMap_made (w : World) : SetMap (w.alloc (.map #[] 0)) w.heap.size [] := by
  have := isMap_made (Value.int .i64) w
  unfold SetMap
  simpa using this
section
variable {P : Program} {w : World} {m : Nat} {t kt et : TypeId} {l : List Int}
/-- `m[x] = true`. -/
theorem SetMap.put (h : SetMap w m l) (hm : P.underlying t = some (.map kt et)) (hd : P.underlying kt = some (.int .i64)) (x : Int) :
    ∃ o, (Instr.mapUpdate t (.map (some m)) (.int .i64 x) (.bool true)).run P w = .ok () (setBlock w m o) ∧ SetMap (setBlock w m o) m (if x ∈ l then l else x :: l) := by
  obtain ⟨w', hr, h2, o, rfl⟩ := IsMap.update h (keyT_int .i64) hm hd x (.bool true)
  refine ⟨o, hr, ?_⟩
  by_cases hx : x ∈ l
  · rw [if_pos hx]
    unfold SetMap
    have e : (fun b => if b = x then some (Value.bool true) else if b ∈ l then some (Value.bool true) else none) = fun b => if b ∈ l then some (Value.bool true) else none := by
      funext b
      by_cases hb : b = x
      · subst hb; rw [if_pos rfl, if_pos hx]
      · rw [if_neg hb]
    rw [e] at h2
    simpa [hx] using h2
  · rw [if_neg hx]
    unfold SetMap
    have e : (fun b => if b = x then some (Value.bool true) else if b ∈ l then some (Value.bool true) else none) = fun b => if b ∈ x :: l then some (Value.bool true) else none := by
      funext b
      by_cases hb : b = x
      · subst hb; simp
      · simp [hb]
    rw [e] at h2
    simpa [hx] using h2
/-- `delete(m, x)`. -/
theorem SetMap.delete (h : SetMap w m l) (hm : P.underlying t = some (.map kt et)) (hd : P.underlying kt = some (.int .i64)) (x : Int) (hn : l.Nodup) :
    ∃ o, (∀ ty, (Builtin.delete_ #[t, kt] ty #[.map (some m), .int .i64 x]).run P w = .ok (.tuple #[]) (setBlock w m o)) ∧ SetMap (setBlock w m o) m (l.erase x) := by
  obtain ⟨o, hr, h2⟩ := IsMap.delete h (keyT_int .i64) hm hd x
  refine ⟨o, hr, ?_⟩
  unfold SetMap
  have e : (fun b => if b = x then none else if b ∈ l then some (Value.bool true) else none) = fun b => if b ∈ l.erase x then some (Value.bool true) else none := by
    funext b
    by_cases hb : b = x
    · subst hb
      rw [if_pos rfl, if_neg (fun h => (hn.mem_erase_iff.1 h).1 rfl)]
    · rw [if_neg hb]
      by_cases hl : b ∈ l
      · rw [if_pos hl, if_pos (hn.mem_erase_iff.2 ⟨hb, hl⟩)]
      · rw [if_neg hl, if_neg (fun h => hl (hn.mem_erase_iff.1 h).2)]
  rw [e] at h2
  have hl : (if (if x ∈ l then some (Value.bool true) else none).isSome = true then l.length - 1 else l.length) = (l.erase x).length := by
    by_cases hx : x ∈ l
    · rw [if_pos hx, List.length_erase_of_mem hx]; rfl
    · rw [if_neg hx, List.erase_of_not_mem hx]; rfl
  rw [hl] at h2
  exact h2
/-- `m[x]`. -/
theorem SetMap.has (h : SetMap w m l) (hm : P.underlying t = some (.map kt et)) (hd : P.underlying kt = some (.int .i64)) (hz : (zeroValue et).run P w = .ok (.bool false) w) (x : Int) :
    (Instr.lookup t (.map (some m)) (.int .i64 x) false).run P w = .ok (.bool (decide (x ∈ l))) w := by
  rw [IsMap.lookup h (keyT_int .i64) hm hd hz x false]
  by_cases hx : x ∈ l <;> simp [hx]
end
/-- A key of bytes, as a string. -/
def skey (l : List UInt8) : Value := .string (strB l)
theorem keyT_skey : KeyT .string skey := ⟨fun _ => trivial, fun a b h => by unfold skey at h; exact strB_inj (by injection h)⟩
end Go.Tb

/-
  Slices of whatever elements: `Sl enc k w v l`: v is a slice whose elements are l, each of k cells (no program in sight).
-/
namespace Go.Tb
open Go.RowKit Go.MapKept Go.ChangeMaps
set_option linter.unusedVariables false

/-- The cells from `off` on. -/
def CellsAt (w : World) (b off : Nat) (cs : List Value) : Prop := ∀ j v, cs[j]? = some v → w.cell? ⟨b, off + j, none⟩ = some v

theorem CellsAt.upd {S : Nat → Prop} {w w' : World} {b off : Nat} {cs : List Value} (h : CellsAt w b off cs) (hu : Upd S w w') (hn : ¬ S b) : CellsAt w' b off cs :=
  fun j v hj => hu.cell (h j v hj) hn
theorem CellsAt.take {w : World} {b off : Nat} {cs : List Value} (h : CellsAt w b off cs) (n : Nat) : CellsAt w b off (cs.take n) := fun j v hj => by
  rw [List.getElem?_take] at hj
  split at hj
  · exact h j v hj
  · cases hj
theorem CellsAt.drop {w : World} {b off : Nat} {cs : List Value} (h : CellsAt w b off cs) (n : Nat) : CellsAt w b (off + n) (cs.drop n) := fun j v hj => by
  rw [List.getElem?_drop] at hj
  rw [Nat.add_assoc]
  exact h (n + j) v hj

section
variable {α : Type}

theorem flat_length {enc : α → List Value} {k : Nat} (hk : ∀ x, (enc x).length = k) (l : List α) : (l.flatMap enc).length = l.length * k := by
  induction l with
  | nil => simp
  | cons x r ih => rw [List.flatMap_cons, List.length_append, hk, ih, List.length_cons, Nat.succ_mul]; omega
theorem flat_take {enc : α → List Value} {k : Nat} (hk : ∀ x, (enc x).length = k) (l : List α) (n : Nat) : (l.take n).flatMap enc = (l.flatMap enc).take (n * k) := by
  induction l generalizing n with
  | nil => simp
  | cons x r ih =>
    cases n with
    | zero => simp
    | succ n =>
      have e : (enc x).take (n * k + k) = enc x := List.take_of_length_le (by rw [hk]; omega)
      rw [List.take_succ_cons, List.flatMap_cons, List.flatMap_cons, ih, List.take_append, hk, Nat.succ_mul, e, Nat.add_sub_cancel]
theorem flat_drop {enc : α → List Value} {k : Nat} (hk : ∀ x, (enc x).length = k) (l : List α) (n : Nat) : (l.drop n).flatMap enc = (l.flatMap enc).drop (n * k) := by
  induction l generalizing n with
  | nil => simp
  | cons x r ih =>
    cases n with
    | zero => simp
    | succ n =>
      have e : (enc x).drop (n * k + k) = [] := List.drop_of_length_le (by rw [hk]; omega)
      rw [List.drop_succ_cons, List.flatMap_cons, ih, List.drop_append, hk, Nat.succ_mul, e, List.nil_append, Nat.add_sub_cancel]
theorem flat_get {enc : α → List Value} {k : Nat} (hk : ∀ x, (enc x).length = k) (l : List α) (i : Nat) (hi : i < l.length) (j : Nat) (hj : j < k) : (l.flatMap enc)[i * k + j]? = (enc l[i])[j]? := by
  induction l generalizing i with
  | nil => simp at hi
  | cons x r ih =>
    rw [List.flatMap_cons]
    cases i with
    | zero => rw [Nat.zero_mul, Nat.zero_add, List.getElem?_append_left (by rw [hk]; exact hj)]; rfl
    | succ i =>
      rw [List.getElem?_append_right (by rw [hk, Nat.succ_mul]; omega), hk, Nat.succ_mul, show i * k + k + j - k = i * k + j by omega]
      exact ih i (by simpa using hi)
theorem flat_one {enc : α → Value} (l : List α) : l.flatMap (fun x => [enc x]) = l.map enc := by
  induction l with
  | nil => rfl
  | cons x r ih => simp [ih]

/-- `v` is a slice of the elements `l`, each of the cells `enc`. -/
def Sl (enc : α → List Value) (w : World) (v : Value) (l : List α) : Prop :=
  (v = .slice none 0 0 ∧ l = []) ∨ ∃ b off cap, v = .slice (some ⟨b, off, none⟩) l.length cap ∧ l.length ≤ cap ∧ b < w.heap.size ∧ CellsAt w b off (l.flatMap enc)

variable {enc : α → List Value} {w w' : World} {v : Value} {l : List α} {k : Nat}

theorem Sl.upd {S : Nat → Prop} (h : Sl enc w v l) (hu : Upd S w w') (hn : ∀ b, sliceBlock v = some b → ¬ S b) : Sl enc w' v l := by
  rcases h with h | ⟨b, off, cap, rfl, hc, hb, h⟩
  · exact .inl h
  · exact .inr ⟨b, off, cap, rfl, hc, Nat.lt_of_lt_of_le hb hu.size, h.upd hu (hn b rfl)⟩
theorem Sl.grow (h : Sl enc w v l) (hu : Upd (fun _ => False) w w') : Sl enc w' v l := h.upd hu (fun _ _ x => x)
theorem Sl.lt (h : Sl enc w v l) {b : Nat} (hb : sliceBlock v = some b) : b < w.heap.size := by
  rcases h with ⟨rfl, _⟩ | ⟨b', off, cap, rfl, hc, hl, h⟩
  · cases hb
  · cases hb; exact hl
theorem sl_nil (enc : α → List Value) (w : World) : Sl enc w (.slice none 0 0) ([] : List α) := .inl ⟨rfl, rfl⟩
theorem Sl.size {a : Option Addr} {n cap : Nat} (h : Sl enc w (.slice a n cap) l) : l.length = n := by
  rcases h with ⟨h, rfl⟩ | ⟨b', off', cap', h, hc, hb, hl⟩
  · cases h; rfl
  · cases h; rfl
/-- Its shape. -/
theorem Sl.shape (h : Sl enc w v l) : ∃ a cap, v = .slice a l.length cap ∧ l.length ≤ cap := by
  rcases h with ⟨rfl, rfl⟩ | ⟨b, off, cap, rfl, hc, hb, _⟩
  · exact ⟨_, _, rfl, Nat.le_refl _⟩
  · exact ⟨_, _, rfl, hc⟩
/-- Where there is an element, there is a block. -/
theorem Sl.block (h : Sl enc w v l) (hl : 0 < l.length) : ∃ b off cap, v = .slice (some ⟨b, off, none⟩) l.length cap ∧ l.length ≤ cap ∧ b < w.heap.size ∧ CellsAt w b off (l.flatMap enc) := by
  rcases h with ⟨_, rfl⟩ | h
  · simp at hl
  · exact h
/-- A cell of the i-th element. -/
theorem Sl.at {b off n cap : Nat} (h : Sl enc w (.slice (some ⟨b, off, none⟩) n cap) l) (hk : ∀ x, (enc x).length = k) (i : Nat) (hi : i < l.length) (j : Nat) (hj : j < k) (u : Value) (hu : (enc l[i])[j]? = some u) :
    w.cell? ⟨b, off + i * k + j, none⟩ = some u := by
  rcases h with ⟨h, _⟩ | ⟨b', off', cap', h, hc, hb, hl⟩
  · cases h
  · cases h
    rw [Nat.add_assoc]
    exact hl (i * k + j) u (by rw [flat_get hk l i hi j hj]; exact hu)
theorem Sl.take {b off n cap : Nat} (h : Sl enc w (.slice (some ⟨b, off, none⟩) n cap) l) (hk : ∀ x, (enc x).length = k) (m : Nat) (hm : m ≤ n) : Sl enc w (.slice (some ⟨b, off, none⟩) m cap) (l.take m) := by
  have hs := h.size
  rcases h with ⟨h, _⟩ | ⟨b', off', cap', h, hc, hb, hl⟩
  · cases h
  · cases h
    refine .inr ⟨b, off, cap, by rw [List.length_take, Nat.min_eq_left (by omega)], by rw [List.length_take]; omega, hb, ?_⟩
    rw [flat_take hk]
    exact hl.take _
theorem Sl.drop {b off n cap c : Nat} (h : Sl enc w (.slice (some ⟨b, off, none⟩) n cap) l) (hk : ∀ x, (enc x).length = k) (m : Nat) (hm : m ≤ n) (hc : n - m ≤ c) : Sl enc w (.slice (some ⟨b, off + m * k, none⟩) (n - m) c) (l.drop m) := by
  have hs := h.size
  rcases h with ⟨h, _⟩ | ⟨b', off', cap', h, hc', hb, hl⟩
  · cases h
  · cases h
    refine .inr ⟨b, off + m * k, c, by rw [List.length_drop], by rw [List.length_drop]; exact hc, hb, ?_⟩
    rw [flat_drop hk]
    exact hl.drop _

/-- `s[m:]`, wherever it begins. -/
theorem Sl.slice_from {P : Program} {t e : TypeId} (ht : P.underlying t = some (.slice e)) (hs : (P.info? e).map (·.size) = some k) {b off n cap : Nat} (h : Sl enc w (.slice (some ⟨b, off, none⟩) n cap) l) (hk : ∀ x, (enc x).length = k) (hc : n ≤ cap) (m : Nat) (hm : m ≤ n) :
    ∃ o1 n1 c1, (∀ w, (Instr.slice t (.slice (some ⟨b, off, none⟩) n cap) (some (.int .i64 (m : Int))) none none).run P w = .ok (.slice (some ⟨b, o1, none⟩) n1 c1) w) ∧ Sl enc w (.slice (some ⟨b, o1, none⟩) n1 c1) (l.drop m) := by
  refine ⟨_, _, _, run_slice_from ht hs b off n cap m hm, ?_⟩
  by_cases e : cap = m
  · subst e
    obtain rfl : n = cap := by omega
    have hl := h.size
    rcases h with ⟨h, _⟩ | ⟨b', off', cap', h, hc', hb, hl'⟩
    · cases h
    · cases h
      refine .inr ⟨b, off, 0, by simp, by simp, hb, fun j v hj => ?_⟩
      simp at hj
  · rw [if_neg e]
    exact h.drop hk m hm (by omega)

/-- What a row of the call's own reads as. -/
theorem sl_of_own {base : Nat} {e : TypeId} (hk : ∀ x, (enc x).length = k) (h : w.ownsRow base e k v l.length (l.flatMap enc)) : Sl enc w v l ∧ ∀ b, sliceBlock v = some b → base ≤ b := by
  rcases h.2 with ⟨rfl, h0⟩ | ⟨g, cap', cur, rfl, hg, hheap, hn, hm, hs, htake⟩
  · exact ⟨.inl ⟨rfl, List.eq_nil_of_length_eq_zero h0⟩, fun b hb => by cases hb⟩
  · refine ⟨.inr ⟨g, 0, cap', rfl, hn, lt_of_heap hheap, fun j u hj => ?_⟩, fun b hb => by cases hb; exact hg⟩
    rw [cell_of hheap, Nat.zero_add]
    have hlt : j < l.length * k := by
      have := (List.getElem?_eq_some_iff.1 hj).1
      rw [flat_length hk] at this; exact this
    rw [← htake, List.getElem?_take, if_pos hlt] at hj
    simpa using hj

theorem own_grow {base : Nat} {e : TypeId} {n : Nat} {xs : List Value} (h : w.ownsRow base e k v n xs) (hu : Upd (fun _ => False) w w') : w'.ownsRow base e k v n xs :=
  h.kept (row := none) ⟨hu.os, hu.tape, hu.output, hu.size, fun k hk _ => hu.block k hk (fun x => x)⟩ (by cases h : v.ownBlock <;> simp)
theorem own_upd' {base : Nat} {e : TypeId} {n : Nat} {xs : List Value} {S : Nat → Prop} (h : w.ownsRow base e k v n xs) (hu : Upd S w w') (hn : ∀ b, sliceBlock v = some b → ¬ S b) : w'.ownsRow base e k v n xs := by
  refine ⟨h.1, ?_⟩
  rcases h.2 with h2 | ⟨g, cap, cur, rfl, hg, hh, r⟩
  · exact .inl h2
  · exact .inr ⟨g, cap, cur, rfl, hg, hu.heap hh (hn g rfl), r⟩

theorem sl_cells {b off n cap : Nat} (h : Sl enc w (.slice (some ⟨b, off, none⟩) n cap) l) : ∀ j u, (l.flatMap enc)[j]? = some u → w.cell? ((⟨b, off, none⟩ : Addr).add j) = some u := by
  rcases h with ⟨h, _⟩ | ⟨b', off', cap', h, hc', hb, hl⟩
  · cases h
  · cases h
    intro j u hj
    rw [show (⟨b, off, none⟩ : Addr).add j = ⟨b, off + j, none⟩ from Addr.add_lit b off j]
    exact hl j u hj

/-- `append(x, y...)` onto a row of the call's own. -/
theorem run_append_sl {P : Program} {t e : TypeId} {z : Value} {bytes : Nat} (ht : P.underlying t = some (.slice e)) (hi : (P.info? e).map (fun i => (i.zero, i.size, i.bytes)) = some (some z, k, bytes)) (hz : z.cells.size = k) (hk0 : 0 < k)
    (hk : ∀ x, (enc x).length = k) (h1 : ∀ x, ∀ u ∈ enc x, u.oneCell' = true)
    {base : Nat} {l2 : List α} (hown : w.ownsRow base e k v l.length (l.flatMap enc)) {b off n cap : Nat} (h2 : Sl enc w (.slice (some ⟨b, off, none⟩) n cap) l2) (hbase : base ≤ w.heap.size)
    (hm : l.length + l2.length ≤ maxLen) (hb : (l.length + l2.length) * bytes ≤ 140737488355328) :
    ∃ v' w', (∀ ty, (Builtin.append_ #[t, t] ty #[v, .slice (some ⟨b, off, none⟩) n cap]).run P w = .ok v' w') ∧ w'.ownsRow base e k v' (l ++ l2).length ((l ++ l2).flatMap enc) ∧ w.grownBy w' v.ownBlock ∧ (v' = .slice none 0 0 ↔ v = .slice none 0 0 ∧ l2 = []) := by
  obtain ⟨i0, hi0, hz0, hz1, hz2⟩ := info_parts hi
  have hn := h2.size
  subst hn
  obtain ⟨v', w', hr, h3, h4, h5⟩ := run_append_own (P := P) w base t 0 e i0 z k bytes ht hi0 hz0 hz1 hz2 hz hk0 v l.length (l.flatMap enc) hown ⟨b, off, none⟩ l2.length cap (l2.flatMap enc) (flat_length hk l2) (sl_cells h2)
    (fun u hu => by obtain ⟨x, _, hx⟩ := List.mem_flatMap.1 hu; exact h1 x u hx) hm hb hbase
  exact ⟨v', w', fun _ => hr, by rw [List.length_append, List.flatMap_append]; exact h3, h4, by rw [h5, List.length_eq_zero_iff]⟩

/-- .. of a nil slice. -/
theorem run_append_nil' {P : Program} {t e : TypeId} {z : Value} {bytes : Nat} (ht : P.underlying t = some (.slice e)) (hi : (P.info? e).map (fun i => (i.zero, i.size, i.bytes)) = some (some z, k, bytes)) (a : Option Addr) (n cap : Nat) (hc : n ≤ cap) :
    ∀ ty, (Builtin.append_ #[t, t] ty #[.slice a n cap, .slice none 0 0]).run P w = .ok (.slice a n cap) w := by
  obtain ⟨i0, hi0, hz0, hz1, hz2⟩ := info_parts hi
  intro ty
  cases a <;> simp [Builtin.append_, run_underlying ht, sizeOf, typeInfo, hi0, Builtin.lenOf, Builtin.firstCells, loadCells, hc, Result.andThen, storeCells]
end

/-- One element: what `append(x, y)` is handed. -/
theorem sl_one {α : Type} {enc : α → List Value} {w : World} {g : Nat} {t : TypeId} {x : α} (h : w.heap[g]? = some (.cells (enc x).toArray t (0, 0))) : Sl enc w (.slice (some ⟨g, 0, none⟩) 1 1) [x] :=
  .inr ⟨g, 0, 1, rfl, by simp, lt_of_heap h, fun j u hj => by rw [cell_of h, Nat.zero_add]; simpa using hj⟩

end Go.Tb

/-
  Structs that are stored and loaded whole (no program in sight).
-/
namespace Go.Tb
open Go.RowKit Go.MapKept Go.ChangeMaps
set_option linter.unusedVariables false

theorem rangeAt_of_heap {w : World} {g : Nat} {cs : Array Value} {t : TypeId} {f : Nat × Nat} (h : w.heap[g]? = some (.cells cs t f)) : w.rangeAt g 0 cs.toList := fun j v hj => by
  rw [Nat.zero_add, cell_of h]; simpa using hj
theorem there_of_heap {w : World} {g : Nat} {cs : Array Value} {t : TypeId} (h : w.heap[g]? = some (.cells cs t (0, 0))) : w.there g 0 cs.size := fun j hj => by
  refine ⟨?_, free_of h _⟩
  rw [Nat.zero_add, cell_of h]; simp [hj]

theorem heap_setCells {g : Nat} {t : TypeId} : ∀ (vs : List Value) (o : Nat) (w : World) (cs : Array Value), w.heap[g]? = some (.cells cs t (0, 0)) → ∃ cs' : Array Value, (w.setCells g o vs).heap[g]? = some (.cells cs' t (0, 0)) ∧ cs'.size = cs.size ∧ ∀ i, i < cs.size → cs'[i]? = if o ≤ i ∧ i < o + vs.length then vs[i - o]? else cs[i]?
  | [], o, w, cs, h => ⟨cs, h, rfl, fun i _ => by rw [if_neg (by simp only [List.length_nil]; omega)]⟩
  | v :: r, o, w, cs, h => by
    obtain ⟨cs', h1, h2, h3⟩ := heap_setCells r (o + 1) (w.setCell ⟨g, o, none⟩ v) _ (heap_setCell_at h o v)
    refine ⟨cs', h1, by simpa using h2, fun i hi => ?_⟩
    rw [h3 i (by simpa using hi)]
    by_cases e : i = o
    · subst e
      rw [if_neg (by omega), if_pos (by simp), Nat.sub_self]
      simp [hi]
    · by_cases hr : o + 1 ≤ i ∧ i < o + 1 + r.length
      · rw [if_pos hr, if_pos (by simp; omega), show i - o = (i - (o + 1)) + 1 by omega]; rfl
      · rw [if_neg hr, if_neg (by simp; omega), Array.getElem?_setIfInBounds_ne (fun q => e q.symm)]

/-- A struct's block, written over whole. -/
theorem heap_row {w : World} {g : Nat} {old cs : Array Value} {t : TypeId} (h : w.heap[g]? = some (.cells old t (0, 0))) (hs : cs.size = old.size) : (w.setCells g 0 cs.toList).heap[g]? = some (.cells cs t (0, 0)) := by
  obtain ⟨cs', h1, h2, h3⟩ := heap_setCells cs.toList 0 w old h
  rw [h1]
  congr 2
  apply Array.ext (by omega)
  intro i hi1 hi2
  have := h3 i (by omega)
  rw [if_pos (by simp; omega)] at this
  rw [Array.getElem?_eq_getElem hi1] at this
  simpa [hi2] using this

theorem setCells_size (g : Nat) : ∀ (vs : List Value) (o : Nat) (w : World), (w.setCells g o vs).heap.size = w.heap.size
  | [], _, _ => rfl
  | v :: r, o, w => by
    show ((w.setCell ⟨g, o, none⟩ v).setCells g (o + 1) r).heap.size = _
    rw [setCells_size g r]; simp
theorem setCells_drawn (g : Nat) : ∀ (vs : List Value) (o : Nat) (w : World), (w.setCells g o vs).drawn = w.drawn
  | [], _, _ => rfl
  | v :: r, o, w => by
    show ((w.setCell ⟨g, o, none⟩ v).setCells g (o + 1) r).drawn = _
    rw [setCells_drawn g r]; rfl
theorem upd_setCells' (S : Nat → Prop) (b : Nat) (hb : S b) : ∀ (vs : List Value) (o : Nat) (w : World), Upd S w (w.setCells b o vs)
  | [], _, w => Upd.refl _ w
  | v :: r, o, w => (upd_setCell S w ⟨b, o, none⟩ v hb).trans (upd_setCells' S b hb r (o + 1) _)

/-- A struct is stored whole. -/
theorem wpList_store_row {P : Program} {ops : Array Oper} {rest : List Oper} {op : Oper} {a : Act} {w : World} {Q : Exit → Act → World → Prop} (hgd : op.guard = none) (ty : TypeId) (x y : Operand) (ho : op.op = .store ty x y)
    (g : Nat) (cells old : Array Value) (t : TypeId) (hx : a.eval x = .pointer (some ⟨g, 0, none⟩)) (hy : a.eval y = .agg cells) (hg : w.heap[g]? = some (.cells old t (0, 0))) (hs : cells.size = old.size)
    (hi : (P.info? ty).map (·.size) = some cells.size) (h1 : cells.all (·.oneCell') = true)
    (h : ∀ w', w'.heap[g]? = some (.cells cells t (0, 0)) → Upd (fun k => k = g) w w' → w'.heap.size = w.heap.size → w'.drawn = w.drawn → wpList P ops Q rest (a.put op.dst undef) w') : wpList P ops Q (op :: rest) a w :=
  wpList_store_mid hgd ty x y ho g 0 cells hx hy (by rw [hs]; exact there_of_heap hg) hi h1 (h _ (heap_row hg hs) (upd_setCells' (fun k => k = g) g rfl _ _ _) (setCells_size g _ _ _) (setCells_drawn g _ _ _))

/-- A struct is loaded whole, wherever it lies. -/
theorem wpList_load_at {P : Program} {ops : Array Oper} {rest : List Oper} {op : Oper} {a : Act} {w : World} {Q : Exit → Act → World → Prop} (hgd : op.guard = none) (ty : TypeId) (x : Operand) (ho : op.op = .load ty x)
    (b o : Nat) (hx : a.eval x = .pointer (some ⟨b, o, none⟩)) (cs : Array Value) (d : TypeDesc) (hc : w.rangeAt b o cs.toList)
    (hu : P.underlying ty = some d) (hd : d.isRow = true) (hi : (P.info? ty).map (·.size) = some cs.size)
    (h : wpList P ops Q rest (a.put op.dst (.agg cs)) w) : wpList P ops Q (op :: rest) a w :=
  wpList_load_mid hgd ty x ho b o hx cs.toList d hc hu hd (by rw [hi]; simp) (by simpa using h)

theorem rangeAt_upd {w w' : World} {b o : Nat} {cs : List Value} {S : Nat → Prop} (h : w.rangeAt b o cs) (hu : Upd S w w') (hn : ¬ S b) : w'.rangeAt b o cs := fun j v hj => hu.cell (h j v hj) hn
theorem rangeAt_of_cells {w : World} {b off : Nat} {cs : List Value} (h : CellsAt w b off cs) : w.rangeAt b off cs := h

/-! In the walk's own spelling. -/
section
variable {P : Program} {ops : Array Oper} {rest : List Oper} {dst : Option Tmp} {type : TypeId} {pos : String} {after : Array Edge} {a : Act} {w : World} {Q : Exit → Act → World → Prop} {ty : TypeId} {x y : Operand} {g o : Nat} {cs old : Array Value} {t : TypeId} {fr : Nat × Nat} {d : TypeDesc}
theorem wpl_load (hg : w.heap[g]? = some (.cells cs t fr)) (hu : P.underlying ty = some d) (hx : a.eval x = .pointer (some ⟨g, 0, none⟩)) (hd : d.isRow = true) (hi : (P.info? ty).map (·.size) = some cs.size)
    (h : wpList P ops Q rest (a.put dst (.agg cs)) w) : wpList P ops Q (⟨dst, .load ty x, type, pos, after, none⟩ :: rest) a w :=
  wpList_load_at rfl ty x rfl g 0 hx cs d (rangeAt_of_heap hg) hu hd hi h
theorem wpl_load_at (hc : w.rangeAt g o cs.toList) (hu : P.underlying ty = some d) (hx : a.eval x = .pointer (some ⟨g, o, none⟩)) (hd : d.isRow = true) (hi : (P.info? ty).map (·.size) = some cs.size)
    (h : wpList P ops Q rest (a.put dst (.agg cs)) w) : wpList P ops Q (⟨dst, .load ty x, type, pos, after, none⟩ :: rest) a w :=
  wpList_load_at rfl ty x rfl g o hx cs d hc hu hd hi h
theorem wpl_store (hg : w.heap[g]? = some (.cells old t (0, 0))) (hx : a.eval x = .pointer (some ⟨g, 0, none⟩)) (hy : a.eval y = .agg cs) (hs : cs.size = old.size) (hi : (P.info? ty).map (·.size) = some cs.size) (h1 : cs.toList.all (·.oneCell') = true)
    (h : ∀ w', w'.heap[g]? = some (.cells cs t (0, 0)) → Upd (fun k => k = g) w w' → w'.heap.size = w.heap.size → w'.drawn = w.drawn → wpList P ops Q rest (a.put dst undef) w') : wpList P ops Q (⟨dst, .store ty x y, type, pos, after, none⟩ :: rest) a w :=
  wpList_store_row rfl ty x y rfl g cs old t hx hy hg hs hi (by rw [← Array.all_toList]; exact h1) h
end

end Go.Tb

/-
  Appends: where the new row lies (no program in sight).
-/
namespace Go.Tb
open Go.RowKit Go.MapKept Go.ChangeMaps
set_option linter.unusedVariables false
section
variable {α : Type} {enc : α → List Value} {w w' : World} {v : Value} {l : List α} {k : Nat}

/-- `append(x, y)` of one element that lies in a block of its own, onto a row of the call's own. -/
theorem run_append_one {P : Program} {t e : TypeId} {z : Value} {bytes : Nat} (ht : P.underlying t = some (.slice e)) (hi : (P.info? e).map (fun i => (i.zero, i.size, i.bytes)) = some (some z, k, bytes)) (hz : z.cells.size = k) (hk0 : 0 < k)
    (hk : ∀ x, (enc x).length = k) (h1 : ∀ x, ∀ u ∈ enc x, u.oneCell' = true)
    {base : Nat} (x : α) (hown : w.ownsRow base e k v l.length (l.flatMap enc)) {g : Nat} {te : TypeId} (h2 : w.heap[g]? = some (.cells (enc x).toArray te (0, 0))) (hbase : base ≤ w.heap.size)
    (hm : l.length + 1 ≤ maxLen) (hb : (l.length + 1) * bytes ≤ 140737488355328) :
    ∃ a c w', (∀ ty, (Builtin.append_ #[t, t] ty #[v, .slice (some ⟨g, 0, none⟩) 1 1]).run P w = .ok (.slice a (l.length + 1) c) w') ∧ w'.ownsRow base e k (.slice a (l.length + 1) c) (l ++ [x]).length ((l ++ [x]).flatMap enc) ∧ Upd (fun b => sliceBlock v = some b) w w' ∧
      (sliceBlock (.slice a (l.length + 1) c) = sliceBlock v ∨ sliceBlock (.slice a (l.length + 1) c) = some w.heap.size) := by
  obtain ⟨i0, hi0, hz0, hz1, hz2⟩ := info_parts hi
  obtain ⟨v', w', hr, h3, h4, h5, h6⟩ := run_append_own_at (P := P) (w := w) base t 0 e i0 z k bytes ht hi0 hz0 hz1 hz2 hz hk0 v l.length (l.flatMap enc) hown ⟨g, 0, none⟩ 1 1 (enc x) (by rw [hk, Nat.one_mul])
    (fun j u hj => by rw [show (⟨g, 0, none⟩ : Addr).add j = ⟨g, 0 + j, none⟩ from Addr.add_lit g 0 j, cell_of h2, Nat.zero_add]; simpa using hj) (h1 x) hm hb hbase
  have ho : w'.ownsRow base e k v' (l ++ [x]).length ((l ++ [x]).flatMap enc) := by
    rw [List.length_append, List.flatMap_append]
    simpa using h3
  obtain ⟨a, c, hv, _⟩ := (sl_of_own hk ho).1.shape
  rw [List.length_append] at hv
  subst hv
  exact ⟨a, c, w', fun ty => hr, ho, (Upd.ofGrown h4).mono (fun b _ e => e.symm), h6⟩
end

theorem own_shape {w : World} {base : Nat} {e : TypeId} {k n : Nat} {v : Value} {xs : List Value} (h : w.ownsRow base e k v n xs) : ∃ a c, v = .slice a n c ∧ n ≤ c := by
  rcases h.2 with ⟨rfl, h0⟩ | ⟨g, cap, cur, rfl, _, _, hn, _⟩
  · exact ⟨none, 0, by rw [h0], by omega⟩
  · exact ⟨_, _, rfl, hn⟩
theorem own_ge {w : World} {base : Nat} {e : TypeId} {k n : Nat} {v : Value} {xs : List Value} (h : w.ownsRow base e k v n xs) : ∀ b, sliceBlock v = some b → base ≤ b ∧ b < w.heap.size := by
  rcases h.2 with ⟨rfl, h0⟩ | ⟨g, cap, cur, rfl, hg, hh, _⟩
  · exact fun b hb => by cases hb
  · exact fun b hb => by cases hb; exact ⟨hg, lt_of_heap hh⟩

end Go.Tb

/-
  Parts of slices, and appends of whatever slice onto a row of the call's own (no program in sight).
-/
namespace Go.Tb
open Go.RowKit Go.MapKept Go.ChangeMaps
set_option linter.unusedVariables false
section
variable {α : Type} {enc : α → List Value} {w w' : World} {v : Value} {l : List α} {k : Nat}

/-- A row of nothing in a block of its own: `[]T{}`. -/
theorem own_empty {w : World} {g base : Nat} {e : TypeId} (hk : ∀ x, (enc x).length = k) (h : w.heap[g]? = some (.cells #[] e (0, 0))) (hb : base ≤ g) : w.ownsRow base e k (.slice (some ⟨g, 0, none⟩) 0 0) ([] : List α).length (([] : List α).flatMap enc) :=
  ⟨by simp, .inr ⟨g, 0, #[], rfl, hb, h, Nat.le_refl _, Nat.zero_le _, by simp, by simp⟩⟩

/-- `append(x, y...)` onto a row of the call's own, whatever slice `y` is. -/
theorem run_append_any {P : Program} {t e : TypeId} {z : Value} {bytes : Nat} (ht : P.underlying t = some (.slice e)) (hi : (P.info? e).map (fun i => (i.zero, i.size, i.bytes)) = some (some z, k, bytes)) (hz : z.cells.size = k) (hk0 : 0 < k)
    (hk : ∀ x, (enc x).length = k) (h1 : ∀ x, ∀ u ∈ enc x, u.oneCell' = true)
    {base : Nat} {v2 : Value} {l2 : List α} (hown : w.ownsRow base e k v l.length (l.flatMap enc)) (h2 : Sl enc w v2 l2) (hbase : base ≤ w.heap.size)
    (hm : l.length + l2.length ≤ maxLen) (hb : (l.length + l2.length) * bytes ≤ 140737488355328) :
    ∃ a c w', (∀ ty, (Builtin.append_ #[t, t] ty #[v, v2]).run P w = .ok (.slice a (l ++ l2).length c) w') ∧ w'.ownsRow base e k (.slice a (l ++ l2).length c) (l ++ l2).length ((l ++ l2).flatMap enc) ∧ Upd (fun b => sliceBlock v = some b) w w' ∧
      (sliceBlock (.slice a (l ++ l2).length c) = sliceBlock v ∨ sliceBlock (.slice a (l ++ l2).length c) = some w.heap.size) := by
  rcases h2 with ⟨rfl, rfl⟩ | ⟨b, off, cap, rfl, hc, hbb, hcells⟩
  · obtain ⟨a, c, rfl, hle⟩ := own_shape hown
    rw [List.append_nil]
    exact ⟨a, c, w, run_append_nil' ht hi a l.length c hle, hown, Upd.refl _ _, .inl rfl⟩
  · obtain ⟨i0, hi0, hz0, hz1, hz2⟩ := info_parts hi
    obtain ⟨v', w', hr, h3, h4, h5, h6⟩ := run_append_own_at (P := P) (w := w) base t 0 e i0 z k bytes ht hi0 hz0 hz1 hz2 hz hk0 v l.length (l.flatMap enc) hown ⟨b, off, none⟩ l2.length cap (l2.flatMap enc) (flat_length hk l2)
      (fun j u hj => by rw [show (⟨b, off, none⟩ : Addr).add j = ⟨b, off + j, none⟩ from Addr.add_lit b off j]; exact hcells j u hj)
      (fun u hu => by obtain ⟨x, _, hx⟩ := List.mem_flatMap.1 hu; exact h1 x u hx) hm hb hbase
    have ho : w'.ownsRow base e k v' (l ++ l2).length ((l ++ l2).flatMap enc) := by
      rw [List.length_append, List.flatMap_append]; exact h3
    obtain ⟨a, c, hv, _⟩ := (sl_of_own hk ho).1.shape
    subst hv
    exact ⟨a, c, w', fun ty => hr, ho, (Upd.ofGrown h4).mono (fun b _ e => e.symm), h6⟩

/-- `s[:m]`, of whatever slice. -/
theorem Sl.upto {P : Program} {t e : TypeId} (ht : P.underlying t = some (.slice e)) (hs : (P.info? e).map (·.size) = some k) (h : Sl enc w v l) (hk : ∀ x, (enc x).length = k) (m : Nat) (hm : m ≤ l.length) :
    ∃ a c, (∀ w, (Instr.slice t v none (some (.int .i64 (m : Int))) none).run P w = .ok (.slice a m c) w) ∧ Sl enc w (.slice a m c) (l.take m) ∧ (sliceBlock (.slice a m c) = sliceBlock v) := by
  obtain ⟨i, hi, hsz⟩ := Option.map_eq_some_iff.1 hs
  have he : P.elem t = e := by simp [Program.elem, ht]
  rcases h with ⟨rfl, rfl⟩ | ⟨b, off, cap, rfl, hc, hb, hcells⟩
  · obtain rfl : m = 0 := by simpa using hm
    refine ⟨none, 0, fun w => ?_, .inl ⟨rfl, rfl⟩, rfl⟩
    rw [run_slice_h w t _ 0 0 (by rw [he]; exact ht) .i64 _ (by omega) (by simp)]
    simp [he, sizeOf, typeInfo, sliced, hi, Result.andThen]
  · refine ⟨some ⟨b, off, none⟩, cap, fun w => ?_, Sl.take (n := l.length) (.inr ⟨b, off, cap, rfl, hc, hb, hcells⟩) hk m hm, rfl⟩
    rw [run_slice_h w t _ l.length cap (by rw [he]; exact ht) .i64 _ (by omega) (by omega)]
    have ha : (⟨b, off, none⟩ : Addr).add 0 = ⟨b, off, none⟩ := by rw [show (0 : Nat) = 0 from rfl]; exact Addr.add_lit b off 0
    simp [he, sizeOf, typeInfo, sliced, hi, Result.andThen, ha]

/-- `s[m:]`, of whatever slice. -/
theorem Sl.from_ {P : Program} {t e : TypeId} (ht : P.underlying t = some (.slice e)) (hs : (P.info? e).map (·.size) = some k) (h : Sl enc w v l) (hk : ∀ x, (enc x).length = k) (m : Nat) (hm : m ≤ l.length) :
    ∃ a c, (∀ w, (Instr.slice t v (some (.int .i64 (m : Int))) none none).run P w = .ok (.slice a (l.length - m) c) w) ∧ Sl enc w (.slice a (l.length - m) c) (l.drop m) ∧ (sliceBlock (.slice a (l.length - m) c) = sliceBlock v) := by
  obtain ⟨i, hi, hsz⟩ := Option.map_eq_some_iff.1 hs
  have he : P.elem t = e := by simp [Program.elem, ht]
  rcases h with ⟨rfl, rfl⟩ | ⟨b, off, cap, rfl, hc, hb, hcells⟩
  · obtain rfl : m = 0 := by simpa using hm
    refine ⟨none, 0, fun w => ?_, .inl ⟨rfl, rfl⟩, rfl⟩
    rw [run_slice_l w t _ 0 0 (by rw [he]; exact ht) .i64 _ (by omega) (by simp)]
    simp [he, sizeOf, typeInfo, sliced, hi, Result.andThen]
  · refine ⟨_, _, fun w => run_slice_from ht hs b off l.length cap m hm w, ?_, rfl⟩
    by_cases e : cap = m
    · rw [if_pos e]
      have e2 : l.length = m := by omega
      refine .inr ⟨b, off, cap - m, by rw [List.length_drop], by rw [List.length_drop]; omega, hb, fun j u hj => ?_⟩
      rw [List.drop_of_length_le (by omega)] at hj
      simp at hj
    · rw [if_neg e]
      exact Sl.drop (n := l.length) (.inr ⟨b, off, cap, rfl, hc, hb, hcells⟩) hk m hm (by omega)
/-- A cell of an element is written. -/
theorem Sl.setCell {b off n cap : Nat} (h : Sl enc w (.slice (some ⟨b, off, none⟩) n cap) l) (hk : ∀ x, (enc x).length = k) (j : Nat) (hj : j < l.length) (m : Nat) (hm : m < k) (u : Value) (x' : α) (hx : enc x' = (enc l[j]).set m u) :
    Sl enc (w.setCell ⟨b, off + j * k + m, none⟩ u) (.slice (some ⟨b, off, none⟩) n cap) (l.set j x') := by
  have hat := fun i hi q hq v hv => h.at hk i hi q hq v hv
  rcases h with ⟨h, _⟩ | ⟨b', off', cap', h, hc', hb, hl⟩
  · cases h
  · cases h
    refine .inr ⟨b, off, cap, by rw [List.length_set], by rw [List.length_set]; exact hc', by simpa using hb, fun i v hi => ?_⟩
    have hil : i < (l.set j x').length * k := by rw [← flat_length hk]; exact (List.getElem?_eq_some_iff.1 hi).1
    rw [List.length_set] at hil
    have hk0 : 0 < k := by omega
    have hq : i / k < l.length := Nat.div_lt_of_lt_mul (by rw [Nat.mul_comm]; exact hil)
    have hr : i % k < k := Nat.mod_lt _ hk0
    have e : i = i / k * k + i % k := by rw [Nat.mul_comm]; exact (Nat.div_add_mod i k).symm
    rw [e] at hi
    rw [flat_get hk _ (i / k) (by rw [List.length_set]; exact hq) (i % k) hr, List.getElem_set] at hi
    by_cases q1 : j = i / k
    · rw [if_pos q1, hx, List.getElem?_set] at hi
      by_cases q2 : m = i % k
      · rw [if_pos q2, if_pos (by rw [hk l[j]]; omega)] at hi
        have e2 : off + i = off + j * k + m := by rw [q1, q2]; omega
        rw [e2, ← Option.some.inj hi]
        obtain ⟨u0, hu0⟩ : ∃ u0, (enc l[j])[m]? = some u0 := ⟨(enc l[j])[m]'(by rw [hk l[j]]; exact hm), List.getElem?_eq_getElem (by rw [hk l[j]]; exact hm)⟩
        exact World.cell?_setCell_same w _ _ (hat j hj m hm u0 hu0)
      · rw [if_neg q2] at hi
        have := hat j hj (i % k) hr v hi
        rw [World.cell?_setCell_other w _ _ _ (fun q => by
          injection q with _ q3 _
          rw [e, ← q1] at q3
          omega)]
        rw [e, ← Nat.add_assoc, ← q1]; exact this
    · rw [if_neg q1] at hi
      have := hat (i / k) hq (i % k) hr v hi
      rw [World.cell?_setCell_other w _ _ _ (fun q => by
        injection q with _ q3 _
        have q4 : j * k + m = i := by omega
        apply q1
        rw [← q4, Nat.mul_comm, Nat.mul_add_div hk0, Nat.div_eq_of_lt hm, Nat.add_zero])]
      rw [e, ← Nat.add_assoc]; exact this
end
end Go.Tb

/-
  A range over a map that deletes what it has just told (no program in sight).
-/
namespace Go.Tb
open Go.RowKit Go.MapKept Go.ChangeMaps
set_option linter.unusedVariables false
section
variable {α : Type} {d : TypeDesc} {mk : α → Value} {f : α → Option Value}
variable {P : Program} {w : World} {m : Nat} {t kt et : TypeId}

/-- `delete(m, k)` in a range over `m` that has told `k`. -/
theorem Iter.delete [DecidableEq α] {r : Nat} {todo : List α} (h : Iter mk w r m f todo) (K : KeyT d mk) (hm : P.underlying t = some (.map kt et)) (hd : P.underlying kt = some d) (a : α) (ha : a ∉ todo) (hf : (f a).isSome = true) :
    ∃ o, (∀ ty, (Builtin.delete_ #[t, kt] ty #[.map (some m), mk a]).run P w = .ok (.tuple #[]) (setBlock w m o)) ∧ Iter mk (setBlock w m o) r m (fun b => if b = a then none else f b) todo ∧
      (setBlock w m o).rangeLeft m r ≤ w.rangeLeft m r := by
  have hne := h.ne
  obtain ⟨es, clock, since, seen, c0, hb, ok, hr, hold, hsc, hsk, hnd, htodo⟩ := h
  rcases ok.find K a with ⟨hf', _, _⟩ | ⟨j, e, hf', h1, hj, he⟩
  · rw [hf'] at hf; cases hf
  have hjl : es.toList[j]? = some e := by simpa using hj
  have hjs : j < es.size := by simpa using (List.getElem?_eq_some_iff.1 hjl).1
  have hsub : (es.eraseIdxIfInBounds j).toList = es.toList.eraseIdx j := by
    unfold Array.eraseIdxIfInBounds
    rw [dif_pos hjs]
    simp
  have hmem : ∀ x, x ∈ (es.eraseIdxIfInBounds j).toList ↔ x ∈ es.toList ∧ x.key ≠ mk a := by
    intro x
    rw [hsub, List.mem_eraseIdx_iff_getElem?]
    constructor
    · rintro ⟨i, hij, hi⟩
      refine ⟨List.mem_of_getElem? hi, fun hk => hij ?_⟩
      have hnd := ok.st.2.2
      have hi' : i < (es.toList.map (·.key)).length := by simpa using (List.getElem?_eq_some_iff.1 hi).1
      have hj' : j < (es.toList.map (·.key)).length := by simpa using hjs
      refine (List.getElem_inj (h₀ := hi') (h₁ := hj') hnd).1 ?_
      have h3 : (es.toList.map (·.key))[i]? = some (mk a) := by rw [List.getElem?_map, hi]; simp [hk]
      have h4 : (es.toList.map (·.key))[j]? = some (mk a) := by rw [List.getElem?_map, hjl]; simp [he]
      rw [List.getElem?_eq_getElem hi'] at h3
      rw [List.getElem?_eq_getElem hj'] at h4
      exact (Option.some.inj h3).trans (Option.some.inj h4).symm
    · rintro ⟨hx, hk⟩
      obtain ⟨i, hi⟩ := List.getElem?_of_mem hx
      exact ⟨i, fun q => hk (by subst q; rw [hjl] at hi; cases hi; exact he), hi⟩
  have hbm : (setBlock w m (.map (es.eraseIdxIfInBounds j) clock)).heap[m]? = some (.map (es.eraseIdxIfInBounds j) clock) := heap_setBlock hb
  have hrm : (setBlock w m (.map (es.eraseIdxIfInBounds j) clock)).heap[r]? = some (.mapIter (some m) since seen c0) := by rw [heap_setBlock_ne _ hne]; exact hr
  refine ⟨.map (es.eraseIdxIfInBounds j) clock, fun ty => ?_, ⟨es.eraseIdxIfInBounds j, clock, since, seen, c0, hbm, ⟨stamped_erase ok.st j, fun x hx => ok.keys x ((hmem x).1 hx).1, fun b v => ?_, rfl⟩, hrm, fun x hx => hold x ((hmem x).1 hx).1, hsc, hsk, hnd, fun b => ?_⟩, ?_⟩
  · simp [Builtin.delete_, run_underlying hm, MapKept.run_getObj_map hb, run_checkKey hd (K.isKey a), run_findKey hd h1, MapKept.run_setObj_map _ hb, Result.andThen, setBlock]
  · simp only [hmem]
    by_cases hba : b = a
    · subst hba
      simp only [if_true]
      constructor
      · intro h; cases h
      · rintro ⟨x, ⟨_, hk'⟩, hk, _⟩; exact absurd hk hk'
    · simp only [if_neg hba, ok.tells]
      constructor
      · rintro ⟨x, hx, hk, hv⟩; exact ⟨x, ⟨hx, fun q => hba (K.inj _ _ (hk.symm.trans q))⟩, hk, hv⟩
      · rintro ⟨x, ⟨hx, _⟩, hk, hv⟩; exact ⟨x, hx, hk, hv⟩
  · rw [htodo b]
    constructor
    · rintro ⟨x, hx, hk, hs⟩
      refine ⟨x, (hmem x).2 ⟨hx, fun q => ?_⟩, hk, hs⟩
      have : b = a := K.inj _ _ (hk.symm.trans q)
      subst this
      exact ha ((htodo b).2 ⟨x, hx, hk, hs⟩)
    · rintro ⟨x, hx, hk, hs⟩
      exact ⟨x, ((hmem x).1 hx).1, hk, hs⟩
  · simp only [World.rangeLeft, hbm, hrm, hb, hr]
    unfold leftOf
    have fs : ∀ (p : MapEntry → Bool) (A : Array MapEntry), (A.filter p).size = (A.toList.filter p).length := fun p A => by rw [← Array.length_toList, Array.toList_filter]
    rw [fs, fs, hsub]
    exact ((List.eraseIdx_sublist _ _).filter _).length_le

/-- What a delete leaves, of the map that it was: one key less. -/
theorem IsMap.sizes {n n' : Nat} {mk' : α → Value} {f' : α → Option Value} (h : IsMap mk w m f n) (h' : IsMap mk' w m f' n') : n = n' := by
  obtain ⟨es, c, hb, ok⟩ := h
  obtain ⟨es', c', hb', ok'⟩ := h'
  rw [hb] at hb'
  injection hb' with hb'
  injection hb' with e1 e2
  rw [← ok.size, ← ok'.size, e1]
end
end Go.Tb
