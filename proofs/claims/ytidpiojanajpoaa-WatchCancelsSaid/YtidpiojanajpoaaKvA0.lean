/-
  Records: how they lie in memory; bytes.Clone, bytes.Compare.
-/
import Derived.Laws.IdiomStrings
import Derived.Test.YtidpiojanajpoaaBase
import Derived.Test.YtidpiojanajpoaaOrdP
import Derived.Test.YtidpiojanajpoaaLib
namespace Go.Proofs.Ytidpiojanajpoaa
open Go.RowKit Go.Tb Go.MapKept Go.ChangeMaps Go.Lib
set_option linter.unusedVariables false

theorem u8_toNat_inj {a b : UInt8} (h : a.toNat = b.toNat) : a = b := UInt8.toNat_inj.1 h

/-- `v` is a slice of the bytes `l`; where it is empty and has no room, its address says nothing. -/
def Bytes (w : World) (v : Value) (l : List UInt8) : Prop := Go.Tb.Bytes w v l ∨ (l = [] ∧ ∃ a, v = .slice (some a) 0 0)
theorem Bytes.of {w : World} {v : Value} {l : List UInt8} (h : Go.Tb.Bytes w v l) : Bytes w v l := .inl h
theorem Bytes.upd {S : Nat → Prop} {w w' : World} {v : Value} {l : List UInt8} (h : Bytes w v l) (hu : Upd S w w') (hn : ∀ b, sliceBlock v = some b → ¬ S b) : Bytes w' v l := by
  rcases h with h | h
  · exact .inl (Go.Tb.Bytes.upd h hu hn)
  · exact .inr h
theorem Bytes.size {w : World} {a : Option Addr} {n cap : Nat} {l : List UInt8} (h : Bytes w (.slice a n cap) l) : l.length = n := by
  rcases h with h | ⟨rfl, a', h⟩
  · exact Go.Tb.Bytes.size h
  · cases h; rfl
theorem Bytes.form {w : World} {v : Value} {l : List UInt8} (h : Bytes w v l) : ∃ a n c, v = .slice a n c := by
  rcases h with (⟨rfl, _⟩ | ⟨b, off, cap, rfl, _⟩) | ⟨_, a, rfl⟩ <;> exact ⟨_, _, _, rfl⟩

/-- bytes.Clone: the same bytes in a block of its own. -/
theorem clone_calls (v : Value) (l : List UInt8) (w : World) (h : Bytes w v l) (hl : l.length ≤ 140737488355328) :
    Calls Try.prog 26 #[v] w fun e w' => ∃ v', e = .returned v' ∧ Go.Tb.Bytes w' v' l ∧ (∀ b, sliceBlock v' = some b → w.heap.size ≤ b) ∧ Upd (fun _ => False) w w' ∧ (v' = .slice none 0 0 ↔ v = .slice none 0 0) ∧ w'.ownsRow w.heap.size 5 1 v' l.length (l.map u8v) := by
  have some_ : ∀ (a : Addr) (cap : Nat), v = .slice (some a) l.length cap → (∀ i (h : i < l.length), w.cell? (a.add i) = some (.int .u8 (l[i].toNat : Int))) → Calls Try.prog 26 #[v] w fun e w' => ∃ v', e = .returned v' ∧ Go.Tb.Bytes w' v' l ∧ (∀ b, sliceBlock v' = some b → w.heap.size ≤ b) ∧ Upd (fun _ => False) w w' ∧ (v' = .slice none 0 0 ↔ v = .slice none 0 0) ∧ w'.ownsRow w.heap.size 5 1 v' l.length (l.map u8v) := by
    rintro a cap rfl h
    refine (Any.bytes_Clone_at Try.laysSlK4 a l.length cap (l.map fun x => (x.toNat : Int)) w (by simp) hl (fun i hi => ?_)).mono ?_
    · rw [h i hi]
      simp [List.getD, hi]
    · rintro e w' ⟨v', rfl, hown, hnn, hbel⟩
      have hu : Upd (fun _ => False) w w' := Upd.ofBelow hbel
      have hown' : w'.ownsRow w.heap.size 5 1 v' l.length (l.map u8v) := by
        have e : l.map u8v = (l.map fun x => (x.toNat : Int)).map (Value.int .u8) := by simp [Function.comp_def, u8v]
        rw [e]; exact hown
      exact ⟨v', rfl, (bytes_of_own hown').1, (bytes_of_own hown').2, hu, by simp [hnn], hown'⟩
  rcases h with (⟨rfl, rfl⟩ | ⟨b, off, cap, rfl, hc, hb, h⟩) | ⟨rfl, a, rfl⟩
  · refine (Any.bytes_Clone_nil Try.laysSlK4 0 0 w).mono ?_
    rintro e w' ⟨rfl, rfl⟩
    exact ⟨_, rfl, .inl ⟨rfl, rfl⟩, by simp [Value.ownBlock], Upd.refl _ _, by simp, World.ownsRow_nil _ _ _ _⟩
  · exact some_ ⟨b, off, none⟩ cap rfl (fun i hi => by rw [show (⟨b, off, none⟩ : Addr).add i = ⟨b, off + i, none⟩ from Addr.add_lit b off i, h i hi])
  · exact some_ a 0 rfl (fun i hi => absurd hi (Nat.not_lt_zero _))

/-- string(b). -/
theorem run_to_str {src dst e : TypeId} (hs : Try.prog.underlying src = some (.slice e)) (he : Try.prog.underlying e = some (.int .u8)) (hd : Try.prog.underlying dst = some .string) {w : World} {v : Value} {l : List UInt8} (h : Bytes w v l) :
    (convert src dst v).run Try.prog w = .ok (.string (strB l)) w := by
  rcases h with h | ⟨rfl, a, rfl⟩
  · exact Go.Tb.run_to_string hs he hd h
  · exact Go.run_convert_bytes_back (P := Try.prog) w src dst e a 0 [] hs he hd (fun j hj => absurd hj (Nat.not_lt_zero _))

/-! ### bytes.Compare -/

theorem run_loadBytes {P : Program} {w : World} : ∀ (l : List UInt8) (b off : Nat) (acc : ByteArray), (∀ i (h : i < l.length), w.cell? ⟨b, off + i, none⟩ = some (.int .u8 (l[i].toNat : Int))) →
    (Extern.Bytes.loadBytes ⟨b, off, none⟩ l.length acc).run P w = .ok (strB (acc.data.toList ++ l)) w
  | [], b, off, acc, _ => by
    simp only [List.length_nil, Extern.Bytes.loadBytes, List.append_nil, strB_toList]; rfl
  | x :: r, b, off, acc, h => by
    have h0 := h 0 (by simp)
    have ih := run_loadBytes (P := P) (w := w) r b (off + 1) (acc.push x) (fun i hi => by
      have := h (i + 1) (by simp; omega)
      rw [show off + 1 + i = off + (i + 1) by omega]; simpa using this)
    have hl : (load ⟨b, off, none⟩).run P w = .ok (.int .u8 (x.toNat : Int)) w := by
      rw [Nat.add_zero] at h0
      simp only [List.getElem_cons_zero] at h0
      rw [Go.run_load, h0]
    simp only [List.length_cons, Extern.Bytes.loadBytes, Sem.run_bind, hl, Result.andThen_ok]
    have e1 : (x.toNat : Int).toNat.toUInt8 = x := by simp
    rw [e1, show (⟨b, off, none⟩ : Addr).add 1 = ⟨b, off + 1, none⟩ from Addr.add_lit b off 1, ih]
    congr 1
    simp [strB]

theorem run_bytesOf {P : Program} {w : World} {v : Value} {l : List UInt8} (h : Bytes w v l) : (Extern.Bytes.bytesOf v).run P w = .ok (strB l) w := by
  rcases h with (⟨rfl, rfl⟩ | ⟨b, off, cap, rfl, hc, hb, hl⟩) | ⟨rfl, a, rfl⟩
  · rfl
  · exact run_loadBytes l b off .empty hl
  · rfl

theorem run_bacompare (w : World) (va vb : Value) (a b : List UInt8) (ha : Bytes w va a) (hb : Bytes w vb b) :
    (callFunc 61 #[va, vb]).run Try.prog w = .ok (.value (.int .i64 (compareBytes a b))) w := by
  rw [run_callFunc_extern Try.func61 (by kernel_rfl) (by kernel_rfl) (by kernel_rfl) (f := 61) (e := Extern.BytealgCompare.compare) (by kernel_rfl)]
  have e : Extern.BytealgCompare.compare #[va, vb] = (do pure (goInt (Extern.BytealgCompare.cmp (← Extern.Bytes.bytesOf va) (← Extern.Bytes.bytesOf vb)))) := rfl
  rw [e]
  simp only [Sem.run_bind, run_bytesOf ha, run_bytesOf hb, Result.andThen_ok, Sem.run_pure, cmp_eq]
  rfl

/-- bytes.Compare. -/
theorem bcompare_calls (w : World) (va vb : Value) (a b : List UInt8) (ha : Bytes w va a) (hb : Bytes w vb b) :
    Calls Try.prog 51 #[va, vb] w fun e w' => e = .returned (.int .i64 (compareBytes a b)) ∧ w = w' := by
  have hr := run_bacompare w va vb a b ha hb
  clear ha hb
  generalize compareBytes a b = n at *
  go_enter Try.func51, Try.ntmps51
  go_wp2
  go_ret
  exact ⟨rfl, rfl⟩

theorem same01_calls (va vb : Value) (a b : List UInt8) (w : World) (ha : Bytes w va a) (hb : Bytes w vb b) :
    Calls Try.prog 49 #[va, vb] w fun e w' => e = .returned (.bool (a == b)) ∧ w = w' := by
  have h1 := run_to_str (src := 22) (dst := 9) Try.underlying22 Try.underlying5 Try.underlying9 ha
  have h2 := run_to_str (src := 22) (dst := 9) Try.underlying22 Try.underlying5 Try.underlying9 hb
  go_enter Try.func49, Try.ntmps49
  go_wp2
  go_ret
  have e : ∀ l, (strB l).toList = l := fun l => by rw [ByteArray.toList_eq]; simp [strB]
  exact ⟨by show Ending.returned (.bool ((strB a).toList == (strB b).toList)) = _; rw [e, e], rfl⟩

/-! ### records -/

/-- A slice's header. -/
structure Sv where
  a : Option Addr
  n : Nat
  c : Nat
def Sv.v (s : Sv) : Value := .slice s.a s.n s.c
/-- A record. -/
structure KV where
  key : List UInt8
  val : List UInt8
  create : Int
  mod : Int
  version : Int
  lease : Int
/-- A record, and where its bytes lie. -/
structure KvP where
  x : KV
  k : Sv
  v : Sv
def kvenc (p : KvP) : List Value := [p.k.v, p.v.v, .int .i64 p.x.create, .int .i64 p.x.mod, .int .i64 p.x.version, .int .i64 p.x.lease]
theorem kvenc_length (p : KvP) : (kvenc p).length = 6 := rfl
theorem kvenc_one (p : KvP) : ∀ u ∈ kvenc p, u.oneCell' = true := by
  intro u hu
  simp only [kvenc, List.mem_cons, List.not_mem_nil, or_false] at hu
  rcases hu with rfl | rfl | rfl | rfl | rfl | rfl <;> rfl
/-- .. in the blocks of I. -/
structure KvP.Ok (w : World) (I : Nat → Prop) (p : KvP) : Prop where
  k : Bytes w p.k.v p.x.key
  v : Bytes w p.v.v p.x.val
  ik : ∀ b, sliceBlock p.k.v = some b → I b
  iv : ∀ b, sliceBlock p.v.v = some b → I b

theorem Bytes.sv {w : World} {v : Value} {l : List UInt8} (h : Bytes w v l) : ∃ s : Sv, v = s.v := by
  obtain ⟨a, n, c, rfl⟩ := h.form
  exact ⟨⟨a, n, c⟩, rfl⟩
theorem KvP.Ok.upd {w w' : World} {I S : Nat → Prop} {p : KvP} (h : p.Ok w I) (hu : Upd S w w') (hi : ∀ b, I b → ¬ S b) : p.Ok w' I :=
  ⟨h.k.upd hu (fun b hb => hi b (h.ik b hb)), h.v.upd hu (fun b hb => hi b (h.iv b hb)), h.ik, h.iv⟩
theorem KvP.Ok.grow {w w' : World} {I : Nat → Prop} {p : KvP} (h : p.Ok w I) (hu : Upd (fun _ => False) w w') : p.Ok w' I := h.upd hu (fun _ _ x => x)
theorem KvP.Ok.wider {w : World} {I J : Nat → Prop} {p : KvP} (h : p.Ok w I) (hi : ∀ b, I b → J b) : p.Ok w J := ⟨h.k, h.v, fun b hb => hi b (h.ik b hb), fun b hb => hi b (h.iv b hb)⟩

end Go.Proofs.Ytidpiojanajpoaa
