/-
  Bytes of a law's argument: an empty slice without room says nothing by its address.
-/
import Derived.Laws.IdiomStrings
import Derived.Test.YtcbngjlgcgcljaaGreatBase
import Derived.Test.YtcbngjlgcgcljaaGreatProg
namespace Go.Proofs.YtcbngjlgcgcljaaGreat
open Go.RowKit Go.Tb Go.MapKept Go.ChangeMaps Go.Lib
set_option linter.unusedVariables false

/-- `v` is a slice of the bytes `l`; where it is empty and has no room, its address says nothing. -/
def Bytes (w : World) (v : Value) (l : List UInt8) : Prop := Go.Tb.Bytes w v l ∨ (l = [] ∧ ∃ a, v = .slice (some a) 0 0)
theorem Bytes.of {w : World} {v : Value} {l : List UInt8} (h : Go.Tb.Bytes w v l) : Bytes w v l := .inl h
theorem Bytes.upd {S : Nat → Prop} {w w' : World} {v : Value} {l : List UInt8} (h : Bytes w v l) (hu : Upd S w w') (hn : ∀ b, sliceBlock v = some b → ¬ S b) : Bytes w' v l := by
  rcases h with h | h
  · exact .inl (Go.Tb.Bytes.upd h hu hn)
  · exact .inr h
theorem Bytes.grow {w w' : World} {v : Value} {l : List UInt8} (h : Bytes w v l) (hu : Upd (fun _ => False) w w') : Bytes w' v l := h.upd hu (fun _ _ x => x)
theorem Bytes.size {w : World} {a : Option Addr} {n cap : Nat} {l : List UInt8} (h : Bytes w (.slice a n cap) l) : l.length = n := by
  rcases h with h | ⟨rfl, a', h⟩
  · exact Go.Tb.Bytes.size h
  · cases h; rfl
theorem Bytes.form {w : World} {v : Value} {l : List UInt8} (h : Bytes w v l) : ∃ a c, v = .slice a l.length c := by
  rcases h with (⟨rfl, rfl⟩ | ⟨b, off, cap, rfl, _⟩) | ⟨rfl, a, rfl⟩ <;> exact ⟨_, _, rfl⟩

/-- string(b). -/
theorem run_to_str {src dst e : TypeId} (hs : Tryz.prog.underlying src = some (.slice e)) (he : Tryz.prog.underlying e = some (.int .u8)) (hd : Tryz.prog.underlying dst = some .string) {w : World} {v : Value} {l : List UInt8} (h : Bytes w v l) :
    (convert src dst v).run Tryz.prog w = .ok (.string (strB l)) w := by
  rcases h with h | ⟨rfl, a, rfl⟩
  · exact Go.Tb.run_to_string hs he hd h
  · exact Go.run_convert_bytes_back (P := Tryz.prog) w src dst e a 0 [] hs he hd (fun j hj => absurd hj (Nat.not_lt_zero _))

/-- []byte(s). -/
theorem to_bytes {src dst e : TypeId} (hs : Tryz.prog.underlying src = some .string) (hd : Tryz.prog.underlying dst = some (.slice e)) (he : Tryz.prog.underlying e = some (.int .u8)) (w : World) (l : List UInt8) :
    ∃ c w', (convert src dst (.string (strB l))).run Tryz.prog w = .ok (.slice (some ⟨w.heap.size, 0, none⟩) l.length c) w' ∧ Go.Tb.Bytes w' (.slice (some ⟨w.heap.size, 0, none⟩) l.length c) l ∧ Upd (fun _ => False) w w' ∧ w.heap.size < w'.heap.size := by
  have h := Go.run_bytes_of_string (P := Tryz.prog) w src dst e (strB l) hs hd he
  have hl : (strB l).size = l.length := by simp [strB, ByteArray.size]
  rw [hl] at h
  refine ⟨_, _, h, .inr ⟨w.heap.size, 0, _, rfl, ?_, ?_, fun i hi => ?_⟩, ?_, ?_⟩
  · exact grownCap_ge _ _ _ _
  · simp
  · have hb : (w.drew.alloc (.cells (bytesRow (strB l) (grownCap w l.length 0 e)) e ((bytesRow (strB l) (grownCap w l.length 0 e)).size, (bytesRow (strB l) (grownCap w l.length 0 e)).size + 1))).heap[w.heap.size]? = some (.cells (bytesRow (strB l) (grownCap w l.length 0 e)) e ((bytesRow (strB l) (grownCap w l.length 0 e)).size, (bytesRow (strB l) (grownCap w l.length 0 e)).size + 1)) := by
      show (w.heap.push _)[w.heap.size]? = _
      simp
    rw [cell_of hb, Nat.zero_add]
    simp only [bytesRow, strB, List.map_toArray]
    rw [Array.getElem?_append_left (by simpa using hi)]
    simp [hi]
  · exact ((Upd.refl _ _).drew).alloc _
  · simp

/-- A delete in a region that draws its order. -/
theorem step_delete {P : Program} {ops : Array Oper} {o : Oper} {a : Act} {w w' : World} {K : Act → World → Prop} {Q : Exit → Act → World → Prop} {E : Prop} {s x : Operand} {t u : TypeId} {vs vx v : Value}
    (hrun : ∀ ty, (Builtin.delete_ #[t, u] ty #[vs, vx]).run P w = .ok v w') (hg : o.guard = none) (hop : o.op = Op.call { callee := Callee.builtin Builtin.delete, args := #[s, x], argTypes := #[t, u] })
    (hs : a.eval s = vs) (hx : a.eval x = vx) (hK : K (a.put o.dst v) w') :
    if Region.wanted o (yielded ops a.tmps) = true then Oper.wp P o a w K Q else E := by
  have hw : Region.wanted o (yielded ops a.tmps) = true := by simp [Region.wanted, hg]
  rw [if_pos hw]
  have h := hrun o.type
  unfold Oper.wp
  simp [execOp, hop, resolve, invoke, builtin, hs, hx, h, Result.andThen]
  exact hK

end Go.Proofs.YtcbngjlgcgcljaaGreat
