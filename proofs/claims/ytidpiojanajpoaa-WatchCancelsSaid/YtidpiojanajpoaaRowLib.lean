/-
  How a law's row is closed (no program in sight): the call wrote nothing that was there, and returned true.
-/
import Derived.Test.YtidpiojanajpoaaBase
import Derived.ProofKit
import Derived.OpenShut
import Derived.ChangeOld
import Derived.Below
import Derived.Deep.Slices
import Derived.Lib.SmallJoins
namespace Go.Tb
open Go.ChangeShapes Go.WideShapes Go.ChangeAt Go.RowKit
set_option linter.unusedVariables false

theorem trodAll_below {H : Type} {enc : TypeId × Value → H} {P : Program} (hl : laidOutB P = true) {W W' : World} (hb : Below W.heap.size W W') :
    ∀ {ts : List TypeId} {vs : List Value} {ds : List (DataW H)} {ps : List MemPlace}, (∀ t ∈ ts, P.readableRec t = true ∧ t < P.types.size) → (∀ x ∈ ps, x.block < W.heap.size) →
      DataW.TrodAll enc P W 0 (fun _ => true) true ts vs ds ps → DataW.TrodAll enc P W' 0 (fun b => decide (b < W.heap.size)) true ts vs ds ps
  | [], vs, ds, ps, _, _, h => by
    obtain ⟨rfl, rfl, rfl⟩ := trodAll_nil h
    exact trodAll_mk0
  | t :: ts, vs, ds, ps, ht, hps, h => by
    obtain ⟨v0, vs0, d0, ds0, p0, q0, rfl, rfl, rfl, h0, r0⟩ := trodAll_cons h
    exact trodAll_cons_mk (Below.trod hl (ht t (.head _)).1 (ht t (.head _)).2 h0 hb (fun x hx => hps x (List.mem_append.2 (.inl hx)))) (trodAll_below hl hb (fun t' h' => ht t' (.tail _ h')) (fun x hx => hps x (List.mem_append.2 (.inr hx))) r0)

/-- Is every type readable, and there? -/
def rowsOk (P : Program) (ts : List TypeId) : Bool := ts.all fun t => P.readableRec t && decide (t < P.types.size)

theorem law_post {H : Type} {enc : TypeId × Value → H} {P : Program} {f : Func} {s : ChangeSpec} {W W' : World} {args : Array Value} {ds gs : List (DataW H)} {before : List MemPlace} {tb : TypeId}
    (hl : laidOutB P = true) (hr : rowsOk P f.params.toList = true) (hvs : s.vars = []) (hrt : f.resultTypes = #[tb]) (hub : P.underlying tb = some .bool)
    (hW : DataW.Whole enc P f.params.toList s.vars false W args.toList ds gs before)
    (hfn : (s.fn H (ds ++ gs)).results = [.lit (.bool true)] ∧ (s.fn H (ds ++ gs)).args = ds ∧ (s.fn H (ds ++ gs)).vars = []) (hb : Below W.heap.size W W') :
    s.post enc P f false true false false W args (.bool true) W' := by
  have hlt := hW.lt
  have hW' := hW
  obtain ⟨p, q, hA, hV, rfl, hfz, hnd⟩ := hW
  rw [hvs] at hV
  obtain ⟨rfl, rfl⟩ := trodVars_none hV
  have hr' : ∀ t ∈ f.params.toList, P.readableRec t = true ∧ t < P.types.size := by
    intro t ht
    have := List.all_eq_true.1 hr t ht
    simpa using this
  refine ⟨ds, [], p ++ [], [], p, [], hW', ?_, ?_, ?_, hb.frame _, fun h => by cases h⟩
  · rw [hfn.1, hrt]
    exact trodAll_mk1 (shut_bool hub _)
  · rw [hfn.2.1]
    exact trodAll_below hl hb hr' (fun x hx => hlt x (List.mem_append.2 (.inl hx))) hA
  · rw [hfn.2.2, hvs]
    rfl

theorem spot_none {w : World} {a : Addr} {v : Value} (h : w.cell? a = some v) : a.spot = none := by simpa using World.cell?_spot h

/-- The cells of one element of a slice, by their numbers. -/
theorem cells_at {w : World} {base : Nat} {a : Addr} {n k : Nat} {cs : List Value} (h : w.cells? base (a.add k) n = some cs) (hn : 0 < n) (hs : a.spot = none) :
    ∀ j (hj : j < cs.length), w.cell? ⟨a.block, a.off + k + j, none⟩ = some cs[j] := by
  obtain ⟨_, hl, hc⟩ := World.cells?_some h
  intro j hj
  have h1 := hc j (by omega)
  rw [List.getElem?_eq_getElem hj] at h1
  have e : (a.add k).add j = ⟨a.block, a.off + k + j, none⟩ := by
    obtain ⟨b, o, s⟩ := a
    cases hs
    rw [Addr.add_lit, Addr.add_lit]
  rw [e] at h1
  exact h1

/-- A cell of the first element: the address has no spot. -/
theorem cells_spot {w : World} {base : Nat} {a : Addr} {n k : Nat} {cs : List Value} (h : w.cells? base (a.add k) n = some cs) (hn : 0 < n) (hk : k = 0) : a.spot = none := by
  obtain ⟨_, hl, hc⟩ := World.cells?_some h
  subst hk
  have h1 := hc 0 hn
  rw [List.getElem?_eq_getElem (by omega)] at h1
  simpa [Addr.add] using spot_none h1

theorem len1 {α : Type} {l : List α} (h : l.length = 1) : ∃ a, l = [a] := match l, h with | [a], _ => ⟨a, rfl⟩
theorem len2 {α : Type} {l : List α} (h : l.length = 2) : ∃ a b, l = [a, b] := match l, h with | [a, b], _ => ⟨a, b, rfl⟩
theorem len3 {α : Type} {l : List α} (h : l.length = 3) : ∃ a b c, l = [a, b, c] := match l, h with | [a, b, c], _ => ⟨a, b, c, rfl⟩
theorem len4 {α : Type} {l : List α} (h : l.length = 4) : ∃ a b c d, l = [a, b, c, d] := match l, h with | [a, b, c, d], _ => ⟨a, b, c, d, rfl⟩

theorem u8_of {n : Int} (h : (Lit.int .u8 n).wf = true) : ∃ x : UInt8, n = (x.toNat : Int) := by
  have := bounds_u8 h
  refine ⟨UInt8.ofNat n.toNat, ?_⟩
  have h2 : n.toNat < 256 := by omega
  have h3 : (UInt8.ofNat n.toNat).toNat = n.toNat := by
    simp only [UInt8.ofNat, UInt8.toNat, BitVec.toNat_ofNat]
    omega
  rw [h3]
  omega

end Go.Tb
