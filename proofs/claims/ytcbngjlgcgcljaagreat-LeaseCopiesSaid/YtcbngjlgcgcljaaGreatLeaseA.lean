/-
  A lessor: what it is; later, Now, Tick, find, Grant, Keep.
-/
import Derived.Test.YtcbngjlgcgcljaaGreatProg
import Derived.Test.YtcbngjlgcgcljaaGreatBase
namespace Go.Proofs.YtcbngjlgcgcljaaGreat
open Go.RowKit Go.Tb Go.MapKept Go.ChangeMaps Go.Lib
set_option linter.unusedVariables false

/-- What a lessor is. -/
structure LS where
  now : Int
  last : Int
  l : Int → Option (Int × Int)
  n : Nat
  keys : List UInt8 → Option Int
  nk : Nat

def heldV (x : Int × Int) : Value := .agg #[.int .i64 x.1, .int .i64 x.2]
def topT : Int := 4611686018427387904

structure IsLs (w : World) (b ml mk : Nat) (L : LS) : Prop where
  blk : w.heap[b]? = some (.cells #[.int .i64 L.now, .int .i64 L.last, .map (some ml), .map (some mk)] 51 (0, 0))
  lm : IsMap (Value.int .i64) w ml (fun i => (L.l i).map heldV) L.n
  km : IsMap skey w mk (fun s => (L.keys s).map (Value.int .i64)) L.nk
  n1 : ml ≠ b
  n2 : mk ≠ b
  n3 : ml ≠ mk

/-- What a lessor keeps. -/
structure LOk (L : LS) : Prop where
  now0 : 0 ≤ L.now
  now1 : L.now ≤ topT
  last0 : 0 ≤ L.last
  last1 : L.last ≤ topT
  ids : ∀ i x, L.l i = some x → 1 ≤ i ∧ i ≤ L.last ∧ 1 ≤ x.1 ∧ x.1 ≤ topT ∧ 0 ≤ x.2 ∧ x.2 ≤ topT
  few : L.n ≤ 64

theorem IsLs.upd {w w' : World} {b ml mk : Nat} {L : LS} {S : Nat → Prop} (h : IsLs w b ml mk L) (hu : Upd S w w') (hb : ¬ S b) (hl : ¬ S ml) (hk : ¬ S mk) : IsLs w' b ml mk L :=
  { h with blk := hu.heap h.blk hb, lm := h.lm.upd hu hl, km := h.km.upd hu hk }
theorem IsLs.grow {w w' : World} {b ml mk : Nat} {L : LS} (h : IsLs w b ml mk L) (hu : Upd (fun _ => False) w w') : IsLs w' b ml mk L := h.upd hu (fun x => x) (fun x => x) (fun x => x)

def laterI (now n : Int) : Int := if topT - now < n then topT else now + n

theorem later_calls (now n : Int) (w : World) (h0 : 0 ≤ now) (h1 : now ≤ topT) (h2 : 0 ≤ n) : Calls Tryz.prog 33 #[.int .i64 now, .int .i64 n] w fun e w' => e = .returned (.int .i64 (laterI now n)) ∧ w = w' := by
  unfold topT at h1
  by_cases h : 4611686018427387904 - now < n
  · have e : laterI now n = 4611686018427387904 := if_pos h
    rw [e]; clear e
    go_enter Tryz.func33, Tryz.ntmps33
    go_wp2
    go_ret
    exact ⟨rfl, rfl⟩
  · have e : laterI now n = now + n := if_neg h
    rw [e]; clear e
    have h3 : n ≤ 4611686018427387904 - now := by omega
    clear h
    go_enter Tryz.func33, Tryz.ntmps33
    go_wp2
    go_ret
    exact ⟨rfl, rfl⟩

theorem laterI_range {now n : Int} (h0 : 0 ≤ now) (h1 : now ≤ topT) (h2 : 0 ≤ n) : 0 ≤ laterI now n ∧ laterI now n ≤ topT ∧ now ≤ laterI now n := by
  unfold laterI topT at *; split <;> omega

theorem now_calls (b ml mk : Nat) (L : LS) (w : World) (h : IsLs w b ml mk L) : Calls Tryz.prog 28 #[.pointer (some ⟨b, 0, none⟩)] w fun e w' => e = .returned (.int .i64 L.now) ∧ w = w' := by
  have h0 : w.cell? ⟨b, 0, none⟩ = some (.int .i64 L.now) := cell_of h.blk 0
  clear h
  generalize L.now = x at *
  go_enter Tryz.func28, Tryz.ntmps28
  go_wp2
  go_ret
  exact ⟨rfl, rfl⟩

def LS.ticked (L : LS) (n : Int) : LS := { L with now := laterI L.now n }

theorem tick_calls (b ml mk : Nat) (L : LS) (n : Int) (w : World) (h : IsLs w b ml mk L) (hok : LOk L) (hn : 0 ≤ n) :
    Calls Tryz.prog 13 #[.pointer (some ⟨b, 0, none⟩), .int .i64 n] w fun e w' => e = .returned (.int .i64 0) ∧ IsLs w' b ml mk (L.ticked n) ∧ Upd (fun k => k = b) w w' := by
  have h0 : w.cell? ⟨b, 0, none⟩ = some (.int .i64 L.now) := cell_of h.blk 0
  have f0 := free_of h.blk 0
  have hc := later_calls L.now n w hok.now0 hok.now1 hn
  have H := Lib.hid h
  have e : laterI L.now n = (L.ticked n).now := rfl
  have HE := Lib.hid e
  clear h hok e
  generalize laterI L.now n = t at *
  generalize L.now = x at *
  go_enter Tryz.func13, Tryz.ntmps13
  go_wp2_with (go_at_call 33; (with_reducible refine hc.mono ?_); rintro e w1 ⟨rfl, rfl⟩)
  go_ret
  have hu : Upd (fun k => k = b) w (w.setCell ⟨b, 0, none⟩ (.int .i64 t)) := upd_setCell _ _ _ _ rfl
  have H' := H.out
  refine ⟨rfl, { blk := ?_, lm := H'.lm.upd hu H'.n1, km := H'.km.upd hu H'.n2, n1 := H'.n1, n2 := H'.n2, n3 := H'.n3 }, hu⟩
  rw [heap_setCell_at H'.blk 0 _, ← HE.out]; rfl

theorem LOk.ticked {L : LS} (h : LOk L) {n : Int} (hn : 0 ≤ n) : LOk (L.ticked n) :=
  { h with now0 := (laterI_range h.now0 h.now1 hn).1, now1 := (laterI_range h.now0 h.now1 hn).2.1 }

end Go.Proofs.YtcbngjlgcgcljaaGreat
