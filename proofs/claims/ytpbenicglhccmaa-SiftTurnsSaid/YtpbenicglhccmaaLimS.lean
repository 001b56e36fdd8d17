/-
  Steps of a region that draws its order: a result's block is made, is written: the world behind is a letter.
-/
import Derived.Deep.RegionLaw
import Derived.Deep.RegionHeld3
import Derived.Test.YtpbenicglhccmaaRegOps
import Derived.Test.YtpbenicglhccmaaSievesA
namespace Go.Proofs.Ytpbenicglhccmaa
open Go.RowKit Go.Tb Go.MapKept Go.ChangeMaps Go.Lib
set_option linter.unusedVariables false

def q0 (q : Qr) : Qr := { q with lim := 0 }
theorem q0_right {q : Qr} (h : rightQ q = true) : rightQ (q0 q) = true := by
  have := of_decide_eq_true h
  exact decide_eq_true ⟨this.1, this.2.1, Int.le_refl _, (by show (0 : Int) ≤ 4096; decide), this.2.2.2.2⟩

/-- Records that a call made: its blocks lie from lo on; what was written since lies below lo or from hi on. -/
def KvAt (lo hi : Nat) (w : World) (v : Value) (rs : List KvP) : Prop := ∃ w0 : World, w0.heap.size = hi ∧ Kvs w0 (fun b => lo ≤ b) v rs ∧ (∀ b, sliceBlock v = some b → lo ≤ b) ∧ Upd (fun b => b < lo) w0 w
theorem KvAt.grow {lo hi : Nat} {w w' : World} {v : Value} {rs : List KvP} (h : KvAt lo hi w v rs) (hu : Upd (fun _ => False) w w') : KvAt lo hi w' v rs := by
  obtain ⟨w0, h1, h2, h3, h4⟩ := h
  exact ⟨w0, h1, h2, h3, h4.trans' hu (fun x hx e => e.elim)⟩
theorem KvAt.store {lo hi g : Nat} {w w' : World} {v : Value} {rs : List KvP} (h : KvAt lo hi w v rs) (hu : Upd (fun k => k = g) w w') (hg : g < lo ∨ hi ≤ g) : KvAt lo hi w' v rs := by
  obtain ⟨w0, h1, h2, h3, h4⟩ := h
  exact ⟨w0, h1, h2, h3, h4.trans' hu (fun x hx e => by omega)⟩
theorem KvAt.kvs {lo hi : Nat} {w : World} {v : Value} {rs : List KvP} (h : KvAt lo hi w v rs) : Kvs w (fun _ => True) v rs := by
  obtain ⟨w0, h1, h2, h3, h4⟩ := h
  have := h2.upd h4 (fun b hb e => by have := h3 b hb; omega) (fun b hb e => by omega)
  exact ⟨this.1, fun p hp => (this.2 p hp).wider (fun _ _ => trivial)⟩

/-- What a sift of few records says, in short. -/
def LimPure (q : Qr) (ps rs : List KvP) (m : Bool) : Prop := ∃ S : List KV, S.Perm ((ps.map KvP.x).filter (keepsQ q)) ∧ Sorted q S ∧ rs.map KvP.x = finQ q S ∧ m = cutQ q S.length
def LimSays (q : Qr) (ps : List KvP) (w : World) (en : Ending) (w' : World) : Prop :=
  ∃ a c rs m, en = .returned (.agg #[.slice a (List.length rs) c, .int .i64 (ps.length : Nat), .bool m]) ∧ LimPure q ps rs m ∧ KvAt w.heap.size w'.heap.size w' (.slice a rs.length c) rs ∧ Upd (fun _ => False) w w'
theorem lim_calls (k e : Value) (q : Qr) (a : Option Addr) (c : Nat) (ps : List KvP) (w : World) (hq : rightQ q = true) (hc : q.count = false) (hs : Kvs w (fun _ => True) (.slice a ps.length c) ps) (hf : FewOk ps) :
    Calls Try.prog 10 #[.agg (qcells k e q), .slice a ps.length c] w (LimSays q ps w) := by
  refine (sift_few k e q a c ps _ w hq hc hs hf).mono ?_
  rintro en w' ⟨a1, c1, rs, S, rfl, hp, hsr, hrs, hkv, hb, hu⟩
  exact ⟨a1, c1, rs, _, rfl, ⟨S, hp, hsr, hrs, rfl⟩, ⟨w', rfl, hkv, hb, Upd.refl _ _⟩, hu⟩



/-- A result that a call handed back: its records lie in blocks that operation k made. -/
def RetAt (own : Nat → Nat) (k : Nat) (w : World) (v : Value) (n : Int) (Pp : List KvP → Bool → Prop) : Prop :=
  ∃ a c rs m lo hi, v = .agg #[.slice a (List.length rs) c, .int .i64 n, .bool m] ∧ Pp rs m ∧ KvAt lo hi w (.slice a rs.length c) rs ∧ hi ≤ w.heap.size ∧ ∀ b, lo ≤ b → b < hi → own b = k
theorem RetAt.grow {own own' : Nat → Nat} {k : Nat} {w w' : World} {v : Value} {n : Int} {Pp : List KvP → Bool → Prop} (h : RetAt own k w v n Pp) (hu : Upd (fun _ => False) w w') (ho : ∀ b, b < w.heap.size → own' b = own b) : RetAt own' k w' v n Pp := by
  obtain ⟨a, c, rs, m, lo, hi, h1, h2, h3, h4, h5⟩ := h
  exact ⟨a, c, rs, m, lo, hi, h1, h2, h3.grow hu, Nat.le_trans h4 hu.size, fun b hb1 hb2 => (ho b (Nat.lt_of_lt_of_le hb2 h4)).trans (h5 b hb1 hb2)⟩
theorem RetAt.store {own : Nat → Nat} {k g : Nat} {w w' : World} {v : Value} {n : Int} {Pp : List KvP → Bool → Prop} (h : RetAt own k w v n Pp) (hu : Upd (fun b => b = g) w w') (hg : own g ≠ k) : RetAt own k w' v n Pp := by
  obtain ⟨a, c, rs, m, lo, hi, h1, h2, h3, h4, h5⟩ := h
  refine ⟨a, c, rs, m, lo, hi, h1, h2, h3.store hu ?_, Nat.le_trans h4 hu.size, h5⟩
  by_cases e : g < lo
  · exact .inl e
  · by_cases e2 : g < hi
    · exact absurd (h5 g (by omega) e2) hg
    · exact .inr (by omega)

/-- A block that operation k made for a result. -/
def SlotAt (own : Nat → Nat) (k : Nat) (w : World) (v : Value) (cs : Array Value) : Prop :=
  ∃ g, v = .pointer (some ⟨g, 0, none⟩) ∧ own g = k ∧ g < w.heap.size ∧ w.heap[g]? = some (.cells cs 30 (0, 0)) ∧ cs.size = 3
theorem SlotAt.grow {own own' : Nat → Nat} {k : Nat} {w w' : World} {v : Value} {cs : Array Value} (h : SlotAt own k w v cs) (hu : Upd (fun _ => False) w w') (ho : ∀ b, b < w.heap.size → own' b = own b) : SlotAt own' k w' v cs := by
  obtain ⟨g, h1, h2, h3, h4, h5⟩ := h
  exact ⟨g, h1, (ho g h3).trans h2, Nat.lt_of_lt_of_le h3 hu.size, hu.heap h4 (fun x => x), h5⟩
theorem SlotAt.store {own : Nat → Nat} {k g : Nat} {w w' : World} {v : Value} {cs : Array Value} (h : SlotAt own k w v cs) (hu : Upd (fun b => b = g) w w') (hg : own g ≠ k) : SlotAt own k w' v cs := by
  obtain ⟨g', h1, h2, h3, h4, h5⟩ := h
  exact ⟨g', h1, h2, Nat.lt_of_lt_of_le h3 hu.size, hu.heap h4 (fun e => hg (e ▸ h2)), h5⟩
/-- .. which holds the result `v`, if `d`. -/
def SlotIs (own : Nat → Nat) (k : Nat) (w : World) (p v : Value) (d : Bool) : Prop := ∃ cs, SlotAt own k w p cs ∧ (d = true → v = .agg cs)
theorem SlotIs.grow {own own' : Nat → Nat} {k : Nat} {w w' : World} {p v : Value} {d : Bool} (h : SlotIs own k w p v d) (hu : Upd (fun _ => False) w w') (ho : ∀ b, b < w.heap.size → own' b = own b) : SlotIs own' k w' p v d := by
  obtain ⟨cs, h1, h2⟩ := h; exact ⟨cs, h1.grow hu ho, h2⟩
theorem SlotIs.store {own : Nat → Nat} {k g : Nat} {w w' : World} {p v : Value} {d : Bool} (h : SlotIs own k w p v d) (hu : Upd (fun b => b = g) w w') (hg : own g ≠ k) : SlotIs own k w' p v d := by
  obtain ⟨cs, h1, h2⟩ := h; exact ⟨cs, h1.store hu hg, h2⟩

theorem SlotIs.vague {own : Nat → Nat} {k : Nat} {w : World} {p v : Value} {d : Bool} (v' : Value) (h : SlotIs own k w p v d) (hd : d = true → False) : SlotIs own k w p v' d := by
  obtain ⟨cs, h1, h2⟩ := h; exact ⟨cs, h1, fun e => (hd e).elim⟩
theorem RetAt.shape {own : Nat → Nat} {k : Nat} {w : World} {v : Value} {n : Int} {Pp : List KvP → Bool → Prop} (h : RetAt own k w v n Pp) : ∃ cs, v = .agg cs ∧ cs.size = 3 ∧ cs.all (·.oneCell') = true := by
  obtain ⟨a, c, rs, m, lo, hi, rfl, _⟩ := h
  exact ⟨_, rfl, rfl, by kernel_rfl⟩

/-- Whose a new block is. -/
def ownBy (own : Nat → Nat) (s k : Nat) : Nat → Nat := fun b => if b < s then own b else k
theorem ownBy_old (own : Nat → Nat) (s k : Nat) : ∀ b, b < s → ownBy own s k b = own b := fun b h => if_pos h
theorem retAt_new {own : Nat → Nat} {k : Nat} {w w' : World} {q : Qr} {ps : List KvP} {en : Ending} (h : LimSays q ps w en w') :
    ∃ v, en = .returned v ∧ RetAt (ownBy own w.heap.size k) k w' v (ps.length : Nat) (LimPure q ps) ∧ Upd (fun _ => False) w w' := by
  obtain ⟨a, c, rs, m, rfl, h1, h2, hu⟩ := h
  exact ⟨_, rfl, ⟨a, c, rs, m, _, _, rfl, h1, h2, Nat.le_refl _, fun b hb _ => if_neg (by omega)⟩, hu⟩
theorem run_alloc_result (w : World) : (Instr.alloc 30 true (.tuple #[])).run Try.prog w = .ok (.pointer (some ⟨w.heap.size, 0, none⟩)) (w.alloc (.cells #[.slice none 0 0, .int .i64 0, .bool false] 30)) := by kernel_rfl

/-- What stands behind the two sifts. -/
def LimAt (w : World) (g : Nat) (k e : Value) (q : Qr) (ps : List KvP) (x y : Value) (wx : World) : Prop :=
  ∃ (g6 g7 : Nat) (a1 : Option Addr) (c1 : Nat) (rs : List KvP) (m1 : Bool) (a2 : Option Addr) (c2 : Nat) (rs2 : List KvP) (m2 : Bool), x = .pointer (some ⟨g6, 0, none⟩) ∧ y = .pointer (some ⟨g7, 0, none⟩) ∧
    wx.heap[g6]? = some (.cells #[.slice a1 rs.length c1, .int .i64 (ps.length : Nat), .bool m1] 30 (0, 0)) ∧ wx.heap[g7]? = some (.cells #[.slice a2 rs2.length c2, .int .i64 (ps.length : Nat), .bool m2] 30 (0, 0)) ∧
    LimPure q ps rs m1 ∧ LimPure (q0 q) ps rs2 m2 ∧ Kvs wx (fun _ => True) (.slice a1 rs.length c1) rs ∧ Kvs wx (fun _ => True) (.slice a2 rs2.length c2) rs2 ∧ wx.heap[g]? = some (.cells (qcells k e q) 24 (0, 0)) ∧ Upd (fun _ => False) w wx

end Go.Proofs.Ytpbenicglhccmaa
