/-
  What Sift says of few records, whatever the query.
-/
import Derived.Test.YtpbenicglhccmaaTurnP
namespace Go.Proofs.Ytpbenicglhccmaa
open Go.RowKit Go.Tb Go.MapKept Go.ChangeMaps Go.Lib
set_option linter.unusedVariables false

/-- What a result counts. -/
def cntQ (q : Qr) (ps : List KvP) : Int := if rightQ q then (ps.length : Int) else 0
def AnyP (q : Qr) (ps rs : List KvP) (m : Bool) : Prop := if rightQ q = true ∧ q.count = false then LimPure q ps rs m else rs = [] ∧ m = false
def AnySays (q : Qr) (ps : List KvP) (w : World) (en : Ending) (w' : World) : Prop :=
  ∃ a c rs m, en = .returned (.agg #[.slice a (List.length rs) c, .int .i64 (cntQ q ps), .bool m]) ∧ AnyP q ps rs m ∧ KvAt w.heap.size w'.heap.size w' (.slice a rs.length c) rs ∧ Upd (fun _ => False) w w'

theorem kvAt_nil (lo : Nat) (w : World) : KvAt lo w.heap.size w (.slice none 0 0) [] := ⟨w, rfl, ⟨.inl ⟨rfl, rfl⟩, fun p hp => (by cases hp)⟩, fun b hb => (by cases hb), Upd.refl _ _⟩

theorem any_calls (k e : Value) (q : Qr) (a : Option Addr) (c : Nat) (ps : List KvP) (w : World) (hs : Kvs w (fun _ => True) (.slice a ps.length c) ps) (hf : FewOk ps) :
    Calls Try.prog 10 #[.agg (qcells k e q), .slice a ps.length c] w (AnySays q ps w) := by
  by_cases hq : rightQ q = true
  · by_cases hc : q.count = true
    · refine (sift_count k e q a ps.length c w hq hc).mono ?_
      rintro en w' ⟨rfl, hu⟩
      refine ⟨none, 0, [], false, by unfold cntQ; rw [if_pos hq]; rfl, ?_, kvAt_nil _ _, hu⟩
      unfold AnyP
      rw [if_neg (fun h => by rw [hc] at h; cases h.2)]
      exact ⟨rfl, rfl⟩
    · have hc' : q.count = false := by simpa using hc
      refine (lim_calls k e q a c ps w hq hc' hs hf).mono ?_
      rintro en w' ⟨a1, c1, rs, m, rfl, h1, h2, h3⟩
      refine ⟨a1, c1, rs, m, by unfold cntQ; rw [if_pos hq], ?_, h2, h3⟩
      unfold AnyP
      rw [if_pos ⟨hq, hc'⟩]
      exact h1
  · have hq' : rightQ q = false := by simpa using hq
    refine (sift_bad k e q _ w hq').mono ?_
    rintro en w' ⟨rfl, hu⟩
    refine ⟨none, 0, [], false, by unfold cntQ; rw [if_neg hq]; rfl, ?_, kvAt_nil _ _, hu⟩
    unfold AnyP
    rw [if_neg (fun h => hq h.1)]
    exact ⟨rfl, rfl⟩

theorem turn_any {q : Qr} {ps qs rs rs2 rs3 : List KvP} {m1 m2 m3 : Bool} (hl : q.lim = 0) (hu : Unlike (ps.map KvP.x)) (hperm : qs.Perm ps) (h1 : AnyP q ps rs m1) (h2 : AnyP q qs rs2 m2) (h3 : AnyP (flipQ q) ps rs3 m3) :
    rs2.map KvP.x = rs.map KvP.x ∧ rs3.map KvP.x = (rs.map KvP.x).reverse ∧ m1 = false ∧ m2 = false ∧ m3 = false := by
  unfold AnyP at *
  rw [flip_right, show (flipQ q).count = q.count from rfl] at h3
  by_cases h : rightQ q = true ∧ q.count = false
  · rw [if_pos h] at h1 h2 h3
    exact turn_plain hl hu (hperm.map _) h1 h2 h3
  · rw [if_neg h] at h1 h2 h3
    obtain ⟨rfl, rfl⟩ := h1
    obtain ⟨rfl, rfl⟩ := h2
    obtain ⟨rfl, rfl⟩ := h3
    exact ⟨rfl, rfl, rfl, rfl, rfl⟩
theorem cnt_perm {q : Qr} {ps qs : List KvP} (hp : qs.Perm ps) : cntQ q qs = cntQ q ps := by unfold cntQ; rw [hp.length_eq]

theorem retAny_new {own : Nat → Nat} {k : Nat} {w w' : World} {q : Qr} {ps : List KvP} {en : Ending} (h : AnySays q ps w en w') :
    ∃ v, en = .returned v ∧ RetAt (ownBy own w.heap.size k) k w' v (cntQ q ps) (AnyP q ps) ∧ Upd (fun _ => False) w w' := by
  obtain ⟨a, c, rs, m, rfl, h1, h2, hu⟩ := h
  exact ⟨_, rfl, ⟨a, c, rs, m, _, _, rfl, h1, h2, Nat.le_refl _, fun b hb _ => if_neg (by omega)⟩, hu⟩

end Go.Proofs.Ytpbenicglhccmaa
