/-
  Rows that are cut and written over (no program but records).
-/
import Derived.Test.YtpbenicglhccmaaSiftE
namespace Go.Tb
open Go.RowKit Go.MapKept Go.ChangeMaps
set_option linter.unusedVariables false

theorem block_len (a : Option Addr) (n n' c c' : Nat) : sliceBlock (.slice a n c) = sliceBlock (.slice a n' c') := by
  cases a <;> rfl
theorem own_take {w : World} {base : Nat} {e : TypeId} {k n c m : Nat} {a : Option Addr} {xs : List Value} (h : w.ownsRow base e k (.slice a n c) n xs) (hm : m ≤ n) : w.ownsRow base e k (.slice a m c) m (xs.take (m * k)) := by
  obtain ⟨h1, h2⟩ := h
  have hmk : m * k ≤ n * k := Nat.mul_le_mul_right k hm
  refine ⟨by rw [List.length_take, h1]; omega, ?_⟩
  rcases h2 with ⟨hv, h0⟩ | ⟨g, cap, cur, hv, hg, hh, hnc, hmx, hs, ht⟩
  · cases hv
    obtain rfl : m = 0 := by omega
    exact .inl ⟨rfl, rfl⟩
  · cases hv
    refine .inr ⟨g, c, cur, rfl, hg, hh, by omega, hmx, hs, ?_⟩
    rw [← ht, List.take_take, Nat.min_eq_left hmk]

theorem own_block {w : World} {base : Nat} {e : TypeId} {k n c : Nat} {a : Option Addr} {xs : List Value} (h : w.ownsRow base e k (.slice a n c) n xs) (i : Nat) (hi : i < n * k) : ∃ g, a = some ⟨g, 0, none⟩ ∧ base ≤ g ∧ w.cell? ⟨g, i, none⟩ = xs[i]? ∧ w.frozen? ⟨g, i, none⟩ = false := by
  obtain ⟨h1, h2⟩ := h
  rcases h2 with ⟨hv, h0⟩ | ⟨g, cap, cur, hv, hg, hh, hnc, hmx, hs, ht⟩
  · subst h0; simp at hi
  · cases hv
    refine ⟨g, rfl, hg, ?_, free_of hh i⟩
    rw [cell_of hh, ← ht, List.getElem?_take, if_pos hi]
    simp
theorem own_set {w : World} {base : Nat} {e : TypeId} {k n c g : Nat} {xs : List Value} (h : w.ownsRow base e k (.slice (some ⟨g, 0, none⟩) n c) n xs) (i : Nat) (u : Value) : (w.setCell ⟨g, i, none⟩ u).ownsRow base e k (.slice (some ⟨g, 0, none⟩) n c) n (xs.set i u) := by
  obtain ⟨h1, h2⟩ := h
  refine ⟨by rw [List.length_set]; exact h1, ?_⟩
  rcases h2 with ⟨hv, h0⟩ | ⟨g', cap, cur, hv, hg, hh, hnc, hmx, hs, ht⟩
  · cases hv
  · cases hv
    refine .inr ⟨g, c, cur.setIfInBounds i u, rfl, hg, heap_setCell_at hh i u, hnc, hmx, by simpa using hs, ?_⟩
    rw [← ht]
    simp [List.take_set]

theorem flat_set {α : Type} {enc : α → List Value} {k : Nat} (hk : ∀ x, (enc x).length = k) (l : List α) (i j : Nat) (hi : i < l.length) (hj : j < k) (x : α) (u : Value) (hx : enc x = (enc l[i]).set j u) : (l.flatMap enc).set (i * k + j) u = (l.set i x).flatMap enc := by
  have hk0 : 0 < k := by omega
  apply List.ext_getElem?
  intro t
  by_cases ht : t < l.length * k
  · have hq : t / k < l.length := Nat.div_lt_of_lt_mul (by rw [Nat.mul_comm]; exact ht)
    have hr : t % k < k := Nat.mod_lt _ hk0
    have e : t = t / k * k + t % k := by rw [Nat.mul_comm]; exact (Nat.div_add_mod t k).symm
    generalize t / k = a at *
    generalize t % k = b at *
    subst e
    rw [flat_get hk (l.set i x) a (by simpa using hq) b hr]
    by_cases hai : a = i
    · subst hai
      rw [List.getElem_set_self, hx]
      by_cases hbj : b = j
      · subst hbj
        rw [List.getElem?_set_self (by rw [flat_length hk]; exact ht), List.getElem?_set_self (by rw [hk]; exact hr)]
      · rw [List.getElem?_set_ne (by omega), List.getElem?_set_ne (by omega), flat_get hk l a hq b hr]
    · rw [List.getElem_set_ne (fun q => hai q.symm), List.getElem?_set_ne (fun q => ?_), flat_get hk l a hq b hr]
      have h1 : i * k + j < (i + 1) * k := by rw [Nat.succ_mul]; omega
      have h2 : a * k + b < (a + 1) * k := by rw [Nat.succ_mul]; omega
      rcases Nat.lt_or_gt_of_ne hai with h | h
      · have : (a + 1) * k ≤ i * k := Nat.mul_le_mul_right k h
        omega
      · have : (i + 1) * k ≤ a * k := Nat.mul_le_mul_right k h
        omega
  · rw [List.getElem?_eq_none (by rw [List.length_set, flat_length hk]; omega), List.getElem?_eq_none (by rw [flat_length hk, List.length_set]; omega)]

end Go.Tb
namespace Go.Proofs.Ytpbenicglhccmaa
open Go.RowKit Go.Tb Go.MapKept Go.ChangeMaps Go.Lib
set_option linter.unusedVariables false

/-- A record without its value. -/
def bare (x : KV) : KV := { x with val := [] }
def strip (p : KvP) : KvP := ⟨bare p.x, p.k, ⟨none, 0, 0⟩⟩
theorem strip_ok {w : World} {I : Nat → Prop} {p : KvP} (h : p.Ok w I) : (strip p).Ok w I := ⟨h.k, .inl (.inl ⟨rfl, rfl⟩), h.ik, fun b hb => (by cases hb)⟩
def stripTo (ps : List KvP) (i : Nat) : List KvP := (ps.take i).map strip ++ ps.drop i
theorem stripTo_zero (ps : List KvP) : stripTo ps 0 = ps := by simp [stripTo]
theorem stripTo_all (ps : List KvP) : stripTo ps ps.length = ps.map strip := by simp [stripTo]
theorem stripTo_length (ps : List KvP) (i : Nat) : (stripTo ps i).length = ps.length := by simp [stripTo]; omega
theorem stripTo_get (ps : List KvP) (i : Nat) (hi : i < ps.length) : (stripTo ps i)[i]'(by rw [stripTo_length]; exact hi) = ps[i] := by
  have : (stripTo ps i)[i]? = some ps[i] := by
    unfold stripTo
    rw [List.getElem?_append_right (by simp; omega)]
    simp [List.length_take, Nat.min_eq_left (Nat.le_of_lt hi), hi]
  exact (List.getElem?_eq_some_iff.1 this).2
theorem stripTo_succ (ps : List KvP) (i : Nat) (hi : i < ps.length) : (stripTo ps i).set i (strip ps[i]) = stripTo ps (i + 1) := by
  unfold stripTo
  rw [List.set_append_right _ _ (by simp; omega), List.take_succ_eq_append_getElem hi, List.map_append]
  have e : i - (List.map strip (List.take i ps)).length = 0 := by simp; omega
  rw [e, List.drop_eq_getElem_cons hi, List.append_assoc]
  rfl
theorem stripTo_mem {ps : List KvP} {i : Nat} {p : KvP} (h : p ∈ stripTo ps i) : ∃ r ∈ ps, p = r ∨ p = strip r := by
  rcases List.mem_append.1 h with h | h
  · obtain ⟨r, hr, rfl⟩ := List.mem_map.1 h
    exact ⟨r, List.mem_of_mem_take hr, .inr rfl⟩
  · exact ⟨p, List.mem_of_mem_drop h, .inl rfl⟩

def cutQ (q : Qr) (n : Nat) : Bool := decide (0 < q.lim ∧ q.lim < (n : Int))
def finQ (q : Qr) (S : List KV) : List KV := (if cutQ q S.length then S.take q.lim.toNat else S).map fun x => if q.keys then bare x else x

/-- What Sift says. -/
def SiftSays (q : Qr) (ps : List KvP) (w : World) (e : Ending) (w' : World) : Prop :=
  ∃ (a : Option Addr) (c : Nat) (rs : List KvP) (S : List KV), e = .returned (.agg #[.slice a rs.length c, .int .i64 (ps.length : Nat), .bool (cutQ q S.length)]) ∧ S.Perm ((ps.map KvP.x).filter (keepsQ q)) ∧ S.Pairwise (fun a b => ¬ cmpD q b a < 0) ∧
    rs.map KvP.x = finQ q S ∧ Kvs w' (fun b => w.heap.size ≤ b) (.slice a rs.length c) rs ∧ (∀ b, sliceBlock (.slice a rs.length c) = some b → w.heap.size ≤ b) ∧ Upd (fun _ => False) w w'

theorem sift_says {q : Qr} {ps rs qs R : List KvP} {w wX w7 : World} {ob n' : Nat} {va : Option Addr} {vc : Nat} {J : Nat → Prop} {more : Bool} (hperm : qs.Perm rs) (heq : rs.map KvP.x = (ps.map KvP.x).filter (keepsQ q)) (hpw : qs.Pairwise fun a b => ¬ cmpD q b.x a.x < 0)
    (hR : R.map KvP.x = finQ q (qs.map KvP.x)) (hn : R.length = n') (hm : more = cutQ q qs.length) (hown : wX.ownsRow (ob + 1) 37 6 (.slice va n' vc) n' (R.flatMap kvenc)) (hok : ∀ p ∈ R, p.Ok wX J) (hJ : ∀ b, J b → ob + 1 ≤ b)
    (hw : w.heap.size + 1 < ob) (hu : Upd (fun _ => False) w wX) (h7 : Upd (fun k => k = w.heap.size + 1) wX w7) : SiftSays q ps w (.returned (.agg #[.slice va n' vc, .int .i64 (ps.length : Nat), .bool more])) w7 := by
  subst hn hm
  have hsl := sl_of_own (enc := kvenc) kvenc_length hown
  refine ⟨va, vc, R, qs.map KvP.x, by rw [List.length_map], ?_, ?_, hR, ⟨?_, fun p hp => ?_⟩, fun b hb => ?_, ?_⟩
  · rw [← heq]; exact hperm.map _
  · rw [List.pairwise_map]; exact hpw
  · exact hsl.1.upd h7 (fun b hb e => by have := hsl.2 b hb; omega)
  · exact ((hok p hp).upd h7 (fun b hb e => by have := hJ b hb; omega)).wider (fun b hb => by have := hJ b hb; omega)
  · have := hsl.2 b hb; omega
  · exact hu.trans' h7 (fun x hx e => by omega)

theorem finQ_plain {q : Qr} {S : List KvP} (hc : cutQ q S.length = false) (hk : q.keys = false) : S.map KvP.x = finQ q (S.map KvP.x) := by
  unfold finQ; rw [List.length_map, hc, hk]; simp
theorem finQ_keys {q : Qr} {S : List KvP} (hc : cutQ q S.length = false) (hk : q.keys = true) : (S.map strip).map KvP.x = finQ q (S.map KvP.x) := by
  unfold finQ; rw [List.length_map, hc, hk]; simp [strip]
theorem finQ_cut {q : Qr} {S : List KvP} (hc : cutQ q S.length = true) (hk : q.keys = false) : (S.take q.lim.toNat).map KvP.x = finQ q (S.map KvP.x) := by
  unfold finQ; rw [List.length_map, hc, hk]; simp [List.map_take]; rfl
theorem finQ_both {q : Qr} {S : List KvP} (hc : cutQ q S.length = true) (hk : q.keys = true) : ((S.take q.lim.toNat).map strip).map KvP.x = finQ q (S.map KvP.x) := by
  unfold finQ; rw [List.length_map, hc, hk]; simp [List.map_take]; rfl

/-- While values are struck. -/
def StripAt (ob : Nat) (va : Option Addr) (n vc : Nat) (R : List KvP) (w6 wr : World) (i : Nat) : Prop :=
  wr.ownsRow (ob + 1) 37 6 (.slice va n vc) n ((stripTo R i).flatMap kvenc) ∧ Upd (fun b => sliceBlock (.slice va n vc) = some b) w6 wr
theorem StripAt.next {ob n vc i : Nat} {va : Option Addr} {R : List KvP} {w6 wr : World} (h : StripAt ob va n vc R w6 wr i) (hR : R.length = n) (hi : i < n) :
    ∃ g, va = some ⟨g, 0, none⟩ ∧ (∃ u, wr.cell? ⟨g, i * 6 + 1, none⟩ = some u) ∧ wr.frozen? ⟨g, i * 6 + 1, none⟩ = false ∧ StripAt ob va n vc R w6 (wr.setCell ⟨g, i * 6 + 1, none⟩ (.slice none 0 0)) (i + 1) := by
  obtain ⟨g, rfl, hg, hc, hf⟩ := own_block h.1 (i * 6 + 1) (by omega)
  have hlt : i * 6 + 1 < ((stripTo R i).flatMap kvenc).length := by rw [flat_length kvenc_length, stripTo_length]; omega
  refine ⟨g, rfl, ⟨_, hc.trans (List.getElem?_eq_getElem hlt)⟩, hf, ?_, h.2.trans (upd_setCell _ _ _ _ rfl)⟩
  have h2 := own_set h.1 (i * 6 + 1) (.slice none 0 0)
  rwa [flat_set kvenc_length (stripTo R i) i 1 (by rw [stripTo_length]; omega) (by decide) (strip (R[i]'(by omega))) (.slice none 0 0) (by rw [stripTo_get R i (by omega)]; rfl), stripTo_succ R i (by omega)] at h2

end Go.Proofs.Ytpbenicglhccmaa
