/-
  SiftSieves: what Sift says there.
-/
import Derived.Test.YtpbenicglhccmaaTwiceA
namespace Go.Proofs.Ytpbenicglhccmaa
open Go.RowKit Go.Tb Go.MapKept Go.ChangeMaps Go.Lib
set_option linter.unusedVariables false

def qA (q : Qr) : Qr := { q with lim := 0, keys := false, count := false }
def qB (q : Qr) : Qr := { q with lim := 0, keys := true, count := false }
def qC (q : Qr) : Qr := { q with lim := 0, keys := true, count := true }
theorem qA_right {q : Qr} (h : rightQ q = true) : rightQ (qA q) = true := by
  have := of_decide_eq_true h
  exact decide_eq_true ⟨this.1, this.2.1, Int.le_refl _, (by show (0 : Int) ≤ 4096; decide), this.2.2.2.2⟩
theorem qB_right {q : Qr} (h : rightQ q = true) : rightQ (qB q) = true := qA_right h
theorem qC_right {q : Qr} (h : rightQ q = true) : rightQ (qC q) = true := qA_right h
theorem cut_none {q : Qr} (h : q.lim = 0) (n : Nat) : cutQ q n = false := decide_eq_false (fun k => by rw [h] at k; omega)

/-- How many go through the sieve. -/
def passed (q : Qr) (ps : List KvP) : List KvP := ps.filter fun p => keepsQ q p.x
theorem passed_map (q : Qr) (ps : List KvP) : (passed q ps).map KvP.x = (ps.map KvP.x).filter (keepsQ q) := by
  unfold passed; rw [List.filter_map]; rfl
theorem passed_step {q : Qr} {ps : List KvP} {k : Nat} (hk : k < ps.length) : (passed q (ps.take (k + 1))).length = (passed q (ps.take k)).length + (if keepsQ q ps[k].x then 1 else 0) := by
  unfold passed
  rw [List.take_succ_eq_append_getElem hk, List.filter_append, List.length_append]
  congr 1
  by_cases h : keepsQ q ps[k].x = true
  · simp [h]
  · simp [h]

/-- Records in blocks behind g. -/
def RowAt (g : Nat) (w : World) (v : Value) (rs : List KvP) : Prop := Kvs w (fun b => g < b) v rs ∧ ∀ b, sliceBlock v = some b → g < b
theorem RowAt.upd {g : Nat} {w w' : World} {v : Value} {rs : List KvP} (h : RowAt g w v rs) (hu : Upd (fun b => b = g) w w') : RowAt g w' v rs :=
  ⟨h.1.upd hu (fun b hb e => by have := h.2 b hb; omega) (fun b hb e => by omega), h.2⟩
theorem RowAt.grow {g : Nat} {w w' : World} {v : Value} {rs : List KvP} (h : RowAt g w v rs) (hu : Upd (fun _ => False) w w') : RowAt g w' v rs := ⟨h.1.grow hu, h.2⟩

def Sieve2 (g : Nat) (n : Nat) (rs : List KvP) (w : World) (e : Ending) (w' : World) : Prop :=
  ∃ a c rs2, e = .returned (.agg #[.slice a rs.length c, .int .i64 (n : Nat), .bool false]) ∧ List.map KvP.x rs2 = (rs.map KvP.x).map bare ∧ RowAt g w' (.slice a rs.length c) rs2 ∧ Upd (fun _ => False) w w'
def Sieve1 (g : Nat) (k e : Value) (q : Qr) (a0 : Option Addr) (c0 : Nat) (ps : List KvP) (w : World) (en : Ending) (w' : World) : Prop :=
  ∃ a c rs, en = .returned (.agg #[.slice a (List.length rs) c, .int .i64 (ps.length : Nat), .bool false]) ∧ rs.length = (passed q ps).length ∧ (∀ p ∈ rs, keepsQ q p.x = true) ∧ RowAt g w' (.slice a rs.length c) rs ∧ Upd (fun _ => False) w w' ∧
    ∀ W, g < W.heap.size → Kvs W (fun _ => True) (.slice a0 ps.length c0) ps → Calls Try.prog 10 #[.agg (qcells k e (qB q)), .slice a0 ps.length c0] W (Sieve2 g ps.length rs W)

theorem rowAt_of {g : Nat} {w w' : World} {a : Option Addr} {c : Nat} {rs : List KvP} (hg : g < w.heap.size) (h : Kvs w' (fun b => w.heap.size ≤ b) (.slice a rs.length c) rs) (hb : ∀ b, sliceBlock (.slice a rs.length c) = some b → w.heap.size ≤ b) : RowAt g w' (.slice a rs.length c) rs :=
  ⟨⟨h.1, fun p hp => (h.2 p hp).wider (fun b hb => by omega)⟩, fun b h => by have := hb b h; omega⟩

theorem sieve_calls (g : Nat) (k e : Value) (q : Qr) (a : Option Addr) (c : Nat) (ps : List KvP) (w : World) (hg : g < w.heap.size) (hq : rightQ q = true) (hs : Kvs w (fun _ => True) (.slice a ps.length c) ps) (hf : FewOk ps) :
    Calls Try.prog 10 #[.agg (qcells k e (qA q)), .slice a ps.length c] w (Sieve1 g k e q a c ps w) := by
  refine (sift_few k e (qA q) a c ps _ w (qA_right hq) rfl hs hf).mono ?_
  rintro en w' ⟨a1, c1, rs, S, rfl, hp, hsr, hrs, hkv, hb, hu⟩
  have hS : rs.map KvP.x = S := by
    rw [hrs, finQ_bare rfl, cut_none rfl]; rfl
  have hp' : S.Perm ((ps.map KvP.x).filter (keepsQ q)) := hp
  refine ⟨a1, c1, rs, by rw [cut_none rfl], ?_, fun p hm => ?_, rowAt_of hg hkv hb, hu, fun W hW hK => ?_⟩
  · have h1 : rs.length = S.length := by rw [← hS, List.length_map]
    rw [h1, hp'.length_eq, ← passed_map, List.length_map]
  · have h1 : p.x ∈ S := by rw [← hS]; exact List.mem_map_of_mem hm
    exact (List.mem_filter.1 (hp'.mem_iff.1 h1)).2
  · refine (sift_few k e (qB q) a c ps _ W (qB_right hq) rfl hK hf).mono ?_
    rintro en2 W2 ⟨a2, c2, rs2, S2, rfl, hp2, hsr2, hrs2, hkv2, hb2, hu2⟩
    have hp2' : S2.Perm ((ps.map KvP.x).filter (keepsQ q)) := hp2
    have hS2 : S2 = S := by
      have huS2 : Unlike S2 := ((few_unlike hf).sub List.filter_sublist).perm hp2'
      exact sorted_one (q := qA q) (hp2'.trans hp'.symm) huS2 hsr2 hsr
    have hm : rs2.map KvP.x = (rs.map KvP.x).map bare := by
      rw [hrs2, hS, ← hS2]
      unfold finQ
      rw [cut_none rfl]
      rfl
    have hl : rs2.length = rs.length := by have := congrArg List.length hm; simpa using this
    have hr := rowAt_of hW hkv2 hb2
    rw [hl] at hr
    exact ⟨a2, c2, rs2, by rw [cut_none rfl, hl], hm, hr, hu2⟩

end Go.Proofs.Ytpbenicglhccmaa
