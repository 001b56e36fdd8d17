/-
  A limit tells a beginning (no program in sight).
-/
import Derived.Test.YtpbenicglhccmaaLimS
namespace Go.Proofs.Ytpbenicglhccmaa
open Go.RowKit Go.Tb Go.MapKept Go.ChangeMaps Go.Lib
set_option linter.unusedVariables false

/-- How many records a limit leaves. -/
def nLim (q : Qr) (k : Nat) : Nat := if q.lim = 0 then k else min k q.lim.toNat

theorem cmpD_q0 (q : Qr) (a b : KV) : cmpD (q0 q) a b = cmpD q a b := rfl
theorem keeps_q0 (q : Qr) : keepsQ (q0 q) = keepsQ q := rfl
theorem cut_q0 (q : Qr) (n : Nat) : cutQ (q0 q) n = false := decide_eq_false (fun h => by have := h.1; simp [q0] at this)
theorem fin_q0 (q : Qr) (S : List KV) : finQ (q0 q) S = S.map fun x => if q.keys then bare x else x := by
  unfold finQ; rw [cut_q0]; rfl

theorem lim_plain {q : Qr} {ps rs rs2 : List KvP} {m1 m2 : Bool} (hu : Unlike (ps.map KvP.x)) (hl : 0 ≤ q.lim) (h1 : LimPure q ps rs m1) (h2 : LimPure (q0 q) ps rs2 m2) :
    rs.length = nLim q rs2.length ∧ rs.map KvP.x = (rs2.take (nLim q rs2.length)).map KvP.x ∧ m1 = decide (nLim q rs2.length < rs2.length) ∧ m2 = false := by
  obtain ⟨S, hp, hs, hr, rfl⟩ := h1
  obtain ⟨T, hp2, hs2, hr2, rfl⟩ := h2
  rw [keeps_q0] at hp2
  have hun : Unlike S := (hu.sub List.filter_sublist).perm hp
  have e : S = T := sorted_one (hp.trans hp2.symm) hun hs hs2
  subst e
  rw [fin_q0] at hr2
  have hlen2 : rs2.length = S.length := by have := congrArg List.length hr2; simpa using this
  have hc : cutQ q S.length = decide (nLim q rs2.length < rs2.length) := by
    unfold cutQ nLim
    rw [hlen2]
    refine decide_eq_decide.2 ⟨fun h => ?_, fun h => ?_⟩
    · rw [if_neg (by omega)]; omega
    · by_cases h0 : q.lim = 0
      · rw [if_pos h0] at h; omega
      · rw [if_neg h0] at h; omega
  have hmain : rs.map KvP.x = (rs2.take (nLim q rs2.length)).map KvP.x := by
    rw [hr, List.map_take, hr2, ← List.map_take, hlen2]
    unfold finQ
    congr 1
    by_cases h : cutQ q S.length = true
    · rw [if_pos h]
      have h' := of_decide_eq_true h
      unfold nLim
      rw [if_neg (by omega), Nat.min_eq_right (by omega)]
    · rw [if_neg h]
      have h' : ¬ (0 < q.lim ∧ q.lim < (S.length : Int)) := fun k => h (decide_eq_true k)
      rw [List.take_of_length_le]
      unfold nLim
      split
      · exact Nat.le_refl _
      · omega
  refine ⟨?_, hmain, hc, cut_q0 q _⟩
  have := congrArg List.length hmain
  rw [List.length_map, List.length_map, List.length_take] at this
  have h3 : nLim q rs2.length ≤ rs2.length := by unfold nLim; split <;> omega
  omega
end Go.Proofs.Ytpbenicglhccmaa
