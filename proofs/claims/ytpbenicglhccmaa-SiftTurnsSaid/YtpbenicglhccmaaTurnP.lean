/-
  The other way round; the order counts for nothing (no program in sight).
-/
import Derived.Test.YtpbenicglhccmaaLimP
namespace Go.Proofs.Ytpbenicglhccmaa
open Go.RowKit Go.Tb Go.MapKept Go.ChangeMaps Go.Lib
set_option linter.unusedVariables false

/-- The query the other way round. -/
def flipQ (q : Qr) : Qr := { q with desc := !q.desc }
theorem cmpD_flip (q : Qr) (a b : KV) : cmpD (flipQ q) a b = cmpD q b a := by
  unfold cmpD flipQ
  cases q.desc <;> rfl
theorem flip_right {q : Qr} : rightQ (flipQ q) = rightQ q := rfl
theorem cut_lim0 {q : Qr} (h : q.lim = 0) (n : Nat) : cutQ q n = false := decide_eq_false (fun k => by omega)
theorem fin_lim0 {q : Qr} (h : q.lim = 0) (S : List KV) : finQ q S = S.map fun x => if q.keys then bare x else x := by
  unfold finQ; rw [cut_lim0 h]; rfl

theorem turn_plain {q : Qr} {ps qs rs rs2 rs3 : List KvP} {m1 m2 m3 : Bool} (hl : q.lim = 0) (hu : Unlike (ps.map KvP.x)) (hperm : (qs.map KvP.x).Perm (ps.map KvP.x)) (h1 : LimPure q ps rs m1) (h2 : LimPure q qs rs2 m2) (h3 : LimPure (flipQ q) ps rs3 m3) :
    rs2.map KvP.x = rs.map KvP.x ∧ rs3.map KvP.x = (rs.map KvP.x).reverse ∧ m1 = false ∧ m2 = false ∧ m3 = false := by
  obtain ⟨S, hp, hs, hr, rfl⟩ := h1
  obtain ⟨T, hp2, hs2, hr2, rfl⟩ := h2
  obtain ⟨V, hp3, hs3, hr3, rfl⟩ := h3
  have hun : Unlike S := (hu.sub List.filter_sublist).perm hp
  have e2 : S = T := sorted_one (hp.trans ((hperm.filter _).symm.trans hp2.symm)) hun hs hs2
  have hp3' : V.Perm ((ps.map KvP.x).filter (keepsQ q)) := hp3
  have hrev : Sorted (flipQ q) S.reverse := by
    unfold Sorted
    rw [List.pairwise_reverse]
    exact hs.imp (fun {a b} h => by rw [cmpD_flip]; exact h)
  have e3 : V = S.reverse := sorted_one (hp3'.trans (hp.symm.trans (List.reverse_perm S).symm)) (hun.perm (hp3'.trans hp.symm)) hs3 hrev
  subst e2 e3
  rw [fin_lim0 hl] at hr hr2
  rw [fin_lim0 (q := flipQ q) hl] at hr3
  exact ⟨hr2.trans hr.symm, by rw [hr3, hr, List.map_reverse]; rfl, cut_lim0 hl _, cut_lim0 hl _, cut_lim0 (q := flipQ q) hl _⟩

/-- Cut, and put together the other way round. -/
theorem turned_perm (ps : List KvP) (k : Nat) : (ps.drop k ++ ps.take k).Perm ps := by
  refine List.perm_append_comm.trans ?_
  rw [List.take_append_drop]
theorem few_perm {ps qs : List KvP} (h : FewOk ps) (hp : qs.Perm ps) : FewOk qs :=
  ⟨by rw [hp.length_eq]; exact h.1, fun p hm => h.2.1 p (hp.mem_iff.1 hm), (hp.map _).nodup_iff.2 h.2.2⟩

end Go.Proofs.Ytpbenicglhccmaa
