/-
  What a sift of few records says (no program in sight).
-/
import Derived.Test.YtpbenicglhccmaaSiftG
import Derived.Test.YtpbenicglhccmaaFewW
namespace Go.Proofs.Ytpbenicglhccmaa
open Go.RowKit Go.Tb Go.MapKept Go.ChangeMaps Go.Lib
set_option linter.unusedVariables false

def Sorted (q : Qr) (S : List KV) : Prop := S.Pairwise fun a b => ¬ cmpD q b a < 0
def Unlike (S : List KV) : Prop := (S.map KV.key).Nodup

theorem Unlike.inj {S : List KV} (h : Unlike S) {a b : KV} (ha : a ∈ S) (hb : b ∈ S) (e : a.key = b.key) : a = b := by
  obtain ⟨i, hi, rfl⟩ := List.getElem_of_mem ha
  obtain ⟨j, hj, rfl⟩ := List.getElem_of_mem hb
  have h1 : (S.map KV.key)[i]? = (S.map KV.key)[j]? := by
    rw [List.getElem?_map, List.getElem?_map, List.getElem?_eq_getElem hi, List.getElem?_eq_getElem hj]; simpa using e
  have := (List.getElem?_inj (by simpa using hi) h).1 h1
  subst this; rfl
theorem Unlike.perm {S T : List KV} (h : Unlike S) (hp : T.Perm S) : Unlike T := (hp.map KV.key).nodup_iff.2 h
theorem Unlike.sub {S T : List KV} (h : Unlike S) (hp : T.Sublist S) : Unlike T := List.Nodup.sublist (hp.map KV.key) h
theorem few_unlike {ps : List KvP} (h : FewOk ps) : Unlike (ps.map KvP.x) := by
  unfold Unlike; rw [List.map_map]; exact h.2.2

/-- There is but one order. -/
theorem sorted_one {q : Qr} {S T : List KV} (hp : S.Perm T) (hu : Unlike S) (hS : Sorted q S) (hT : Sorted q T) : S = T := by
  refine List.Perm.eq_of_pairwise (le := fun a b => ¬ cmpD q b a < 0) (fun a b ha hb h1 h2 => ?_) hS hT hp
  have hs := cmpD_swap q a b
  exact hu.inj ha (hp.mem_iff.2 hb) (cmpD_zero q (by omega))

theorem finQ_bare {q : Qr} (hk : q.keys = false) (S : List KV) : finQ q S = if cutQ q S.length then S.take q.lim.toNat else S := by
  unfold finQ; rw [hk]; simp
theorem finQ_sub {q : Qr} (hk : q.keys = false) (S : List KV) : (finQ q S).Sublist S := by
  rw [finQ_bare hk]; split
  · exact List.take_sublist _ _
  · exact List.Sublist.refl _
theorem finQ_len {q : Qr} (hk : q.keys = false) (hl : 0 ≤ q.lim) (S : List KV) : cutQ q (finQ q S).length = false := by
  rw [finQ_bare hk]
  split
  · rw [List.length_take]
    refine decide_eq_false (fun h => ?_)
    omega
  · next h => exact Bool.eq_false_iff.2 h

/-- To sift what was sifted. -/
theorem sift_again {q : Qr} {L S S2 : List KV} (hu : Unlike L) (hk : q.keys = false) (hl : 0 ≤ q.lim) (hp : S.Perm (L.filter (keepsQ q))) (hs : Sorted q S) (hp2 : S2.Perm ((finQ q S).filter (keepsQ q))) (hs2 : Sorted q S2) : finQ q S2 = finQ q S ∧ cutQ q S2.length = false := by
  have hsub := finQ_sub hk S
  have hf : (finQ q S).filter (keepsQ q) = finQ q S := by
    rw [List.filter_eq_self]
    exact fun x hx => (List.mem_filter.1 (hp.mem_iff.1 (hsub.subset hx))).2
  rw [hf] at hp2
  have huS : Unlike S := (hu.sub List.filter_sublist).perm hp
  have e : S2 = finQ q S := sorted_one hp2 ((huS.sub hsub).perm hp2) hs2 (List.Pairwise.sublist hsub hs)
  have hc := finQ_len hk hl S
  subst e
  refine ⟨?_, hc⟩
  rw [finQ_bare hk, hc]; rfl

def zeroQ : Qr := ⟨0, 0, 0, false, false, false, 0, 0, 0, 0⟩
theorem zero_keeps (x : KV) : keepsQ zeroQ x = true := by simp [keepsQ, leastB, mostB, zeroQ]
theorem zero_fin {L S : List KV} (hp : S.Perm (L.filter (keepsQ zeroQ))) : (finQ zeroQ S).length = L.length ∧ cutQ zeroQ S.length = false := by
  have hc : cutQ zeroQ S.length = false := decide_eq_false (fun h => by simp [zeroQ] at h)
  refine ⟨?_, hc⟩
  rw [finQ_bare rfl, hc]
  have := hp.length_eq
  rw [List.filter_eq_self.2 (fun x _ => zero_keeps x)] at this
  exact this

end Go.Proofs.Ytpbenicglhccmaa
