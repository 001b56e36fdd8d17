/-
  What the laws call: Sift of few records.
-/
import Derived.Test.YtpbenicglhccmaaSiftP
import Derived.Test.YtpbenicglhccmaaSiftH
namespace Go.Proofs.Ytpbenicglhccmaa
open Go.RowKit Go.Tb Go.MapKept Go.ChangeMaps Go.Lib
set_option linter.unusedVariables false

theorem finQ_mem {q : Qr} {S : List KV} {x : KV} (h : x ∈ finQ q S) : ∃ y ∈ S, x = y ∨ x = bare y := by
  unfold finQ at h
  obtain ⟨y, hy, rfl⟩ := List.mem_map.1 h
  refine ⟨y, ?_, by split <;> simp⟩
  split at hy
  · exact List.mem_of_mem_take hy
  · exact hy

theorem says_short {q : Qr} {ps rs : List KvP} {S : List KV} (hf : FewOk ps) (hp : S.Perm ((ps.map KvP.x).filter (keepsQ q))) (hr : rs.map KvP.x = finQ q S) : ∀ p ∈ rs, p.x.key.length ≤ 100000 ∧ p.x.val.length ≤ 100000 := by
  intro p hm
  have h1 : p.x ∈ finQ q S := by rw [← hr]; exact List.mem_map_of_mem hm
  obtain ⟨y, hy, h⟩ := finQ_mem h1
  obtain ⟨r, hr, rfl⟩ := List.mem_map.1 (List.mem_filter.1 (hp.mem_iff.1 hy)).1
  obtain ⟨k1, k2⟩ := hf.2.1 r hr
  rcases h with h | h <;> rw [h]
  · omega
  · exact ⟨by show r.x.key.length ≤ _; omega, by simp [bare]⟩
theorem says_few {q : Qr} {ps rs : List KvP} {S : List KV} (hf : FewOk ps) (hp : S.Perm ((ps.map KvP.x).filter (keepsQ q))) (hr : rs.map KvP.x = finQ q S) : rs.length ≤ ps.length ∧ S.length ≤ ps.length := by
  have h2 : S.length ≤ ps.length := by
    rw [hp.length_eq]
    exact Nat.le_trans (List.length_filter_le _ _) (by rw [List.length_map]; exact Nat.le_refl _)
  refine ⟨?_, h2⟩
  have h1 : rs.length = (finQ q S).length := by rw [← hr, List.length_map]
  rw [h1]; unfold finQ
  rw [List.length_map]
  split
  · rw [List.length_take]; omega
  · exact h2

/-- Sift of few records. -/
theorem sift_few (k e : Value) (q : Qr) (a : Option Addr) (c : Nat) (ps : List KvP) (I : Nat → Prop) (w : World) (hq : rightQ q = true) (hc : q.count = false) (hs : Kvs w I (.slice a ps.length c) ps) (hf : FewOk ps) :
    Calls Try.prog 10 #[.agg (qcells k e q), .slice a ps.length c] w (SiftSays q ps w) :=
  sift_ok k e q a c ps I w hq hc hs (by have := hf.1; omega) (fun p hp => by have := hf.2.1 p hp; omega)

theorem right_lim {q : Qr} (h : rightQ q = true) : 0 ≤ q.lim := (of_decide_eq_true h).2.2.1

/-- .. and what its records sift to. -/
def Again (q : Qr) (rs : List KvP) (w : World) (e : Ending) (w' : World) : Prop :=
  ∃ a c rs2, e = .returned (.agg #[.slice a (List.length rs2) c, .int .i64 (rs.length : Nat), .bool false]) ∧ sameAllKV rs rs2 = true ∧ Kvs w' (fun _ => True) (.slice a rs2.length c) rs2 ∧ Upd (fun _ => False) w w'
def First (k e : Value) (q : Qr) (ps : List KvP) (w : World) (en : Ending) (w' : World) : Prop :=
  ∃ a c rs m, en = .returned (.agg #[.slice a (List.length rs) c, .int .i64 (ps.length : Nat), .bool m]) ∧ Kvs w' (fun _ => True) (.slice a rs.length c) rs ∧ rs.length ≤ 60 ∧
    (∀ W, Upd (fun _ => False) w' W → Calls Try.prog 10 #[.agg (qcells k e q), .slice a rs.length c] W (Again q rs W)) ∧ Upd (fun _ => False) w w'
def Zero (ps : List KvP) (w : World) (en : Ending) (w' : World) : Prop :=
  ∃ a c, en = .returned (.agg #[.slice a ps.length c, .int .i64 (ps.length : Nat), .bool false]) ∧ Upd (fun _ => False) w w'

theorem first_calls (k e : Value) (q : Qr) (a : Option Addr) (c : Nat) (ps : List KvP) (w : World) (hq : rightQ q = true) (hc : q.count = false) (hk : q.keys = false) (hs : Kvs w (fun _ => True) (.slice a ps.length c) ps) (hf : FewOk ps) :
    Calls Try.prog 10 #[.agg (qcells k e q), .slice a ps.length c] w (First k e q ps w) := by
  refine (sift_few k e q a c ps _ w hq hc hs hf).mono ?_
  rintro en w' ⟨a1, c1, rs, S, rfl, hp, hsr, hrs, hkv, _, hu⟩
  have hkv' : Kvs w' (fun _ => True) (.slice a1 rs.length c1) rs := ⟨hkv.1, fun p hp => (hkv.2 p hp).wider (fun _ _ => trivial)⟩
  have hn := (says_few hf hp hrs).1
  refine ⟨a1, c1, rs, _, rfl, hkv', by have := hf.1; omega, fun W hW => ?_, hu⟩
  refine (sift_ok k e q a1 c1 rs _ W hq hc (hkv'.grow hW) (by have := hf.1; omega) (says_short hf hp hrs)).mono ?_
  rintro en2 W2 ⟨a2, c2, rs2, S2, rfl, hp2, hsr2, hrs2, hkv2, _, hu2⟩
  rw [hrs] at hp2
  obtain ⟨h1, h2⟩ := sift_again (few_unlike hf) hk (right_lim hq) hp hsr hp2 hsr2
  refine ⟨a2, c2, rs2, by rw [h2], ?_, ⟨hkv2.1, fun p hp => (hkv2.2 p hp).wider (fun _ _ => trivial)⟩, hu2⟩
  exact decide_eq_true (by rw [hrs, hrs2, h1])

theorem zero_calls (a : Option Addr) (c : Nat) (ps : List KvP) (w : World) (hs : Kvs w (fun _ => True) (.slice a ps.length c) ps) (hf : FewOk ps) :
    Calls Try.prog 10 #[.agg #[.slice none 0 0, .slice none 0 0, .int .i64 0, .int .i64 0, .int .i64 0, .bool false, .bool false, .bool false, .int .i64 0, .int .i64 0, .int .i64 0, .int .i64 0], .slice a ps.length c] w (Zero ps w) := by
  refine (sift_few (.slice none 0 0) (.slice none 0 0) zeroQ a c ps _ w (by decide) rfl hs hf).mono ?_
  rintro en w' ⟨a1, c1, rs, S, rfl, hp, hsr, hrs, hkv, _, hu⟩
  obtain ⟨h1, h2⟩ := zero_fin hp
  have h3 : rs.length = ps.length := by have := congrArg List.length hrs; rw [h1, List.length_map, List.length_map] at this; exact this
  exact ⟨a1, c1, by rw [h2, h3], hu⟩

end Go.Proofs.Ytpbenicglhccmaa
