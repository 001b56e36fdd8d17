/-
  A disk and the document's, side by side (no program in sight).
-/
import Derived.Test.YteokbokgiejmpaaPDiskF
import Derived.Test.YteokbokgiejmpaaPDiskG
import Derived.Test.YteokbokgiejmpaaDiskG
import Derived.Test.YteokbokgiejmpaaDiskK
namespace Go.Proofs.Yteokbokgiejmpaa
open Go.RowKit Go.Tb Go.MapKept Go.ChangeMaps
set_option linter.unusedVariables false

structure RelD (D : DS) (E : RD) (j : Nat) : Prop where
  size : D.size = (E.pages.length : Int)
  pages : ∀ k : Nat, k < E.pages.length → E.pages.getD k [] = (D.pages k).getD zeros
  cache : ∀ k, lookC E.cache k = D.cache k
  nd : (E.cache.map (·.1)).Nodup
  inn : ∀ r ∈ E.cache, 0 ≤ r.1 ∧ r.1 < (E.pages.length : Int)
  fuse : E.fuse = D.fuse
  dead : E.dead = D.dead
  done : E.done = D.done
  fd : D.fuse = 0 → D.dead = true
  f1 : -1 ≤ D.fuse
  f2 : D.fuse ≤ 9223372036854775807
  cl : E.cache.length ≤ j
  d0 : 0 ≤ D.done
  d1 : D.done ≤ j

theorem RelD.more {D : DS} {E : RD} {j i : Nat} (h : RelD D E j) (hi : j ≤ i) : RelD D E i := { h with cl := Nat.le_trans h.cl hi, d1 := by have := h.d1; omega }
theorem RelD.check {D : DS} {E : RD} {j : Nat} (h : RelD D E j) (page : Int) : E.check page = D.check page := by
  unfold RD.check DS.check
  rw [h.dead, h.size]

theorem look_in {c : List (Int × List UInt8)} {k : Int} : (lookC c k).isSome = true ↔ k ∈ c.map (·.1) := by
  unfold lookC
  rw [List.mem_map]
  constructor
  · intro h
    cases e : c.find? (fun x => x.1 == k) with
    | none => rw [e] at h; cases h
    | some x => exact ⟨x, List.mem_of_find?_eq_some e, by simpa using List.find?_some e⟩
  · rintro ⟨x, hx, rfl⟩
    cases e : c.find? (fun y => y.1 == x.1) with
    | none => exact absurd (List.find?_eq_none.1 e x hx) (by simp)
    | some y => rfl

theorem RelD.burn {D : DS} {E : RD} {j : Nat} (hsize : D.size = (E.pages.length : Int)) (hpages : ∀ k : Nat, k < E.pages.length → E.pages.getD k [] = (D.pages k).getD zeros) (hcache : ∀ k, lookC E.cache k = D.cache k) (hnd : (E.cache.map (·.1)).Nodup) (hin : ∀ r ∈ E.cache, 0 ≤ r.1 ∧ r.1 < (E.pages.length : Int))
    (hf : E.fuse = D.fuse) (hdd : E.dead = D.dead) (hdo : E.done = D.done) (hd : D.dead = false) (hfd : D.fuse = 0 → D.dead = true) (f1 : -1 ≤ D.fuse) (f2 : D.fuse ≤ 9223372036854775807) (hcl : E.cache.length ≤ j + 1) (d0 : 0 ≤ D.done) (d1 : D.done ≤ j) (hj : j ≤ 100000) : RelD D.burn E.did (j + 1) := by
  have hne : D.fuse ≠ 0 := fun e => by rw [hfd e] at hd; cases hd
  have hw : wrap64 (D.done + 1) = D.done + 1 := by unfold wrap64; omega
  refine { size := hsize, pages := hpages, cache := hcache, nd := hnd, inn := hin, fuse := ?_, dead := ?_, done := ?_, fd := ?_, f1 := ?_, f2 := ?_, cl := hcl, d0 := ?_, d1 := ?_ }
  · show (if 0 < E.fuse then E.fuse - 1 else E.fuse) = if 0 < D.fuse then D.fuse - 1 else D.fuse
    rw [hf]
  · show (E.dead || decide (E.fuse = 1)) = ((if 0 < D.fuse then D.fuse - 1 else D.fuse) == 0)
    rw [hdd, hd, hf, Bool.false_or]
    by_cases h : 0 < D.fuse
    · rw [if_pos h]
      by_cases e : D.fuse = 1
      · rw [e]; rfl
      · rw [decide_eq_false e]; symm; simp; omega
    · rw [if_neg h, decide_eq_false (by omega)]; symm; simp; omega
  · show E.done + 1 = wrap64 (D.done + 1)
    rw [hw, hdo]
  · intro h
    have h' : (if 0 < D.fuse then D.fuse - 1 else D.fuse) = 0 := h
    show ((if 0 < D.fuse then D.fuse - 1 else D.fuse) == 0) = true
    rw [h']; rfl
  · show -1 ≤ (if 0 < D.fuse then D.fuse - 1 else D.fuse)
    split <;> omega
  · show (if 0 < D.fuse then D.fuse - 1 else D.fuse) ≤ _
    split <;> omega
  · show 0 ≤ wrap64 (D.done + 1)
    rw [hw]; omega
  · show wrap64 (D.done + 1) ≤ ((j + 1 : Nat) : Int)
    rw [hw]; omega

theorem dcheck_zero {D : DS} {page : Int} (h : D.check page = 0) : D.dead = false ∧ 0 ≤ page ∧ page < D.size := by
  unfold DS.check at h
  split at h
  · cases h
  · rename_i h1
    split at h
    · cases h
    · exact ⟨by simpa using h1, by omega, by omega⟩

theorem RelD.write {D : DS} {E : RD} {j : Nat} (h : RelD D E j) (hj : j ≤ 100000) {page : Int} {l : List UInt8} (hc : D.check page = 0) {c' : List (Int × List UInt8)} (hp : PutC E.cache c' page l) : RelD (D.write page l) ({ E with cache := c' } : RD).did (j + 1) := by
  obtain ⟨hd, p0, p1⟩ := dcheck_zero hc
  have hsz := h.size
  refine RelD.burn (D := { D with cache := fun k => if k = page then some l else D.cache k }) h.size h.pages (fun k => ?_) hp.nd (fun r hr => ?_) h.fuse h.dead h.done hd h.fd h.f1 h.f2 ?_ h.d0 h.d1 hj
  · show lookC c' k = if k = page then some l else D.cache k
    rw [hp.look k, h.cache k]
  · have hin : (lookC c' r.1).isSome = true := look_in.2 (List.mem_map.2 ⟨r, hr, rfl⟩)
    rw [hp.look] at hin
    by_cases e : r.1 = page
    · rw [e]; exact ⟨p0, by show page < (E.pages.length : Int); omega⟩
    · rw [if_neg e] at hin
      obtain ⟨q, hq, e2⟩ := List.mem_map.1 (look_in.1 hin)
      have := h.inn q hq
      rw [e2] at this; exact this
  · have := hp.len; have := h.cl; show c'.length ≤ j + 1; omega

theorem RelD.sync {D : DS} {E : RD} {j : Nat} (h : RelD D E j) (hj : j ≤ 100000) (hd : D.dead = false) {pg : List (List UInt8)} (hp : SyncP E.cache E.pages pg E.cache.length) : RelD D.sync ({ E with pages := pg, cache := [] } : RD).did (j + 1) := by
  refine RelD.burn (D := { D with pages := fun k => (D.cache k).or (D.pages k), cache := fun _ => none }) ?_ (fun k hk => ?_) (fun k => rfl) List.nodup_nil (fun r hr => (List.not_mem_nil hr).elim) h.fuse h.dead h.done hd h.fd h.f1 h.f2 (Nat.zero_le _) h.d0 h.d1 hj
  · show D.size = (pg.length : Int); rw [hp.len]; exact h.size
  · have hk' : k < pg.length := hk
    rw [hp.len] at hk'
    show pg.getD k [] = ((D.cache k).or (D.pages k)).getD zeros
    rw [hp.at_ k hk', List.take_length, h.cache, h.pages k hk']
    cases D.cache (k : Int) <;> rfl

theorem RelD.set {D : DS} {E : RD} {j : Nat} (h : RelD D E j) (n : Int) (hn : n ≤ 9223372036854775807) : RelD (D.setFuse n) (E.set n) j := by
  refine { h with fuse := ?_, dead := ?_, fd := ?_, f1 := ?_, f2 := ?_ }
  · show (if n < 0 then -1 else n) = max n (-1)
    split <;> omega
  · show (E.dead || decide (n = 0)) = (D.dead || n == 0)
    rw [h.dead]
    by_cases e : n = 0
    · rw [e]; rfl
    · rw [decide_eq_false e]; congr 1; symm; simpa using e
  · intro e
    have e' : max n (-1) = 0 := e
    show (D.dead || n == 0) = true
    have : n = 0 := by omega
    rw [this]; simp
  · show -1 ≤ max n (-1); omega
  · show max n (-1) ≤ _; omega

theorem RelD.crash {D : DS} {E : RD} {j : Nat} (h : RelD D E j) (ks : List (Int × Int)) {pg : List (List UInt8)} (hp : CrashP ks E.cache E.pages pg E.cache.length) (hz : ∀ k : Nat, k < E.pages.length → ((D.pages k).getD zeros).length = 256) (hl : ∀ k l, D.cache k = some l → l.length = 256) : RelD (D.crash ks) { E with pages := pg, cache := [], fuse := -1, dead := false } j := by
  refine { size := ?_, pages := fun k hk => ?_, cache := fun k => rfl, nd := List.nodup_nil, inn := fun r hr => (List.not_mem_nil hr).elim, fuse := rfl, dead := rfl, done := h.done, fd := fun e => (by cases e), f1 := by show (-1 : Int) ≤ -1; omega, f2 := by show (-1 : Int) ≤ _; omega, cl := Nat.zero_le _, d0 := h.d0, d1 := h.d1 }
  · show D.size = (pg.length : Int); rw [hp.len]; exact h.size
  · have hk' : k < pg.length := hk
    rw [hp.len] at hk'
    show pg.getD k [] = (D.crashPage (keptOf ks) k).getD zeros
    rw [hp.at_ k hk', List.take_length, h.cache]
    unfold DS.crashPage
    cases hc : D.cache (k : Int) with
    | none => exact h.pages k hk'
    | some l =>
      show crashRow ks k (E.pages.getD k []) l = _
      rw [h.pages k hk']
      unfold crashRow keptN
      by_cases e : 0 < (keptOf ks (k : Int)).getD 0
      · simp only [if_pos e, Option.getD_some]
      · have e0 : ((keptOf ks (k : Int)).getD 0).toNat = 0 := by omega
        simp only [if_neg e, e0, List.take_zero, List.drop_zero, List.nil_append]

theorem RelD.start (n : Nat) : RelD (DS.start n) (RD.start n) 0 := by
  refine { size := by simp [DS.start, RD.start], pages := fun k hk => ?_, cache := fun k => rfl, nd := List.nodup_nil, inn := fun r hr => (List.not_mem_nil hr).elim, fuse := rfl, dead := rfl, done := rfl, fd := fun e => (by cases e), f1 := by show (-1 : Int) ≤ -1; omega, f2 := by show (-1 : Int) ≤ _; omega, cl := Nat.zero_le _, d0 := Int.le_refl _, d1 := Int.le_refl _ }
  have hk' : k < (List.replicate n zeros).length := hk
  show (List.replicate n zeros).getD k [] = zeros
  rw [List.getD_eq_getElem?_getD, List.getElem?_eq_getElem hk', List.getElem_replicate]; rfl

/-- What Read tells is the same. -/
theorem RelD.look {D : DS} {E : RD} {j : Nat} (h : RelD D E j) {page : Int} (h0 : 0 ≤ page) (h1 : page < (E.pages.length : Int)) : E.look page = D.read page := by
  unfold RD.look DS.read
  have h2 : (E.cache.find? fun c => c.1 == page).map (·.2) = D.cache page := h.cache page
  rw [h2]
  obtain ⟨p, rfl⟩ : ∃ p : Nat, page = (p : Int) := ⟨page.toNat, by omega⟩
  rw [Int.toNat_natCast, h.pages p (by omega)]

end Go.Proofs.Yteokbokgiejmpaa
