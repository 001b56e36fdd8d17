/-
  PROVED: terrier/terrierlaw16.LeasePlays returns true for every input and leaves its arguments as they were.
  Conditions: none beyond those that the row itself prints.
-/
import Derived.Test.YtcbngjlgcgcljaaLsOpen
import Derived.Test.YtcbngjlgcgcljaaActL
import Derived.Test.YtcbngjlgcgcljaaLPlaysW
import Derived.Test.YtcbngjlgcgcljaaRowLib
import Derived.Test.YtcbngjlgcgcljaaRows
namespace Go.Proofs.Ytcbngjlgcgcljaa.leasePlays
open Go.ChangeShapes Go.WideShapes Go.ChangeAt Go.RowKit Go.Tb

theorem own : ownKnob Try.prog.godebug = none := by kernel_rfl
theorem laidOut : laidOutB Try.prog = true := by kernel_rfl

set_option maxRecDepth 100000 in
theorem lifted (os : Os) (started : os.Started) (H : Type) (enc : TypeId × Value → H) :
    ReturnsInHanded {} Try.checked os 7 .any (Rows.leasePlaysSpec.pre6 enc Try.prog Try.f7 Rows.leasePlaysRow.domain false) (Rows.leasePlaysSpec.post enc Try.prog Try.f7 false true false false) := by
  refine returnsInHanded_of_change (C := Try.checked) own started (by kernel_rfl) Try.func7
    (ChangeSpec.witness6 (enc := enc) (C := Try.checked) false ⟨#[], #[.int .i64 0, .slice none 0 0, .slice none 0 0], []⟩ 8 (by kernel_rfl) (by kernel_rfl) (by kernel_rfl) (by kernel_rfl)) ?_
  intro W base args ds gs before hval0 hW hcnd _
  have hval : ∀ (j : Nat) t v, Try.f7.params[j]? = some t → args[j]? = some v → Value.okWide Try.prog W .any base t v := hval0
  have hW' := hW
  obtain ⟨p, q, hA0, hV, rfl, hfz, hnd⟩ := hW
  have hA : DataW.TrodAll enc Try.prog W 0 (fun _ => true) true Try.f7.params.toList args.toList ds p := hA0
  rw [Try.params7] at hA hval
  obtain ⟨v0, vs0, d0, ds0, p0, q0, hargs, rfl, rfl, h0, r0⟩ := trodAll_cons hA
  obtain ⟨v1, vs1, d1, ds1, p1, q1, rfl, rfl, rfl, h1, r1⟩ := trodAll_cons r0
  obtain ⟨v2, vs2, d2, ds2, p2, q2, rfl, rfl, rfl, h2, r2⟩ := trodAll_cons r1
  obtain ⟨rfl, rfl, rfl⟩ := trodAll_nil r2
  obtain rfl : args = #[v0, v1, v2] := by cases args; simp_all
  obtain ⟨rfl, rfl⟩ := trodVars_none hV
  obtain ⟨a0, rfl, rfl, rfl, w0⟩ := open_int Try.underlying2 (hval 0 2 v0 rfl rfl) h0
  obtain ⟨a1, c1, l1, rfl, hl1, hb1⟩ := open_leases (hval 1 42 v1 rfl rfl) h1
  obtain ⟨a2, c2, l2, rfl, hl2, hb2⟩ := open_acts (hval 2 47 v2 rfl rfl) h2
  clear hA0 hval0
  refine (plays_walk a0 a1 c1 l1 a2 c2 l2 W hl1 hb1 hl2 hb2).mono fun e W' ⟨he, hu⟩ => ?_
  subst he
  exact ⟨_, rfl, law_post laidOut (by kernel_rfl) rfl (by kernel_rfl) Try.underlying4 hW' ⟨rfl, rfl, rfl⟩ hu.below⟩

/-- THE STATEMENT. -/
theorem proved : Rows.LeasePlaysSaid :=
  OpenClaim.holds_of_wide 7 Try.f7 rfl rfl rfl rfl rfl rfl rfl ⟨rfl, rfl, rfl, rfl, rfl⟩ rfl rfl rfl rfl rfl (by kernel_rfl) Try.func7 (by kernel_rfl)
    (of_decide_eq_true (by kernel_rfl)) (by unfold Func.isWrapper; first | (rw [if_pos (by decide +kernel)]; kernel_rfl) | (rw [if_neg (by decide +kernel)]; exact ⟨rfl, rfl⟩))
    (fun os started H enc _ => lifted os started H enc)
#print axioms proved
end Go.Proofs.Ytcbngjlgcgcljaa.leasePlays
