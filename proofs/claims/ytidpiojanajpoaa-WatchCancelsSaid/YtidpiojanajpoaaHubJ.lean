/-
  lives: the chapter's example.
-/
import Derived.Lib.SlBytesConst
import Derived.Test.YtidpiojanajpoaaHubI
namespace Go.Proofs.Ytidpiojanajpoaa
open Go.RowKit Go.Tb Go.MapKept Go.ChangeMaps
set_option linter.unusedVariables false

def exWt : Wt := ⟨[97], [], 0, false, false, false⟩
def exEv (r : Int) : Ev := ⟨1, ⟨[97], [], 0, r, 0, 0⟩, false, zeroKV⟩
def exP (g : Nat) (r : Int) : EvP := ⟨1, ⟨⟨[97], [], 0, r, 0, 0⟩, ⟨some ⟨g, 0, none⟩, 1, 1⟩, ⟨none, 0, 0⟩⟩, false, nilP⟩
theorem exP_ok {W : World} {g : Nat} {r : Int} {I : Nat → Prop} (h : W.heap[g]? = some (.cells #[.int .u8 97] 5 (1, 2))) (hi : I g) : (exP g r).Ok W I :=
  ⟨⟨.inl (.inr ⟨g, 0, 1, rfl, Nat.le_refl _, lt_of_heap h, fun i hi => by
      obtain rfl : i = 0 := by simp [exP] at hi; omega
      rw [cell_of h]; rfl⟩), .inl (.inl ⟨rfl, rfl⟩), fun b hb => by cases hb; exact hi, fun b hb => by cases hb⟩, nilP_ok _ _⟩

/-- The hub behind so many writes. -/
def HL : Nat → Hub
  | 0 => (newHub 0 2 9).more exWt
  | k + 1 => (HL k).notified ((k : Int) + 1) [exEv ((k : Int) + 1)]
theorem HL_rev : ∀ k, (HL k).rev = k
  | 0 => rfl
  | k + 1 => by show ((k : Int) + 1) = _; omega
theorem HL_room : ∀ k, (HL k).room = 2 ∧ (HL k).most = 9
  | 0 => ⟨rfl, rfl⟩
  | k + 1 => HL_room k
theorem HL_inv : ∀ k, HInv k (HL k)
  | 0 => fun i x hx => by
    have h1 : (if i = 1 then some (⟨exWt, 1, [], false, 0⟩ : Wr) else none) = some x := hx
    split at h1
    · cases h1; exact ⟨rfl, Nat.le_refl _⟩
    · cases h1
  | k + 1 => (HL_inv k).notified _ _
theorem HL_3 : (HL 3).f 1 = some ⟨exWt, 3, [exEv 1, exEv 2], false, 0⟩ := by rfl
theorem HL_ok (k : Nat) (hk : k ≤ 3) : HOk (HL k) := by
  obtain ⟨h1, h2⟩ := HL_room k
  have h3 := HL_rev k
  exact ⟨by omega, by omega, by omega, by omega, by omega, by omega⟩

theorem conv_at (W : World) (g : Nat) (hg : W.heap.size = g) (x : Int) : (convert 22 22 (.slice (some ⟨g, 0, none⟩) 1 1)).run Try.prog (W.alloc (.cells #[.int .u8 x] 5)) = .ok (.slice (some ⟨g, 0, none⟩) 1 1) (W.alloc (.cells #[.int .u8 x] 5 (1, 2))) := by
  subst hg
  exact Lib.run_convert_bytes_const (P := Try.prog) W 22 5 #[.int .u8 x] 1 1 Try.underlying22 Try.underlying5

set_option maxRecDepth 100000 in
set_option maxHeartbeats 2000000 in
theorem lives_calls (w : World) : Calls Try.prog 7 #[] w fun e w' => e = .returned (.bool true) ∧ Upd (fun _ => False) w w' := by
  have hnew := new_ok 0 2 9 w (by decide) (by decide) (by decide) (by decide) (by decide) (by decide)
  go_enter Try.func7, Try.ntmps7
  go_upto_region 2 with (go_at_call 8; (with_reducible refine hnew.mono ?_); rintro e w1 ⟨b, m, own, rfl, hh, hge, hu1⟩)
  have k1 := conv_at w1 w1.heap.size rfl 97
  have ha := (heap_alloc w1 (.cells #[.int .u8 97] 5 (1, 2))).1
  have hua := upd_alloc (fun _ => False) w1 (.cells #[.int .u8 97] 5 (1, 2))
  have hcr := create_ok b m own _ (newHub 0 2 9) (.slice (some ⟨w1.heap.size, 0, none⟩) 1 1) (.slice none 0 0) exWt 0 _ (hh.grow hua) (by decide) (by decide) (by decide) (by decide) (by decide) (by decide) (by decide) (by decide) rfl
    (.inl (.inr ⟨w1.heap.size, 0, 1, rfl, Nat.le_refl _, lt_of_heap ha, fun i hi => by
      obtain rfl : i = 0 := by simp [exWt] at hi; omega
      rw [cell_of ha]; rfl⟩)) (.inl (.inl ⟨rfl, rfl⟩)) (by decide) (by decide)
  have hcr' : Calls Try.prog 9 #[.pointer (some ⟨b, 0, none⟩), .agg #[.slice (some ⟨w1.heap.size, 0, none⟩) 1 1, .slice none 0 0, .int .i64 0, .bool false, .bool false, .bool false], .int .i64 0] (w1.alloc (.cells #[.int .u8 97] 5 (1, 2))) fun r w' => r = .returned (.tuple #[.int .i64 1, .int .i64 0]) ∧ (∃ own' P', IsHub w' b m own' P' (HL 0) ∧ ∀ k, k < (w1.alloc (.cells #[.int .u8 97] 5 (1, 2))).heap.size → own' k = own k) ∧ Upd (fun k => own k ≠ .no) (w1.alloc (.cells #[.int .u8 97] 5 (1, 2))) w' := hcr
  have HU := Lib.hid (hu1.trans hua)
  have HGE := Lib.hid hge
  clear hh hge hu1 hua ha hnew
  go_upto_region 3 with (go_at_call 9; (with_reducible refine hcr'.mono ?_); rintro e w2 ⟨rfl, ⟨own2, P2, hh2, ho2⟩, hu2⟩)
  have hst : ∃ own' P', IsHub w2 b m own' P' (HL 0) ∧ (∀ q, own' q ≠ .no → w.heap.size ≤ q) ∧ Upd (fun _ => False) w w2 := by
    have s1 := HU.out.size
    refine ⟨own2, P2, hh2, fun q hq => ?_, HU.out.trans' hu2 (fun q hq e => by have := HGE.out q e; omega)⟩
    by_cases h1 : q < (w1.alloc (.cells #[.int .u8 97] 5 (1, 2))).heap.size
    · exact HGE.out q (by rw [← ho2 q h1]; exact hq)
    · omega
  have HST := Lib.hid hst
  clear hst hh2 ho2 hu2 hcr hcr' k1 HU HGE
  go_wp2
  go_loopw [19] (fun i wr => ∃ k : Nat, k ≤ 3 ∧ i = .int .i64 k ∧ ∃ own' P', IsHub wr b m own' P' (HL k) ∧ (∀ q, own' q ≠ .no → w.heap.size ≤ q) ∧ Upd (fun _ => False) w wr) (fun i _ => 3 - (intOf i).toNat)
  case atStart => exact ⟨0, by decide, rfl, HST.out⟩
  case round =>
    clear HST
    obtain ⟨k, hk, rfl, own', P', hh, hge, hu⟩ := hrel
    by_cases hlt : k < 3
    · have k1 := conv_at wr wr.heap.size rfl 97
      have ha := (heap_alloc wr (.cells #[.int .u8 97] 5 (1, 2))).1
      have hua := upd_alloc (fun _ => False) wr (.cells #[.int .u8 97] 5 (1, 2))
      have hb := (heap_alloc (wr.alloc (.cells #[.int .u8 97] 5 (1, 2))) (.cells #[.int .i64 1, .slice (some ⟨wr.heap.size, 0, none⟩) 1 1, .slice none 0 0, .int .i64 0, .int .i64 ((k : Int) + 1), .int .i64 0, .int .i64 0, .bool false, .slice none 0 0, .slice none 0 0, .int .i64 0, .int .i64 0, .int .i64 0, .int .i64 0] 59)).1
      have hsz : (wr.alloc (.cells #[.int .u8 97] 5 (1, 2))).heap.size = wr.heap.size + 1 := by simp
      rw [hsz] at hb
      have hub := hua.alloc (.cells #[.int .i64 1, .slice (some ⟨wr.heap.size, 0, none⟩) 1 1, .slice none 0 0, .int .i64 0, .int .i64 ((k : Int) + 1), .int .i64 0, .int .i64 0, .bool false, .slice none 0 0, .slice none 0 0, .int .i64 0, .int .i64 0, .int .i64 0, .int .i64 0] 59)
      have hsz2 : ((wr.alloc (.cells #[.int .u8 97] 5 (1, 2))).alloc (.cells #[.int .i64 1, .slice (some ⟨wr.heap.size, 0, none⟩) 1 1, .slice none 0 0, .int .i64 0, .int .i64 ((k : Int) + 1), .int .i64 0, .int .i64 0, .bool false, .slice none 0 0, .slice none 0 0, .int .i64 0, .int .i64 0, .int .i64 0, .int .i64 0] 59)).heap.size = wr.heap.size + 2 := by simp
      have hno : ∀ q, wr.heap.size ≤ q → own' q = .no := fun q hq => by
        cases e : own' q with
        | no => rfl
        | _ => exact absurd (hh.lt q (by rw [e]; simp)) (by omega)
      have hev : Evs ((wr.alloc (.cells #[.int .u8 97] 5 (1, 2))).alloc (.cells #[.int .i64 1, .slice (some ⟨wr.heap.size, 0, none⟩) 1 1, .slice none 0 0, .int .i64 0, .int .i64 ((k : Int) + 1), .int .i64 0, .int .i64 0, .bool false, .slice none 0 0, .slice none 0 0, .int .i64 0, .int .i64 0, .int .i64 0, .int .i64 0] 59)) (fun q => q = wr.heap.size) (.slice (some ⟨wr.heap.size + 1, 0, none⟩) 1 1) [exP wr.heap.size ((k : Int) + 1)] :=
        ⟨sl_one (enc := evenc) (x := exP wr.heap.size ((k : Int) + 1)) hb, fun p hp => by rw [List.mem_singleton.1 hp]; exact exP_ok ((upd_alloc (fun _ => False) _ _).heap ha (fun x => x)) rfl⟩
      have hnt := notify_ok b m own' P' (HL k) ((k : Int) + 1) (some ⟨wr.heap.size + 1, 0, none⟩) 1 [exP wr.heap.size ((k : Int) + 1)] (fun q => q = wr.heap.size) _ (hh.grow hub) (HL_ok k hk) hev (fun q hq => ⟨hno q (by omega), by omega⟩) (fun q hq => hno q (by cases hq; show wr.heap.size ≤ wr.heap.size + 1; omega))
        (fun p hp => by rw [List.mem_singleton.1 hp]; exact ⟨by show (1 : Nat) ≤ 140737488355328; decide, Nat.zero_le _, Nat.zero_le _, Nat.zero_le _⟩) (by show (1 : Nat) ≤ 800000000000; decide) (by rw [HL_rev]) (by omega) (by simp [allMod, exP, EvP.x]) (fun i x hx => by have := (HL_inv k i x hx).2; show x.buf.length + 1 ≤ 800000000000; omega)
      have hnt' : Calls Try.prog 11 #[.pointer (some ⟨b, 0, none⟩), .int .i64 ((k : Int) + 1), .slice (some ⟨wr.heap.size + 1, 0, none⟩) 1 1] ((wr.alloc (.cells #[.int .u8 97] 5 (1, 2))).alloc (.cells #[.int .i64 1, .slice (some ⟨wr.heap.size, 0, none⟩) 1 1, .slice none 0 0, .int .i64 0, .int .i64 ((k : Int) + 1), .int .i64 0, .int .i64 0, .bool false, .slice none 0 0, .slice none 0 0, .int .i64 0, .int .i64 0, .int .i64 0, .int .i64 0] 59)) fun e w' => e = .returned (.int .i64 0) ∧ ∃ own'' P', IsHub w' b m own'' P' (HL (k + 1)) ∧ (∀ q, own'' q ≠ .no → w.heap.size ≤ q) ∧ Upd (fun _ => False) w w' := by
        refine hnt.mono fun e w' ⟨he, own3, P3, hh3, ho3, hu3⟩ => ⟨he, own3, P3, hh3, fun q hq => ?_, (hu.trans hub).trans' hu3 (fun q hq e => by have := hge q e; omega)⟩
        by_cases h1 : q < wr.heap.size + 2
        · exact hge q (by rw [← ho3 q (by rw [hsz2]; exact h1)]; exact hq)
        · have := hu.size; omega
      clear hnt hev hno hub hb ha hua hh hge hu hsz hsz2
      have x0 : (0 : Int) ≤ (k : Int) := by omega
      have x1 : (k : Int) < 3 := by omega
      go_wp2_with (first | (go_at_call 11; (with_reducible refine hnt'.mono ?_); rintro e w3 ⟨rfl, own3, P3, hh3, hge3, hu3⟩; have HR := Lib.hid (show ∃ own' P', IsHub w3 b m own' P' (HL (k + 1)) ∧ (∀ q, own' q ≠ .no → w.heap.size ≤ q) ∧ Upd (fun _ => False) w w3 from ⟨own3, P3, hh3, hge3, hu3⟩); clear hh3 hge3 hu3))
      go_roundw
      case rel => exact ⟨k + 1, by omega, by go_num, HR.out⟩
      case measure => simp [intOf]; omega
    · obtain rfl : k = 3 := by omega
      have hnd := needs_behind b m own' P' (HL 3) 1 wr hh _ HL_3 (by rfl) (by decide) (by decide)
      have HH := Lib.hid hh
      have HGE := Lib.hid hge
      have HU := Lib.hid hu
      clear hh hge hu
      go_upto_region 10 with (first
        | (go_at_call 25; (with_reducible refine hnd.mono ?_); rintro e w3 ⟨a1, n1, z1, a2, n2, z2, rfl, hu3⟩; have hz3 := (heap_alloc w3 (.cells #[.slice none 0 0, .slice none 0 0, .int .i64 0, .bool false, .bool false, .bool false] 24)).1; have huz3 := upd_alloc (fun _ => False) w3 (.cells #[.slice none 0 0, .slice none 0 0, .int .i64 0, .bool false, .bool false, .bool false] 24))
        | ((with_reducible refine wpl_store (ty := 24) (cs := #[.slice a1 n1 z1, .slice a2 n2 z2, .int .i64 0, .bool false, .bool false, .bool false]) hz3 ?_ ?_ ?_ ?_ ?_ ?_); rfl; rfl; rfl; kernel_rfl; rfl; intro w4 hq5 hu5 hs5 hd5))
      have hw4 : Upd (fun _ => False) wr w4 := (hu3.trans huz3).trans' hu5 (fun x hx e => by have := hu3.size; omega)
      have hdr := drain_any b m own' P' (HL 3) 1 3 w4 (HH.out.grow hw4) (HL_inv 3) (by decide)
      have HW4 := Lib.hid hw4
      have hok : drainOk (HL 3) 1 = true := by rfl
      have hde : drainE (HL 3) 1 = [exEv 1, exEv 2] := by rfl
      have hdr' : Calls Try.prog 13 #[.pointer (some ⟨b, 0, none⟩), .int .i64 1] w4 fun e w' => ∃ a c, e = .returned (.tuple #[.agg #[.int .i64 1, .slice a 2 c, .bool false, .int .i64 0, .bool false, .int .i64 0], .bool true]) ∧ Upd (fun _ => False) w w' := by
        refine hdr.mono fun e w' hd => ?_
        obtain ⟨a, c, rs, J, own3, P3, he, h1, -, -, -, -, hu⟩ := hd
        have hl : rs.length = 2 := by have := congrArg List.length h1; rw [hde] at this; simpa using this
        rw [hok, hl] at he
        exact ⟨a, c, he, (HU.out.trans hw4).trans' hu (fun x hx e => by have := HGE.out x e; omega)⟩
      clear hz3 huz3 hu5 hw4 hq5 hnd hu3 hdr hok hde
      go_wp2_with (first
        | (go_at_call 13; (with_reducible refine hdr'.mono ?_); rintro e w5 ⟨da, dc, rfl, hu6⟩; have hz5 := (heap_alloc w5 (.cells #[.int .i64 0, .slice none 0 0, .bool false, .int .i64 0, .bool false, .int .i64 0] 40)).1; have huz5 := upd_alloc (fun _ => False) w5 (.cells #[.int .i64 0, .slice none 0 0, .bool false, .int .i64 0, .bool false, .int .i64 0] 40))
        | ((with_reducible refine wpl_store (ty := 40) (cs := #[.int .i64 1, .slice da 2 dc, .bool false, .int .i64 0, .bool false, .int .i64 0]) hz5 ?_ ?_ ?_ ?_ ?_ ?_); rfl; rfl; rfl; kernel_rfl; rfl; intro w6 hq7 hu7 hs7 hd7; have e1 := cell_of hq7 1))
      go_ret
      exact ⟨rfl, (hu6.trans huz5).trans' hu7 (fun x hx e => by have := hu6.size; omega)⟩

end Go.Proofs.Ytidpiojanajpoaa
