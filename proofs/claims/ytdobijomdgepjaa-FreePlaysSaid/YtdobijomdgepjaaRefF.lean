/-
  The document's New: the walk.
-/
import Derived.Test.YtdobijomdgepjaaRefE
namespace Go.Proofs.Ytdobijomdgepjaa
open Go.RowKit Go.Tb Go.MapKept Go.ChangeMaps
set_option linter.unusedVariables false

theorem rnew_arg (size : Int) (v : Value) (w : World) (hs : size < 8 ∨ 1024 < size) :
    Calls Try.prog 18 #[.int .i64 size, v] w fun e w' => e = .returned (.tuple #[.pointer none, .int .i64 1]) ∧ w' = w := by
  by_cases h : size < 8
  · go_enter Try.func18, Try.ntmps18
    go_wp2
    go_ret2
    exact ⟨rfl, rfl⟩
  · have h2 : 1024 < size := by omega
    go_enter Try.func18, Try.ntmps18
    go_wp2
    go_ret2
    exact ⟨rfl, rfl⟩

def RNewRel (n : Nat) (l : List Int) (b g k : Nat) (w wr : World) : Prop := IsRef wr b g (markOf n (l.take k)) ∧ (l.take k).Nodup ∧ Upd (fun _ => False) w wr

set_option maxRecDepth 100000 in
set_option maxHeartbeats 2000000 in
theorem rnew_calls (n : Nat) (a : Option Addr) (cap : Nat) (l : List Int) (w : World) (h : IntsOf w a l) (hlen : l.length ≤ 1000000) (h8 : 8 ≤ n) (h1024 : n ≤ 1024) :
    Calls Try.prog 18 #[.int .i64 (n : Int), .slice a l.length cap] w fun e w' => Upd (fun _ => False) w w' ∧ RNewSays n l w e w' := by
  have hmk := fun w1 => make_ints n h1024 w1
  have x8 : (8 : Int) ≤ (n : Int) := by omega
  have x1024 : (n : Int) ≤ (1024 : Int) := by omega
  have hua := upd_alloc (fun _ => False) w (.cells ((markOf n []).map (Value.int .i64)).toArray 3)
  have hga := (heap_alloc w (.cells ((markOf n []).map (Value.int .i64)).toArray 3)).1
  generalize hwa : w.alloc (.cells ((markOf n []).map (Value.int .i64)).toArray 3) = wa at hua hga
  have hsa : wa.heap.size = w.heap.size + 1 := by rw [← hwa]; simp
  have hmk1 : (Instr.makeSlice 22 (.int .i64 (n : Int)) (.int .i64 (n : Int))).run Try.prog w = .ok (.slice (some ⟨w.heap.size, 0, none⟩) n n) wa := by rw [hmk w, hwa]
  clear hmk hwa
  have hub := upd_alloc (fun _ => False) wa (.cells #[.slice (some ⟨w.heap.size, 0, none⟩) n n] 59)
  have hbb := (heap_alloc wa (.cells #[.slice (some ⟨w.heap.size, 0, none⟩) n n] 59)).1
  have Hst := Lib.hid (show IsRef (wa.alloc (.cells #[.slice (some ⟨w.heap.size, 0, none⟩) n n] 59)) wa.heap.size w.heap.size (markOf n []) ∧ Upd (fun _ => False) w (wa.alloc (.cells #[.slice (some ⟨w.heap.size, 0, none⟩) n n] 59)) from
    ⟨⟨by rw [markOf_length]; exact hbb, hub.heap hga (fun x => x), by omega⟩, hua.trans hub⟩)
  have H := Lib.hid h
  have Hsa := Lib.hid hsa
  clear h hua hga hub hbb hsa
  go_enter Try.func18, Try.ntmps18
  go_wp2
  go_loopw [23] (fun i wr => ∃ k : Nat, k ≤ l.length ∧ i = .int .i64 k ∧ (∀ x ∈ l.take k, 2 ≤ x ∧ x < (n : Int)) ∧ IsRef wr wa.heap.size w.heap.size (markOf n []) ∧ Upd (fun _ => False) w wr) (fun i _ => l.length - (intOf i).toNat)
  case atStart => exact ⟨0, Nat.zero_le _, rfl, fun x hx => by simp at hx, Hst.out.1, Hst.out.2⟩
  case round =>
    obtain ⟨k, hk, rfl, hrng, hd, hu⟩ := hrel
    have R := Lib.hid hrng
    clear hrng Hst hmk1
    by_cases hlt : k < l.length
    · obtain ⟨rb, off, ha, hcell⟩ := H.out k hlt
      subst ha
      have c0 := hu.cell hcell (fun x => x)
      have Tk := Lib.hid (take_one l k hlt)
      have Hmem := Lib.hid (List.getElem_mem hlt)
      generalize l[k] = x at *
      clear hcell
      have D := Lib.hid hd
      clear hd
      by_cases hr : 2 ≤ x ∧ x < (n : Int)
      · obtain ⟨hr1, hr2⟩ := hr
        have Hr := Lib.hid (show 2 ≤ x ∧ x < (n : Int) from ⟨hr1, hr2⟩)
        go_wp2
        go_roundw
        case rel => exact ⟨k + 1, by omega, by go_num, fun y hy => by
          rw [Tk.out] at hy
          rcases List.mem_append.1 hy with hy | hy
          · exact R.out y hy
          · rw [List.mem_singleton.1 hy]; exact Hr.out, D.out, hu⟩
        case measure => simp [intOf]; omega
      · have Hr := Lib.hid hr
        by_cases hr1 : x < 2
        · clear hr
          go_wp2
          go_ret2
          exact ⟨hu, .inl ⟨⟨x, Hmem.out, Hr.out⟩, rfl⟩⟩
        · have hr2 : (n : Int) ≤ x := by omega
          clear hr
          go_wp2
          go_ret2
          exact ⟨hu, .inl ⟨⟨x, Hmem.out, Hr.out⟩, rfl⟩⟩
    · obtain rfl : k = l.length := by omega
      have Hall := Lib.hid (show ∀ x ∈ l, 2 ≤ x ∧ x < (n : Int) by have := R.out; rwa [List.take_length] at this)
      obtain ⟨wo, rfl⟩ : ∃ wo : World, wo = wr := ⟨_, rfl⟩
      have D := Lib.hid (show RNewRel n l wa.heap.size w.heap.size 0 w wo from ⟨hd, by simp, hu⟩)
      have hge : w.heap.size ≤ wa.heap.size := by have := Hsa.out; omega
      clear hd hu R hk
      generalize wa.heap.size = b at *
      go_wp2
      go_loopw [37] (fun i wr => ∃ k : Nat, k ≤ l.length ∧ i = .int .i64 k ∧ RNewRel n l b w.heap.size k w wr) (fun i _ => l.length - (intOf i).toNat)
      case atStart => exact ⟨0, Nat.zero_le _, rfl, D.out⟩
      case round =>
        clear D
        obtain ⟨k, hk, rfl, hd, hnd, hu⟩ := hrel
        by_cases hlt : k < l.length
        · obtain ⟨rb, off, ha, hcell⟩ := H.out k hlt
          subst ha
          have q0 := hu.cell hcell (fun x => x)
          have Tk := Lib.hid (take_one l k hlt)
          have Tp := Lib.hid (take_one_perm l k hlt)
          have hr := Hall.out _ (List.getElem_mem hlt)
          generalize l[k] = x at *
          obtain ⟨m, rfl⟩ := Int.eq_ofNat_of_zero_le (show 0 ≤ x by omega)
          have hm : m < (markOf n (l.take k)).length := by rw [markOf_length]; omega
          have c0 : wr.cell? ⟨b, 0, none⟩ = some (.slice (some ⟨w.heap.size, 0, none⟩) n n) := by rw [cell_of hd.blk 0, markOf_length]; rfl
          have c1 := hd.at m hm
          rw [markOf_get n _ m (by omega)] at c1
          have f1 := free_of hd.row m
          have xm : (m : Int) < (n : Int) := hr.2
          clear hcell
          by_cases hin : (m : Int) ∈ l.take k
          · rw [if_pos hin] at c1
            have Hn := Lib.hid (show ¬ l.Nodup from fun hn => (List.nodup_cons.1 (Tp.out.nodup_iff.1 (hn.sublist (List.take_sublist _ _)))).1 hin)
            clear hin hd hnd hr hm
            go_wp2
            go_ret2
            exact ⟨hu, .inr (.inl ⟨Hall.out, Hn.out, rfl⟩)⟩
          · rw [if_neg hin] at c1
            have Hn := Lib.hid (show (l.take (k + 1)).Nodup from Tp.out.nodup_iff.2 (List.nodup_cons.2 ⟨hin, hnd⟩))
            have Hset := Lib.hid (hd.set m 1)
            have He := Lib.hid (show markOf n (l.take (k + 1)) = (markOf n (l.take k)).set m 1 by rw [Tk.out, markOf_snoc])
            clear hin hd hnd hr hm
            go_wp2
            go_roundw
            case rel => exact ⟨k + 1, by omega, by go_num, by rw [He.out]; exact Hset.out, Hn.out, hu.trans' (upd_setCell (fun y => y = w.heap.size) _ _ _ rfl) (fun y hy e => by omega)⟩
            case measure => simp [intOf]; omega
        · obtain rfl : k = l.length := by omega
          rw [List.take_length] at hd hnd
          have Hd := Lib.hid hd
          have Hn := Lib.hid hnd
          clear hd hnd
          go_wp2
          go_ret2
          exact ⟨hu, .inr (.inr ⟨Hall.out, Hn.out, b, w.heap.size, rfl, Hd.out, hge, Nat.le_refl _⟩)⟩

end Go.Proofs.Ytdobijomdgepjaa
