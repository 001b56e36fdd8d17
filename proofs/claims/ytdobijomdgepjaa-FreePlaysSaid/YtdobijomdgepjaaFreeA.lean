/-
  The library's BinarySearch and Clone at lists of numbers that rise.
-/
import Derived.Test.YtdobijomdgepjaaRows
import Derived.Test.YtdobijomdgepjaaRows2
import Derived.BigQuiet
import Derived.Deep.QuietTactic
import Derived.Deep.RegionHeld3
import Derived.Deep.LoopGhost
import Derived.Deep.Draws
import Derived.Lib.Walk
import Derived.Lib.SlicesSearch
namespace Go.Proofs.Ytdobijomdgepjaa
open Go.RowKit Go.Tb Go.MapKept Go.ChangeMaps Go.Lib
set_option linter.unusedVariables false

/-- A number's cell. -/
def ienc (x : Int) : List Value := [.int .i64 x]
theorem ienc_length (x : Int) : (ienc x).length = 1 := rfl
theorem ienc_one (x : Int) : ∀ u ∈ ienc x, u.oneCell' = true := fun u hu => by simp [ienc] at hu; subst hu; rfl

theorem ints_cell {w : World} {b off n cap : Nat} {l : List Int} (h : Sl ienc w (.slice (some ⟨b, off, none⟩) n cap) l) (i : Nat) (hi : i < l.length) : w.cell? ⟨b, off + i, none⟩ = some (.int .i64 (l.getD i 0)) := by
  have := h.at ienc_length i hi 0 (by decide) (.int .i64 l[i]) rfl
  simpa [hi] using this

theorem nan2_calls (x : Int) (w : World) : Calls Try.prog 49 #[.int .i64 x] w fun e w' => e = .returned (.bool false) ∧ w' = w := by
  go_enter Try.func49, Try.ntmps49
  go_wp2
  go_ret
  exact ⟨by simp, rfl⟩
theorem nan1_calls (x : Int) (w : World) : Calls Try.prog 36 #[.int .i64 x] w fun e w' => e = .returned (.bool false) ∧ w' = w := by
  go_enter Try.func36, Try.ntmps36
  go_wp2
  go_ret
  exact ⟨by simp, rfl⟩
theorem less_calls (x y : Int) (w : World) : Calls Try.prog 35 #[.int .i64 x, .int .i64 y] w fun e w' => e = .returned (.bool (decide (x < y))) ∧ w' = w := by
  go_enter Try.func35, Try.ntmps35
  go_wp2_with (go_at_call 49; refine (nan2_calls _ _).mono ?_; rintro e w' ⟨rfl, rfl⟩)
  go_ret
  exact ⟨rfl, rfl⟩

set_option maxHeartbeats 4000000 in
set_option maxRecDepth 1000000 in
theorem search_some (b off cap : Nat) (l : List Int) (x : Int) (w : World) (h : Sl ienc w (.slice (some ⟨b, off, none⟩) l.length cap) l) (hs : l.Pairwise (· < ·)) (hbig : l.length < 4611686018427387904) :
    Calls Try.prog 31 #[.slice (some ⟨b, off, none⟩) l.length cap, .int .i64 x] w fun e w' => e = .returned (.tuple #[.int .i64 (l.countP (· < x) : Nat), .bool (l.contains x)]) ∧ w' = w := by
  have S := Lib.hid (Lib.sorted_at l l.length (Nat.le_refl _) (by rw [List.take_length]; exact hs.imp (fun h => by omega)))
  have C := Lib.hid (fun j (hj : j < l.length) => ints_cell h j hj)
  have Hlen : ∃ n, n = l.length := ⟨_, rfl⟩
  clear hs h
  go_enter Try.func31, Try.ntmps31
  go_wp2
  go_loopg [7, 8] l.length (fun g s7 s8 wr => ∃ lo hi : Nat, s7 = .int .i64 lo ∧ s8 = .int .i64 hi ∧ lo ≤ hi ∧ hi ≤ l.length ∧ hi - lo ≤ g ∧ wr = w ∧ (∀ t, t < lo → l.getD t 0 < x) ∧ (∀ t, hi ≤ t → t < l.length → x ≤ l.getD t 0))
  case atStart => exact ⟨0, l.length, rfl, rfl, Nat.zero_le _, Nat.le_refl _, by omega, rfl, fun t ht => absurd ht (Nat.not_lt_zero _), fun t h1 h2 => by omega⟩
  case round =>
    obtain ⟨lo, hi, rfl, rfl, hlh, hin, hg, rfl, h1, h2⟩ := hrel
    have I := Lib.hid (show (∀ t, t < lo → l.getD t 0 < x) ∧ (∀ t, hi ≤ t → t < l.length → x ≤ l.getD t 0) from ⟨h1, h2⟩)
    clear h1 h2
    by_cases hlt : lo < hi
    · have cm := C.out ((lo + hi) / 2) (by omega)
      generalize hy : l.getD ((lo + hi) / 2) 0 = y at cm
      have Y := Lib.hid hy
      clear hy
      by_cases hyx : y < x
      · go_wp2_with (go_at_call 35; refine (less_calls _ _ _).mono ?_; rintro e w' ⟨rfl, rfl⟩)
        go_roundg (hi - ((lo + hi) / 2 + 1))
        case measure => omega
        case rel =>
          refine ⟨(lo + hi) / 2 + 1, hi, by rw [show ((lo : Int) + (hi : Int)) / 2 + 1 = (((lo + hi) / 2 + 1 : Nat) : Int) by omega], rfl, by omega, hin, Nat.le_refl _, rfl, fun t ht => ?_, I.out.2⟩
          have := S.out t ((lo + hi) / 2) (by omega) (by omega)
          rw [Y.out] at this
          omega
      · go_wp2_with (go_at_call 35; refine (less_calls _ _ _).mono ?_; rintro e w' ⟨rfl, rfl⟩)
        go_roundg ((lo + hi) / 2 - lo)
        case measure => omega
        case rel =>
          refine ⟨lo, (lo + hi) / 2, rfl, by rw [show ((lo : Int) + (hi : Int)) / 2 = (((lo + hi) / 2 : Nat) : Int) by omega], by omega, by omega, Nat.le_refl _, rfl, I.out.1, fun t ht htn => ?_⟩
          have := S.out ((lo + hi) / 2) t ht htn
          rw [Y.out] at this
          omega
    · have : hi = lo := by omega
      subst this
      obtain ⟨e1, e2⟩ := Lib.search_end l l.length hi x (Nat.le_refl _) hin I.out.1 I.out.2 S.out
      rw [List.take_length] at e1 e2
      have E := Lib.hid (show l.countP (· < x) = hi ∧ l.contains x = decide (hi < l.length ∧ l.getD hi 0 = x) from ⟨e1, e2⟩)
      clear e1 e2
      by_cases hn : hi < l.length
      · have cl := C.out hi (by omega)
        generalize hy : l.getD hi 0 = y at cl
        have Y := Lib.hid hy
        clear hy
        by_cases hyx : y = x
        · go_wp2_with (go_at_call 36; refine (nan1_calls _ _).mono ?_; rintro e w' ⟨rfl, rfl⟩)
          go_ret2
          refine ⟨?_, rfl⟩
          rw [E.out.1, E.out.2, Y.out, decide_eq_true (show hi < l.length ∧ y = x from ⟨hn, hyx⟩)]
          first | rfl | simp [*]
        · go_wp2_with (go_at_call 36; refine (nan1_calls _ _).mono ?_; rintro e w' ⟨rfl, rfl⟩)
          go_ret2
          refine ⟨?_, rfl⟩
          rw [E.out.1, E.out.2, Y.out, decide_eq_false (show ¬ (hi < l.length ∧ y = x) from fun h => hyx h.2)]
          first | rfl | simp [*]
      · go_wp2_with (go_at_call 36; refine (nan1_calls _ _).mono ?_; rintro e w' ⟨rfl, rfl⟩)
        go_ret2
        refine ⟨?_, rfl⟩
        rw [E.out.1, E.out.2, decide_eq_false (show ¬ (hi < l.length ∧ l.getD hi 0 = x) from fun h => hn h.1)]
        first | rfl | simp [*]

set_option maxHeartbeats 1000000 in
theorem search_nil (x : Int) (w : World) :
    Calls Try.prog 31 #[.slice none 0 0, .int .i64 x] w fun e w' => e = .returned (.tuple #[.int .i64 0, .bool false]) ∧ w' = w := by
  go_enter Try.func31, Try.ntmps31
  go_wp2
  go_loopg [7, 8] 0 (fun g s7 s8 wr => s7 = .int .i64 0 ∧ s8 = .int .i64 0 ∧ wr = w)
  case atStart => exact ⟨rfl, rfl, rfl⟩
  case round =>
    obtain ⟨rfl, rfl, rfl⟩ := hrel
    go_wp2
    go_ret2
    exact ⟨rfl, rfl⟩

/-- slices.BinarySearch. -/
theorem search_calls (v : Value) (l : List Int) (x : Int) (w : World) (h : Sl ienc w v l) (hs : l.Pairwise (· < ·)) (hbig : l.length < 4611686018427387904) :
    Calls Try.prog 31 #[v, .int .i64 x] w fun e w' => e = .returned (.tuple #[.int .i64 (l.countP (· < x) : Nat), .bool (l.contains x)]) ∧ w' = w := by
  rcases h with ⟨rfl, rfl⟩ | ⟨b, off, cap, rfl, hc, hb, hl⟩
  · exact search_nil x w
  · exact search_some b off cap l x w (.inr ⟨b, off, cap, rfl, hc, hb, hl⟩) hs hbig

theorem info_int : (Try.prog.info? 3).map (fun i => (i.zero, i.size, i.bytes)) = some (some (.int .i64 0), 1, 8) := by kernel_rfl
theorem under_rising : Try.prog.underlying 51 = some (.slice 3) := by kernel_rfl

theorem eql_rising (w : World) (a : Option Addr) (n c n' c' : Nat) : (binOp .eql 51 (.slice a n c) (.slice none n' c')).run Try.prog w = .ok (.bool a.isNone) w := Lib.run_eql_slice_nil w _ _ a n c n' c' under_rising

set_option maxHeartbeats 1000000 in
/-- slices.Clone. -/
theorem clone_calls (v : Value) (l : List Int) (w : World) (h : Sl ienc w v l) (hbig : l.length ≤ 1000000) :
    Calls Try.prog 28 #[v] w fun e w' => ∃ v', e = .returned v' ∧ w'.ownsRow w.heap.size 3 1 v' l.length (l.flatMap ienc) ∧ Upd (fun _ => False) w w' := by
  have q := eql_rising
  rcases h with ⟨rfl, rfl⟩ | ⟨b, off, cap, rfl, hc, hb, hl⟩
  · go_enter Try.func28, Try.ntmps28
    go_wp2
    go_ret
    exact ⟨_, rfl, ⟨rfl, .inl ⟨rfl, rfl⟩⟩, Upd.refl _ _⟩
  · have hown : (w.alloc (.cells #[] 3)).ownsRow w.heap.size 3 1 (.slice (some ⟨w.heap.size, 0, none⟩) 0 0) ([] : List Int).length (([] : List Int).flatMap ienc) := World.ownsRow_made w #[] 0 (Nat.le_refl _) (Nat.zero_le _) (by simp)
    have hsl : Sl ienc (w.alloc (.cells #[] 3)) (.slice (some ⟨b, off, none⟩) l.length cap) l := Sl.grow (.inr ⟨b, off, cap, rfl, hc, hb, hl⟩) (upd_alloc _ _ _)
    obtain ⟨v', w', hap, ho', hg', hn'⟩ := run_append_sl (P := Try.prog) (t := 51) (z := .int .i64 0) under_rising info_int rfl (by decide) ienc_length ienc_one hown hsl (by simp) (by simp [maxLen]; omega) (by simp; omega)
    have Hown := Lib.hid ho'; have Hg := Lib.hid hg'; clear ho' hg' hn' hown hsl hl
    go_enter Try.func28, Try.ntmps28
    go_wp2_with (at_builtin; refine wpList_append hap rfl rfl rfl rfl ?_)
    go_ret
    refine ⟨_, rfl, by simpa using Hown.out, ?_⟩
    exact ((Upd.refl _ w).alloc _).trans' (Upd.ofGrown Hg.out) (fun x hx e => by simp [Value.ownBlock] at e; omega)

end Go.Proofs.Ytdobijomdgepjaa
