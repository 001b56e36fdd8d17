/-
  DiskPlays: a number of pages of which no disk is made.
-/
import Derived.Test.YteokbokgiejmpaaPDiskK
namespace Go.Proofs.Yteokbokgiejmpaa
open Go.RowKit Go.Tb Go.MapKept Go.ChangeMaps
set_option linter.unusedVariables false

set_option maxRecDepth 100000 in
set_option maxHeartbeats 1000000 in
theorem plays_bad (pages : Int) (v : Value) (w : World) (hbad : pages < 8 ∨ 1024 < pages) :
    Calls Try.prog 9 #[.int .i64 pages, v] w fun e w' => e = .returned (.bool true) ∧ Upd (fun _ => False) w w' := by
  have hnew := new_bad pages w hbad
  have hb : pages < 8 ∨ (¬ pages < 8 ∧ 1024 < pages) := by omega
  clear hbad
  rcases hb with hb | ⟨hb, hb2⟩
  all_goals
    go_enter Try.func9, Try.ntmps9
    go_upto_region 9 with (first
      | (go_at_call 10; (with_reducible refine hnew.mono ?_); rintro e1 w1 ⟨rfl, rfl⟩)
      | (go_at_call 11; (with_reducible refine (lives_calls _).mono ?_); rintro e2 w2 ⟨rfl, hu2⟩; have HU2 := Lib.hid hu2; clear hu2)
      | (go_at_call 17; (with_reducible refine (read_nil 0 _).mono ?_); rintro e3 w3 ⟨rfl, rfl⟩)
      | (go_at_call 19; (with_reducible refine (fuse_nil 1 _).mono ?_); rintro e4 w4 ⟨rfl, rfl⟩)
      | (go_at_call 16; (with_reducible refine (crash_nil _ _).mono ?_); rintro e5 w5 ⟨rfl, rfl⟩))
    go_wp2_with (first
      | (go_at_call 13; (refine (filled_calls 0 _).mono ?_); rintro e6 w6 ⟨v6, rfl, -, hu6⟩; have HU6 := Lib.hid (HU2.out.trans hu6); clear hu6)
      | (go_at_call 12; (with_reducible refine (write_nil 0 _ _).mono ?_); rintro e7 w7 ⟨rfl, rfl⟩)
      | (go_at_call 14; (with_reducible refine (sync_nil _).mono ?_); rintro e8 w8 ⟨rfl, rfl⟩)
      | (go_at_call 24; (with_reducible refine (size_nil _).mono ?_); rintro e9 w9 ⟨rfl, rfl⟩)
      | (go_at_call 20; (with_reducible refine (done_nil _).mono ?_); rintro e9 w9 ⟨rfl, rfl⟩)
      | (go_at_call 23; (with_reducible refine (cached_nil _).mono ?_); rintro e9 w9 ⟨rfl, rfl⟩)
      | (go_at_call 22; (with_reducible refine (copy_nil _).mono ?_); rintro e9 w9 ⟨rfl, rfl⟩))
    go_ret
    exact ⟨rfl, HU6.out⟩

end Go.Proofs.Yteokbokgiejmpaa
