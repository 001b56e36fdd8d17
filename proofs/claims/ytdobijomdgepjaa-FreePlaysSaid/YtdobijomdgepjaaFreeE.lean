/-
  New, lives.
-/
import Derived.Test.YtdobijomdgepjaaFreeD
namespace Go.Proofs.Ytdobijomdgepjaa
open Go.RowKit Go.Tb Go.MapKept Go.ChangeMaps
set_option linter.unusedVariables false

theorem ints_at {w : World} {a : Option Addr} {n cap : Nat} {l : List Int} (h : Sl ienc w (.slice a n cap) l) (i : Nat) (hi : i < l.length) : ∃ b off, a = some ⟨b, off, none⟩ ∧ w.cell? ⟨b, off + i, none⟩ = some (.int .i64 l[i]) := by
  obtain ⟨b, off, c, hv, hc, hb, hl⟩ := h.block (by omega)
  cases hv
  refine ⟨b, off, rfl, ?_⟩
  have := h.at ienc_length i hi 0 (by decide) (.int .i64 l[i]) rfl
  simpa using this

/-- The numbers of a slice that was handed in. -/
def IntsOf (w : World) (a : Option Addr) (l : List Int) : Prop := ∀ i (h : i < l.length), ∃ b off, a = some ⟨b, off, none⟩ ∧ w.cell? ⟨b, off + i, none⟩ = some (.int .i64 l[i])

/-- What a list is made of. -/
def NewSays (size : Int) (l : List Int) (w : World) (e : Ending) (w' : World) : Prop :=
  ((∃ x ∈ l, ¬ (2 ≤ x ∧ x < size)) ∧ e = .returned (.tuple #[.pointer none, .int .i64 2])) ∨
  ((∀ x ∈ l, 2 ≤ x ∧ x < size) ∧ ¬ l.Nodup ∧ e = .returned (.tuple #[.pointer none, .int .i64 8])) ∨
  ((∀ x ∈ l, 2 ≤ x ∧ x < size) ∧ l.Nodup ∧ ∃ b vs vh L J, e = .returned (.tuple #[.pointer (some ⟨b, 0, none⟩), .int .i64 0]) ∧ IsList w' b vs vh L J ∧ L.size = size ∧ L.held = [] ∧ L.spare.Perm l ∧ w.heap.size ≤ b ∧ ∀ x, J x → w.heap.size ≤ x)

def NewRel (size : Int) (l : List Int) (b k : Nat) (w wr : World) : Prop :=
  ∃ vs vh L J, IsList wr b vs vh L J ∧ L.size = size ∧ L.held = [] ∧ L.spare.Perm (l.take k) ∧ (l.take k).Nodup ∧ (∀ x, J x → w.heap.size ≤ x) ∧ Upd (fun _ => False) w wr

theorem take_one {α : Type} (l : List α) (k : Nat) (h : k < l.length) : l.take (k + 1) = l.take k ++ [l[k]] := by
  rw [List.take_add_one, List.getElem?_eq_getElem h]; rfl
theorem take_one_perm {α : Type} (l : List α) (k : Nat) (h : k < l.length) : (l.take (k + 1)).Perm (l[k] :: l.take k) := by
  rw [take_one l k h]; exact List.perm_append_comm

theorem errno_new (size : Int) (v : Value) (w : World) (hs : size < 8 ∨ 1024 < size) :
    Calls Try.prog 9 #[.int .i64 size, v] w fun e w' => e = .returned (.tuple #[.pointer none, .int .i64 1]) ∧ w' = w := by
  by_cases h : size < 8
  · go_enter Try.func9, Try.ntmps9
    go_wp2
    go_ret2
    exact ⟨rfl, rfl⟩
  · have h2 : 1024 < size := by omega
    go_enter Try.func9, Try.ntmps9
    go_wp2
    go_ret2
    exact ⟨rfl, rfl⟩

set_option maxRecDepth 100000 in
set_option maxHeartbeats 2000000 in
theorem new_calls (size : Int) (a : Option Addr) (cap : Nat) (l : List Int) (w : World) (h : IntsOf w a l) (hlen : l.length ≤ 1000000) (h8 : 8 ≤ size) (h1024 : size ≤ 1024) :
    Calls Try.prog 9 #[.int .i64 size, .slice a l.length cap] w fun e w' => Upd (fun _ => False) w w' ∧ NewSays size l w e w' := by
  have hstart : IsList (w.alloc (.cells #[.int .i64 size, .slice none 0 0, .slice none 0 0] 53)) w.heap.size (.slice none 0 0) (.slice none 0 0) ⟨size, [], []⟩ (fun _ => False) :=
    { blk := (heap_alloc w _).1, sp := sl_nil _ _, hd := sl_nil _ _, is := fun k hk => (by cases hk), ih := fun k hk => (by cases hk), bd := fun _ x => x.elim, nb := fun x => x,
      ok := ⟨h8, h1024, List.Pairwise.nil, List.Pairwise.nil, fun x hx => (by cases hx), fun x hx => (by cases hx)⟩ }
  have Hs := Lib.hid hstart
  have H := Lib.hid h
  clear hstart h
  go_enter Try.func9, Try.ntmps9
  go_wp2
  go_loopw [23] (fun i wr => ∃ k : Nat, k ≤ l.length ∧ i = .int .i64 k ∧ (∀ x ∈ l.take k, 2 ≤ x ∧ x < size) ∧ IsList wr w.heap.size (.slice none 0 0) (.slice none 0 0) ⟨size, [], []⟩ (fun _ => False) ∧ Upd (fun _ => False) w wr) (fun i _ => l.length - (intOf i).toNat)
  case atStart => exact ⟨0, Nat.zero_le _, rfl, fun x hx => by simp at hx, Hs.out, upd_alloc _ _ _⟩
  case round =>
    obtain ⟨k, hk, rfl, hrng, hd, hu⟩ := hrel
    have R := Lib.hid hrng
    clear hrng
    by_cases hlt : k < l.length
    · obtain ⟨rb, off, ha, hcell⟩ := H.out k hlt
      subst ha
      have c0 := hu.cell hcell (fun x => x)
      have hin := in_calls w.heap.size _ _ size l[k] wr hd.blk
      have Tk := Lib.hid (take_one l k hlt)
      have Hmem := Lib.hid (List.getElem_mem hlt)
      generalize l[k] = x at *
      clear hcell
      have D := Lib.hid hd
      clear hd
      by_cases hr : 2 ≤ x ∧ x < size
      · rw [decide_eq_true hr] at hin
        have Hr := Lib.hid hr
        clear hr
        go_wp2_with (go_at_call 25; refine hin.mono ?_; rintro e w' ⟨rfl, rfl⟩)
        go_roundw
        case rel => exact ⟨k + 1, by omega, by go_num, fun y hy => by
          rw [Tk.out] at hy
          rcases List.mem_append.1 hy with hy | hy
          · exact R.out y hy
          · rw [List.mem_singleton.1 hy]; exact Hr.out, D.out, hu⟩
        case measure => simp [intOf]; omega
      · rw [decide_eq_false hr] at hin
        have Hr := Lib.hid hr
        clear hr
        go_wp2_with (go_at_call 25; refine hin.mono ?_; rintro e w' ⟨rfl, rfl⟩)
        go_ret2
        exact ⟨hu, .inl ⟨⟨x, Hmem.out, Hr.out⟩, rfl⟩⟩
    · obtain rfl : k = l.length := by omega
      have Hall := Lib.hid (show ∀ x ∈ l, 2 ≤ x ∧ x < size by have := R.out; rwa [List.take_length] at this)
      obtain ⟨wo, rfl⟩ : ∃ wo : World, wo = wr := ⟨_, rfl⟩
      have D := Lib.hid (show NewRel size l w.heap.size 0 w wo from ⟨_, _, _, _, hd, rfl, rfl, by simp, by simp, fun x hx => hx.elim, hu⟩)
      clear hd hu R hk
      go_wp2
      go_loopw [34] (fun i wr => ∃ k : Nat, k ≤ l.length ∧ i = .int .i64 k ∧ NewRel size l w.heap.size k w wr) (fun i _ => l.length - (intOf i).toNat)
      case atStart => exact ⟨0, Nat.zero_le _, rfl, D.out⟩
      case round =>
        clear D
        obtain ⟨k, hk, rfl, vs, vh, L, J, hd, hsz, hhe, hpm, hnd, hJ, hu⟩ := hrel
        by_cases hlt : k < l.length
        · obtain ⟨rb, off, ha, hcell⟩ := H.out k hlt
          subst ha
          have c0 := hu.cell hcell (fun x => x)
          have hgv := give_calls w.heap.size vs vh L J l[k] wr hd
          have Tk := Lib.hid (take_one_perm l k hlt)
          have hr := Hall.out _ (List.getElem_mem hlt)
          generalize l[k] = x at *
          clear hcell
          by_cases hin : x ∈ l.take k
          · have hch : L.check x = 8 := by unfold LS.check; rw [hsz, if_pos hr, if_pos (.inl (hpm.mem_iff.2 hin))]
            rw [hch] at hgv
            have Hn := Lib.hid (show ¬ l.Nodup from fun hn => by
              have := Tk.out.nodup_iff.1 (hn.sublist (List.take_sublist _ _))
              exact (List.nodup_cons.1 this).1 hin)
            have Hb := Lib.hid (lt_of_heap hd.blk)
            clear hd hsz hhe hpm hnd hJ hr hin hch
            go_wp2_with (go_at_call 12; refine hgv.mono ?_; rintro e w' ⟨rfl, hst, hu2⟩)
            go_ret2
            exact ⟨hu.trans' hu2 (fun y hy e => by omega), .inr (.inl ⟨Hall.out, Hn.out, rfl⟩)⟩
          · have hch : L.check x = 0 := by
              unfold LS.check
              rw [hsz, if_pos hr, if_neg]
              rintro (h | h)
              · exact hin (hpm.mem_iff.1 h)
              · rw [hhe] at h; cases h
            have hgi : L.give x = { L with spare := insl x L.spare } := if_pos hch
            rw [hch, hgi] at hgv
            have Hn := Lib.hid (show (l.take (k + 1)).Nodup from Tk.out.nodup_iff.2 (List.nodup_cons.2 ⟨hin, hnd⟩))
            have Hp := Lib.hid (show (insl x L.spare).Perm (l.take (k + 1)) from (insl_perm x _).trans ((hpm.cons x).trans Tk.out.symm))
            have HJ := Lib.hid hJ
            have Hh := Lib.hid hhe
            have Hz := Lib.hid hsz
            clear hd hsz hhe hpm hnd hJ hr hin hch hgi
            go_wp2_with (go_at_call 12; refine hgv.mono ?_; rintro e w' ⟨rfl, ⟨vs2, vh2, J2, hd2, hJ2⟩, hu2⟩)
            go_roundw
            case rel => exact ⟨k + 1, by omega, by go_num, vs2, vh2, _, J2, hd2, Hz.out, Hh.out, Hp.out, Hn.out, fun y hy => (hJ2 y hy).elim (HJ.out y) (Nat.le_trans hu.size), hu.trans' hu2 (fun y hy e => by omega)⟩
            case measure => simp [intOf]; omega
        · have hke : k = l.length := by omega
          subst hke
          rw [List.take_length] at hpm hnd
          have Hf := Lib.hid (show Upd (fun _ => False) w wr ∧ NewSays size l w (.returned (.tuple #[.pointer (some ⟨w.heap.size, 0, none⟩), .int .i64 0])) wr from
            ⟨hu, .inr (.inr ⟨Hall.out, hnd, _, vs, vh, L, J, rfl, hd, hsz, hhe, hpm, Nat.le_refl _, hJ⟩)⟩)
          clear hd hsz hhe hpm hnd hJ hu
          go_wp2
          go_ret2
          exact Hf.out

theorem sorted_unique : ∀ {l1 l2 : List Int}, l1.Pairwise (· < ·) → l2.Pairwise (· < ·) → (∀ x, x ∈ l1 ↔ x ∈ l2) → l1 = l2
  | [], [], _, _, _ => rfl
  | [], b :: s, _, _, h => absurd ((h b).2 (.head _)) (by simp)
  | a :: r, [], _, _, h => absurd ((h a).1 (.head _)) (by simp)
  | a :: r, b :: s, h1, h2, h => by
    obtain ⟨p1, p2⟩ := List.pairwise_cons.1 h1
    obtain ⟨q1, q2⟩ := List.pairwise_cons.1 h2
    have hab : a = b := by
      rcases List.mem_cons.1 ((h a).1 (.head _)) with e | e
      · exact e
      · rcases List.mem_cons.1 ((h b).2 (.head _)) with e' | e'
        · exact e'.symm
        · have := q1 a e; have := p1 b e'; omega
    subst hab
    rw [sorted_unique p2 q2 (fun x => ?_)]
    constructor
    · intro hx
      rcases List.mem_cons.1 ((h x).1 (.tail _ hx)) with e | e
      · have := p1 x hx; omega
      · exact e
    · intro hx
      rcases List.mem_cons.1 ((h x).2 (.tail _ hx)) with e | e
      · have := q1 x hx; omega
      · exact e

/-- New where it makes a list. -/
theorem new_ok (size : Int) (a : Option Addr) (cap : Nat) (l : List Int) (w : World) (h : IntsOf w a l) (hlen : l.length ≤ 1000000) (h8 : 8 ≤ size) (h1024 : size ≤ 1024) (hr : ∀ x ∈ l, 2 ≤ x ∧ x < size) (hn : l.Nodup) :
    Calls Try.prog 9 #[.int .i64 size, .slice a l.length cap] w fun e w' => Upd (fun _ => False) w w' ∧ ∃ b vs vh L J, e = .returned (.tuple #[.pointer (some ⟨b, 0, none⟩), .int .i64 0]) ∧ IsList w' b vs vh L J ∧ L.size = size ∧ L.held = [] ∧ L.spare.Perm l ∧ w.heap.size ≤ b ∧ ∀ x, J x → w.heap.size ≤ x := by
  refine (new_calls size a cap l w h hlen h8 h1024).mono ?_
  rintro e w' ⟨hu, ⟨⟨x, hx, hxr⟩, _⟩ | ⟨_, hn', _⟩ | ⟨_, _, hh⟩⟩
  · exact absurd (hr x hx) hxr
  · exact absurd hn hn'
  · exact ⟨hu, hh⟩
/-- .. where it doesn't. -/
def newNo (size : Int) (l : List Int) : Int := open Classical in if ∀ x ∈ l, 2 ≤ x ∧ x < size then 8 else 2
theorem new_no (size : Int) (a : Option Addr) (cap : Nat) (l : List Int) (w : World) (h : IntsOf w a l) (hlen : l.length ≤ 1000000) (h8 : 8 ≤ size) (h1024 : size ≤ 1024) (hr : ¬ ((∀ x ∈ l, 2 ≤ x ∧ x < size) ∧ l.Nodup)) :
    Calls Try.prog 9 #[.int .i64 size, .slice a l.length cap] w fun e w' => e = .returned (.tuple #[.pointer none, .int .i64 (newNo size l)]) ∧ Upd (fun _ => False) w w' := by
  refine (new_calls size a cap l w h hlen h8 h1024).mono ?_
  rintro e w' ⟨hu, ⟨⟨x, hx, hxr⟩, rfl⟩ | ⟨hx, hn', rfl⟩ | ⟨h1, h2, hh⟩⟩
  · refine ⟨?_, hu⟩
    unfold newNo; rw [if_neg (fun h => hxr (h x hx))]
  · refine ⟨?_, hu⟩
    unfold newNo; rw [if_pos hx]
  · exact absurd ⟨h1, h2⟩ hr
theorem newNo_ne (size : Int) (l : List Int) : newNo size l ≠ 0 := by unfold newNo; split <;> decide

set_option maxRecDepth 100000 in
set_option maxHeartbeats 1000000 in
theorem lives_calls (w : World) : Calls Try.prog 8 #[] w fun e w' => e = .returned (.bool true) ∧ Upd (fun _ => False) w w' := by
  have hi : IntsOf (w.alloc (.cells #[.int .i64 5, .int .i64 3] 3)) (some ⟨w.heap.size, 0, none⟩) [5, 3] := fun i hi => by
    refine ⟨_, _, rfl, ?_⟩
    rw [cell_of (heap_alloc w _).1]
    match i, hi with
    | 0, _ => rfl
    | 1, _ => rfl
  have hnew := new_ok 8 (some ⟨w.heap.size, 0, none⟩) 2 [5, 3] _ hi (by decide) (by decide) (by decide) (by decide) (by decide)
  clear hi
  go_enter Try.func8, Try.ntmps8
  go_wp2_with (go_at_call 9; refine hnew.mono ?_; rintro e w1 ⟨hu1, b, vs, vh, L, J, rfl, hd, hsz, hhe, hpm, hb, hJ⟩)
  have hsp : L.spare = [3, 5] := sorted_unique hd.ok.ss (by decide) (fun x => by rw [hpm.mem_iff]; simp only [List.mem_cons, List.not_mem_nil, or_false]; exact Or.comm)
  have htk := take_calls b vs vh L J w1 hd
  have ht : L.takes = .tuple #[.int .i64 3, .int .i64 0] := by unfold LS.takes; rw [hsp]; rfl
  have hrm : L.take.spare.length = 1 := by unfold LS.take; rw [hsp]; rfl
  rw [ht] at htk
  have Hrm := Lib.hid hrm
  clear hd hsz hhe hpm hsp ht hrm hnew
  go_wp2_with (first
    | (go_at_call 10; refine htk.mono ?_; rintro e w2 ⟨rfl, ⟨vs2, vh2, J2, hd2, hJ2⟩, hu2⟩; have hroom := room_calls b vs2 vh2 _ J2 w2 hd2; rw [Hrm.out] at hroom; clear hd2)
    | (go_at_call 11; refine hroom.mono ?_; rintro e w3 ⟨rfl, rfl⟩))
  go_ret
  exact ⟨rfl, ((upd_alloc (fun _ => False) w _).trans hu1).trans' hu2 (fun y hy e => by have := (upd_alloc (fun _ => False) w (.cells #[.int .i64 5, .int .i64 3] 3)).size; omega)⟩

end Go.Proofs.Ytdobijomdgepjaa
