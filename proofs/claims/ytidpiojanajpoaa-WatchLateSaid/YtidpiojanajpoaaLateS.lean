/-
  WatchLate: what its loops keep.
-/
import Derived.Test.YtidpiojanajpoaaTellD
namespace Go.Proofs.Ytidpiojanajpoaa
open Go.RowKit Go.Tb Go.MapKept Go.ChangeMaps
set_option linter.unusedVariables false

section
variable {w wr w' : World} {b m : Nat} {H H' : Hub} {lo : Nat → LTg} {va : Value} {as_ : List EvP} {wk : Nat} {wv : Array Value} {T : Nat → TP} {N : Nat}

theorem law0_start {o : Nat → Tg} {P : Int → Option WrP} (h : IsHub wr b m o P H) (ho : ∀ q, o q ≠ .no → w.heap.size ≤ q) (hu : Upd (fun _ => False) w wr) (hw : wr.heap[wk]? = some (.cells wv 24 (0, 0))) (ew : w.heap.size ≤ wk) (o1 : o wk = .no) (T : Nat → TP) :
    ∃ lo, Law w wr b m H lo (.slice none 0 0) [] wk wv T 0 := by
  refine ⟨fun q => if q = wk then .wb else .no, { hub := ⟨o, P, h, ho, fun q hq => ?_⟩, lt := fun q hq => ?_, all := evSh_nil _ _ _, ab := fun k hk => (by cases hk), wbox := hw, ow := if_pos rfl, tt := fun i hi => absurd hi (Nat.not_lt_zero _), u := hu }⟩
  · by_cases e : q = wk
    · rw [e]; exact o1
    · simp [e] at hq
  · by_cases e : q = wk
    · rw [e]; exact ⟨ew, lt_of_heap hw⟩
    · simp [e] at hq

/-- Two lists more. -/
theorem Law.lists (h : Law w wr b m H lo va as_ wk wv T 0) (hu : Upd (fun _ => False) wr w') {t0 l0 t1 l1 : Nat} (a1 : wr.heap.size ≤ t0 ∧ wr.heap.size ≤ l0 ∧ wr.heap.size ≤ t1 ∧ wr.heap.size ≤ l1) (hne : t0 ≠ l0 ∧ t0 ≠ t1 ∧ t0 ≠ l1 ∧ l0 ≠ t1 ∧ l0 ≠ l1 ∧ t1 ≠ l1)
    (b0 : w'.heap[t0]? = some (.cells #[.slice none 0 0] 32 (0, 0))) (b1 : w'.heap[l0]? = some (.cells #[.int .i64 0] 2 (0, 0))) (b2 : w'.heap[t1]? = some (.cells #[.slice none 0 0] 32 (0, 0))) (b3 : w'.heap[l1]? = some (.cells #[.int .i64 0] 2 (0, 0))) :
    ∃ lo', Law w w' b m H lo' va as_ wk wv (fun i => if i = 0 then ⟨t0, l0, .slice none 0 0, [], 0⟩ else ⟨t1, l1, .slice none 0 0, [], 0⟩) 2 := by
  obtain ⟨q1, q2, q3, q4⟩ := a1
  obtain ⟨n1, n2, n3, n4, n5, n6⟩ := hne
  have su := h.u.size
  obtain ⟨o, P, h1, h2, h3⟩ := h.hub
  obtain ⟨lo', hlo⟩ : ∃ lo' : Nat → LTg, lo' = fun k => if k = t0 then .tb 0 else if k = l0 then .lb 0 else if k = t1 then .tb 1 else if k = l1 then .lb 1 else lo k := ⟨_, rfl⟩
  have ho : ∀ k, k < wr.heap.size → lo' k = lo k := fun k hk => by
    rw [hlo]
    simp [show k ≠ t0 by omega, show k ≠ l0 by omega, show k ≠ t1 by omega, show k ≠ l1 by omega]
  have k0 : lo' t0 = .tb 0 := by rw [hlo]; simp
  have k1 : lo' l0 = .lb 0 := by rw [hlo]; simp [n1.symm]
  have k2 : lo' t1 = .tb 1 := by rw [hlo]; simp [n2.symm, n4.symm]
  have k3 : lo' l1 = .lb 1 := by rw [hlo]; simp [n3.symm, n5.symm, n6.symm]
  have hold : ∀ k, lo' k ≠ .no → (lo k ≠ .no ∧ k < wr.heap.size) ∨ (k = t0 ∨ k = l0 ∨ k = t1 ∨ k = l1) := fun k hk => by
    by_cases e0 : k = t0
    · exact .inr (.inl e0)
    by_cases e1 : k = l0
    · exact .inr (.inr (.inl e1))
    by_cases e2 : k = t1
    · exact .inr (.inr (.inr (.inl e2)))
    by_cases e3 : k = l1
    · exact .inr (.inr (.inr (.inr e3)))
    rw [hlo] at hk
    simp only [if_neg e0, if_neg e1, if_neg e2, if_neg e3] at hk
    exact .inl ⟨hk, (h.lt k hk).2⟩
  have hno : ∀ q, wr.heap.size ≤ q → o q = .no := fun q hq => by
    cases e : o q with
    | no => rfl
    | _ => exact absurd (h1.lt q (by rw [e]; simp)) (by omega)
  have hlt' : ∀ k, lo k ≠ .no → k < wr.heap.size := fun k hk => (h.lt k hk).2
  refine ⟨lo', { hub := ⟨o, P, h1.grow hu, h2, fun q hq => (hold q hq).elim (fun r => h3 q r.1) (fun r => hno q (by omega))⟩, lt := fun q hq => (hold q hq).elim (fun r => ⟨(h.lt q r.1).1, Nat.lt_of_lt_of_le r.2 hu.size⟩) (fun r => ⟨by omega, ?_⟩), all := ?_, ab := fun k hk => by rw [ho k (h.all.blk k hk).2]; exact h.ab k hk, wbox := hu.heap h.wbox (fun s => s), ow := by rw [ho _ (lt_of_heap h.wbox)]; exact h.ow, tt := fun i hi => ?_, u := h.u.trans hu }⟩
  · rcases r with e | e | e | e <;> rw [e]
    · exact lt_of_heap b0
    · exact lt_of_heap b1
    · exact lt_of_heap b2
    · exact lt_of_heap b3
  · exact (h.all.tag (g := .al) (by simp) h.ab rfl ho hlt').grow hu
  · by_cases e : i = 0
    · subst e
      exact { row := evSh_nil _ _ _, rb := fun k hk => (by cases hk), tbox := b0, lbox := b1, ot := k0, ol := k1 }
    · obtain rfl : i = 1 := by omega
      exact { row := evSh_nil _ _ _, rb := fun k hk => (by cases hk), tbox := b2, lbox := b3, ot := k2, ol := k3 }

/-- A watcher more. -/
theorem lcreate (h : Law w wr b m H lo va as_ wk wv T N) {kv ev : Value} {x : Wt} (hr0 : 0 ≤ H.rev) (hr1 : H.rev ≤ 4611686018427387904) (hl0 : 0 ≤ H.last) (hl1 : H.last ≤ 4611686018427387904) (hx0 : 1 ≤ x.start) (hx1 : x.start ≤ 4611686018427387904) (hn : H.n < 16) (hf : H.f (H.last + 1) = none) (hk : Bytes w kv x.key) (he : Bytes w ev x.end_) (l1 : x.key.length ≤ 140737488355328) (l2 : x.end_.length ≤ 140737488355328) :
    Calls Try.prog 9 #[.pointer (some ⟨b, 0, none⟩), .agg (wcells kv ev x), .int .i64 0] wr fun e w' => e = .returned (.tuple #[.int .i64 (H.last + 1), .int .i64 0]) ∧ Law w w' b m (H.more x) lo va as_ wk wv T N := by
  obtain ⟨o, P, g1, g2, g3⟩ := h.hub
  have hnx : ¬ nextOf H x ≤ 0 := by unfold nextOf; rw [if_neg (by omega)]; omega
  exact (create_ok b m o P H kv ev x 0 wr g1 hr0 hr1 hl0 hl1 (by omega) hx1 hn hnx hf (hk.upd h.u (fun _ _ s => s)) (he.upd h.u (fun _ _ s => s)) l1 l2).mono fun e w2 ⟨he, ⟨own', P', k1, k2⟩, k3⟩ => ⟨he, h.step g2 g3 k1 k2 k3⟩
end

/-- The state of the first loop. -/
structure LAbs (H : Hub) (k : Nat) (room most : Int) (x : Wt) (all : List Ev) (c : Bool) (z : Int) : Prop where
  rev : H.rev = k
  room : H.room = room
  most : H.most = most
  ao : AllOk k all
  z : z = cond c 2 0
  on1 : ∃ y, H.f 1 = some y ∧ y.w = x ∧ WI k y all [] 0
  on2 : c = true → ∃ y, H.f 2 = some y ∧ y.w = x ∧ WI k y all [] 0
  off : c = false → H.f 2 = none ∧ H.last = 1 ∧ H.n = 1
  one : ∀ i, i ≠ 1 → i ≠ 2 → H.f i = none
def LSt (w wr : World) (b m : Nat) (room most : Int) (x : Wt) (kv ev : Value) (wk : Nat) (k : Nat) (va : Value) (as_ : List EvP) (c : Bool) (z : Int) : Prop :=
  ∃ H lo, Law w wr b m H lo va as_ wk (wcells kv ev x) (fun _ => ⟨0, 0, .slice none 0 0, [], 0⟩) 0 ∧ LAbs H k room most x (as_.map EvP.x) c z

theorem more_at (H : Hub) (x : Wt) : (H.more x).f (H.last + 1) = some ⟨x, nextOf H x, [], false, 0⟩ := if_pos (rfl : H.last + 1 = H.last + 1)
theorem more_ne (H : Hub) (x : Wt) {j : Int} (h : j ≠ H.last + 1) : (H.more x).f j = H.f j := if_neg h
theorem wi_new {rev : Int} {x : Wt} {all : List Ev} {H : Hub} (h1 : 1 ≤ x.start) : WI rev ⟨x, nextOf H x, [], false, 0⟩ all [] 0 := by
  have e : nextOf H x = x.start := by unfold nextOf; rw [if_neg (by omega)]
  exact { ended := rfl, eq := (by show [] ++ [] ++ sieveE x (sinceE (nextOf H x) all) = _; rw [e]; rfl), nx := .inr e, st := (by show x.start ≤ nextOf H x; omega), lo := fun y hy => (by cases hy), l0 := (by show 0 < nextOf H x; omega) }

section
variable {w wr w' : World} {b m : Nat} {room most : Int} {x : Wt} {kv ev : Value} {wk : Nat} {k : Nat} {va : Value} {as_ : List EvP} {c : Bool} {z : Int}

/-- The first watcher is made. -/
theorem lst_start {o : Nat → Tg} {P : Int → Option WrP} (h : IsHub wr b m o P (newHub 0 room most)) (ho : ∀ q, o q ≠ .no → w.heap.size ≤ q) (hu : Upd (fun _ => False) w wr) (hw : wr.heap[wk]? = some (.cells (wcells kv ev x) 24 (0, 0))) (ew : w.heap.size ≤ wk) (o1 : o wk = .no) (hS : x.start = 1) (hkk : Bytes w kv x.key) (hee : Bytes w ev x.end_) (l1 : x.key.length ≤ 140737488355328) (l2 : x.end_.length ≤ 140737488355328) :
    Calls Try.prog 9 #[.pointer (some ⟨b, 0, none⟩), .agg (wcells kv ev x), .int .i64 0] wr fun e w2 => e = .returned (.tuple #[.int .i64 1, .int .i64 0]) ∧ LSt w w2 b m room most x kv ev wk 0 (.slice none 0 0) [] false 0 := by
  obtain ⟨lo, hL⟩ := law0_start h ho hu hw ew o1 (fun _ => ⟨0, 0, .slice none 0 0, [], 0⟩)
  refine (lcreate hL (Int.le_refl 0) (by show (0 : Int) ≤ _; decide) (Int.le_refl 0) (by show (0 : Int) ≤ _; decide) (by omega) (by omega) (by show 0 < 16; decide) rfl hkk hee l1 l2).mono fun e w2 ⟨he, hL'⟩ => ⟨he, _, lo, hL', ?_⟩
  exact { rev := rfl, room := rfl, most := rfl, ao := ⟨List.Pairwise.nil, fun y hy => (by cases hy)⟩, z := rfl, on1 := ⟨_, more_at (newHub 0 room most) x, rfl, wi_new (by omega)⟩, on2 := nofun, off := fun _ => ⟨more_ne (newHub 0 room most) x (by show (2 : Int) ≠ 0 + 1; decide), rfl, rfl⟩, one := fun i h1 h2 => more_ne (newHub 0 room most) x (by show i ≠ 0 + 1; omega) }
/-- The second one. -/
theorem lsecond (h : LSt w wr b m room most x kv ev wk k va as_ false z) (hk : k ≤ 1000) (hS : x.start = 1) (hkk : Bytes w kv x.key) (hee : Bytes w ev x.end_) (l1 : x.key.length ≤ 140737488355328) (l2 : x.end_.length ≤ 140737488355328) :
    Calls Try.prog 9 #[.pointer (some ⟨b, 0, none⟩), .agg (wcells kv ev x), .int .i64 0] wr fun e w2 => e = .returned (.tuple #[.int .i64 2, .int .i64 0]) ∧ LSt w w2 b m room most x kv ev wk k va as_ true 2 := by
  obtain ⟨H, lo, hL, hA⟩ := h
  obtain ⟨q1, q2, q3⟩ := hA.off rfl
  have hr := hA.rev
  refine (lcreate hL (by omega) (by omega) (by omega) (by omega) (by omega) (by omega) (by omega) (by rw [q2]; exact q1) hkk hee l1 l2).mono fun e w2 ⟨he, hL'⟩ => ⟨by rw [he, q2]; rfl, _, lo, hL', ?_⟩
  have hat := more_at H x
  rw [q2] at hat
  obtain ⟨y, hy, hyw, hW⟩ := hA.on1
  exact { rev := hr, room := hA.room, most := hA.most, ao := hA.ao, z := rfl, on1 := ⟨y, by rw [more_ne H x (by rw [q2]; decide)]; exact hy, hyw, hW⟩, on2 := fun _ => ⟨_, hat, rfl, wi_new (by omega)⟩, off := nofun, one := fun i h1 h2 => by rw [more_ne H x (by rw [q2]; omega)]; exact hA.one i h1 h2 }

theorem LAbs.buf {H : Hub} {all : List Ev} (h : LAbs H k room most x all c z) {i : Int} {y : Wr} (hy : H.f i = some y) : y.buf.length ≤ all.length := by
  have key : ∀ {y' : Wr}, WI k y' all [] 0 → y'.buf.length ≤ all.length := fun {y'} hW => by
    have g1 := hW.len
    have g2 := wanted_len y'.w y'.w.start all
    simp at g1; omega
  by_cases h1 : i = 1
  · subst h1
    obtain ⟨y', hy', -, hW⟩ := h.on1
    rw [hy] at hy'; cases hy'
    exact key hW
  · by_cases h2 : i = 2
    · subst h2
      cases c with
      | false => have := (h.off rfl).1; rw [hy] at this; cases this
      | true =>
        obtain ⟨y', hy', -, hW⟩ := h.on2 rfl
        rw [hy] at hy'; cases hy'
        exact key hW
    · rw [h.one i h1 h2] at hy; cases hy

/-- A write. -/
theorem lwrite (h : LSt w wr b m room most x kv ev wk k va as_ c z) (r0 : 1 ≤ room) (r1 : room ≤ 4096) (m0 : 1 ≤ most) (m1 : most ≤ 4096) (hk : k ≤ 1000) {w1 : World} {J : Nat → Prop} {a : Option Addr} {cc : Nat} {rs : List EvP} (hr : EvRow w1 wr.heap.size J (.slice a rs.length cc) rs) (hu : Upd (fun _ => False) wr w1) (hl : as_.length + rs.length ≤ 800000000000) (hall : allMod ((k : Int) + 1) (rs.map EvP.x) = true) (hs : ∀ p ∈ rs, p.x.Small) :
    ∃ a' n' c' w2, (∀ ty, (Builtin.append_ #[32, 32] ty #[va, .slice a rs.length cc]).run Try.prog w1 = .ok (.slice a' n' c') w2) ∧ n' = as_.length + rs.length ∧
      Calls Try.prog 11 #[.pointer (some ⟨b, 0, none⟩), .int .i64 ((k : Int) + 1), .slice a rs.length cc] w2 fun e w' => e = .returned (.int .i64 0) ∧ LSt w w' b m room most x kv ev wk (k + 1) (.slice a' n' c') (as_ ++ rs) c z := by
  obtain ⟨H, lo, hL, hA⟩ := h
  have hrev := hA.rev
  have hro := hA.room
  have hmo := hA.most
  obtain ⟨a', n', c', w2, lo', h1, h2, h3⟩ := hL.append hr hu hl ⟨by omega, by omega, by omega, by omega, by omega, by omega⟩ (rev := (k : Int) + 1) (by omega) (by omega) hall hs (fun i y hy => by have := hA.buf hy; rw [List.length_map] at this; omega)
  have hn' : n' = as_.length + rs.length := by
    obtain ⟨a9, c9, e, -⟩ := own_shape h2.all.own
    cases e
    rw [List.length_append]
  refine ⟨a', n', c', w2, h1, hn', h3.mono fun e w' ⟨he, hL'⟩ => ⟨he, _, lo', hL', ?_⟩⟩
  have hall' : ∀ y ∈ rs.map EvP.x, y.kv.mod = (k : Int) + 1 := fun y hy => by simpa using List.all_eq_true.1 hall y hy
  have step : ∀ i : Int, (∃ y, H.f i = some y ∧ y.w = x ∧ WI k y (as_.map EvP.x) [] 0) → ∃ y, (H.notified ((k : Int) + 1) (rs.map EvP.x)).f i = some y ∧ y.w = x ∧ WI ((k : Int) + 1) y ((as_ ++ rs).map EvP.x) [] 0 := fun i ⟨y, hy, hyw, hW⟩ => by
    have hn := hW.notified hA.ao hall' H.room
    refine ⟨_, by show (H.f i).map _ = _; rw [hy]; rfl, by rw [hn.2]; exact hyw, ?_⟩
    rw [List.map_append]
    exact hn.1
  have none_ : ∀ i : Int, H.f i = none → (H.notified ((k : Int) + 1) (rs.map EvP.x)).f i = none := fun i hi => by show (H.f i).map _ = none; rw [hi]; rfl
  exact { rev := (by show (k : Int) + 1 = _; omega), room := hA.room, most := hA.most, ao := (by rw [List.map_append]; exact hA.ao.more hall'), z := hA.z, on1 := step 1 hA.on1, on2 := fun hc => step 2 (hA.on2 hc), off := fun hc => ⟨none_ 2 (hA.off hc).1, (hA.off hc).2.1, (hA.off hc).2.2⟩, one := fun i q1 q2 => none_ i (hA.one i q1 q2) }

/-- One of the two watchers, ahead of its round, or behind its feed. -/
def PSt (s : Bool) (k : Nat) (most : Int) (y : Wr) (all : List Ev) (t : TP) (j : Nat) : Prop :=
  WI k y all (t.ts.map EvP.x) t.last ∧ cond s (Through k { y with buf := y.buf.drop (cutN y.buf most) } all (t.ts.map EvP.x ++ y.buf.take (cutN y.buf most)) (j + 1)) (Through k y all (t.ts.map EvP.x) j)
/-- The second loop's state. -/
def L2 (w wr : World) (b m : Nat) (room most : Int) (x : Wt) (kv ev : Value) (wk : Nat) (k : Nat) (va : Value) (as_ : List EvP) (t0 l0 t1 l1 : Nat) (s : Nat → Bool) (j : Nat → Nat) : Prop :=
  ∃ H lo T, ∃ y : Nat → Wr, Law w wr b m H lo va as_ wk (wcells kv ev x) T 2 ∧ H.rev = k ∧ H.room = room ∧ H.most = most ∧ AllOk k (as_.map EvP.x) ∧ ((T 0).tb = t0 ∧ (T 0).lb = l0 ∧ (T 1).tb = t1 ∧ (T 1).lb = l1) ∧ ∀ i : Nat, i < 2 → H.f ((i : Int) + 1) = some (y i) ∧ (y i).w = x ∧ PSt (s i) k most (y i) (as_.map EvP.x) (T i) (j i)

variable {t0 l0 t1 l1 : Nat} {s : Nat → Bool} {j : Nat → Nat}

theorem l2_start {z : Int} (h : LSt w wr b m room most x kv ev wk k va as_ true z) (hu : Upd (fun _ => False) wr w') (a1 : wr.heap.size ≤ t0 ∧ wr.heap.size ≤ l0 ∧ wr.heap.size ≤ t1 ∧ wr.heap.size ≤ l1) (hne : t0 ≠ l0 ∧ t0 ≠ t1 ∧ t0 ≠ l1 ∧ l0 ≠ t1 ∧ l0 ≠ l1 ∧ t1 ≠ l1)
    (b0 : w'.heap[t0]? = some (.cells #[.slice none 0 0] 32 (0, 0))) (b1 : w'.heap[l0]? = some (.cells #[.int .i64 0] 2 (0, 0))) (b2 : w'.heap[t1]? = some (.cells #[.slice none 0 0] 32 (0, 0))) (b3 : w'.heap[l1]? = some (.cells #[.int .i64 0] 2 (0, 0))) : L2 w w' b m room most x kv ev wk k va as_ t0 l0 t1 l1 (fun _ => false) (fun _ => 0) := by
  obtain ⟨H, lo, hL, hA⟩ := h
  obtain ⟨lo', hL'⟩ := hL.lists hu a1 hne b0 b1 b2 b3
  obtain ⟨y1, hy1, hw1, hW1⟩ := hA.on1
  obtain ⟨y2, hy2, hw2, hW2⟩ := hA.on2 rfl
  refine ⟨H, lo', _, fun i => if i = 0 then y1 else y2, hL', hA.rev, hA.room, hA.most, hA.ao, ⟨rfl, rfl, rfl, rfl⟩, fun i hi => ?_⟩
  by_cases e : i = 0
  · subst e
    exact ⟨hy1, hw1, hW1, .inl (Nat.zero_le _)⟩
  · obtain rfl : i = 1 := by omega
    exact ⟨hy2, hw2, hW2, .inl (Nat.zero_le _)⟩
theorem L2.cong {s' : Nat → Bool} {j' : Nat → Nat} (h : L2 w wr b m room most x kv ev wk k va as_ t0 l0 t1 l1 s j) (hs : ∀ i, i < 2 → s' i = s i) (hj : ∀ i, i < 2 → j' i = j i) : L2 w wr b m room most x kv ev wk k va as_ t0 l0 t1 l1 s' j' := by
  obtain ⟨H, lo, T, y, hL, h1, h2, h3, h4, h5, h6⟩ := h
  exact ⟨H, lo, T, y, hL, h1, h2, h3, h4, h5, fun i hi => by rw [hs i hi, hj i hi]; exact h6 i hi⟩

theorem l2feed (h : L2 w wr b m room most x kv ev wk k va as_ t0 l0 t1 l1 s j) (i : Nat) (hi : i < 2) (id : Int) (hid : id = (i : Int) + 1) (hsi : s i = false) (r0 : 1 ≤ room) (r1 : room ≤ 4096) (m0 : 1 ≤ most) (m1 : most ≤ 4096) (hk : k ≤ 1000) (ll1 : x.key.length ≤ 140737488355328) (ll2 : x.end_.length ≤ 140737488355328) (hs : ∀ p ∈ as_, p.x.Small) (hn : as_.length ≤ 800000000000) :
    Calls Try.prog 17 #[.pointer (some ⟨b, 0, none⟩), .int .i64 id, va] wr fun e w' => e = .returned (.bool true) ∧ L2 w w' b m room most x kv ev wk k va as_ t0 l0 t1 l1 (fun q => if q = i then true else s q) j := by
  obtain ⟨H, lo, T, y, hL, h1, h2, h3, h4, h5, h6⟩ := h
  obtain ⟨g1, g2, g3⟩ := h6 i hi
  subst hid
  rw [hsi] at g3
  obtain ⟨hW, hT⟩ := g3
  have hrev := h1
  have hW' : WI H.rev (y i) (as_.map EvP.x) ((T i).ts.map EvP.x) (T i).last := by rw [h1]; exact hW
  have hf := hW'.fed (by rw [h1]; exact h4)
  have hro := hW'.round (by rw [h1]; exact h4) most (k := j i) (by rw [h1]; exact hT)
  rw [h1] at hf hro
  refine (lfeed_calls hL _ (y i) g1 ⟨by omega, by omega, by omega, by omega, by omega, by omega⟩ (by rw [g2]; exact ll1) (by rw [g2]; exact ll2) hs (by rw [h1]; exact h4) hn (by have h1 := congrArg List.length hW.eq; have h2 := wanted_len (y i).w (y i).w.start (as_.map EvP.x); simp at h1 h2; omega)).mono fun e w' ⟨he, hL', _⟩ => ⟨he, _, lo, T, fun q => if q = i then fedW H (as_.map EvP.x) (y i) else y q, hL', h1, h2, h3, h4, h5, fun q hq => ?_⟩
  by_cases e : q = i
  · subst e
    simp only [if_true]
    exact ⟨upd_at _ _ _, by rw [hf.2.1]; exact g2, hf.1, hro⟩
  · simp only [if_neg e]
    obtain ⟨k1, k2, k3⟩ := h6 q hq
    exact ⟨by rw [upd_ne _ _ _ (by omega)]; exact k1, k2, k3⟩

theorem l2tell (h : L2 w wr b m room most x kv ev wk k va as_ t0 l0 t1 l1 s j) (i : Nat) (hi : i < 2) (id : Int) (hid : id = (i : Int) + 1) (hsi : s i = true) (tb lb : Nat) (htb : tb = if i = 0 then t0 else t1) (hlb : lb = if i = 0 then l0 else l1) (hn : as_.length ≤ 800000000000) :
    Calls Try.prog 18 #[.pointer (some ⟨b, 0, none⟩), .int .i64 id, .pointer (some ⟨tb, 0, none⟩), .pointer (some ⟨lb, 0, none⟩), .int .i64 most] wr fun e w' => e = .returned (.bool true) ∧ L2 w w' b m room most x kv ev wk k va as_ t0 l0 t1 l1 (fun q => if q = i then false else s q) (fun q => if q = i then j q + 1 else j q) := by
  obtain ⟨H, lo, T, y, hL, h1, h2, h3, h4, ⟨q0, q1, q2, q3⟩, h6⟩ := h
  obtain ⟨g1, g2, g3⟩ := h6 i hi
  subst hid
  rw [hsi] at g3
  obtain ⟨hW, hT⟩ := g3
  subst h3
  have hb := hW.len
  have hb2 := wanted_len (y i).w (y i).w.start (as_.map EvP.x)
  rw [List.length_map] at hb hb2
  have htb' : tb = (T i).tb := by
    rw [htb]; split
    · rename_i e; rw [e, q0]
    · obtain rfl : i = 1 := by omega
      rw [q2]
  have hlb' : lb = (T i).lb := by
    rw [hlb]; split
    · rename_i e; rw [e, q1]
    · obtain rfl : i = 1 := by omega
      rw [q3]
  subst htb' hlb'
  have hd := hW.drained h4 H.most
  refine (ltell_calls hL i hi _ (y i) g1 hW.ended (hW.up h4) (fun q hq => (hW.lo q hq).1) (by omega)).mono fun e w' ⟨he, lo', v', rs, hrx, hL', _⟩ => ⟨he, _, lo', _, fun q => if q = i then { y i with buf := (y i).buf.drop (cutN (y i).buf H.most) } else y q, hL', h1, h2, rfl, h4, ?_, fun q hq => ?_⟩
  · refine ⟨?_, ?_, ?_, ?_⟩
    · by_cases e : 0 = i
      · simp only [if_pos e]; rw [← e]; exact q0
      · simp only [if_neg e]; exact q0
    · by_cases e : 0 = i
      · simp only [if_pos e]; rw [← e]; exact q1
      · simp only [if_neg e]; exact q1
    · by_cases e : 1 = i
      · simp only [if_pos e]; rw [← e]; exact q2
      · simp only [if_neg e]; exact q2
    · by_cases e : 1 = i
      · simp only [if_pos e]; rw [← e]; exact q3
      · simp only [if_neg e]; exact q3
  · by_cases e : q = i
    · subst e
      simp only [if_true]
      refine ⟨upd_at _ _ _, g2, ?_, ?_⟩
      · rw [List.map_append, hrx]; exact hd.1
      · show Through k _ _ (((T q).ts ++ rs).map EvP.x) (j q + 1)
        rw [List.map_append, hrx]; exact hT
    · simp only [if_neg e]
      obtain ⟨k1, k2, k3⟩ := h6 q hq
      exact ⟨by rw [upd_ne _ _ _ (by omega)]; exact k1, k2, k3⟩

/-- What stands at the end. -/
theorem L2.done (h : L2 w wr b m room most x kv ev wk k va as_ t0 l0 t1 l1 (fun _ => false) j) (hj : as_.length < j 0 ∧ as_.length < j 1) (hn : as_.length ≤ 800000000000) : ∃ H o P y1 y2, IsHub wr b m o P H ∧ H.rev = k ∧ H.f 1 = some y1 ∧ H.f 2 = some y2 ∧ (k : Int) < y1.next ∧ (k : Int) < y2.next ∧ ∃ v1 ts1 v2 ts2, ∃ I : Nat → Prop, wr.cell? ⟨t0, 0, none⟩ = some v1 ∧ wr.cell? ⟨t1, 0, none⟩ = some v2 ∧ Evs wr I v1 ts1 ∧ Evs wr I v2 ts2 ∧ ts1.map EvP.x = ts2.map EvP.x ∧ ts1.length ≤ 800000000000 := by
  obtain ⟨H, lo, T, y, hL, h1, h2, h3, h4, ⟨q0, q1, q2, q3⟩, h6⟩ := h
  obtain ⟨o, P, g1, g2, g3⟩ := hL.hub
  obtain ⟨a1, a2, a3, a4⟩ := h6 0 (by decide)
  obtain ⟨b1, b2, b3, b4⟩ := h6 1 (by decide)
  obtain ⟨d1, d2, d3⟩ := a3.done a4 (by rw [List.length_map]; exact hj.1)
  obtain ⟨c1, c2, c3⟩ := b3.done b4 (by rw [List.length_map]; exact hj.2)
  have ht0 := hL.tt 0 (by decide)
  have ht1 := hL.tt 1 (by decide)
  have hwl := wanted_len (y 0).w (y 0).w.start (as_.map EvP.x)
  rw [← d1, List.length_map, List.length_map] at hwl
  refine ⟨H, o, P, y 0, y 1, g1, h1, a1, b1, d3, c3, (T 0).v, (T 0).ts, (T 1).v, (T 1).ts, _, by rw [← q0]; exact cell_of ht0.tbox 0, by rw [← q2]; exact cell_of ht1.tbox 0, ht0.row.evs, ht1.row.evs, ?_, by omega⟩
  rw [d1, c1, a2, b2]
end

end Go.Proofs.Ytidpiojanajpoaa
