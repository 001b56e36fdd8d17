/-
  What a feed does to a watcher (no program).
-/
import Derived.Test.YtidpiojanajpoaaHubC
import Derived.Test.YtidpiojanajpoaaHubE
import Derived.Test.YtidpiojanajpoaaFeedB
namespace Go.Proofs.Ytidpiojanajpoaa
open Go.RowKit Go.Tb Go.MapKept Go.ChangeMaps
set_option linter.unusedVariables false

theorem cutAt_ge (l : List Ev) (most : Int) : ∀ f n, n ≤ cutAt l most f n
  | 0, n => Nat.le_refl _
  | f + 1, n => by
    cases hx : l[n]? with
    | none => unfold cutAt; rw [hx]; exact Nat.le_refl _
    | some x =>
      rw [cutAt_succ l most f n x hx]
      split
      · exact Nat.le_refl _
      · exact Nat.le_trans (by omega) (cutAt_ge l most f _)
theorem cutN_pos {l : List Ev} (h : l ≠ []) (most : Int) : 1 ≤ cutN l most := by
  cases l with
  | nil => exact absurd rfl h
  | cons x r =>
    unfold cutN
    rw [List.length_cons, cutAt_succ (x :: r) most r.length 0 x rfl, if_neg (fun h => absurd h.1 (Nat.lt_irrefl 0))]
    exact Nat.le_trans (by omega) (cutAt_ge _ _ _ _)

/-- What is put into a buffer, and where the watcher stops for want of room. -/
def feedGo (room : Int) : Nat → List Ev → List Ev → List Ev × Option Int
  | 0, buf, _ => (buf, none)
  | f + 1, buf, rest => match rest with
    | [] => (buf, none)
    | r :: _ => if 0 < buf.length ∧ room - (buf.length : Int) < (cutN rest 1 : Nat) then (buf, some r.kv.mod) else feedGo room f (buf ++ rest.take (cutN rest 1)) (rest.drop (cutN rest 1))
def feedRes (room : Int) (buf rest : List Ev) : List Ev × Option Int := feedGo room rest.length buf rest
theorem feedGo_nil (room : Int) (buf : List Ev) : ∀ f, feedGo room f buf [] = (buf, none)
  | 0 => rfl
  | f + 1 => rfl
theorem feedGo_stop {room : Int} {buf rest : List Ev} {f : Nat} {r : Ev} (h0 : rest[0]? = some r) (h : 0 < buf.length ∧ room - (buf.length : Int) < (cutN rest 1 : Nat)) : feedGo room (f + 1) buf rest = (buf, some r.kv.mod) := by
  cases rest with
  | nil => cases h0
  | cons x t =>
    cases h0
    show (if _ then _ else _) = _
    rw [if_pos h]
theorem feedGo_on {room : Int} {buf rest : List Ev} {f : Nat} (h0 : rest ≠ []) (h : ¬ (0 < buf.length ∧ room - (buf.length : Int) < (cutN rest 1 : Nat))) : feedGo room (f + 1) buf rest = feedGo room f (buf ++ rest.take (cutN rest 1)) (rest.drop (cutN rest 1)) := by
  cases rest with
  | nil => exact absurd rfl h0
  | cons x t =>
    show (if _ then _ else _) = _
    rw [if_neg h]
/-- A watcher behind a feed. -/
def feedW (H : Hub) (x : Wr) (l : List Ev) : Wr := { x with buf := (feedRes H.room x.buf (sieveE x.w l)).1, next := ((feedRes H.room x.buf (sieveE x.w l)).2).getD (H.rev + 1) }

theorem upd_upd (H : Hub) (i : Int) (x y : Wr) : ({ H.upd i x with f := fun j => if j = i then some y else (H.upd i x).f j } : Hub) = H.upd i y := by
  have e : (fun j => if j = i then some y else (H.upd i x).f j) = fun j => if j = i then some y else H.f j := by
    funext j
    by_cases h : j = i
    · rw [if_pos h, if_pos h]
    · rw [if_neg h, if_neg h]; exact if_neg h
  show (⟨H.rev, H.room, H.most, H.last, _, H.n⟩ : Hub) = ⟨H.rev, H.room, H.most, H.last, _, H.n⟩
  rw [e]

/-- While a watcher is fed: its buffer is `buf`, and what is left lies in a row of the call's own. -/
structure FAt (b m blk : Nat) (own : Nat → Tg) (H : Hub) (i : Int) (x : Wr) (L : Nat) (w0 wr : World) (v : Value) (buf : List Ev) (own' : Nat → Tg) (P' : Int → Option WrP) (p : WrP) (rs : List EvP) (J : Nat → Prop) (B f : Nat) : Prop where
  hub : IsHub wr b m own' P' (H.upd i { x with buf := buf })
  hp : P' i = some p
  hb : p.blk = blk
  row : EvRow wr B J v rs
  free : ∀ k, J k ∨ sliceBlock v = some k → own' k = .no
  small : ∀ q ∈ rs, q.x.Small
  fuel : rs.length ≤ f
  few : buf.length + rs.length ≤ L
  agree : ∀ k, k < w0.heap.size → own' k = own k
  u : Upd (fun k => own k ≠ .no) w0 wr

theorem FAt.wr {b m blk : Nat} {own : Nat → Tg} {H : Hub} {i : Int} {x : Wr} {L : Nat} {w0 wr : World} {v : Value} {buf : List Ev} {own' : Nat → Tg} {P' : Int → Option WrP} {p : WrP} {rs : List EvP} {J : Nat → Prop} {B f : Nat} (h : FAt b m blk own H i x L w0 wr v buf own' P' p rs J B f) : WrOk wr own' i p { x with buf := buf } := by
  obtain ⟨y, hy, hw⟩ := h.hub.wt i p h.hp
  have h1 : (if i = i then some { x with buf := buf } else H.f i) = some y := hy
  rw [if_pos rfl] at h1
  cases h1
  exact hw

/-- The watcher's next revision is set. -/
theorem FAt.setNext {b m blk : Nat} {own : Nat → Tg} {H : Hub} {i : Int} {x : Wr} {L : Nat} {w0 wr : World} {v : Value} {buf : List Ev} {own' : Nat → Tg} {P' : Int → Option WrP} {p : WrP} {rs : List EvP} {J : Nat → Prop} {B f : Nat} (h : FAt b m blk own H i x L w0 wr v buf own' P' p rs J B f) (r : Int) (wc : World) (hu : Upd (fun _ => False) wr wc) :
    ∃ own2 P2, IsHub (wc.setCell ⟨blk, 6, none⟩ (.int .i64 r)) b m own2 P2 (H.upd i { x with buf := buf, next := r }) ∧ (∀ k, k < w0.heap.size → own2 k = own k) ∧ Upd (fun k => own k ≠ .no) w0 (wc.setCell ⟨blk, 6, none⟩ (.int .i64 r)) := by
  have hw := h.wr
  have hb := h.hb
  have hwc : WrOk wc own' i p { x with buf := buf } := hw.upd hu (fun k s => s.elim) (fun _ _ => rfl)
  obtain ⟨J0, hr0, hJ0⟩ := hwc.row
  have hset : Upd (fun k => k = p.blk) wc (wc.setCell ⟨blk, 6, none⟩ (.int .i64 r)) := upd_setCell _ _ _ _ hb.symm
  have hpb : ∀ k, sliceBlock p.b.v = some k → k ≠ p.blk := fun k hk e => by have h1 := hw.ob k hk; rw [e, hw.ow] at h1; cases h1
  have hu2 : Upd (fun k => k = p.blk ∨ sliceBlock p.b.v = some k) wr (wc.setCell ⟨blk, 6, none⟩ (.int .i64 r)) := (hu.weak _).trans' hset (fun k _ e => .inl e)
  obtain ⟨own2, h2, h3, -⟩ := h.hub.put (x := { x with buf := buf }) (p' := p) (x' := { x with buf := buf, next := r }) h.hp (if_pos rfl) hu2 (by
      rw [← hb, heap_setCell_at hwc.blk 6 _]
      simp only [wrenc, List.setIfInBounds_toArray, List.set_cons_succ, List.set_cons_zero]) rfl rfl rfl rfl
    ⟨hr0.upd hset hpb (fun k hk e => by have h1 := hJ0 k hk; rw [e, hw.ow] at h1; cases h1), fun k hk => .inl (hJ0 k hk)⟩ (fun k hk => .inl hk) hw.eq hw.nb hw.small
  rw [upd_upd] at h2
  refine ⟨own2, _, h2, fun k hk => by rw [h3 k (Nat.lt_of_lt_of_le hk h.u.size)]; exact h.agree k hk, (h.u.trans (hu.weak _)).trans' hset (fun k hk e => ?_)⟩
  rw [← h.agree k hk, e, hw.ow]; simp

/-- The first revision goes into the buffer. -/
theorem FAt.step {b m blk : Nat} {own : Nat → Tg} {H : Hub} {i : Int} {x : Wr} {L : Nat} {w0 wr : World} {v : Value} {buf : List Ev} {own' : Nat → Tg} {P' : Int → Option WrP} {p : WrP} {rs : List EvP} {J : Nat → Prop} {B f : Nat} (h : FAt b m blk own H i x L w0 wr v buf own' P' p rs J B f) (hL : L ≤ 800000000000) (hne : rs ≠ [])
    {wm X : World} {a1 a2 : Option Addr} {c1 c2 : Nat} {rs1 rs2 : List EvP} {J1 J2 : Nat → Prop} (hx1 : rs1.map EvP.x = (rs.map EvP.x).take (cutN (rs.map EvP.x) 1)) (hx2 : rs2.map EvP.x = (rs.map EvP.x).drop (cutN (rs.map EvP.x) 1)) (s1 : wr.heap.size ≤ wm.heap.size) (s2 : wm.heap.size ≤ X.heap.size)
    (hr1 : EvRow X wr.heap.size J1 (.slice a1 rs1.length c1) rs1) (hb1 : ∀ b, sliceBlock (.slice a1 rs1.length c1) = some b → b < wm.heap.size) (hj1 : ∀ b, J1 b → b < wm.heap.size) (hr2 : EvRow X wm.heap.size J2 (.slice a2 rs2.length c2) rs2) (hu : Upd (fun _ => False) wr X) :
    ∃ (a' : Option Addr) (N c' : Nat) (w3 : World), (∀ ty, (Builtin.append_ #[32, 32] ty #[.slice p.b.a p.b.n p.b.c, .slice a1 rs1.length c1]).run Try.prog X = .ok (.slice a' N c') w3) ∧ w3.frozen? ⟨blk, 7, none⟩ = false ∧ w3.cell? ⟨blk, 7, none⟩ = some (.slice p.b.a p.b.n p.b.c) ∧
      ∃ own2 P2 p2, FAt b m blk own H i x L w0 (w3.setCell ⟨blk, 7, none⟩ (.slice a' N c')) (.slice a2 rs2.length c2) (buf ++ (rs.map EvP.x).take (cutN (rs.map EvP.x) 1)) own2 P2 p2 rs2 J2 wm.heap.size (f - 1) ∧ rs2.length < rs.length := by
  have hw := h.wr
  have hb := h.hb
  have hwX : WrOk X own' i p { x with buf := buf } := hw.upd hu (fun k s => s.elim) (fun _ _ => rfl)
  obtain ⟨J0, hr0, hJ0⟩ := hwX.row
  obtain ⟨J9, hr9, -⟩ := hw.row
  have hpl := lt_of_heap hw.blk
  have l0 : p.ps.length = buf.length := by rw [← List.length_map (f := EvP.x), hw.eq]
  have hcn := cutN_le (rs.map EvP.x) 1
  have hcp : 1 ≤ cutN (rs.map EvP.x) 1 := cutN_pos (fun e => hne (List.map_eq_nil_iff.1 e)) 1
  rw [List.length_map] at hcn
  have l1 : rs1.length = cutN (rs.map EvP.x) 1 := by
    have := congrArg List.length hx1
    simp at this; omega
  have l2 : rs2.length + cutN (rs.map EvP.x) 1 = rs.length := by
    have := congrArg List.length hx2
    simp at this; omega
  have hfew := h.few
  obtain ⟨a', c', w3, hap, hr3, hu3, hbk⟩ := hr0.append (hr1.evs) (fun k hk => ⟨Nat.zero_le _, (hr1.ge k hk).2⟩) (fun k hk e => by have := (hr9.blk k hk).2; have := (hr1.ge k e).1; omega) (Nat.zero_le _) (by omega)
  have hpb : ∀ k, sliceBlock p.b.v = some k → k ≠ p.blk := fun k hk e => by have h1 := hw.ob k hk; rw [e, hw.ow] at h1; cases h1
  have hb3 := hu3.heap hwX.blk (fun e => hpb _ e rfl)
  rw [hb] at hb3
  refine ⟨a', _, c', w3, hap, free_of hb3 7, cell_of hb3 7, ?_⟩
  have hset : Upd (fun k => k = p.blk) w3 (w3.setCell ⟨blk, 7, none⟩ (.slice a' (p.ps ++ rs1).length c')) := upd_setCell _ _ _ _ hb.symm
  have hu4 : Upd (fun k => k = p.blk ∨ sliceBlock p.b.v = some k) wr (w3.setCell ⟨blk, 7, none⟩ (.slice a' (p.ps ++ rs1).length c')) := ((hu.weak _).trans' hu3 (fun k _ e => .inr e)).trans' hset (fun k _ e => .inl e)
  have hf1 : ∀ k, J2 k → ¬ (k = p.blk ∨ sliceBlock p.b.v = some k) := fun k hk e => by
    have h1 := (hr2.ge k hk).1
    rcases e with e | e
    · omega
    · have := (hr9.blk k e).2; omega
  have hf2 : ∀ k, sliceBlock (.slice a2 rs2.length c2) = some k → ¬ (k = p.blk ∨ sliceBlock p.b.v = some k) := fun k hk e => by
    have h1 := (hr2.blk k hk).1
    rcases e with e | e
    · omega
    · have := (hr9.blk k e).2; omega
  have hnewblk : ∀ k, sliceBlock (.slice a' (p.ps ++ rs1).length c') = some k → sliceBlock p.b.v = some k ∨ X.heap.size ≤ k := fun k hk => by
    rcases hbk with q | q
    · exact .inl (q ▸ hk)
    · rw [q] at hk; cases hk; exact .inr (Nat.le_refl _)
  obtain ⟨own2, h2, h3, h4⟩ := h.hub.put (x := { x with buf := buf }) (p' := { p with b := ⟨a', (p.ps ++ rs1).length, c'⟩, ps := p.ps ++ rs1 }) (x' := { x with buf := buf ++ (rs.map EvP.x).take (cutN (rs.map EvP.x) 1) }) h.hp (if_pos rfl) hu4 (by
      rw [hb, heap_setCell_at hb3 7 _]
      simp only [wrenc, List.setIfInBounds_toArray, List.set_cons_succ, List.set_cons_zero]
      rfl) rfl rfl rfl rfl
    ⟨hr3.upd hset (fun k hk e => by
        rcases hnewblk k hk with q | q
        · exact hpb k q e
        · have := hu.size; have e' : k = p.blk := e; omega) (fun k hk e => by
        rcases hk with q | q
        · have h1 := hJ0 k q; rw [show k = p.blk from e, hw.ow] at h1; cases h1
        · have := (hr1.ge k q).1; have e' : k = p.blk := e; omega), fun k hk => hk.elim (fun q => .inl (hJ0 k q)) (fun q => .inr (hr1.ge k q).1)⟩ (fun k hk => (hnewblk k hk).imp id (fun q => Nat.le_trans hu.size q)) (by rw [List.map_append, hw.eq, hx1]) (by
      show (p.ps ++ rs1).length = (buf ++ _).length
      rw [List.length_append, List.length_append, l0, ← hx1, List.length_map]) (fun y hy => by
      rcases List.mem_append.1 hy with hy | hy
      · exact hw.small y hy
      · have hy' := List.mem_of_mem_take hy
        obtain ⟨q, hq, rfl⟩ := List.mem_map.1 hy'
        exact h.small q hq)
  rw [upd_upd] at h2
  have sX := hu3.size
  refine ⟨own2, _, _, { hub := h2, hp := if_pos rfl, hb := hb, row := (hr2.upd hu3 (fun k hk e => hf2 k hk (.inr e)) (fun k hk e => hf1 k hk (.inr e))).upd hset (fun k hk e => hf2 k hk (.inl e)) (fun k hk e => hf1 k hk (.inl e)), free := fun k hk => ?_, small := fun q hq => ?_, fuel := by have := h.fuel; omega, few := ?_, agree := fun k hk => by rw [h3 k (Nat.lt_of_lt_of_le hk h.u.size)]; exact h.agree k hk, u := ?_ }, by omega⟩
  · have hk1 : wm.heap.size ≤ k ∧ k < X.heap.size := hk.elim (fun q => hr2.ge k q) (fun q => hr2.blk k q)
    cases e : own2 k with
    | no => rfl
    | _ =>
      exfalso
      rcases h4 k (by omega) (by rw [e]; simp) with q | q
      · rcases hnewblk k q with q | q
        · have := (hr9.blk k q).2; omega
        · omega
      · rcases q with q | q
        · have h1 := (hr0.ge k q).2
          have h5 := hJ0 k q
          have h6 := h.hub.lt k (by rw [h5]; simp)
          omega
        · have := hj1 k q; omega
  · have h1 : q.x ∈ (rs.map EvP.x).drop (cutN (rs.map EvP.x) 1) := by rw [← hx2]; exact List.mem_map_of_mem hq
    obtain ⟨r, hr, e⟩ := List.mem_map.1 (List.mem_of_mem_drop h1)
    rw [← e]; exact h.small r hr
  · rw [List.length_append, ← hx1, List.length_map]; omega
  · refine (h.u.trans (hu.weak _)).trans' (hu3.seq hset (fun k => sliceBlock p.b.v = some k ∨ k = p.blk) (fun _ _ e => .inl e) (fun _ _ e => .inr e)) (fun k hk e => ?_)
    rw [← h.agree k hk]
    rcases e with e | e
    · rw [hw.ob k e]; simp
    · rw [e, hw.ow]; simp

end Go.Proofs.Ytidpiojanajpoaa
