/-
  The document's disk: New.
-/
import Derived.Test.YteokbokgiejmpaaPDiskC
import Derived.Test.YteokbokgiejmpaaRegInv
namespace Go.Proofs.Yteokbokgiejmpaa
open Go.RowKit Go.Tb Go.MapKept Go.ChangeMaps
set_option linter.unusedVariables false

/-- A page more on the disk. -/
theorem RDAt.addP {P : Nat → Prop} {w w5 : World} {b : Nat} {D : RD} {cv : Value} {ca : Option Addr} {n cc : Nat} {rows : List KRow} {cs : List WRow} (h : RDAt P w b D (.slice ca n cc) cv rows cs) (hu : Upd (fun _ => False) w w5) {g5 c5 : Nat} {l : List UInt8} (hg5 : w.heap.size ≤ g5) (hg6 : g5 < w5.heap.size)
    (hby : Bytes w5 (.slice (some ⟨g5, 0, none⟩) l.length c5) l) (hl : l.length = 256) (hn : rows.length ≤ 100000) :
    ∃ a2 c2 w7, (∀ ty, (Builtin.append_ #[59, 59] ty #[.slice ca n cc, .slice (some ⟨w5.heap.size, 0, none⟩) 1 1]).run Try.prog (w5.alloc (.cells #[.slice (some ⟨g5, 0, none⟩) l.length c5] 29)) = .ok (.slice a2 (n + 1) c2) w7) ∧
      w7.frozen? ⟨b, 0, none⟩ = false ∧ (∃ u, w7.cell? ⟨b, 0, none⟩ = some u) ∧ RDAt (PN P w w7) (w7.setCell ⟨b, 0, none⟩ (.slice a2 (n + 1) c2)) b { D with pages := D.pages ++ [l] } (.slice a2 (n + 1) c2) cv (rows ++ [((some ⟨g5, 0, none⟩, c5), l)]) cs ∧ Upd P w (w7.setCell ⟨b, 0, none⟩ (.slice a2 (n + 1) c2)) := by
  have h5 := h.grow hu
  have hcown := h.pown
  obtain ⟨a', c', e, hle⟩ := own_shape hcown
  injection e with e1 e2 e3
  subst e1 e3 e2
  have hua := upd_alloc (fun _ => False) w5 (.cells #[.slice (some ⟨g5, 0, none⟩) l.length c5] 29)
  have h6 := h5.grow hua
  obtain ⟨a2, c2, w7, hap, hown7, hu7, hbl⟩ := run_append_one (P := Try.prog) (w := w5.alloc (.cells #[.slice (some ⟨g5, 0, none⟩) l.length c5] 29)) (t := 59) Try.underlying59 info_bytes rfl (by decide) renc_length renc_one (l := rows) (base := 0) (((some ⟨g5, 0, none⟩, c5), l) : KRow) h6.pown (heap_alloc w5 _).1 (Nat.zero_le _) (by unfold maxLen; omega) (by omega)
  have hs6 : (w5.alloc (.cells #[.slice (some ⟨g5, 0, none⟩) l.length c5] 29)).heap.size = w5.heap.size + 1 := by simp
  have hb7 := hu7.heap h6.blk h.s1
  have hset := upd_setCell (fun k => k = b) w7 ⟨b, 0, none⟩ (.slice a2 (rows.length + 1) c2) rfl
  have hnew : ∀ k, sliceBlock (.slice a2 (rows.length + 1) c2) = some k → sliceBlock (.slice ca rows.length cc) = some k ∨ k = w5.heap.size + 1 := fun k hk => by
    rcases hbl with q | q
    · rw [hk] at q; exact .inl q.symm
    · rw [hk, hs6] at q; injection q with q; exact .inr q
  have hws : w.heap.size ≤ w5.heap.size := hu.size
  have hlt7 : ∀ k, sliceBlock (.slice a2 (rows.length + 1) c2) = some k → k < w7.heap.size := fun k hk => (own_ge hown7 k hk).2
  have hW : ∀ r, RowsAt P w b (.slice ca rows.length cc) cv r → RowsAt (PN P w w7) (w7.setCell ⟨b, 0, none⟩ (.slice a2 (rows.length + 1) c2)) b (.slice a2 (rows.length + 1) c2) cv r := fun r hr =>
    { by_ := (((hr.by_.upd hu (fun _ _ x => x)).upd hua (fun _ _ x => x)).upd hu7 (fun k hk e => (hr.ap k hk).2.2.1 e)).upd hset (fun k hk e => (hr.ap k hk).2.1 e), len := hr.len,
      ap := fun k hk => ⟨.inl (hr.ap k hk).1, (hr.ap k hk).2.1, fun e => by
        rcases hnew k e with q | q
        · exact (hr.ap k hk).2.2.1 q
        · have := h.lt k (hr.ap k hk).1; omega, (hr.ap k hk).2.2.2⟩ }
  have huP : Upd P w (w7.setCell ⟨b, 0, none⟩ (.slice a2 (rows.length + 1) c2)) := (((hu.trans hua).weak P).trans (hu7.mono (fun k _ e => h.pp k e))).trans (hset.mono (fun k _ e => by rw [e]; exact h.pb))
  refine ⟨a2, c2, w7, hap, free_of hb7 0, ⟨_, cell_of hb7 0⟩, ?_, huP⟩
  refine { blk := by rw [heap_setCell_at hb7 0 _]; rfl, cown := own_upd' (own_upd' h6.cown hu7 (fun k hk e => h.s3 k e hk)) hset (fun k hk e => h.s2 (by rw [← e]; exact hk)), pown := own_upd' hown7 hset (fun k hk e => ?_), cache := h.cache, pages := ?_, cby := fun c hc => hW c.2 (h.cby c hc), pby := fun r hr => ?_, s2 := h.s2, s1 := fun e => ?_, s3 := fun k hk e => ?_, pb := .inl h.pb, pc := fun k hk => .inl (h.pc k hk), pp := fun k hk => ?_, lt := fun k hk => ?_ }
  · rcases hnew k hk with q | q
    · exact h.s1 (by rw [← e]; exact q)
    · have := h.lt b h.pb; omega
  · rw [List.map_append, h.pages]; rfl
  · rcases List.mem_append.1 hr with hr | hr
    · exact hW r (h.pby r hr)
    · rw [List.mem_singleton.1 hr]
      refine { by_ := ((hby.upd hua (fun _ _ x => x)).upd hu7 (fun k hk e => ?_)).upd hset (fun k hk e => ?_), len := hl, ap := fun k hk => ?_ }
      · have e0 : g5 = k := Option.some.inj hk
        have := h.lt k (h.pp k e); omega
      · have e0 : g5 = k := Option.some.inj hk
        have := h.lt b h.pb; omega
      · have e0 : g5 = k := Option.some.inj hk
        subst e0
        refine ⟨.inr ⟨hg5, by have := hu7.size; omega⟩, fun e => by have := h.lt b h.pb; omega, fun e => ?_, fun e => by have := h.lt g5 (h.pc g5 e); omega⟩
        rcases hnew g5 e with q | q
        · have := h.lt g5 (h.pp g5 q); omega
        · omega
  · rcases hnew b e with q | q
    · exact h.s1 q
    · have := h.lt b h.pb; omega
  · rcases hnew k hk with q | q
    · exact h.s3 k q e
    · have := h.lt k (h.pc k e); omega
  · rcases hnew k hk with q | q
    · exact .inl (h.pp k q)
    · exact .inr ⟨by omega, hlt7 k hk⟩
  · have h1 := huP.size
    rcases hk with hk | hk
    · have := h.lt k hk; omega
    · simp; exact hk.2

theorem ex_assign {P : Program} {o : Oper} {ρ : Operand → Value} {x : Operand} {v : Value} {w : World} (ho : o.op = .assign x) (hx : ρ x = v) : (execOp ρ o).run P w = .ok (.value v) w := by
  subst hx; unfold execOp; rw [ho]; rfl
theorem ex_make1 {P : Program} {o : Oper} {ρ : Operand → Value} {x : Operand} {t : TypeId} {u v : Value} {w w' : World} (ho : o.op = .buildSlice t 1 #[(0, x)]) (hx : ρ x = u) (hr : (Instr.buildSlice t 1 #[(0, u)]).run P w = .ok v w') : (execOp ρ o).run P w = .ok (.value v) w' := by
  subst hx; unfold execOp; rw [ho]; simp [hr, Result.andThen]
theorem ex_mkSlice {P : Program} {o : Oper} {ρ : Operand → Value} {x y : Operand} {t : TypeId} {a b v : Value} {w w' : World} (ho : o.op = .makeSlice t x y) (hx : ρ x = a) (hy : ρ y = b) (hr : (Instr.makeSlice t a b).run P w = .ok v w') : (execOp ρ o).run P w = .ok (.value v) w' := by
  subst hx; subst hy; unfold execOp; rw [ho]; simp [hr, Result.andThen]

def newW (W0 W1 W2 W3 W4 : World) (D : Nat → Bool) : World := if D 10 = true then W4 else if D 7 = true then W3 else if D 6 = true then W2 else if D 5 = true then W1 else W0
/-- What stands in the midst of the region that makes a page. -/
def NewJ (W0 W1 W2 W3 W4 : World) (b : Nat) (V PG R1 V2 : Value) (D : Nat → Bool) (f : Nat → Value) (w : World) : Prop :=
  (D 0 = true → f 12 = .pointer (some ⟨b, 0, none⟩)) ∧ (D 1 = true → f 13 = .pointer (some ⟨b, 0, none⟩)) ∧ (D 2 = true → f 14 = .pointer (some ⟨b, 0, none⟩)) ∧ (D 3 = true → f 15 = .pointer (some ⟨b, 0, none⟩)) ∧ (D 4 = true → f 16 = V) ∧ (D 5 = true → f 17 = PG) ∧ (D 6 = true → f 18 = R1) ∧ (D 7 = true → f 19 = V2) ∧ (D 8 = true → f 20 = .pointer (some ⟨b, 0, none⟩)) ∧ (D 9 = true → f 21 = .pointer (some ⟨b, 0, none⟩)) ∧
    (D 6 = true → D 5 = true) ∧ (D 7 = true → D 6 = true ∧ D 4 = true) ∧ (D 10 = true → D 7 = true) ∧ w = newW W0 W1 W2 W3 W4 D
def NewF (b : Nat) (a0 : Act) : Prop := a0.tmps.size = 23 ∧ a0.eval (.tmp 3) = .pointer (some ⟨b, 0, none⟩)
theorem off_of {x y : Bool} (h : x = true → y = true) (hy : y = false) : x = false := by cases x with | false => rfl | true => exact absurd (h rfl) (by rw [hy]; decide)

theorem fldD (b : Nat) (w : World) : (Instr.fieldAt 62 (.pointer (some ⟨b, 0, none⟩)) 0).run Try.prog w = .ok (.pointer (some ⟨b, 0, none⟩)) w := by kernel_rfl
theorem ldR (b : Nat) (a : Option Addr) (n c : Nat) (w : World) (h : w.cell? ⟨b, 0, none⟩ = some (.slice a n c)) : (Instr.loadAt 59 (.pointer (some ⟨b, 0, none⟩))).run Try.prog w = .ok (.slice a n c) w := by
  have hu := Try.underlying59
  go_simp
theorem stR (w : World) (b : Nat) (a : Option Addr) (n c : Nat) (u : Value) (h : w.cell? ⟨b, 0, none⟩ = some u) (hf : w.frozen? ⟨b, 0, none⟩ = false) : (Instr.storeAt 59 (.pointer (some ⟨b, 0, none⟩)) (.slice a n c)).run Try.prog w = .ok () (w.setCell ⟨b, 0, none⟩ (.slice a n c)) := by
  have hu := Try.underlying59
  go_simp
theorem mkR (g : Nat) (w : World) : (Instr.buildSlice 59 1 #[(0, .slice (some ⟨g, 0, none⟩) 256 256)]).run Try.prog w = .ok (.slice (some ⟨w.heap.size, 0, none⟩) 1 1) (w.alloc (.cells #[.slice (some ⟨g, 0, none⟩) 256 256] 29)) := by kernel_rfl

set_option maxRecDepth 100000 in
set_option maxHeartbeats 1000000 in
theorem new_steps (ops : Array Oper) (hops : Try.f25.body.bind (regionOf 5) = some ops) (a0 : Act) (Q : Exit → Act → World → Prop) (W0 W1 W2 W3 W4 : World) (b : Nat) (V PG R1 V2 : Value) (hF : NewF b a0)
    (l0 : (Instr.loadAt 59 (.pointer (some ⟨b, 0, none⟩))).run Try.prog W0 = .ok V W0) (l1 : (Instr.loadAt 59 (.pointer (some ⟨b, 0, none⟩))).run Try.prog W1 = .ok V W1) (l2 : (Instr.loadAt 59 (.pointer (some ⟨b, 0, none⟩))).run Try.prog W2 = .ok V W2)
    (m0 : (Instr.makeSlice 29 (.int .i64 256) (.int .i64 256)).run Try.prog W0 = .ok PG W1) (m1 : (Instr.buildSlice 59 1 #[(0, PG)]).run Try.prog W1 = .ok R1 W2) (m2 : ∀ ty, (Builtin.append_ #[59, 59] ty #[V, R1]).run Try.prog W2 = .ok V2 W3) (m3 : (Instr.storeAt 59 (.pointer (some ⟨b, 0, none⟩)) V2).run Try.prog W3 = .ok () W4) :
    InvSteps Try.prog ops Q a0 [12, 13, 14, 15, 16, 17, 18, 19, 20, 21] (NewJ W0 W1 W2 W3 W4 b V PG R1 V2) 0 ops.toList := by
  obtain rfl := Option.some.inj (hops.symm.trans (show Try.f25.body.bind (regionOf 5) = some _ from rfl))
  obtain ⟨hsz, e3⟩ := hF
  have nd : [12, 13, 14, 15, 16, 17, 18, 19, 20, 21].Nodup := by decide
  simp only [InvSteps]
  refine ⟨?_, ?_, ?_, ?_, ?_, ?_, ?_, ?_, ?_, ?_, ?_, trivial⟩
  all_goals refine inv_of (by rfl) ?_
  all_goals rintro D f wr ⟨k0, k1, k2, k3, k4, k5, k6, k7, k8, k9, c6, c7, c10, jw⟩ hD hdep K hK
  all_goals simp [Region.binds] at hdep
  · exact opwp_exec (d := 12) (by rfl) nd (by decide) (ex_move (x := .tmp 3) (by rfl) ((eval_out (by decide)).trans e3)) (hK _ _ ⟨fun _ => rfl, k1, k2, k3, k4, k5, k6, k7, k8, k9, c6, c7, c10, jw⟩)
  · exact opwp_exec (d := 13) (by rfl) nd (by decide) (ex_move (x := .tmp 3) (by rfl) ((eval_out (by decide)).trans e3)) (hK _ _ ⟨k0, fun _ => rfl, k2, k3, k4, k5, k6, k7, k8, k9, c6, c7, c10, jw⟩)
  · have d1 : D 1 = true := by simp_all
    exact opwp_exec (d := 14) (by rfl) nd (by decide) (ex_nil (x := .tmp 13) (by rfl) ((eval_in nd (by decide) (by omega)).trans (k1 d1))) (hK _ _ ⟨k0, k1, fun _ => rfl, k3, k4, k5, k6, k7, k8, k9, c6, c7, c10, jw⟩)
  · have d2 : D 2 = true := by simp_all
    exact opwp_exec (d := 15) (by rfl) nd (by decide) (ex_field (x := .tmp 14) (by rfl) ((eval_in nd (by decide) (by omega)).trans (k2 d2)) (fldD b _)) (hK _ _ ⟨k0, k1, k2, fun _ => rfl, k4, k5, k6, k7, k8, k9, c6, c7, c10, jw⟩)
  · have d3 : D 3 = true := by simp_all
    have g7 := off_of (fun h => (c7 h).2) hD
    have g10 := off_of c10 g7
    refine opwp_exec (d := 16) (by rfl) nd (by decide) (v := V) (w' := wr) (ex_load (x := .tmp 15) (by rfl) ((eval_in nd (by decide) (by omega)).trans (k3 d3)) ?_) (hK _ _ ⟨k0, k1, k2, k3, fun _ => rfl, k5, k6, k7, k8, k9, c6, fun h => ⟨(c7 h).1, rfl⟩, c10, jw⟩)
    rw [jw]
    unfold newW
    rw [g10, g7]
    cases h6 : D 6
    · cases D 5
      · exact l0
      · exact l1
    · exact l2
  · have g6 := off_of c6 hD
    have g7 := off_of (fun h => (c7 h).1) g6
    have g10 := off_of c10 g7
    have ew : wr = W0 := by rw [jw]; unfold newW; rw [g10, g7, g6, hD]; rfl
    subst ew
    exact opwp_exec (d := 17) (by rfl) nd (by decide) (ex_mkSlice (x := .const (.int .i64 256)) (y := .const (.int .i64 256)) (by rfl) rfl rfl m0) (hK _ _ ⟨k0, k1, k2, k3, k4, fun _ => rfl, k6, k7, k8, k9, fun _ => rfl, c7, c10, by show _ = newW _ _ _ _ _ _; unfold newW; simp [g10, g7, g6]⟩)
  · have d5 : D 5 = true := by simp_all
    have g7 := off_of (fun h => (c7 h).1) hD
    have g10 := off_of c10 g7
    have ew : wr = W1 := by rw [jw]; unfold newW; rw [g10, g7, hD, d5]; rfl
    subst ew
    exact opwp_exec (d := 18) (by rfl) nd (by decide) (ex_make1 (x := .tmp 17) (by rfl) ((eval_in nd (by decide) (by omega)).trans (k5 d5)) m1) (hK _ _ ⟨k0, k1, k2, k3, k4, k5, fun _ => rfl, k7, k8, k9, fun _ => d5, fun h => ⟨rfl, (c7 h).2⟩, c10, by show _ = newW _ _ _ _ _ _; unfold newW; simp [g10, g7]⟩)
  · have d4 : D 4 = true := by simp_all
    have d6 : D 6 = true := by simp_all
    have g10 := off_of c10 hD
    have ew : wr = W2 := by rw [jw]; unfold newW; rw [g10, hD, d6]; rfl
    subst ew
    exact opwp_exec (d := 19) (by rfl) nd (by decide) (ex_append (x := .tmp 16) (y := .tmp 18) (by rfl) ((eval_in nd (by decide) (by omega)).trans (k4 d4)) ((eval_in nd (by decide) (by omega)).trans (k6 d6)) m2) (hK _ _ ⟨k0, k1, k2, k3, k4, k5, k6, fun _ => rfl, k8, k9, c6, fun _ => ⟨d6, d4⟩, fun _ => rfl, by show _ = newW _ _ _ _ _ _; unfold newW; simp [g10]⟩)
  · have d0 : D 0 = true := by simp_all
    exact opwp_exec (d := 20) (by rfl) nd (by decide) (ex_nil (x := .tmp 12) (by rfl) ((eval_in nd (by decide) (by omega)).trans (k0 d0))) (hK _ _ ⟨k0, k1, k2, k3, k4, k5, k6, k7, fun _ => rfl, k9, c6, c7, c10, jw⟩)
  · have d8 : D 8 = true := by simp_all
    exact opwp_exec (d := 21) (by rfl) nd (by decide) (ex_field (x := .tmp 20) (by rfl) ((eval_in nd (by decide) (by omega)).trans (k8 d8)) (fldD b _)) (hK _ _ ⟨k0, k1, k2, k3, k4, k5, k6, k7, k8, fun _ => rfl, c6, c7, c10, jw⟩)
  · have d7 : D 7 = true := by simp_all
    have d9 : D 9 = true := by simp_all
    have ew : wr = W3 := by rw [jw]; unfold newW; rw [hD, d7]; rfl
    subst ew
    exact opwp_skip (by rfl) (ex_store (x := .tmp 21) (y := .tmp 19) (by rfl) ((eval_in nd (by decide) (by omega)).trans (k9 d9)) ((eval_in nd (by decide) (by omega)).trans (k7 d7)) m3) (hK _ _ ⟨k0, k1, k2, k3, k4, k5, k6, k7, k8, k9, c6, c7, fun _ => d7, by show _ = newW _ _ _ _ _ _; unfold newW; simp⟩)

def RD.start (n : Nat) : RD := { pages := List.replicate n zeros, cache := [], fuse := -1, dead := false, done := 0 }

set_option maxRecDepth 100000 in
set_option maxHeartbeats 2000000 in
theorem rnew_calls (n : Nat) (w : World) (hn : n ≤ 1024) :
    Calls Try.prog 25 #[.int .i64 (n : Int)] w fun e w' => e = .returned (.pointer (some ⟨w.heap.size, 0, none⟩)) ∧ IsRD (fun k => w.heap.size ≤ k ∧ k < w'.heap.size) w' w.heap.size (RD.start n) ∧ Upd (fun _ => False) w w' := by
  have hmk := run_make_page
  have hua := upd_alloc (fun _ => False) w (.cells #[.slice none 0 0, .slice none 0 0, .int .i64 (-1), .bool false, .int .i64 0] 62)
  have ha := heap_alloc w (.cells #[.slice none 0 0, .slice none 0 0, .int .i64 (-1), .bool false, .int .i64 0] 62)
  have h0 : RDAt (fun k => w.heap.size ≤ k ∧ k < (w.alloc (.cells #[.slice none 0 0, .slice none 0 0, .int .i64 (-1), .bool false, .int .i64 0] 62)).heap.size) (w.alloc (.cells #[.slice none 0 0, .slice none 0 0, .int .i64 (-1), .bool false, .int .i64 0] 62)) w.heap.size (RD.start 0) (.slice none 0 0) (.slice none 0 0) [] [] :=
    { blk := ha.1, pown := ⟨rfl, .inl ⟨rfl, rfl⟩⟩, cown := ⟨rfl, .inl ⟨rfl, rfl⟩⟩, pages := rfl, cache := rfl, pby := fun r hr => (List.not_mem_nil hr).elim, cby := fun r hr => (List.not_mem_nil hr).elim, s1 := fun e => (by cases e), s2 := fun e => (by cases e), s3 := fun k hk => (by cases hk), pb := ⟨Nat.le_refl _, by simp⟩, pp := fun k hk => (by cases hk), pc := fun k hk => (by cases hk), lt := fun k hk => hk.2 }
  have H0 := Lib.hid h0
  have HUA := Lib.hid hua
  clear h0 ha hua
  go_enter Try.func25, Try.ntmps25
  go_upto_region 3 with (fail)
  generalize w.alloc (.cells #[.slice none 0 0, .slice none 0 0, .int .i64 (-1), .bool false, .int .i64 0] 62) = w0 at *
  go_loopw [4] (fun i wr => ∃ j : Nat, j ≤ n ∧ i = .int .i64 j ∧ Upd (fun _ => False) w wr ∧ ∃ pa pc rws, RDAt (fun k => w.heap.size ≤ k ∧ k < wr.heap.size) wr w.heap.size (RD.start j) (.slice pa j pc) (.slice none 0 0) rws []) (fun i _ => n - (intOf i).toNat)
  case atStart => exact ⟨0, Nat.zero_le _, rfl, HUA.out, _, _, _, H0.out⟩
  case round =>
    clear H0 HUA
    obtain ⟨j, hj, rfl, hu, pa, pc, rws, hr⟩ := hrel
    have HU := Lib.hid hu
    have HR := Lib.hid hr
    by_cases hlt : j < n
    · have c0 : wr.drew.cell? ⟨w.heap.size, 0, none⟩ = some (.slice pa j pc) := cell_of hr.blk 0
      have hb : w.heap.size < wr.drew.heap.size := lt_of_heap hr.blk
      have hrl : rws.length = j := by rw [hr.np]; simp [RD.start]
      have hmu := upd_alloc (fun _ => False) wr.drew (.cells (madeCells #[.int .u8 0] 256) 5)
      have hby := bytes_made wr.drew
      have hsz1 : (wr.drew.alloc (.cells (madeCells #[.int .u8 0] 256) 5)).heap.size = wr.drew.heap.size + 1 := by simp
      obtain ⟨a7, c7, w7, hap, f7, ⟨u7, g7⟩, hr7, hu7⟩ := hr.addP (w5 := wr.drew.alloc (.cells (madeCells #[.int .u8 0] 256) 5)) (g5 := wr.drew.heap.size) (c5 := 256) (l := zeros) ((Upd.refl _ _).drew.trans hmu) (Nat.le_refl _) (by omega) (by rw [zeros_length]; exact hby) zeros_length (by omega)
      rw [zeros_length, hsz1] at hap
      have hdr : wr.drew.heap.size = wr.heap.size := rfl
      rw [hdr] at hap
      have hb2 : w.heap.size < wr.heap.size := hb
      have hb3 : w.heap.size < wr.heap.size + 1 := by omega
      have c0a := hmu.cell c0 (fun x => x)
      have c0b := (upd_alloc (fun _ => False) (wr.drew.alloc (.cells (madeCells #[.int .u8 0] 256) 5)) (.cells #[.slice (some ⟨wr.heap.size, 0, none⟩) 256 256] 29)).cell c0a (fun x => x)
      have HR7 := Lib.hid hr7
      have HU7 := Lib.hid hu7
      have HRW := Lib.hid (show w.heap.size ≤ wr.heap.size from hu.size)
      clear hr hu hr7 hu7 hmu hby hrl
      have hld0 := ldR _ _ _ _ _ c0
      have hld1 := ldR _ _ _ _ _ c0a
      have hld2 := ldR _ _ _ _ _ c0b
      have hmr := mkR wr.heap.size (wr.drew.alloc (.cells (madeCells #[.int .u8 0] 256) 5))
      rw [hsz1, hdr] at hmr
      have hst := stR _ _ a7 (j + 1) c7 _ g7 f7
      clear c0 c0a c0b f7 g7 hb hb2 hb3 hsz1 hdr
      go_upto_region 5 with (fail)
      refine wp_region_inv3 (by kernel_rfl) [12, 13, 14, 15, 16, 17, 18, 19, 20, 21] (NewJ _ _ _ _ _ w.heap.size _ _ _ _) (NewF w.heap.size) (by kernel_rfl) (by kernel_rfl) ⟨rfl, rfl⟩ ?_ (fun a0 Q hF => new_steps _ (by kernel_rfl) a0 Q _ _ _ _ _ _ _ _ _ _ hF hld0 hld1 hld2 (hmk wr.drew) hmr hap hst) ?_
      · unfold NewJ
        simp [newW]
      · intro D f wx hJ hall
        have hw : wx = w7.setCell ⟨w.heap.size, 0, none⟩ (.slice a7 (j + 1) c7) := by
          obtain ⟨_, _, _, _, _, _, _, _, _, _, _, _, _, jw⟩ := hJ
          rw [jw]; unfold newW
          rw [if_pos (hall 10 (by decide))]
        subst hw
        clear hJ hall hld0 hld1 hld2 hmr hap hst
        simp only [fill]
        have HSZ := Lib.hid (show (w7.setCell ⟨w.heap.size, 0, none⟩ (.slice a7 (j + 1) c7)).heap.size = w7.heap.size by simp)
        go_wp2
        go_roundw
        case rel =>
          have he : ({ RD.start j with pages := (RD.start j).pages ++ [zeros] } : RD) = RD.start (j + 1) := by unfold RD.start; rw [List.replicate_succ']
          have h9 := HR7.out
          rw [he] at h9
          have hs7 := HSZ.out
          exact ⟨j + 1, by omega, by go_num, HU.out.trans' HU7.out (fun x hx e => by omega), _, _, _, h9.wider (fun k hk => by
            rcases hk with hk | hk
            · exact ⟨hk.1, by have := HU7.out.size; omega⟩
            · exact ⟨by have := HRW.out; omega, by omega⟩) (fun k hk => hk.2)⟩
        case measure => simp [intOf]; omega
    · obtain rfl : j = n := by omega
      clear hu hr
      go_wp2
      go_ret
      exact ⟨rfl, ⟨_, _, _, _, HR.out⟩, HU.out⟩

end Go.Proofs.Yteokbokgiejmpaa
