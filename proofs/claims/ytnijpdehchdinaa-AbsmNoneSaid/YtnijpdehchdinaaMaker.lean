/-
  The maker of programs in memory: add, here, next, args.
-/
import Derived.Test.YtnijpdehchdinaaRef17
import Derived.Test.YtnijpdehchdinaaMadeP
import Derived.Test.YtnijpdehchdinaaHlZ
import Derived.Test.YtnijpdehchdinaaRowK
set_option linter.unusedVariables false
set_option linter.unusedSimpArgs false
namespace Go.Hl
/-- Functions, each with its code's own block. -/
inductive FnRep : List Pm.Func → List Value → List Blk → Prop
  | nil : FnRep [] [] []
  | cons {f : Pm.Func} {fs : List Pm.Func} {ca : Option Addr} {cm cc : Nat} {cs : List Value} {CB B : List Blk} (h : FnRep fs cs B) (hc : Vec 3 23 ca cm cc (instrCells f.code) CB) :
      FnRep (f :: fs) (.int .i64 f.params :: .int .i64 f.locals :: .int .i64 f.refs :: .slice ca cm cc :: cs) (CB ++ B)
theorem FnRep.len {fs : List Pm.Func} {cs : List Value} {B : List Blk} (h : FnRep fs cs B) : cs.length = fs.length * 4 := by
  induction h with
  | nil => rfl
  | cons h hc ih => simp [ih]; omega
theorem FnRep.app {fs gs : List Pm.Func} {cs ds : List Value} {B C : List Blk} (h : FnRep fs cs B) (k : FnRep gs ds C) : FnRep (fs ++ gs) (cs ++ ds) (B ++ C) := by
  induction h with
  | nil => exact k
  | cons h hc ih => rw [List.append_assoc]; exact .cons ih hc
theorem FnRep.rows {fs : List Pm.Func} {cs : List Value} {B : List Blk} (h : FnRep fs cs B) {h0 : Array Obj} {L : List Blk} (hB : ∀ q ∈ B, q ∈ L) : ∃ rows : List FRow, rows.map (·.f) = fs ∧ rows.flatMap FRow.cells = cs ∧ ∀ r ∈ rows, SlRd h0 L 3 r.ca r.cm r.cc (instrCells r.f.code) := by
  induction h with
  | nil => exact ⟨[], rfl, rfl, fun r hr => by cases hr⟩
  | @cons f fs ca cm cc cs CB B h hc ih =>
    obtain ⟨rows, h1, h2, h3⟩ := ih (fun q hq => hB q (List.mem_append_right _ hq))
    refine ⟨⟨f, ca, cm, cc⟩ :: rows, by simp [h1], by simp [h2, FRow.cells], fun r hr => ?_⟩
    rcases List.mem_cons.1 hr with rfl | hr
    · exact hc.slRd (fun q hq => hB q (List.mem_append_left _ hq))
    · exact h3 r hr
theorem FnRep.prog {fs : List Pm.Func} {cs : List Value} {B : List Blk} (h : FnRep fs cs B) {h0 : Array Obj} {L : List Blk} {pb pm pc : Nat} {junk : List Value} {e : TypeId} (hb : (pb, cs ++ junk, e) ∈ L) (hB : ∀ q ∈ B, q ∈ L) (hm : pm = fs.length) (hmc : pm ≤ pc) (hc : pc ≤ maxLen) : ProgRd h0 L (some ⟨pb, 0, none⟩) pm pc fs := by
  obtain ⟨rows, h1, h2, h3⟩ := h.rows (h0 := h0) hB
  have hl := h.len
  refine ⟨rows, h1, ⟨by rw [h2, hl, hm], hmc, by simpa [maxLen] using hc, fun _ => ⟨pb, 0, cs ++ junk, rfl, rd_mem hb, fun j u hu => ?_⟩⟩, h3⟩
  rw [h2] at hu
  rw [Nat.zero_add, List.getElem?_append_left (List.getElem?_eq_some_iff.1 hu).1]
  exact hu
end Go.Hl
namespace Go.Pm
theorem pops_bd {p : Prog} (h : ∀ f ∈ p, f.params ≤ 3) (i : Instr) : 0 ≤ pops p i ∧ pops p i ≤ 3 := by
  have hp : 0 ≤ params p i.a ∧ params p i.a ≤ 3 := by
    unfold params
    split
    · rename_i hf
      have hlt : i.a.toNat < p.length := by omega
      have hm : fn p i.a ∈ p := by unfold fn; rw [List.getD_eq_getElem?_getD, List.getElem?_eq_getElem hlt]; exact List.getElem_mem hlt
      have := h _ hm
      omega
    · omega
  unfold pops
  repeat' split
  all_goals omega
end Go.Pm
namespace Go.Proofs.Ytnijpdehchdinaa
open Go Go.Proofs Go.Hl
variable {h0 : Array Obj}

abbrev kCells (na : Option Addr) (nm nc pb pm pc f : Nat) (da : Option Addr) (dm dc : Nat) (at_ : Int) : List Value := [.slice na nm nc, .slice (some ⟨pb, 0, none⟩) pm pc, .int .i64 f, .slice da dm dc, .int .i64 at_]

set_option maxHeartbeats 2000000 in
set_option maxRecDepth 4000 in
theorem add_raw (kb : Nat) (na : Option Addr) (nm nc pb pm pc : Nat) (A B : List Pm.Func) (x : Pm.Func) (cA cB junk : List Value) (BA BB CB DB : List Blk) (hA : FnRep A cA BA) (hB : FnRep B cB BB) (ca : Option Addr) (cm cc : Nat) (hC : Vec 3 23 ca cm cc (instrCells x.code) CB)
    (da : Option Addr) (dm dc : Nat) (depth : List Int) (hD : Vec 1 3 da dm dc (ints .i64 depth) DB) (at_ : Int) (hat : 0 ≤ at_ ∧ at_ ≤ 8) (hm : pm = A.length + 1 + B.length) (hmc : pm ≤ pc) (hpc : pc ≤ maxLen) (hcl : x.code.length ≤ 1000) (hdl : depth.length ≤ 1000) (hz : ∀ f ∈ A ++ x :: B, f.params ≤ 3) (i : Pm.Instr) :
    Ct Try.prog h0 57 [.pointer (some ⟨kb, 0, none⟩), .int .i64 i.op, .int .i64 i.a, .int .i64 i.b] ((kb, kCells na nm nc pb pm pc A.length da dm dc at_, 88) :: (pb, cA ++ (.int .i64 x.params :: .int .i64 x.locals :: .int .i64 x.refs :: .slice ca cm cc :: (cB ++ junk)), 26) :: (CB ++ (DB ++ (BA ++ BB))))
      fun v L' => v = .tuple #[] ∧ ∃ ca' cm' cc' CB' da' dm' dc' DB', Vec 3 23 ca' cm' cc' (instrCells (x.code ++ [i])) CB' ∧ Vec 1 3 da' dm' dc' (ints .i64 (depth ++ [at_])) DB' ∧
        L' = (kb, kCells na nm nc pb pm pc A.length da' dm' dc' (Pm.behind (A ++ x :: B) at_ i), 88) :: (pb, cA ++ (.int .i64 x.params :: .int .i64 x.locals :: .int .i64 x.refs :: .slice ca' cm' cc' :: (cB ++ junk)), 26) :: (CB' ++ (DB' ++ (BA ++ BB))) := by
  have hlA : LenIs cA (A.length * 4) := ⟨hA.len⟩
  have hclen := hC.len
  have hdlen := hD.len
  rw [length_instrCells] at hclen
  rw [length_ints] at hdlen
  have hpo := Pm.pops_bd hz i
  have hpu := Pm.pushes_le i
  have hpsh : ∀ c, Pm.pops (A ++ { x with code := c } :: B) i = Pm.pops (A ++ x :: B) i := fun c => by
    rw [← Pm.shape_pops, ← Pm.shape_pops (A ++ x :: B)]; simp [Pm.shape]
  unfold kCells
  refine fn_of Try.func57 rfl rfl ?_
  repeat' (first | with_reducible (first | refine thenQ_n ?_ | refine thenQ_e ?_ | refine thenQ_r ?_ | refine ow_nil ?_) | (first | refine wY ?_ | refine wA ?_ | refine wS ?_ | refine wL (fun bk => ?_) | refine wB (fun bk => ?_) | refine wX (fun bk => ?_) | refine wB0 (fun bk => ?_) | refine wB1 (fun bk => ?_) | refine wB1o (fun bk => ?_) | refine wB2o (fun bk => ?_) | refine wG ?_ | (refine wGd (fun hb => ?_) (fun hb => ?_) <;> try (exfalso; omega)) | (refine wGe (fun hb => ?_) (fun hb => ?_) <;> try (exfalso; omega)) | (refine wGn (fun hb => ?_) (fun hb => ?_) <;> try (exfalso; omega))) | with_reducible (first | refine cw_then ?_ | refine cw_region ?_ | refine wCt ?_ | refine wCf ?_) | (((with_reducible refine wCd (fun hb => ?_) (fun hb => ?_)) <;> try subst hb) <;> try (exfalso; omega)) | (((with_reducible refine wCe (fun hb => ?_) (fun hb => ?_)) <;> try subst hb) <;> try (exfalso; omega)) | ((with_reducible refine wCn (fun hb => ?_) (fun hb => ?_)) <;> try (exfalso; omega)) | ((with_reducible refine wCo (fun hb => ?_) (fun hb => ?_))) | ((with_reducible refine wCi (fun hb => ?_) (fun hb => ?_))) | with_reducible (first | refine cw_block ?_ | refine cw_skip ?_ | refine cw_exit ?_ | refine cw_ret ?_ | refine cw_label ?_ | refine cw_scope ?_ | refine inB_same ?_ | refine inB_n ?_ | refine inB_r ?_ | refine wIo ?_ | refine noG_n ?_ | refine noG_r ?_ | refine noG_e ?_))
  refine ow_ylx ⟨_, yl_build [(0, .int .i64 i.op), (1, .int .i64 i.a), (2, .int .i64 i.b)] (.agg #[.int .i64 i.op, .int .i64 i.a, .int .i64 i.b]) rfl (fun w => by simp [go_sem]), ?_⟩
  repeat' (first | with_reducible (first | refine thenQ_n ?_ | refine thenQ_e ?_ | refine thenQ_r ?_ | refine ow_nil ?_) | (first | refine wY ?_ | refine wA ?_ | refine wS ?_ | refine wL (fun bk => ?_) | refine wB (fun bk => ?_) | refine wX (fun bk => ?_) | refine wB0 (fun bk => ?_) | refine wB1 (fun bk => ?_) | refine wB1o (fun bk => ?_) | refine wB2o (fun bk => ?_) | refine wG ?_ | (refine wGd (fun hb => ?_) (fun hb => ?_) <;> try (exfalso; omega)) | (refine wGe (fun hb => ?_) (fun hb => ?_) <;> try (exfalso; omega)) | (refine wGn (fun hb => ?_) (fun hb => ?_) <;> try (exfalso; omega))) | with_reducible (first | refine cw_then ?_ | refine cw_region ?_ | refine wCt ?_ | refine wCf ?_) | (((with_reducible refine wCd (fun hb => ?_) (fun hb => ?_)) <;> try subst hb) <;> try (exfalso; omega)) | (((with_reducible refine wCe (fun hb => ?_) (fun hb => ?_)) <;> try subst hb) <;> try (exfalso; omega)) | ((with_reducible refine wCn (fun hb => ?_) (fun hb => ?_)) <;> try (exfalso; omega)) | ((with_reducible refine wCo (fun hb => ?_) (fun hb => ?_))) | ((with_reducible refine wCi (fun hb => ?_) (fun hb => ?_))) | with_reducible (first | refine cw_block ?_ | refine cw_skip ?_ | refine cw_exit ?_ | refine cw_ret ?_ | refine cw_label ?_ | refine cw_scope ?_ | refine inB_same ?_ | refine inB_n ?_ | refine inB_r ?_ | refine wIo ?_ | refine noG_n ?_ | refine noG_r ?_ | refine noG_e ?_))
  rename Nat => ib
  refine zB 27 [26] [(ib, [.int .i64 i.op, .int .i64 i.a, .int .i64 i.b], 23), (kb, [.slice na nm nc, .slice (some ⟨pb, 0, none⟩) pm pc, .int .i64 A.length, .slice da dm dc, .int .i64 at_], 88), (pb, cA ++ (.int .i64 x.params :: .int .i64 x.locals :: .int .i64 x.refs :: .slice ca cm cc :: (cB ++ junk)), 26)] ?_
  repeat (first | refine zN ?_ | refine zK ?_ | refine zA ?_)
  refine zO 22 ?_
  repeat (first | refine wY ?_ | refine wA ?_ | refine wS ?_ | refine wL (fun bk => ?_) | refine wB (fun bk => ?_) | refine wX (fun bk => ?_) | refine wB0 (fun bk => ?_) | refine wB1 (fun bk => ?_) | refine wB1o (fun bk => ?_) | refine wB2o (fun bk => ?_) | refine wG ?_ | (refine wGd (fun hb => ?_) (fun hb => ?_)) | (refine wGe (fun hb => ?_) (fun hb => ?_)) | (refine wGn (fun hb => ?_) (fun hb => ?_)))
  refine zP ?_
  refine zO 23 ?_
  refine ow_append rfl hC rfl (ys := [.int .i64 i.op, .int .i64 i.a, .int .i64 i.b]) rfl (fun j u hu => by rw [Nat.zero_add]; exact hu) (by simp [Value.oneCell']) (by omega) (by decide) (fun ca' cm' cc' CB' hC' => ?_)
  refine zP ?_
  repeat (first | refine zN ?_ | refine zK ?_ | refine zA ?_)
  refine zE 26 ?_
  repeat (first | refine wY ?_ | refine wA ?_ | refine wS ?_ | refine wL (fun bk => ?_) | refine wB (fun bk => ?_) | refine wX (fun bk => ?_) | refine wB0 (fun bk => ?_) | refine wB1 (fun bk => ?_) | refine wB1o (fun bk => ?_) | refine wB2o (fun bk => ?_) | refine wG ?_ | (refine wGd (fun hb => ?_) (fun hb => ?_)) | (refine wGe (fun hb => ?_) (fun hb => ?_)) | (refine wGn (fun hb => ?_) (fun hb => ?_)))
  refine zQ ?_
  refine zZ ?_
  refine thenQ_n ?_
  refine cw_then ?_
  refine zB 14 [13] [(ib, [.int .i64 i.op, .int .i64 i.a, .int .i64 i.b], 23), (kb, [.slice na nm nc, .slice (some ⟨pb, 0, none⟩) pm pc, .int .i64 A.length, .slice da dm dc, .int .i64 at_], 88), (pb, cA ++ (.int .i64 x.params :: .int .i64 x.locals :: .int .i64 x.refs :: .slice ca' cm' cc' :: (cB ++ junk)), 26)] ?_
  repeat (first | refine zN ?_ | refine zK ?_ | refine zA ?_)
  refine zO 9 ?_
  repeat (first | refine wY ?_ | refine wA ?_ | refine wS ?_ | refine wL (fun bk => ?_) | refine wB (fun bk => ?_) | refine wX (fun bk => ?_) | refine wB0 (fun bk => ?_) | refine wB1 (fun bk => ?_) | refine wB1o (fun bk => ?_) | refine wB2o (fun bk => ?_) | refine wG ?_ | (refine wGd (fun hb => ?_) (fun hb => ?_)) | (refine wGe (fun hb => ?_) (fun hb => ?_)) | (refine wGn (fun hb => ?_) (fun hb => ?_)))
  refine zP ?_
  refine zO 10 ?_
  refine ow_append rfl hD rfl (ys := [.int .i64 at_]) rfl (fun j u hu => by rw [Nat.zero_add]; exact hu) (by simp [Value.oneCell']) (by omega) (by decide) (fun da' dm' dc' DB' hD' => ?_)
  refine zP ?_
  repeat (first | refine zN ?_ | refine zK ?_ | refine zA ?_)
  refine zE 13 ?_
  repeat (first | refine wY ?_ | refine wA ?_ | refine wS ?_ | refine wL (fun bk => ?_) | refine wB (fun bk => ?_) | refine wX (fun bk => ?_) | refine wB0 (fun bk => ?_) | refine wB1 (fun bk => ?_) | refine wB1o (fun bk => ?_) | refine wB2o (fun bk => ?_) | refine wG ?_ | (refine wGd (fun hb => ?_) (fun hb => ?_)) | (refine wGe (fun hb => ?_) (fun hb => ?_)) | (refine wGn (fun hb => ?_) (fun hb => ?_)))
  refine zQ ?_
  refine zZ ?_
  refine thenQ_n ?_
  refine zB 18 [17] [(ib, [.int .i64 i.op, .int .i64 i.a, .int .i64 i.b], 23), (kb, [.slice na nm nc, .slice (some ⟨pb, 0, none⟩) pm pc, .int .i64 A.length, .slice da' dm' dc', .int .i64 at_], 88), (pb, cA ++ (.int .i64 x.params :: .int .i64 x.locals :: .int .i64 x.refs :: .slice ca' cm' cc' :: (cB ++ junk)), 26)] ?_
  repeat (first | refine zN ?_ | refine zK ?_ | refine zA ?_)
  refine zT 12 ?_
  refine zO 10 ?_
  have hC2 : Vec 3 23 ca' cm' cc' (instrCells (x.code ++ [i])) CB' := by simpa [instrCells] using hC'
  have hD2 : Vec 1 3 da' dm' dc' (ints .i64 (depth ++ [at_])) DB' := by simpa [ints] using hD'
  refine ow_call_all (rpops_fn _ (some ⟨pb, 0, none⟩) pm pc (A ++ { x with code := x.code ++ [i] } :: B) ?hp i) rfl (fun v L' hv => ?_)
  case hp =>
    refine FnRep.prog (hA.app (.cons (f := { x with code := x.code ++ [i] }) hB hC2)) (junk := junk) (e := 26) (by simp) (fun q hq => ?_) (by simp; omega) hmc hpc
    simp only [List.mem_append] at hq
    simp only [List.mem_append, List.mem_cons]
    rcases hq with h | h | h <;> simp [h]
  obtain ⟨rfl, rfl⟩ := hv
  rw [hpsh]
  generalize hpv : Pm.pops (A ++ x :: B) i = pv at hpo
  refine zP ?_
  repeat (first | refine zN ?_ | refine zK ?_ | refine zA ?_)
  refine zO 13 ?_
  refine ow_call_all (rpushes_fn _ i) rfl (fun v L' hv => ?_)
  obtain ⟨rfl, rfl⟩ := hv
  refine zP ?_
  repeat (first | refine zN ?_ | refine zK ?_ | refine zA ?_)
  refine zE 17 ?_
  repeat (first | refine wY ?_ | refine wA ?_ | refine wS ?_ | refine wL (fun bk => ?_) | refine wB (fun bk => ?_) | refine wX (fun bk => ?_) | refine wB0 (fun bk => ?_) | refine wB1 (fun bk => ?_) | refine wB1o (fun bk => ?_) | refine wB2o (fun bk => ?_) | refine wG ?_ | (refine wGd (fun hb => ?_) (fun hb => ?_)) | (refine wGe (fun hb => ?_) (fun hb => ?_)) | (refine wGn (fun hb => ?_) (fun hb => ?_)))
  refine zQ ?_
  refine zZ ?_
  have hbh : Pm.behind (A ++ x :: B) at_ i = at_ - pv + Pm.pushes i := by unfold Pm.behind; rw [hpv]
  rw [hbh]
  exact end0 rfl (sub_mk (L' := (kb, kCells na nm nc pb pm pc A.length da' dm' dc' (at_ - pv + Pm.pushes i), 88) :: (pb, cA ++ (.int .i64 x.params :: .int .i64 x.locals :: .int .i64 x.refs :: .slice ca' cm' cc' :: (cB ++ junk)), 26) :: (CB' ++ (DB' ++ (BA ++ BB)))) ⟨rfl, _, _, _, _, _, _, _, _, hC2, hD2, rfl⟩)
end Go.Proofs.Ytnijpdehchdinaa
