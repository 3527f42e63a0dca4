/-
  The machine's run: defer. A rule for two operations that are ready.
-/
import Derived.Test.YtnijpdehchdinaaRun
set_option linter.unusedVariables false
set_option linter.unusedSimpArgs false
namespace Go.Hl
section
variable {P : Program} {h0 : Array Obj} {n : Nat} {T : Slots} {L Lq Lr : List Blk} {Q : Exit → Slots → List Blk → Prop} {ops : Array Oper} {fuel : Nat} {listed : Array Bool}
theorem hw_op (j : Nat) {o : Oper} (hi : ops[j]? = some o) (h : OW P h0 n ops [o] T L (thenQ (fun T' L' => (∃ Lr, Split L' Lq Lr) ∧ HW P h0 n ops Lq fuel (listed.setIfInBounds j true) T' L' Q) Q)) (a : Act) (w : World) (ha : Ab n T a) (hw : Has h0 L w) :
    wpOp P ops (Post h0 n L w Q) j (fun a' w' => Has h0 Lq w' ∧ wpAnyH P .any ops (Post h0 n L w Q) (Has h0 Lq) fuel (listed.setIfInBounds j true) a' w') a w := by
  have h1 := h.out a w ha hw
  unfold wpList at h1
  unfold wpOp
  simp only [hi]
  have key : ∀ a' w', wpList P ops (Post h0 n L w (thenQ (fun T' L' => (∃ Lr, Split L' Lq Lr) ∧ HW P h0 n ops Lq fuel (listed.setIfInBounds j true) T' L' Q) Q)) [] a' w' →
      Has h0 Lq w' ∧ wpAnyH P .any ops (Post h0 n L w Q) (Has h0 Lq) fuel (listed.setIfInBounds j true) a' w' := by
    rintro a' w' ⟨T', L', ⟨⟨Lr, hsp⟩, hk⟩, ab, s⟩
    have hq' := s.has.split hsp
    unfold HW at hk
    exact ⟨hq', wpAnyH_mono (fun _ _ _ p => Post.step s p) _ _ _ _ (hk a' w' ab s.has hq')⟩
  have hfail : ∀ e a' w', e ≠ .normal → Post h0 n L w (thenQ (fun T' L' => (∃ Lr, Split L' Lq Lr) ∧ HW P h0 n ops Lq fuel (listed.setIfInBounds j true) T' L' Q) Q) e a' w' → Post h0 n L w Q e a' w' := by
    rintro e a' w' he ⟨T', L', q, r⟩
    cases e <;> first | exact absurd rfl he | exact ⟨T', L', q, r⟩
  split
  · rename_i hwt
    rw [if_pos hwt] at h1
    rcases h1 with h1 | ⟨h2, a', w', h3⟩
    · refine .inl ?_
      unfold Oper.wp at h1 ⊢
      revert h1
      generalize (execOp a.eval o).run P w = r
      intro h1
      cases r with
      | ok m w' =>
        cases m <;> simp only [Oper.upon] at h1 ⊢ <;>
          first
            | exact key _ _ h1
            | exact Calls.mono h1 (fun e w'' he => by
                cases e with
                | returned v => exact key _ _ he
                | panicked c => exact hfail _ _ _ (by simp) he
                | outgrown => exact (let ⟨a, w, q⟩ := he; ⟨a, w, hfail _ _ _ (by simp) q⟩))
            | exact Rows.mono h1 (fun _ _ he => key _ _ he)
            | exact h1
      | halt x w' => cases x <;> simp only [Oper.upon] at h1 ⊢ <;> first | exact hfail _ _ _ (by simp) h1 | exact h1
    · exact .inr ⟨h2, a', w', hfail _ _ _ (by simp) h3⟩
  · rename_i hwt
    rw [if_neg hwt] at h1
    exact key _ _ h1
theorem hw_two (i j : Nat) {oi oj : Oper} (hi : ops.toList[i]? = some oi) (hj : ops.toList[j]? = some oj) (h1 : OW P h0 n ops [oi] T L (thenQ (fun T' L' => (∃ Lr, Split L' Lq Lr) ∧ HW P h0 n ops Lq fuel (listed.setIfInBounds i true) T' L' Q) Q))
    (h2 : OW P h0 n ops [oj] T L (thenQ (fun T' L' => (∃ Lr, Split L' Lq Lr) ∧ HW P h0 n ops Lq fuel (listed.setIfInBounds j true) T' L' Q) Q)) (hr : Region.ready .any ops listed = [i, j]) : HW P h0 n ops Lq (fuel + 1) listed T L Q := by
  unfold HW
  intro a w ha hw hq
  refine wpAnyH_all hr (by simp) fun k hk => ?_
  rcases List.mem_cons.1 hk with rfl | hk
  · exact hw_op _ (toList_at hi) h1 a w ha hw
  · obtain rfl := List.mem_singleton.1 hk
    exact hw_op _ (toList_at hj) h2 a w ha hw
end
end Go.Hl
namespace Go.Proofs.Ytnijpdehchdinaa
open Go Go.Proofs Go.Hl Go.Am
variable {h0 : Array Obj}
set_option maxHeartbeats 1000000 in
set_option maxRecDepth 2000 in
theorem act_defer (mb fb tb ib xb : Nat) (pa : Option Addr) (pm pc : Nat) (p : Pm.Prog) (PB : List Blk) (hp : ProgRd h0 PB pa pm pc p) (m : Mach) (x : Frm) (fs : List Frm) (fm fc : Nat) (ta : Option Addr) (tm tc : Nat) (TB : List Blk) (hT : Vec 2 31 ta tm tc (markCells m.trace) TB) (hl : m.trace.length ≤ 1000000) (hfm : fm = fs.length + 1) (hfm2 : fm ≤ 1000000) (cs junk : List Value) (B : List Blk) (hcs : FrRep fs cs B) (da : Option Addr) (dm dc : Nat) (la : Option Addr) (lm lc : Nat) (oa : Option Addr) (om oc : Nat) (dcs : List Value) (DB AB LB OB : List Blk) (hD : Vec 2 85 da dm dc dcs DB) (hDf : DfRep x.defers dcs AB) (hL : Vec 1 28 la lm lc (ints .u64 x.locals) LB) (hO : Vec 1 28 oa om oc (ints .u64 x.ops) OB) (hj : cs.length + 8 + junk.length = fc * 8) (hfc : fm ≤ fc) (hc63 : fc ≤ maxLen) (hop8 : x.ops.length ≤ 1000) (i : Pm.Instr) (l : List Int) (lp : Option Addr) (lpc : Nat) (CB : List Blk) (hC : Vec 1 28 lp l.length lpc (ints .u64 l) CB) (T0 : Slots) (hop : i.op = 19) (hd4 : x.defers.length ≤ 4) : CW Try.prog h0 Try.f42.ntmps (tailOf Try.f42 9) (ov T0 [(1, .pointer (some ⟨tb, 0, none⟩)), (2, .pointer (some ⟨ib, 0, none⟩)), (3, .pointer (some ⟨xb, 0, none⟩)), (4, .func (.func 61) #[] #[.pointer (some ⟨xb, 0, none⟩)]), (6, .slice lp l.length lpc), (7, .func (.func 64) #[] #[.pointer (some ⟨xb, 0, none⟩), .pointer (some ⟨tb, 0, none⟩)]), (40, .int .i64 i.op)]) ((tb, [.pointer (some ⟨mb, 0, none⟩)], 35) :: (xb, [.pointer (some ⟨fb, 0 + ((fm : Int) - 1).toNat * 8, none⟩)], 107) :: (ib, [.int .i64 i.op, .int .i64 i.a, .int .i64 i.b], 23) :: (mb, mCells pa pm pc m (some ⟨fb, 0, none⟩) fm fc ta tm tc, 76) :: (fb, cs ++ rowOf x da dm dc la lm lc oa om oc junk, 66) :: (TB ++ (OB ++ (CB ++ (LB ++ (DB ++ (AB ++ (B ++ PB)))))))) (retQ Try.prog h0 Try.f42 (Hl.Sub fun v L' => v = .tuple #[] ∧ ∃ B', MRep mb pa pm pc (Am.act p m x fs i l) B' ∧ L' = B' ++ PB)) := by
  have hA : LenIs cs (((fm : Int) - 1).toNat * 8) := ⟨by rw [hcs.len]; congr 1; omega⟩
  have hOl := hO.len
  rw [length_ints] at hOl
  obtain ⟨op, a, b⟩ := i
  dsimp only at hop ⊢
  subst hop
  refine cw_block ?_
  have hdl := hDf.len
  have hDl := hD.len
  repeat' (first | with_reducible (first | refine thenQ_n ?_ | refine thenQ_e ?_ | refine thenQ_r ?_ | refine ow_nil ?_) | (first | refine wY ?_ | refine wA ?_ | refine wS ?_ | refine wL (fun bk => ?_) | refine wB (fun bk => ?_) | refine wX (fun bk => ?_) | refine wB0 (fun bk => ?_) | refine wB1 (fun bk => ?_) | refine wB1o (fun bk => ?_) | refine wB2o (fun bk => ?_) | refine wG ?_ | (refine wGd (fun hb => ?_) (fun hb => ?_) <;> try (exfalso; omega)) | (refine wGe (fun hb => ?_) (fun hb => ?_) <;> try (exfalso; omega)) | (refine wGn (fun hb => ?_) (fun hb => ?_) <;> try (exfalso; omega))) | with_reducible (first | refine cw_then ?_ | refine cw_region ?_ | refine wCt ?_ | refine wCf ?_) | (((with_reducible refine wCd (fun hb => ?_) (fun hb => ?_)) <;> try subst hb) <;> try (exfalso; omega)) | (((with_reducible refine wCe (fun hb => ?_) (fun hb => ?_)) <;> try subst hb) <;> try (exfalso; omega)) | ((with_reducible refine wCn (fun hb => ?_) (fun hb => ?_)) <;> try (exfalso; omega)) | ((with_reducible refine wCo (fun hb => ?_) (fun hb => ?_))) | ((with_reducible refine wCi (fun hb => ?_) (fun hb => ?_))) | with_reducible (first | refine cw_block ?_ | refine cw_skip ?_ | refine cw_exit ?_ | refine cw_ret ?_ | refine cw_label ?_ | refine cw_scope ?_ | refine inB_same ?_ | refine inB_n ?_ | refine inB_r ?_ | refine wIo ?_ | refine noG_n ?_ | refine noG_r ?_ | refine noG_e ?_))
  · have hact : Am.act p m x fs ⟨19, a, b⟩ l = { m with frames := ({ x with value := Fl.odd 1, mode := 2 }) :: fs } := by
      have : x.defers.length = 4 := by omega
      unfold Am.act; simp [this]
    refine cw_drawnq 9 rfl rfl [(xb, [.pointer (some ⟨fb, 0 + ((fm : Int) - 1).toNat * 8, none⟩)], 107)] ?_
    repeat (first | refine wN ?_ | refine wK ?_)
    refine wO 2 ?_
    refine ow_call_all (odd_fn _ 1 (by decide) (by decide)) rfl (fun v L' hv => ?_); obtain ⟨rfl, rfl⟩ := hv
    refine wP ?_
    repeat (first | refine wN ?_ | refine wK ?_)
    refine wO 5 ?_
    repeat (first | refine wY ?_ | refine wA ?_ | refine wS ?_ | refine wL (fun bk => ?_) | refine wB (fun bk => ?_) | refine wX (fun bk => ?_) | refine wB0 (fun bk => ?_) | refine wB1 (fun bk => ?_) | refine wB1o (fun bk => ?_) | refine wB2o (fun bk => ?_) | refine wG ?_ | (refine wGd (fun hb => ?_) (fun hb => ?_)) | (refine wGe (fun hb => ?_) (fun hb => ?_)) | (refine wGn (fun hb => ?_) (fun hb => ?_)))
    refine wP ?_
    repeat (first | refine wN ?_ | refine wK ?_)
    refine wO 8 ?_
    repeat (first | refine wY ?_ | refine wA ?_ | refine wS ?_ | refine wL (fun bk => ?_) | refine wB (fun bk => ?_) | refine wX (fun bk => ?_) | refine wB0 (fun bk => ?_) | refine wB1 (fun bk => ?_) | refine wB1o (fun bk => ?_) | refine wB2o (fun bk => ?_) | refine wG ?_ | (refine wGd (fun hb => ?_) (fun hb => ?_)) | (refine wGe (fun hb => ?_) (fun hb => ?_)) | (refine wGn (fun hb => ?_) (fun hb => ?_)))
    refine wP ?_
    refine wZ ?_
    repeat' (first | with_reducible (first | refine thenQ_n ?_ | refine thenQ_e ?_ | refine thenQ_r ?_ | refine ow_nil ?_) | (first | refine wY ?_ | refine wA ?_ | refine wS ?_ | refine wL (fun bk => ?_) | refine wB (fun bk => ?_) | refine wX (fun bk => ?_) | refine wB0 (fun bk => ?_) | refine wB1 (fun bk => ?_) | refine wB1o (fun bk => ?_) | refine wB2o (fun bk => ?_) | refine wG ?_ | (refine wGd (fun hb => ?_) (fun hb => ?_) <;> try (exfalso; omega)) | (refine wGe (fun hb => ?_) (fun hb => ?_) <;> try (exfalso; omega)) | (refine wGn (fun hb => ?_) (fun hb => ?_) <;> try (exfalso; omega))) | with_reducible (first | refine cw_then ?_ | refine cw_region ?_ | refine wCt ?_ | refine wCf ?_) | (((with_reducible refine wCd (fun hb => ?_) (fun hb => ?_)) <;> try subst hb) <;> try (exfalso; omega)) | (((with_reducible refine wCe (fun hb => ?_) (fun hb => ?_)) <;> try subst hb) <;> try (exfalso; omega)) | ((with_reducible refine wCn (fun hb => ?_) (fun hb => ?_)) <;> try (exfalso; omega)) | ((with_reducible refine wCo (fun hb => ?_) (fun hb => ?_))) | ((with_reducible refine wCi (fun hb => ?_) (fun hb => ?_))) | with_reducible (first | refine cw_block ?_ | refine cw_skip ?_ | refine cw_exit ?_ | refine cw_ret ?_ | refine cw_label ?_ | refine cw_scope ?_ | refine inB_same ?_ | refine inB_n ?_ | refine inB_r ?_ | refine wIo ?_ | refine noG_n ?_ | refine noG_r ?_ | refine noG_e ?_))
    exact end0 rfl (sub_mk (L' := ((mb, mCells pa pm pc ({ m with frames := ({ x with value := Fl.odd 1, mode := 2 }) :: fs }) (some ⟨fb, 0, none⟩) fm fc ta tm tc, 76) :: (fb, cs ++ rowOf ({ x with value := Fl.odd 1, mode := 2 }) da dm dc la lm lc oa om oc junk, 66) :: (TB ++ ((OB ++ (LB ++ (DB ++ AB))) ++ B))) ++ PB) ⟨rfl, _, by rw [hact]; exact mrep_put (m := { m with frames := ({ x with value := Fl.odd 1, mode := 2 }) :: fs }) (x := { x with value := Fl.odd 1, mode := 2 }) rfl hT hfm hcs hD hDf hL hO hj hfc hc63, rfl⟩)
  · have hne : x.defers.length ≠ 4 := by omega
    have hact : Am.act p m x fs ⟨19, a, b⟩ l = { m with frames := ({ x with defers := ⟨a, l⟩ :: x.defers }) :: fs } := by
      unfold Am.act; simp [hne]
    refine cw_drawnq 14 rfl rfl [(xb, [.pointer (some ⟨fb, 0 + ((fm : Int) - 1).toNat * 8, none⟩)], 107), (ib, [.int .i64 19, .int .i64 a, .int .i64 b], 23)] ?_
    repeat (first | refine wN ?_ | refine wK ?_)
    refine wT 5 ?_
    refine wT 6 ?_
    refine wT 7 ?_
    refine hw_tk 8 (by with_unfolding_all exact rfl) ?_ (by kernel_rfl) (by kernel_rfl) (by kernel_rfl) (by with_unfolding_all exact rfl) (by with_unfolding_all exact rfl)
    refine ⟨.agg #[.int .i64 a, .slice lp l.length lpc], yl_build [(0, .int .i64 a), (1, .slice lp l.length lpc)] _ rfl (fun w => by simp [go_sem]), ?_⟩
    refine hw_two 4 9 (by with_unfolding_all exact rfl) (by with_unfolding_all exact rfl) ?_ ?_ (by kernel_rfl)
    · repeat (first | refine wY ?_ | refine wA ?_ | refine wS ?_ | refine wL (fun bk => ?_) | refine wB (fun bk => ?_) | refine wX (fun bk => ?_) | refine wB0 (fun bk => ?_) | refine wB1 (fun bk => ?_) | refine wB1o (fun bk => ?_) | refine wB2o (fun bk => ?_) | refine wG ?_ | (refine wGd (fun hb => ?_) (fun hb => ?_)) | (refine wGe (fun hb => ?_) (fun hb => ?_)) | (refine wGn (fun hb => ?_) (fun hb => ?_)))
      refine wP ?_
      refine wO 9 ?_
      repeat (first | refine wY ?_ | refine wA ?_ | refine wS ?_ | refine wL (fun bk => ?_) | refine wB (fun bk => ?_) | refine wX (fun bk => ?_) | refine wB0 (fun bk => ?_) | refine wB1 (fun bk => ?_) | refine wB1o (fun bk => ?_) | refine wB2o (fun bk => ?_) | refine wG ?_ | (refine wGd (fun hb => ?_) (fun hb => ?_)) | (refine wGe (fun hb => ?_) (fun hb => ?_)) | (refine wGn (fun hb => ?_) (fun hb => ?_)))
      refine wP ?_
      refine wO 10 ?_
      refine ow_append rfl hD rfl (ys := [.int .i64 a, .slice lp l.length lpc]) rfl (fun j u hu => by rw [Nat.zero_add]; exact hu) (by simp [Value.oneCell']) (by omega) (by decide) (fun da' dm' dc' DB' hD' => ?_)
      refine wP ?_
      repeat (first | refine wN ?_ | refine wK ?_)
      refine wO 13 ?_
      repeat (first | refine wY ?_ | refine wA ?_ | refine wS ?_ | refine wL (fun bk => ?_) | refine wB (fun bk => ?_) | refine wX (fun bk => ?_) | refine wB0 (fun bk => ?_) | refine wB1 (fun bk => ?_) | refine wB1o (fun bk => ?_) | refine wB2o (fun bk => ?_) | refine wG ?_ | (refine wGd (fun hb => ?_) (fun hb => ?_)) | (refine wGe (fun hb => ?_) (fun hb => ?_)) | (refine wGn (fun hb => ?_) (fun hb => ?_)))
      refine wP ?_
      refine wZ ?_
      repeat' (first | with_reducible (first | refine thenQ_n ?_ | refine thenQ_e ?_ | refine thenQ_r ?_ | refine ow_nil ?_) | (first | refine wY ?_ | refine wA ?_ | refine wS ?_ | refine wL (fun bk => ?_) | refine wB (fun bk => ?_) | refine wX (fun bk => ?_) | refine wB0 (fun bk => ?_) | refine wB1 (fun bk => ?_) | refine wB1o (fun bk => ?_) | refine wB2o (fun bk => ?_) | refine wG ?_ | (refine wGd (fun hb => ?_) (fun hb => ?_) <;> try (exfalso; omega)) | (refine wGe (fun hb => ?_) (fun hb => ?_) <;> try (exfalso; omega)) | (refine wGn (fun hb => ?_) (fun hb => ?_) <;> try (exfalso; omega))) | with_reducible (first | refine cw_then ?_ | refine cw_region ?_ | refine wCt ?_ | refine wCf ?_) | (((with_reducible refine wCd (fun hb => ?_) (fun hb => ?_)) <;> try subst hb) <;> try (exfalso; omega)) | (((with_reducible refine wCe (fun hb => ?_) (fun hb => ?_)) <;> try subst hb) <;> try (exfalso; omega)) | ((with_reducible refine wCn (fun hb => ?_) (fun hb => ?_)) <;> try (exfalso; omega)) | ((with_reducible refine wCo (fun hb => ?_) (fun hb => ?_))) | ((with_reducible refine wCi (fun hb => ?_) (fun hb => ?_))) | with_reducible (first | refine cw_block ?_ | refine cw_skip ?_ | refine cw_exit ?_ | refine cw_ret ?_ | refine cw_label ?_ | refine cw_scope ?_ | refine inB_same ?_ | refine inB_n ?_ | refine inB_r ?_ | refine wIo ?_ | refine noG_n ?_ | refine noG_r ?_ | refine noG_e ?_))
      exact end0 rfl (sub_mk (L' := ((mb, mCells pa pm pc m (some ⟨fb, 0, none⟩) fm fc ta tm tc, 76) :: (fb, cs ++ rowOf { x with defers := ⟨a, l⟩ :: x.defers } da' dm' dc' la lm lc oa om oc junk, 66) :: (TB ++ ((OB ++ (LB ++ (DB' ++ (CB ++ AB)))) ++ B))) ++ PB) ⟨rfl, _, by rw [hact]; exact mrep_put rfl hT hfm hcs hD' (DfRep.cons hDf hC) hL hO hj hfc hc63, rfl⟩)
    · repeat (first | refine wY ?_ | refine wA ?_ | refine wS ?_ | refine wL (fun bk => ?_) | refine wB (fun bk => ?_) | refine wX (fun bk => ?_) | refine wB0 (fun bk => ?_) | refine wB1 (fun bk => ?_) | refine wB1o (fun bk => ?_) | refine wB2o (fun bk => ?_) | refine wG ?_ | (refine wGd (fun hb => ?_) (fun hb => ?_)) | (refine wGe (fun hb => ?_) (fun hb => ?_)) | (refine wGn (fun hb => ?_) (fun hb => ?_)))
      refine wP ?_
      refine wO 4 ?_
      repeat (first | refine wY ?_ | refine wA ?_ | refine wS ?_ | refine wL (fun bk => ?_) | refine wB (fun bk => ?_) | refine wX (fun bk => ?_) | refine wB0 (fun bk => ?_) | refine wB1 (fun bk => ?_) | refine wB1o (fun bk => ?_) | refine wB2o (fun bk => ?_) | refine wG ?_ | (refine wGd (fun hb => ?_) (fun hb => ?_)) | (refine wGe (fun hb => ?_) (fun hb => ?_)) | (refine wGn (fun hb => ?_) (fun hb => ?_)))
      refine wP ?_
      refine wO 10 ?_
      refine ow_append rfl hD rfl (ys := [.int .i64 a, .slice lp l.length lpc]) rfl (fun j u hu => by rw [Nat.zero_add]; exact hu) (by simp [Value.oneCell']) (by omega) (by decide) (fun da' dm' dc' DB' hD' => ?_)
      refine wP ?_
      repeat (first | refine wN ?_ | refine wK ?_)
      refine wO 13 ?_
      repeat (first | refine wY ?_ | refine wA ?_ | refine wS ?_ | refine wL (fun bk => ?_) | refine wB (fun bk => ?_) | refine wX (fun bk => ?_) | refine wB0 (fun bk => ?_) | refine wB1 (fun bk => ?_) | refine wB1o (fun bk => ?_) | refine wB2o (fun bk => ?_) | refine wG ?_ | (refine wGd (fun hb => ?_) (fun hb => ?_)) | (refine wGe (fun hb => ?_) (fun hb => ?_)) | (refine wGn (fun hb => ?_) (fun hb => ?_)))
      refine wP ?_
      refine wZ ?_
      repeat' (first | with_reducible (first | refine thenQ_n ?_ | refine thenQ_e ?_ | refine thenQ_r ?_ | refine ow_nil ?_) | (first | refine wY ?_ | refine wA ?_ | refine wS ?_ | refine wL (fun bk => ?_) | refine wB (fun bk => ?_) | refine wX (fun bk => ?_) | refine wB0 (fun bk => ?_) | refine wB1 (fun bk => ?_) | refine wB1o (fun bk => ?_) | refine wB2o (fun bk => ?_) | refine wG ?_ | (refine wGd (fun hb => ?_) (fun hb => ?_) <;> try (exfalso; omega)) | (refine wGe (fun hb => ?_) (fun hb => ?_) <;> try (exfalso; omega)) | (refine wGn (fun hb => ?_) (fun hb => ?_) <;> try (exfalso; omega))) | with_reducible (first | refine cw_then ?_ | refine cw_region ?_ | refine wCt ?_ | refine wCf ?_) | (((with_reducible refine wCd (fun hb => ?_) (fun hb => ?_)) <;> try subst hb) <;> try (exfalso; omega)) | (((with_reducible refine wCe (fun hb => ?_) (fun hb => ?_)) <;> try subst hb) <;> try (exfalso; omega)) | ((with_reducible refine wCn (fun hb => ?_) (fun hb => ?_)) <;> try (exfalso; omega)) | ((with_reducible refine wCo (fun hb => ?_) (fun hb => ?_))) | ((with_reducible refine wCi (fun hb => ?_) (fun hb => ?_))) | with_reducible (first | refine cw_block ?_ | refine cw_skip ?_ | refine cw_exit ?_ | refine cw_ret ?_ | refine cw_label ?_ | refine cw_scope ?_ | refine inB_same ?_ | refine inB_n ?_ | refine inB_r ?_ | refine wIo ?_ | refine noG_n ?_ | refine noG_r ?_ | refine noG_e ?_))
      exact end0 rfl (sub_mk (L' := ((mb, mCells pa pm pc m (some ⟨fb, 0, none⟩) fm fc ta tm tc, 76) :: (fb, cs ++ rowOf { x with defers := ⟨a, l⟩ :: x.defers } da' dm' dc' la lm lc oa om oc junk, 66) :: (TB ++ ((OB ++ (LB ++ (DB' ++ (CB ++ AB)))) ++ B))) ++ PB) ⟨rfl, _, by rw [hact]; exact mrep_put rfl hT hfm hcs hD' (DfRep.cons hDf hC) hL hO hj hfc hc63, rfl⟩)
end Go.Proofs.Ytnijpdehchdinaa
