/-
  The machine's step, from memory to memory.
-/
import Derived.Test.YtnijpdehchdinaaLeave
import Derived.Test.YtnijpdehchdinaaNew
set_option linter.unusedVariables false
set_option linter.unusedSimpArgs false
namespace Go.Proofs.Ytnijpdehchdinaa
open Go Go.Proofs Go.Hl Go.Am
variable {h0 : Array Obj}

theorem leave_fn (mb fb : Nat) (pa : Option Addr) (pm pc : Nat) (p : Pm.Prog) (PB : List Blk) (hp : ProgRd h0 PB pa pm pc p) (D : Nat → List Int) (m : Mach) (hI : Inv p D m) (x : Frm) (fs : List Frm) (hfr : m.frames = x :: fs) (fm fc : Nat) (ta : Option Addr) (tm tc : Nat) (TB : List Blk) (hT : Vec 2 31 ta tm tc (markCells m.trace) TB) (hl : m.trace.length ≤ 1000000) (hfm : fm = fs.length + 1) (hfm2 : fm ≤ 1000000) (cs junk : List Value) (B : List Blk) (hcs : FrRep fs cs B)
    (da : Option Addr) (dm dc : Nat) (la : Option Addr) (lm lc : Nat) (oa : Option Addr) (om oc : Nat) (dcs : List Value) (DB AB LB OB : List Blk) (hD : Vec 2 85 da dm dc dcs DB) (hDf : DfRep x.defers dcs AB) (hL : Vec 1 28 la lm lc (ints .u64 x.locals) LB) (hO : Vec 1 28 oa om oc (ints .u64 x.ops) OB)
    (hj : cs.length + 8 + junk.length = fc * 8) (hfc : fm ≤ fc) (hc63 : fc ≤ maxLen) :
    Ct Try.prog h0 43 [.pointer (some ⟨mb, 0, none⟩)] ((mb, mCells pa pm pc m (some ⟨fb, 0, none⟩) fm fc ta tm tc, 76) :: (fb, cs ++ rowOf x da dm dc la lm lc oa om oc junk, 66) :: (TB ++ ((OB ++ (LB ++ (DB ++ AB))) ++ (B ++ PB))))
      fun v L' => v = .tuple #[] ∧ ∃ B', MRep mb pa pm pc (Am.leave p m) B' ∧ L' = B' ++ PB := by
  have hx := hI.frs x (by rw [hfr]; simp)
  have hpl := hp.len.1
  cases hds : x.defers with
  | cons d ds =>
    obtain ⟨g1, g2, g3⟩ := hx.args d (by rw [hds]; simp)
    have hz := hI.valid.sized _ (fn_mem g1 g2)
    simp [Pm.sized] at hz
    exact leave_call mb fb pa pm pc p PB hp m x fs hfr fm fc ta tm tc TB hT hfm hfm2 cs junk B hcs da dm dc la lm lc oa om oc dcs DB AB LB OB hD hDf hL hO hj hfc hc63 d ds hds hx.dfr g1 (by omega) (by omega) (by omega)
  | nil =>
    rw [hds] at hDf
    cases hDf
    obtain rfl : dm = 0 := by have := hD.len.1; simp at this; omega
    cases fs with
    | nil =>
      cases hcs
      have h := leave_last (h0 := h0) mb fb pa pm pc p PB m x hfr fm fc ta tm tc TB hT hl hfm [] junk rfl la lm lc oa om oc da dc (OB ++ (LB ++ (DB ++ []))) (by simp at hj; omega) hfc hc63 hds
      exact h
    | cons y fs' =>
      cases hcs with
      | cons hcs' hyr =>
      rename_i cs' ry B' RBy
      cases hyr with
      | mk hyd hya hyl hyo =>
      rename_i da' la' oa' dm' dc' lm' lc' om' oc' dcs' DB' AB' LB' OB'
      have hy := hI.frs y (by rw [hfr]; simp)
      have h := leave_on (h0 := h0) mb fb pa pm pc p PB m x y fs' hfr fm fc ta tm tc TB hT (by simpa using hfm) hfm2 cs' junk B' hcs' da dc la lm lc oa om oc (OB ++ (LB ++ (DB ++ []))) da' dm' dc' la' lm' lc' oa' om' oc' dcs' DB' AB' LB' OB' hyd hya hyl hyo (by simp at hj; omega) hfc hc63 hds (by have := hy.ops; omega)
      rw [← two_rows] at h
      simpa only [List.append_assoc] using h

/-- The act of a machine that is there. -/
theorem step_fn (mb : Nat) (pa : Option Addr) (pm pc : Nat) (p : Pm.Prog) (PB : List Blk) (hp : ProgRd h0 PB pa pm pc p) (D : Nat → List Int) (m : Mach) (hI : Inv p D m) (L : List Blk) (hM : MRep mb pa pm pc m L) (hl : m.trace.length ≤ 1000000) (hfl : m.frames.length ≤ 999999) :
    Ct Try.prog h0 23 [.pointer (some ⟨mb, 0, none⟩)] (L ++ PB) fun v L' => v = .int .i64 (Am.step p m).1 ∧ ∃ B', MRep mb pa pm pc (Am.step p m).2 B' ∧ L' = B' ++ PB := by
  have hpl := hp.len.1
  cases he : m.ended with
  | true =>
    have hs : Am.step p m = (7, m) := by unfold Am.step; simp [he]
    rw [hs]
    obtain ⟨fa, fm, fc, ta, tm, tc, cells, FB, RB, TB, hF, hR, hT, rfl⟩ := hM.ex
    unfold mCells
    rw [he]
    refine fn_of Try.func23 rfl rfl ?_
    repeat' (first | with_reducible (first | refine thenQ_n ?_ | refine thenQ_e ?_ | refine thenQ_r ?_ | refine ow_nil ?_) | (first | refine wY ?_ | refine wA ?_ | refine wS ?_ | refine wL (fun bk => ?_) | refine wB (fun bk => ?_) | refine wX (fun bk => ?_) | refine wB0 (fun bk => ?_) | refine wB1 (fun bk => ?_) | refine wB1o (fun bk => ?_) | refine wB2o (fun bk => ?_) | refine wG ?_ | (refine wGd (fun hb => ?_) (fun hb => ?_) <;> try (exfalso; omega)) | (refine wGe (fun hb => ?_) (fun hb => ?_) <;> try (exfalso; omega)) | (refine wGn (fun hb => ?_) (fun hb => ?_) <;> try (exfalso; omega))) | with_reducible (first | refine cw_then ?_ | refine cw_region ?_ | refine wCt ?_ | refine wCf ?_) | (((with_reducible refine wCd (fun hb => ?_) (fun hb => ?_)) <;> try subst hb) <;> try (exfalso; omega)) | (((with_reducible refine wCe (fun hb => ?_) (fun hb => ?_)) <;> try subst hb) <;> try (exfalso; omega)) | ((with_reducible refine wCn (fun hb => ?_) (fun hb => ?_)) <;> try (exfalso; omega)) | ((with_reducible refine wCo (fun hb => ?_) (fun hb => ?_))) | ((with_reducible refine wCi (fun hb => ?_) (fun hb => ?_))) | with_reducible (first | refine cw_block ?_ | refine cw_skip ?_ | refine cw_exit ?_ | refine cw_ret ?_ | refine cw_label ?_ | refine cw_scope ?_ | refine inB_same ?_ | refine inB_n ?_ | refine inB_r ?_ | refine wIo ?_ | refine noG_n ?_ | refine noG_r ?_ | refine noG_e ?_))
    exact ret1 (v := .int .i64 7) rfl rfl (sub_mk ⟨rfl, _, ⟨_, _, _, _, _, _, _, _, _, _, hF, hR, hT, by unfold mCells; rw [he]⟩, rfl⟩)
  | false =>
  cases hpk : m.parked with
  | true =>
    have hs : Am.step p m = (8, m) := by unfold Am.step; simp [he, hpk]
    rw [hs]
    obtain ⟨fa, fm, fc, ta, tm, tc, cells, FB, RB, TB, hF, hR, hT, rfl⟩ := hM.ex
    unfold mCells
    rw [he, hpk]
    refine fn_of Try.func23 rfl rfl ?_
    repeat' (first | with_reducible (first | refine thenQ_n ?_ | refine thenQ_e ?_ | refine thenQ_r ?_ | refine ow_nil ?_) | (first | refine wY ?_ | refine wA ?_ | refine wS ?_ | refine wL (fun bk => ?_) | refine wB (fun bk => ?_) | refine wX (fun bk => ?_) | refine wB0 (fun bk => ?_) | refine wB1 (fun bk => ?_) | refine wB1o (fun bk => ?_) | refine wB2o (fun bk => ?_) | refine wG ?_ | (refine wGd (fun hb => ?_) (fun hb => ?_) <;> try (exfalso; omega)) | (refine wGe (fun hb => ?_) (fun hb => ?_) <;> try (exfalso; omega)) | (refine wGn (fun hb => ?_) (fun hb => ?_) <;> try (exfalso; omega))) | with_reducible (first | refine cw_then ?_ | refine cw_region ?_ | refine wCt ?_ | refine wCf ?_) | (((with_reducible refine wCd (fun hb => ?_) (fun hb => ?_)) <;> try subst hb) <;> try (exfalso; omega)) | (((with_reducible refine wCe (fun hb => ?_) (fun hb => ?_)) <;> try subst hb) <;> try (exfalso; omega)) | ((with_reducible refine wCn (fun hb => ?_) (fun hb => ?_)) <;> try (exfalso; omega)) | ((with_reducible refine wCo (fun hb => ?_) (fun hb => ?_))) | ((with_reducible refine wCi (fun hb => ?_) (fun hb => ?_))) | with_reducible (first | refine cw_block ?_ | refine cw_skip ?_ | refine cw_exit ?_ | refine cw_ret ?_ | refine cw_label ?_ | refine cw_scope ?_ | refine inB_same ?_ | refine inB_n ?_ | refine inB_r ?_ | refine wIo ?_ | refine noG_n ?_ | refine noG_r ?_ | refine noG_e ?_))
    exact ret1 (v := .int .i64 8) rfl rfl (sub_mk ⟨rfl, _, ⟨_, _, _, _, _, _, _, _, _, _, hF, hR, hT, by unfold mCells; rw [he, hpk]⟩, rfl⟩)
  | false =>
  cases hb : m.begun with
  | false =>
    obtain ⟨g1, g2, g3, g4⟩ := hI.fresh hb
    have hs : Am.step p m = (0, Am.enter p { m with begun := true } m.first [] false) := by unfold Am.step; simp [he, hpk, hb]
    rw [hs]
    obtain ⟨fa, fm, fc, ta, tm, tc, cells, FB, RB, TB, hF, hR, hT, rfl⟩ := hM.ex
    rw [g1] at hR
    cases hR
    have hz := hI.valid.sized _ (fn_mem hI.f0 hI.f1)
    simp [Pm.sized] at hz
    have hfm := hF.len.1
    simp at hfm
    unfold mCells
    rw [he, hpk, hb]
    refine fn_of Try.func23 rfl rfl ?_
    repeat' (first | with_reducible (first | refine thenQ_n ?_ | refine thenQ_e ?_ | refine thenQ_r ?_ | refine ow_nil ?_) | (first | refine wY ?_ | refine wA ?_ | refine wS ?_ | refine wL (fun bk => ?_) | refine wB (fun bk => ?_) | refine wX (fun bk => ?_) | refine wB0 (fun bk => ?_) | refine wB1 (fun bk => ?_) | refine wB1o (fun bk => ?_) | refine wB2o (fun bk => ?_) | refine wG ?_ | (refine wGd (fun hb => ?_) (fun hb => ?_) <;> try (exfalso; omega)) | (refine wGe (fun hb => ?_) (fun hb => ?_) <;> try (exfalso; omega)) | (refine wGn (fun hb => ?_) (fun hb => ?_) <;> try (exfalso; omega))) | with_reducible (first | refine cw_then ?_ | refine cw_region ?_ | refine wCt ?_ | refine wCf ?_) | (((with_reducible refine wCd (fun hb => ?_) (fun hb => ?_)) <;> try subst hb) <;> try (exfalso; omega)) | (((with_reducible refine wCe (fun hb => ?_) (fun hb => ?_)) <;> try subst hb) <;> try (exfalso; omega)) | ((with_reducible refine wCn (fun hb => ?_) (fun hb => ?_)) <;> try (exfalso; omega)) | ((with_reducible refine wCo (fun hb => ?_) (fun hb => ?_))) | ((with_reducible refine wCi (fun hb => ?_) (fun hb => ?_))) | with_reducible (first | refine cw_block ?_ | refine cw_skip ?_ | refine cw_exit ?_ | refine cw_ret ?_ | refine cw_label ?_ | refine cw_scope ?_ | refine inB_same ?_ | refine inB_n ?_ | refine inB_r ?_ | refine wIo ?_ | refine noG_n ?_ | refine noG_r ?_ | refine noG_e ?_))
    refine ow_call (enter_fn mb pa pm pc p PB hp { m with begun := true, ended := false, parked := false } fa fm fc ta tm tc [] FB hF (by omega) m.first hI.f0 (by have := hI.f1; omega) (by omega) [] (by simp; omega) none 0 [] (.inl ⟨rfl, rfl, rfl, rfl⟩) false) rfl (fun v L' hv => ?_)
    obtain ⟨rfl, fa', fc', FB', la', lm', lc', LB', hF', hL', rfl⟩ := hv
    repeat' (first | with_reducible (first | refine thenQ_n ?_ | refine thenQ_e ?_ | refine thenQ_r ?_ | refine ow_nil ?_) | (first | refine wY ?_ | refine wA ?_ | refine wS ?_ | refine wL (fun bk => ?_) | refine wB (fun bk => ?_) | refine wX (fun bk => ?_) | refine wB0 (fun bk => ?_) | refine wB1 (fun bk => ?_) | refine wB1o (fun bk => ?_) | refine wB2o (fun bk => ?_) | refine wG ?_ | (refine wGd (fun hb => ?_) (fun hb => ?_) <;> try (exfalso; omega)) | (refine wGe (fun hb => ?_) (fun hb => ?_) <;> try (exfalso; omega)) | (refine wGn (fun hb => ?_) (fun hb => ?_) <;> try (exfalso; omega))) | with_reducible (first | refine cw_then ?_ | refine cw_region ?_ | refine wCt ?_ | refine wCf ?_) | (((with_reducible refine wCd (fun hb => ?_) (fun hb => ?_)) <;> try subst hb) <;> try (exfalso; omega)) | (((with_reducible refine wCe (fun hb => ?_) (fun hb => ?_)) <;> try subst hb) <;> try (exfalso; omega)) | ((with_reducible refine wCn (fun hb => ?_) (fun hb => ?_)) <;> try (exfalso; omega)) | ((with_reducible refine wCo (fun hb => ?_) (fun hb => ?_))) | ((with_reducible refine wCi (fun hb => ?_) (fun hb => ?_))) | with_reducible (first | refine cw_block ?_ | refine cw_skip ?_ | refine cw_exit ?_ | refine cw_ret ?_ | refine cw_label ?_ | refine cw_scope ?_ | refine inB_same ?_ | refine inB_n ?_ | refine inB_r ?_ | refine wIo ?_ | refine noG_n ?_ | refine noG_r ?_ | refine noG_e ?_))
    have hn : FrRow ⟨m.first, 0, 0, false, 0, [], fill (Pm.fn p m.first).locals.toNat [], []⟩ _ ([] ++ (LB' ++ ([] ++ []))) := .mk (.nil (s := 2) (e := 85)) .nil hL' (.nil (s := 1) (e := 28))
    exact ret1 (v := .int .i64 0) rfl rfl (sub_mk (L' := ((mb, mCells pa pm pc { m with begun := true, ended := false, parked := false } fa' (fm + 1) fc' ta tm tc, 76) :: (FB' ++ (TB ++ (([] ++ (LB' ++ ([] ++ []))) ++ [])))) ++ PB) ⟨rfl, _, ⟨_, _, _, _, _, _, _, _, _, _, hF', by simp only [g1]; exact .cons .nil hn, hT, by simp [mCells, he, hpk]⟩, rfl⟩)
  | true =>
  cases hfr : m.frames with
  | nil => exact absurd hfr (hI.live hb he)
  | cons x fs =>
  obtain ⟨fb, fm, fc, ta, tm, tc, TB, cs, junk, B, da, dm, dc, la, lm, lc, oa, om, oc, dcs, DB, AB, LB, OB, hT, hfm, hcs, hD, hDf, hL, hO, hj, hfc, hc63, rfl⟩ := mrep_open hM hfr
  have hx := hI.frs x (by rw [hfr]; simp)
  rw [hfr] at hfl
  simp only [List.length_cons] at hfl
  refine Ct.perm (L0 := (mb, mCells pa pm pc m (some ⟨fb, 0, none⟩) fm fc ta tm tc, 76) :: (fb, cs ++ rowOf x da dm dc la lm lc oa om oc junk, 66) :: (TB ++ ((OB ++ (LB ++ (DB ++ AB))) ++ (B ++ PB)))) (by simp only [List.cons_append, List.append_assoc]; exact List.Perm.refl _) ?_
  have hA : LenIs cs (((fm : Int) - 1).toNat * 8) := ⟨by rw [hcs.len]; congr 1; omega⟩
  by_cases hmo : x.mode = 0
  · have hs : Am.step p m = (0, Am.run p m) := by unfold Am.step; simp [he, hpk, hb, hfr, hmo]
    rw [hs]
    have H := Here.of hI.valid hI.fam hx (hI.top x fs hfr hmo)
    have hz := hI.valid.sized _ (fn_mem hx.f0 hx.f1)
    simp [Pm.sized] at hz
    have hrun := run_fn (h0 := h0) mb fb pa pm pc p PB hp m x fs hfr fm fc ta tm tc TB hT hl hfm (by omega) cs junk B hcs da dm dc la lm lc oa om oc dcs DB AB LB OB hD hDf hL hO hx.f0 (by have := hx.f1; omega) hx.pc0 H.at_ (by omega) hmo H.pops0 H.pops1 (by have := hx.ops; omega)
      (fun hd e => by have hc := hI.chain; rw [hfr, e] at hc; rw [Chain] at hc; rw [hc] at hd; cases hd) hx.dfr (by omega) H.shaped hI.valid hx.loc hj hfc hc63
    have hc : mCells pa pm pc m (some ⟨fb, 0, none⟩) fm fc ta tm tc = [.slice pa pm pc, .int .i64 m.first, .bool true, .bool false, .bool false, .int .u64 m.refs, .slice (some ⟨fb, 0, none⟩) fm fc, .slice ta tm tc] := by unfold mCells; rw [he, hpk, hb]
    rw [hc] at hrun ⊢
    unfold rowOf at hrun ⊢
    rw [hmo] at hrun ⊢
    refine fn_of Try.func23 rfl rfl ?_
    repeat' (first | with_reducible (first | refine thenQ_n ?_ | refine thenQ_e ?_ | refine thenQ_r ?_ | refine ow_nil ?_) | (first | refine wY ?_ | refine wA ?_ | refine wS ?_ | refine wL (fun bk => ?_) | refine wB (fun bk => ?_) | refine wX (fun bk => ?_) | refine wB0 (fun bk => ?_) | refine wB1 (fun bk => ?_) | refine wB1o (fun bk => ?_) | refine wB2o (fun bk => ?_) | refine wG ?_ | (refine wGd (fun hb => ?_) (fun hb => ?_) <;> try (exfalso; omega)) | (refine wGe (fun hb => ?_) (fun hb => ?_) <;> try (exfalso; omega)) | (refine wGn (fun hb => ?_) (fun hb => ?_) <;> try (exfalso; omega))) | with_reducible (first | refine cw_then ?_ | refine cw_region ?_ | refine wCt ?_ | refine wCf ?_) | (((with_reducible refine wCd (fun hb => ?_) (fun hb => ?_)) <;> try subst hb) <;> try (exfalso; omega)) | (((with_reducible refine wCe (fun hb => ?_) (fun hb => ?_)) <;> try subst hb) <;> try (exfalso; omega)) | ((with_reducible refine wCn (fun hb => ?_) (fun hb => ?_)) <;> try (exfalso; omega)) | ((with_reducible refine wCo (fun hb => ?_) (fun hb => ?_))) | ((with_reducible refine wCi (fun hb => ?_) (fun hb => ?_))) | with_reducible (first | refine cw_block ?_ | refine cw_skip ?_ | refine cw_exit ?_ | refine cw_ret ?_ | refine cw_label ?_ | refine cw_scope ?_ | refine inB_same ?_ | refine inB_n ?_ | refine inB_r ?_ | refine wIo ?_ | refine noG_n ?_ | refine noG_r ?_ | refine noG_e ?_))
    refine cw_drawn 15 rfl rfl ?_
    repeat (first | refine wN ?_ | refine wK ?_)
    refine wZ ?_
    repeat' (first | with_reducible (first | refine thenQ_n ?_ | refine thenQ_e ?_ | refine thenQ_r ?_ | refine ow_nil ?_) | (first | refine wY ?_ | refine wA ?_ | refine wS ?_ | refine wL (fun bk => ?_) | refine wB (fun bk => ?_) | refine wX (fun bk => ?_) | refine wB0 (fun bk => ?_) | refine wB1 (fun bk => ?_) | refine wB1o (fun bk => ?_) | refine wB2o (fun bk => ?_) | refine wG ?_ | (refine wGd (fun hb => ?_) (fun hb => ?_) <;> try (exfalso; omega)) | (refine wGe (fun hb => ?_) (fun hb => ?_) <;> try (exfalso; omega)) | (refine wGn (fun hb => ?_) (fun hb => ?_) <;> try (exfalso; omega))) | with_reducible (first | refine cw_then ?_ | refine cw_region ?_ | refine wCt ?_ | refine wCf ?_) | (((with_reducible refine wCd (fun hb => ?_) (fun hb => ?_)) <;> try subst hb) <;> try (exfalso; omega)) | (((with_reducible refine wCe (fun hb => ?_) (fun hb => ?_)) <;> try subst hb) <;> try (exfalso; omega)) | ((with_reducible refine wCn (fun hb => ?_) (fun hb => ?_)) <;> try (exfalso; omega)) | ((with_reducible refine wCo (fun hb => ?_) (fun hb => ?_))) | ((with_reducible refine wCi (fun hb => ?_) (fun hb => ?_))) | with_reducible (first | refine cw_block ?_ | refine cw_skip ?_ | refine cw_exit ?_ | refine cw_ret ?_ | refine cw_label ?_ | refine cw_scope ?_ | refine inB_same ?_ | refine inB_n ?_ | refine inB_r ?_ | refine wIo ?_ | refine noG_n ?_ | refine noG_r ?_ | refine noG_e ?_))
    refine ow_call_all hrun rfl (fun v L' hv => ?_)
    obtain ⟨rfl, B', hB', rfl⟩ := hv
    repeat' (first | with_reducible (first | refine thenQ_n ?_ | refine thenQ_e ?_ | refine thenQ_r ?_ | refine ow_nil ?_) | (first | refine wY ?_ | refine wA ?_ | refine wS ?_ | refine wL (fun bk => ?_) | refine wB (fun bk => ?_) | refine wX (fun bk => ?_) | refine wB0 (fun bk => ?_) | refine wB1 (fun bk => ?_) | refine wB1o (fun bk => ?_) | refine wB2o (fun bk => ?_) | refine wG ?_ | (refine wGd (fun hb => ?_) (fun hb => ?_) <;> try (exfalso; omega)) | (refine wGe (fun hb => ?_) (fun hb => ?_) <;> try (exfalso; omega)) | (refine wGn (fun hb => ?_) (fun hb => ?_) <;> try (exfalso; omega))) | with_reducible (first | refine cw_then ?_ | refine cw_region ?_ | refine wCt ?_ | refine wCf ?_) | (((with_reducible refine wCd (fun hb => ?_) (fun hb => ?_)) <;> try subst hb) <;> try (exfalso; omega)) | (((with_reducible refine wCe (fun hb => ?_) (fun hb => ?_)) <;> try subst hb) <;> try (exfalso; omega)) | ((with_reducible refine wCn (fun hb => ?_) (fun hb => ?_)) <;> try (exfalso; omega)) | ((with_reducible refine wCo (fun hb => ?_) (fun hb => ?_))) | ((with_reducible refine wCi (fun hb => ?_) (fun hb => ?_))) | with_reducible (first | refine cw_block ?_ | refine cw_skip ?_ | refine cw_exit ?_ | refine cw_ret ?_ | refine cw_label ?_ | refine cw_scope ?_ | refine inB_same ?_ | refine inB_n ?_ | refine inB_r ?_ | refine wIo ?_ | refine noG_n ?_ | refine noG_r ?_ | refine noG_e ?_))
    exact ret1 (v := .int .i64 0) rfl rfl (sub_mk ⟨rfl, B', hB', rfl⟩)
  · have hs : Am.step p m = (0, Am.leave p m) := by unfold Am.step; simp [he, hpk, hb, hfr, hmo]
    rw [hs]
    have hrun := leave_fn (h0 := h0) mb fb pa pm pc p PB hp D m hI x fs hfr fm fc ta tm tc TB hT hl hfm (by omega) cs junk B hcs da dm dc la lm lc oa om oc dcs DB AB LB OB hD hDf hL hO hj hfc hc63
    have hc : mCells pa pm pc m (some ⟨fb, 0, none⟩) fm fc ta tm tc = [.slice pa pm pc, .int .i64 m.first, .bool true, .bool false, .bool false, .int .u64 m.refs, .slice (some ⟨fb, 0, none⟩) fm fc, .slice ta tm tc] := by unfold mCells; rw [he, hpk, hb]
    rw [hc] at hrun ⊢
    unfold rowOf at hrun ⊢
    refine fn_of Try.func23 rfl rfl ?_
    repeat' (first | with_reducible (first | refine thenQ_n ?_ | refine thenQ_e ?_ | refine thenQ_r ?_ | refine ow_nil ?_) | (first | refine wY ?_ | refine wA ?_ | refine wS ?_ | refine wL (fun bk => ?_) | refine wB (fun bk => ?_) | refine wX (fun bk => ?_) | refine wB0 (fun bk => ?_) | refine wB1 (fun bk => ?_) | refine wB1o (fun bk => ?_) | refine wB2o (fun bk => ?_) | refine wG ?_ | (refine wGd (fun hb => ?_) (fun hb => ?_) <;> try (exfalso; omega)) | (refine wGe (fun hb => ?_) (fun hb => ?_) <;> try (exfalso; omega)) | (refine wGn (fun hb => ?_) (fun hb => ?_) <;> try (exfalso; omega))) | with_reducible (first | refine cw_then ?_ | refine cw_region ?_ | refine wCt ?_ | refine wCf ?_) | (((with_reducible refine wCd (fun hb => ?_) (fun hb => ?_)) <;> try subst hb) <;> try (exfalso; omega)) | (((with_reducible refine wCe (fun hb => ?_) (fun hb => ?_)) <;> try subst hb) <;> try (exfalso; omega)) | ((with_reducible refine wCn (fun hb => ?_) (fun hb => ?_)) <;> try (exfalso; omega)) | ((with_reducible refine wCo (fun hb => ?_) (fun hb => ?_))) | ((with_reducible refine wCi (fun hb => ?_) (fun hb => ?_))) | with_reducible (first | refine cw_block ?_ | refine cw_skip ?_ | refine cw_exit ?_ | refine cw_ret ?_ | refine cw_label ?_ | refine cw_scope ?_ | refine inB_same ?_ | refine inB_n ?_ | refine inB_r ?_ | refine wIo ?_ | refine noG_n ?_ | refine noG_r ?_ | refine noG_e ?_))
    refine cw_drawn 15 rfl rfl ?_
    repeat (first | refine wN ?_ | refine wK ?_)
    refine wZ ?_
    repeat' (first | with_reducible (first | refine thenQ_n ?_ | refine thenQ_e ?_ | refine thenQ_r ?_ | refine ow_nil ?_) | (first | refine wY ?_ | refine wA ?_ | refine wS ?_ | refine wL (fun bk => ?_) | refine wB (fun bk => ?_) | refine wX (fun bk => ?_) | refine wB0 (fun bk => ?_) | refine wB1 (fun bk => ?_) | refine wB1o (fun bk => ?_) | refine wB2o (fun bk => ?_) | refine wG ?_ | (refine wGd (fun hb => ?_) (fun hb => ?_) <;> try (exfalso; omega)) | (refine wGe (fun hb => ?_) (fun hb => ?_) <;> try (exfalso; omega)) | (refine wGn (fun hb => ?_) (fun hb => ?_) <;> try (exfalso; omega))) | with_reducible (first | refine cw_then ?_ | refine cw_region ?_ | refine wCt ?_ | refine wCf ?_) | (((with_reducible refine wCd (fun hb => ?_) (fun hb => ?_)) <;> try subst hb) <;> try (exfalso; omega)) | (((with_reducible refine wCe (fun hb => ?_) (fun hb => ?_)) <;> try subst hb) <;> try (exfalso; omega)) | ((with_reducible refine wCn (fun hb => ?_) (fun hb => ?_)) <;> try (exfalso; omega)) | ((with_reducible refine wCo (fun hb => ?_) (fun hb => ?_))) | ((with_reducible refine wCi (fun hb => ?_) (fun hb => ?_))) | with_reducible (first | refine cw_block ?_ | refine cw_skip ?_ | refine cw_exit ?_ | refine cw_ret ?_ | refine cw_label ?_ | refine cw_scope ?_ | refine inB_same ?_ | refine inB_n ?_ | refine inB_r ?_ | refine wIo ?_ | refine noG_n ?_ | refine noG_r ?_ | refine noG_e ?_))
    refine ow_call_all hrun rfl (fun v L' hv => ?_)
    obtain ⟨rfl, B', hB', rfl⟩ := hv
    repeat' (first | with_reducible (first | refine thenQ_n ?_ | refine thenQ_e ?_ | refine thenQ_r ?_ | refine ow_nil ?_) | (first | refine wY ?_ | refine wA ?_ | refine wS ?_ | refine wL (fun bk => ?_) | refine wB (fun bk => ?_) | refine wX (fun bk => ?_) | refine wB0 (fun bk => ?_) | refine wB1 (fun bk => ?_) | refine wB1o (fun bk => ?_) | refine wB2o (fun bk => ?_) | refine wG ?_ | (refine wGd (fun hb => ?_) (fun hb => ?_) <;> try (exfalso; omega)) | (refine wGe (fun hb => ?_) (fun hb => ?_) <;> try (exfalso; omega)) | (refine wGn (fun hb => ?_) (fun hb => ?_) <;> try (exfalso; omega))) | with_reducible (first | refine cw_then ?_ | refine cw_region ?_ | refine wCt ?_ | refine wCf ?_) | (((with_reducible refine wCd (fun hb => ?_) (fun hb => ?_)) <;> try subst hb) <;> try (exfalso; omega)) | (((with_reducible refine wCe (fun hb => ?_) (fun hb => ?_)) <;> try subst hb) <;> try (exfalso; omega)) | ((with_reducible refine wCn (fun hb => ?_) (fun hb => ?_)) <;> try (exfalso; omega)) | ((with_reducible refine wCo (fun hb => ?_) (fun hb => ?_))) | ((with_reducible refine wCi (fun hb => ?_) (fun hb => ?_))) | with_reducible (first | refine cw_block ?_ | refine cw_skip ?_ | refine cw_exit ?_ | refine cw_ret ?_ | refine cw_label ?_ | refine cw_scope ?_ | refine inB_same ?_ | refine inB_n ?_ | refine inB_r ?_ | refine wIo ?_ | refine noG_n ?_ | refine noG_r ?_ | refine noG_e ?_))
    exact ret1 (v := .int .i64 0) rfl rfl (sub_mk ⟨rfl, B', hB', rfl⟩)
end Go.Proofs.Ytnijpdehchdinaa
