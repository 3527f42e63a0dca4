/-
  The machine's run, joined.
-/
import Derived.Test.YtnijpdehchdinaaRunA
import Derived.Test.YtnijpdehchdinaaRunB
import Derived.Test.YtnijpdehchdinaaRunC
set_option linter.unusedVariables false
set_option linter.unusedSimpArgs false
namespace Go.Proofs.Ytnijpdehchdinaa
open Go Go.Proofs Go.Hl Go.Am
variable {h0 : Array Obj}

set_option maxHeartbeats 4000000 in
set_option maxRecDepth 4000 in
theorem run_fn (mb fb : Nat) (pa : Option Addr) (pm pc : Nat) (p : Pm.Prog) (PB : List Blk) (hp : ProgRd h0 PB pa pm pc p) (m : Mach) (x : Frm) (fs : List Frm) (hfr : m.frames = x :: fs) (fm fc : Nat) (ta : Option Addr) (tm tc : Nat) (TB : List Blk) (hT : Vec 2 31 ta tm tc (markCells m.trace) TB) (hl : m.trace.length ≤ 1000000) (hfm : fm = fs.length + 1) (hfm2 : fm ≤ 1000000) (cs junk : List Value) (B : List Blk) (hcs : FrRep fs cs B)
    (da : Option Addr) (dm dc : Nat) (la : Option Addr) (lm lc : Nat) (oa : Option Addr) (om oc : Nat) (dcs : List Value) (DB AB LB OB : List Blk) (hD : Vec 2 85 da dm dc dcs DB) (hDf : DfRep x.defers dcs AB) (hL : Vec 1 28 la lm lc (ints .u64 x.locals) LB) (hO : Vec 1 28 oa om oc (ints .u64 x.ops) OB)
    (hf0 : 0 ≤ x.f) (hf : x.f < pm) (hat0 : 0 ≤ x.pc) (hat : x.pc < (Pm.fn p x.f).code.length) (hpc64 : (Pm.fn p x.f).code.length ≤ 64) (hmo : x.mode = 0) (hpo : 0 ≤ Pm.pops p (instr p x)) (hpo2 : Pm.pops p (instr p x) ≤ x.ops.length) (hop8 : x.ops.length ≤ 1000) (hbot : x.deferred = true → fs ≠ []) (hd4 : x.defers.length ≤ 4) (hfl : 0 ≤ (Pm.fn p x.f).locals ∧ (Pm.fn p x.f).locals ≤ 8 ∧ 0 ≤ (Pm.fn p x.f).refs ∧ (Pm.fn p x.f).refs ≤ (Pm.fn p x.f).locals) (hsh : Pm.shaped p (Pm.fn p x.f) (instr p x) = true) (hv : Pm.Valid p) (hll : (x.locals.length : Int) = (Pm.fn p x.f).locals) (hj : cs.length + 8 + junk.length = fc * 8) (hfc : fm ≤ fc) (hc63 : fc ≤ maxLen) :
    Ct Try.prog h0 42 [.pointer (some ⟨mb, 0, none⟩)] ((mb, mCells pa pm pc m (some ⟨fb, 0, none⟩) fm fc ta tm tc, 76) :: (fb, cs ++ rowOf x da dm dc la lm lc oa om oc junk, 66) :: (TB ++ ((OB ++ (LB ++ (DB ++ AB))) ++ (B ++ PB))))
      fun v L' => v = .tuple #[] ∧ ∃ B', MRep mb pa pm pc (Am.run p m) B' ∧ L' = B' ++ PB := by
  have hcl := hcs.len
  have hA : LenIs cs (((fm : Int) - 1).toNat * 8) := ⟨by rw [hcl]; congr 1; omega⟩
  have hOl := hO.len
  rw [length_ints] at hOl
  unfold mCells rowOf
  refine fn_of Try.func42 rfl rfl ?_
  refine cw_then (cw_region ?_)
  repeat (first | refine wY ?_ | refine wA ?_ | refine wS ?_ | refine wL (fun bk => ?_) | refine wB (fun bk => ?_) | refine wX (fun bk => ?_) | refine wB0 (fun bk => ?_) | refine wB1 (fun bk => ?_) | refine wB1o (fun bk => ?_) | refine wB2o (fun bk => ?_) | refine wG ?_ | (refine wGd (fun hb => ?_) (fun hb => ?_)) | (refine wGe (fun hb => ?_) (fun hb => ?_)) | (refine wGn (fun hb => ?_) (fun hb => ?_)))
  refine ow_nil (thenQ_n ?_)
  rename Nat => tb
  refine cw_then (cw_region ?_)
  repeat (first | refine wY ?_ | refine wA ?_ | refine wS ?_ | refine wL (fun bk => ?_) | refine wB (fun bk => ?_) | refine wX (fun bk => ?_) | refine wB0 (fun bk => ?_) | refine wB1 (fun bk => ?_) | refine wB1o (fun bk => ?_) | refine wB2o (fun bk => ?_) | refine wG ?_ | (refine wGd (fun hb => ?_) (fun hb => ?_)) | (refine wGe (fun hb => ?_) (fun hb => ?_)) | (refine wGn (fun hb => ?_) (fun hb => ?_)))
  refine ow_call (mnext_fn mb fb (mCells pa pm pc m (some ⟨fb, 0, none⟩) fm fc ta tm tc) (cs ++ rowOf x da dm dc la lm lc oa om oc junk) pa pm pc p PB hp x.f x.pc hf0 hf hat0 hat x.mode x.value x.deferred da la oa dm dc lm lc om oc fm fc (by omega) hfm2 inferInstance inferInstance inferInstance) rfl (fun v L' hv => ?_)
  obtain ⟨rfl, rfl⟩ := hv
  change OW _ _ _ _ _ (putD _ _ (.agg #[.int .i64 (instr p x).op, .int .i64 (instr p x).a, .int .i64 (instr p x).b])) _ _
  generalize hi : instr p x = i at hpo hpo2
  repeat (first | refine wY ?_ | refine wA ?_ | refine wS ?_ | refine wL (fun bk => ?_) | refine wB (fun bk => ?_) | refine wX (fun bk => ?_) | refine wB0 (fun bk => ?_) | refine wB1 (fun bk => ?_) | refine wB1o (fun bk => ?_) | refine wB2o (fun bk => ?_) | refine wG ?_ | (refine wGd (fun hb => ?_) (fun hb => ?_)) | (refine wGe (fun hb => ?_) (fun hb => ?_)) | (refine wGn (fun hb => ?_) (fun hb => ?_)))
  refine ow_nil (thenQ_n ?_)
  rename Nat => ib
  refine cw_then (cw_drawn 13 rfl rfl ?_)
  repeat (first | refine wN ?_ | refine wK ?_)
  refine wO 11 ?_
  repeat (first | refine wY ?_ | refine wA ?_ | refine wS ?_ | refine wL (fun bk => ?_) | refine wB (fun bk => ?_) | refine wX (fun bk => ?_) | refine wB0 (fun bk => ?_) | refine wB1 (fun bk => ?_) | refine wB1o (fun bk => ?_) | refine wB2o (fun bk => ?_) | refine wG ?_ | (refine wGd (fun hb => ?_) (fun hb => ?_)) | (refine wGe (fun hb => ?_) (fun hb => ?_)) | (refine wGn (fun hb => ?_) (fun hb => ?_)))
  refine wP ?_
  rename Nat => xb
  refine wO 12 ?_
  repeat (first | refine wY ?_ | refine wA ?_ | refine wS ?_ | refine wL (fun bk => ?_) | refine wB (fun bk => ?_) | refine wX (fun bk => ?_) | refine wB0 (fun bk => ?_) | refine wB1 (fun bk => ?_) | refine wB1o (fun bk => ?_) | refine wB2o (fun bk => ?_) | refine wG ?_ | (refine wGd (fun hb => ?_) (fun hb => ?_)) | (refine wGe (fun hb => ?_) (fun hb => ?_)) | (refine wGn (fun hb => ?_) (fun hb => ?_)))
  refine wP ?_
  refine wZ ?_
  refine thenQ_n ?_
  refine cw_then (cw_region ?_)
  repeat (first | refine wY ?_ | refine wA ?_ | refine wS ?_ | refine wL (fun bk => ?_) | refine wB (fun bk => ?_) | refine wX (fun bk => ?_) | refine wB0 (fun bk => ?_) | refine wB1 (fun bk => ?_) | refine wB1o (fun bk => ?_) | refine wB2o (fun bk => ?_) | refine wG ?_ | (refine wGd (fun hb => ?_) (fun hb => ?_)) | (refine wGe (fun hb => ?_) (fun hb => ?_)) | (refine wGn (fun hb => ?_) (fun hb => ?_)))
  refine ow_nil (thenQ_n ?_)
  refine cw_then (cw_region ?_)
  refine ow_ylx ⟨_, yl_makeFuncl rfl (rfl : _ = [Value.pointer (some ⟨xb, 0, none⟩)]), ?_⟩
  repeat (first | refine wY ?_ | refine wA ?_ | refine wS ?_ | refine wL (fun bk => ?_) | refine wB (fun bk => ?_) | refine wX (fun bk => ?_) | refine wB0 (fun bk => ?_) | refine wB1 (fun bk => ?_) | refine wB1o (fun bk => ?_) | refine wB2o (fun bk => ?_) | refine wG ?_ | (refine wGd (fun hb => ?_) (fun hb => ?_)) | (refine wGe (fun hb => ?_) (fun hb => ?_)) | (refine wGn (fun hb => ?_) (fun hb => ?_)))
  refine ow_nil (thenQ_n ?_)
  refine cw_then (cw_region ?_)
  refine ow_ylx ⟨_, yl_makeFuncl rfl (rfl : _ = [Value.pointer (some ⟨xb, 0, none⟩)]), ?_⟩
  repeat (first | refine wY ?_ | refine wA ?_ | refine wS ?_ | refine wL (fun bk => ?_) | refine wB (fun bk => ?_) | refine wX (fun bk => ?_) | refine wB0 (fun bk => ?_) | refine wB1 (fun bk => ?_) | refine wB1o (fun bk => ?_) | refine wB2o (fun bk => ?_) | refine wG ?_ | (refine wGd (fun hb => ?_) (fun hb => ?_)) | (refine wGe (fun hb => ?_) (fun hb => ?_)) | (refine wGn (fun hb => ?_) (fun hb => ?_)))
  refine ow_nil (thenQ_n ?_)
  refine cw_then (cw_drawnq 9 rfl rfl [(tb, [.pointer (some ⟨mb, 0, none⟩)], 35), (ib, [.int .i64 i.op, .int .i64 i.a, .int .i64 i.b], 23), (mb, mCells pa pm pc m (some ⟨fb, 0, none⟩) fm fc ta tm tc, 76)] ?_)
  repeat (first | refine wN ?_ | refine wK ?_)
  refine wO 6 ?_
  refine ow_call_all (pops_fn _ pa pm pc p (hp.mono (fun b cs h => by infer_instance)) i) rfl (fun v L' hv => ?_); obtain ⟨rfl, rfl⟩ := hv
  refine wP ?_
  refine wO 7 ?_
  obtain ⟨n, hn⟩ := Int.eq_ofNat_of_zero_le hpo
  rw [hn]
  refine ow_call_value (by with_unfolding_all exact rfl) (pops2_fn xb fb (0 + ((fm : Int) - 1).toNat * 8) (cs ++ (.int .i64 x.f :: .int .i64 (x.pc + 1) :: .int .i64 x.mode :: .bool x.deferred :: .int .u64 x.value :: .slice da dm dc :: .slice la lm lc :: .slice oa om oc :: junk)) n oa om oc _ OB (ints_one .u64 x.ops) hO (by omega) (by omega) inferInstance
    (fun v => cs ++ (.int .i64 x.f :: .int .i64 (x.pc + 1) :: .int .i64 x.mode :: .bool x.deferred :: .int .u64 x.value :: .slice da dm dc :: .slice la lm lc :: v :: junk)) (fun v => inferInstance)) rfl (fun v L' hv => ?_)
  obtain ⟨lp, lpc, CB, rfl, hC, hO', rfl⟩ := hv
  refine wP ?_
  repeat (first | refine wN ?_ | refine wK ?_)
  refine wZ ?_
  refine thenQ_n ?_
  refine cw_then (cw_region ?_)
  refine ow_ylx ⟨_, yl_makeFuncl rfl (rfl : _ = [Value.pointer (some ⟨xb, 0, none⟩), Value.pointer (some ⟨tb, 0, none⟩)]), ?_⟩
  repeat (first | refine wY ?_ | refine wA ?_ | refine wS ?_ | refine wL (fun bk => ?_) | refine wB (fun bk => ?_) | refine wX (fun bk => ?_) | refine wB0 (fun bk => ?_) | refine wB1 (fun bk => ?_) | refine wB1o (fun bk => ?_) | refine wB2o (fun bk => ?_) | refine wG ?_ | (refine wGd (fun hb => ?_) (fun hb => ?_)) | (refine wGe (fun hb => ?_) (fun hb => ?_)) | (refine wGn (fun hb => ?_) (fun hb => ?_)))
  refine ow_nil (thenQ_n ?_)
  refine cw_then (cw_region ?_)
  repeat (first | refine wY ?_ | refine wA ?_ | refine wS ?_ | refine wL (fun bk => ?_) | refine wB (fun bk => ?_) | refine wX (fun bk => ?_) | refine wB0 (fun bk => ?_) | refine wB1 (fun bk => ?_) | refine wB1o (fun bk => ?_) | refine wB2o (fun bk => ?_) | refine wG ?_ | (refine wGd (fun hb => ?_) (fun hb => ?_)) | (refine wGe (fun hb => ?_) (fun hb => ?_)) | (refine wGn (fun hb => ?_) (fun hb => ?_)))
  refine ow_nil (thenQ_n ?_)
  refine cw_canon ((tb, [.pointer (some ⟨mb, 0, none⟩)], 35) :: (xb, [.pointer (some ⟨fb, 0 + ((fm : Int) - 1).toNat * 8, none⟩)], 107) :: (ib, [.int .i64 i.op, .int .i64 i.a, .int .i64 i.b], 23) :: (mb, mCells pa pm pc m (some ⟨fb, 0, none⟩) fm fc ta tm tc, 76) ::
    (fb, cs ++ (.int .i64 x.f :: .int .i64 (x.pc + 1) :: .int .i64 x.mode :: .bool x.deferred :: .int .u64 x.value :: .slice da dm dc :: .slice la lm lc :: .slice oa (om - n) oc :: junk), 66) :: (TB ++ (OB ++ (CB ++ (LB ++ (DB ++ (AB ++ (B ++ PB)))))))) ?_
  refine cw_ov [(1, .pointer (some ⟨tb, 0, none⟩)), (2, .pointer (some ⟨ib, 0, none⟩)), (3, .pointer (some ⟨xb, 0, none⟩)), (4, .func (.func 61) #[] #[.pointer (some ⟨xb, 0, none⟩)]), (6, .slice lp n lpc), (7, .func (.func 64) #[] #[.pointer (some ⟨xb, 0, none⟩), .pointer (some ⟨tb, 0, none⟩)]), (40, .int .i64 i.op)] ⟨rfl, rfl, rfl, rfl, rfl, rfl, rfl, trivial⟩ (fun T0 => ?_)
  rw [ints_drop] at hC
  rw [ints_take] at hO'
  have htk : Am.taken p x = x.ops.drop (om - n) := by unfold Am.taken; rw [hi, hn]; congr 1; omega
  have hnl : n = (Am.taken p x).length := by rw [htk, List.length_drop]; omega
  have hlf : Am.left p x = { x with pc := x.pc + 1, ops := x.ops.take (om - n) } := by unfold Am.left; rw [hi, hn]; congr 2; omega
  have hrun : Am.run p m = Am.act p m (Am.left p x) fs i (Am.taken p x) := by unfold Am.run; rw [hfr]; dsimp only; rw [hi]
  rw [hrun]
  rw [hi] at hsh
  rw [← htk] at hC
  have hO2 : Vec 1 28 oa (om - n) oc (ints .u64 (Am.left p x).ops) OB := by rw [hlf]; exact hO'
  have hL2 : Vec 1 28 la lm lc (ints .u64 (Am.left p x).locals) LB := by rw [hlf]; exact hL
  have hDf2 : DfRep (Am.left p x).defers dcs AB := by rw [hlf]; exact hDf
  have hop8' : (Am.left p x).ops.length ≤ 1000 := by rw [hlf]; simp; omega
  have hxl : (Am.left p x).locals = x.locals := by rw [hlf]
  have hxf : (Am.left p x).f = x.f := by rw [hlf]
  have hxd : (Am.left p x).deferred = x.deferred := by rw [hlf]
  have hxds : (Am.left p x).defers = x.defers := by rw [hlf]
  have hrow : (.int .i64 x.f :: .int .i64 (x.pc + 1) :: .int .i64 x.mode :: .bool x.deferred :: .int .u64 x.value :: .slice da dm dc :: .slice la lm lc :: .slice oa (om - n) oc :: junk) = rowOf (Am.left p x) da dm dc la lm lc oa (om - n) oc junk := by rw [hlf]
  rw [hrow]
  have hgo : ∀ (l : List Int) (x1 : Frm), l.length = n → True := fun _ _ _ => trivial
  generalize htl : Am.taken p x = l at *
  generalize hlx : Am.left p x = x1 at *
  subst hnl
  have hp1 : i.op = 4 ∨ i.op = 9 ∨ i.op = 10 ∨ i.op = 16 ∨ i.op = 18 ∨ i.op = 20 ∨ i.op = 22 → 1 ≤ l.length := fun h => by
    have : Pm.pops p i = 1 := by unfold Pm.pops; rw [if_neg (by omega), if_neg (by omega), if_pos (by omega)]
    omega
  have hp2 : (5 ≤ i.op ∧ i.op ≤ 8) ∨ (11 ≤ i.op ∧ i.op ≤ 14) → 2 ≤ l.length := fun h => by
    have : Pm.pops p i = 2 := by unfold Pm.pops; rw [if_neg (by omega), if_pos (by omega)]
    omega
  have hll1 : (x1.locals.length : Int) = (Pm.fn p x.f).locals := by rw [hxl]; exact hll
  have hwi : ∀ a n : Int, Pm.within a n = true → 0 ≤ a ∧ a < n := fun a n h => by simpa [Pm.within] using h
  have hloc : i.op = 3 ∨ i.op = 4 → 0 ≤ i.a ∧ i.a < x1.locals.length := fun h => by
    unfold Pm.shaped at hsh; rw [if_neg (by omega), if_neg (by omega), if_pos (by omega), Bool.and_eq_true] at hsh
    have := hwi _ _ hsh.1; omega
  by_cases h : i.op = 1
  · exact act_push mb fb tb ib xb pa pm pc p PB hp m x1 fs fm fc ta tm tc TB hT hl hfm hfm2 cs junk B hcs da dm dc la lm lc oa (om - l.length) oc dcs DB AB LB OB hD hDf2 hL2 hO2 hj hfc hc63 hop8' i l lp lpc CB hC T0 h 
  by_cases h : i.op = 2
  · exact act_odd mb fb tb ib xb pa pm pc p PB hp m x1 fs fm fc ta tm tc TB hT hl hfm hfm2 cs junk B hcs da dm dc la lm lc oa (om - l.length) oc dcs DB AB LB OB hD hDf2 hL2 hO2 hj hfc hc63 hop8' i l lp lpc CB hC T0 h (by unfold Pm.shaped at hsh; rw [if_neg (by omega), if_pos h, Bool.and_eq_true] at hsh; exact hwi _ _ hsh.1)
  by_cases h : i.op = 3
  · exact act_load mb fb tb ib xb pa pm pc p PB hp m x1 fs fm fc ta tm tc TB hT hl hfm hfm2 cs junk B hcs da dm dc la lm lc oa (om - l.length) oc dcs DB AB LB OB hD hDf2 hL2 hO2 hj hfc hc63 hop8' i l lp lpc CB hC T0 h (hloc (by omega))
  by_cases h : i.op = 4
  · exact act_store mb fb tb ib xb pa pm pc p PB hp m x1 fs fm fc ta tm tc TB hT hl hfm hfm2 cs junk B hcs da dm dc la lm lc oa (om - l.length) oc dcs DB AB LB OB hD hDf2 hL2 hO2 hj hfc hc63 hop8' i l lp lpc CB hC T0 h (hp1 (by omega)) (hloc (by omega))
  by_cases h : i.op = 9
  · exact act_neg mb fb tb ib xb pa pm pc p PB hp m x1 fs fm fc ta tm tc TB hT hl hfm hfm2 cs junk B hcs da dm dc la lm lc oa (om - l.length) oc dcs DB AB LB OB hD hDf2 hL2 hO2 hj hfc hc63 hop8' i l lp lpc CB hC T0 h (hp1 (by omega))
  by_cases h : i.op = 10
  · exact act_floor mb fb tb ib xb pa pm pc p PB hp m x1 fs fm fc ta tm tc TB hT hl hfm hfm2 cs junk B hcs da dm dc la lm lc oa (om - l.length) oc dcs DB AB LB OB hD hDf2 hL2 hO2 hj hfc hc63 hop8' i l lp lpc CB hC T0 h (hp1 (by omega))
  by_cases h : i.op = 15
  · exact act_jump mb fb tb ib xb pa pm pc p PB hp m x1 fs fm fc ta tm tc TB hT hl hfm hfm2 cs junk B hcs da dm dc la lm lc oa (om - l.length) oc dcs DB AB LB OB hD hDf2 hL2 hO2 hj hfc hc63 hop8' i l lp lpc CB hC T0 h 
  by_cases h : i.op = 16
  · exact act_if mb fb tb ib xb pa pm pc p PB hp m x1 fs fm fc ta tm tc TB hT hl hfm hfm2 cs junk B hcs da dm dc la lm lc oa (om - l.length) oc dcs DB AB LB OB hD hDf2 hL2 hO2 hj hfc hc63 hop8' i l lp lpc CB hC T0 h (hp1 (by omega))
  by_cases h : i.op = 18
  · exact act_return mb fb tb ib xb pa pm pc p PB hp m x1 fs fm fc ta tm tc TB hT hl hfm hfm2 cs junk B hcs da dm dc la lm lc oa (om - l.length) oc dcs DB AB LB OB hD hDf2 hL2 hO2 hj hfc hc63 hop8' i l lp lpc CB hC T0 h (hp1 (by omega))
  by_cases h : i.op = 20
  · exact act_panic mb fb tb ib xb pa pm pc p PB hp m x1 fs fm fc ta tm tc TB hT hl hfm hfm2 cs junk B hcs da dm dc la lm lc oa (om - l.length) oc dcs DB AB LB OB hD hDf2 hL2 hO2 hj hfc hc63 hop8' i l lp lpc CB hC T0 h (hp1 (by omega))
  by_cases h : i.op = 19
  · exact act_defer mb fb tb ib xb pa pm pc p PB hp m x1 fs fm fc ta tm tc TB hT hl hfm hfm2 cs junk B hcs da dm dc la lm lc oa (om - l.length) oc dcs DB AB LB OB hD hDf2 hL2 hO2 hj hfc hc63 hop8' i l lp lpc CB hC T0 h (by rw [hxds]; exact hd4)
  by_cases h : i.op = 22
  · exact act_out mb fb tb ib xb pa pm pc p PB hp m x1 fs fm fc ta tm tc TB hT hl hfm hfm2 cs junk B hcs da dm dc la lm lc oa (om - l.length) oc dcs DB AB LB OB hD hDf2 hL2 hO2 hj hfc hc63 hop8' i l lp lpc CB hC T0 h (hp1 (by omega))
  by_cases h : i.op = 26
  · exact act_park mb fb tb ib xb pa pm pc p PB hp m x1 fs fm fc ta tm tc TB hT hl hfm hfm2 cs junk B hcs da dm dc la lm lc oa (om - l.length) oc dcs DB AB LB OB hD hDf2 hL2 hO2 hj hfc hc63 hop8' i l lp lpc CB hC T0 h 
  by_cases h : i.op = 27
  · exact act_drop mb fb tb ib xb pa pm pc p PB hp m x1 fs fm fc ta tm tc TB hT hl hfm hfm2 cs junk B hcs da dm dc la lm lc oa (om - l.length) oc dcs DB AB LB OB hD hDf2 hL2 hO2 hj hfc hc63 hop8' i l lp lpc CB hC T0 h 
  by_cases h : i.op = 21
  · by_cases hdf : x1.deferred = true
    · cases hfs : fs with
      | nil => exact absurd hfs (hbot (by rw [← hxd]; exact hdf))
      | cons y fs' => rw [← hfs]; exact act_recover_yes mb fb tb ib xb pa pm pc p PB hp m x1 fs fm fc ta tm tc TB hT hl hfm hfm2 cs junk B hcs da dm dc la lm lc oa (om - l.length) oc dcs DB AB LB OB hD hDf2 hL2 hO2 hj hfc hc63 hop8' i l lp lpc CB hC T0 h hdf y fs' hfs
    · exact act_recover_no mb fb tb ib xb pa pm pc p PB hp m x1 fs fm fc ta tm tc TB hT hl hfm hfm2 cs junk B hcs da dm dc la lm lc oa (om - l.length) oc dcs DB AB LB OB hD hDf2 hL2 hO2 hj hfc hc63 hop8' i l lp lpc CB hC T0 h (by simpa using hdf)
  have hpl := hp.len.1
  by_cases h : i.op = 17
  · have hs : 0 ≤ i.a ∧ i.a < p.length := by
      unfold Pm.shaped at hsh
      rw [if_neg (by omega), if_neg (by omega), if_neg (by omega), if_neg (by omega), if_pos (by omega), Bool.and_eq_true] at hsh
      exact hwi _ _ hsh.1
    have hlt : i.a.toNat < p.length := by omega
    have hm : Pm.fn p i.a ∈ p := by unfold Pm.fn; rw [List.getD_eq_getElem?_getD, List.getElem?_eq_getElem hlt]; exact List.getElem_mem hlt
    have hz := hv.sized _ hm
    simp [Pm.sized] at hz
    have hpp : Pm.pops p i = max (Pm.fn p i.a).params 0 := by unfold Pm.pops Pm.params; rw [if_pos (by omega), if_pos (by omega)]
    exact act_call mb fb tb ib xb pa pm pc p PB hp m x1 fs fm fc ta tm tc TB hT hl hfm hfm2 cs junk B hcs da dm dc la lm lc oa (om - l.length) oc dcs DB AB LB OB hD hDf2 hL2 hO2 hj hfc hc63 hop8' i l lp lpc CB hC T0 h ⟨hs.1, by omega, ⟨by omega, by omega⟩, by omega⟩
  have hrf : 0 ≤ i.a → i.a < (Pm.fn p x.f).refs → 0 ≤ i.b → i.b < (Pm.fn p x.f).refs → (0 ≤ i.a ∧ i.a < (Pm.fn p x1.f).refs ∧ 0 ≤ i.b ∧ i.b < (Pm.fn p x1.f).refs ∧ (Pm.fn p x1.f).refs ≤ x1.locals.length ∧ x1.locals.length ≤ 8) := fun a1 a2 a3 a4 => by
    rw [hxf]; omega
  have hx0 : 0 ≤ x1.f := by rw [hxf]; exact hf0
  have hx1 : x1.f < pm := by rw [hxf]; exact hf
  have hab : i.op = 23 ∨ i.op = 25 → 0 ≤ i.a ∧ i.a < (Pm.fn p x.f).refs ∧ i.b = 0 := fun h => by
    unfold Pm.shaped at hsh
    rw [if_neg (by omega), if_neg (by omega), if_neg (by omega), if_neg (by omega), if_neg (by omega), if_pos (by omega), Bool.and_eq_true, decide_eq_true_eq] at hsh
    have := hwi _ _ hsh.1; omega
  by_cases h : i.op = 23
  · have := hab (by omega); exact act_fresh mb fb tb ib xb pa pm pc p PB hp m x1 fs fm fc ta tm tc TB hT hl hfm hfm2 cs junk B hcs da dm dc la lm lc oa (om - l.length) oc dcs DB AB LB OB hD hDf2 hL2 hO2 hj hfc hc63 hop8' i l lp lpc CB hC T0 h hx0 hx1 (hrf (by omega) (by omega) (by omega) (by omega))
  by_cases h : i.op = 25
  · have := hab (by omega); exact act_forget mb fb tb ib xb pa pm pc p PB hp m x1 fs fm fc ta tm tc TB hT hl hfm hfm2 cs junk B hcs da dm dc la lm lc oa (om - l.length) oc dcs DB AB LB OB hD hDf2 hL2 hO2 hj hfc hc63 hop8' i l lp lpc CB hC T0 h hx0 hx1 (hrf (by omega) (by omega) (by omega) (by omega))
  by_cases h : i.op = 24
  · unfold Pm.shaped at hsh
    rw [if_neg (by omega), if_neg (by omega), if_neg (by omega), if_neg (by omega), if_neg (by omega), if_neg (by omega), if_pos (by omega), Bool.and_eq_true] at hsh
    have h1 := hwi _ _ hsh.1
    have h2 := hwi _ _ hsh.2
    exact act_same mb fb tb ib xb pa pm pc p PB hp m x1 fs fm fc ta tm tc TB hT hl hfm hfm2 cs junk B hcs da dm dc la lm lc oa (om - l.length) oc dcs DB AB LB OB hD hDf2 hL2 hO2 hj hfc hc63 hop8' i l lp lpc CB hC T0 h hx0 hx1 (hrf h1.1 h1.2 h2.1 h2.2)
  have h : (5 ≤ i.op ∧ i.op ≤ 8) ∨ (11 ≤ i.op ∧ i.op ≤ 14) := by
    unfold Pm.shaped at hsh
    rw [if_neg (by omega), if_neg (by omega), if_neg (by omega), if_neg (by omega), if_neg (by omega), if_neg (by omega), if_neg (by omega)] at hsh
    split at hsh
    · omega
    · cases hsh
  exact act_two mb fb tb ib xb pa pm pc p PB hp m x1 fs fm fc ta tm tc TB hT hl hfm hfm2 cs junk B hcs da dm dc la lm lc oa (om - l.length) oc dcs DB AB LB OB hD hDf2 hL2 hO2 hj hfc hc63 hop8' i l lp lpc CB hC T0 h (hp2 h)
end Go.Proofs.Ytnijpdehchdinaa
