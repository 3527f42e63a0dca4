/-
  The machine's leave: a call that waits, or the top frame goes.
-/
import Derived.Test.YtnijpdehchdinaaRunD
import Derived.Test.YtnijpdehchdinaaInv
set_option linter.unusedVariables false
set_option linter.unusedSimpArgs false
namespace Go.Proofs.Ytnijpdehchdinaa
open Go Go.Proofs Go.Hl Go.Am
variable {h0 : Array Obj}

theorem frames_vec {fb fm fc : Nat} {x : Frm} {fs : List Frm} {cs junk : List Value} {B : List Blk} (hcs : FrRep fs cs B) (hfm : fm = fs.length + 1) {da : Option Addr} {dm dc : Nat} {la : Option Addr} {lm lc : Nat} {oa : Option Addr} {om oc : Nat}
    (hj : cs.length + 8 + junk.length = fc * 8) (hfc : fm ≤ fc) (hc63 : fc ≤ maxLen) : Vec 8 66 (some ⟨fb, 0, none⟩) fm fc (cs ++ rowOf x da dm dc la lm lc oa om oc []) [(fb, cs ++ rowOf x da dm dc la lm lc oa om oc junk, 66)] := by
  have h := Vec.row (s := 8) (e := 66) fb fm fc (cs ++ rowOf x da dm dc la lm lc oa om oc []) junk (by rw [List.length_append, hcs.len, hfm]; simp; omega) (by simp; omega) hfc hc63
  have e : cs ++ rowOf x da dm dc la lm lc oa om oc [] ++ junk = cs ++ rowOf x da dm dc la lm lc oa om oc junk := by rw [List.append_assoc]; rfl
  rwa [e] at h

/-- The machine with a frame, laid open. -/
theorem mrep_open {mb : Nat} {pa : Option Addr} {pm pc : Nat} {m : Mach} {L : List Blk} (h : MRep mb pa pm pc m L) {x : Frm} {fs : List Frm} (hm : m.frames = x :: fs) :
    ∃ fb fm fc ta tm tc TB cs junk B da dm dc la lm lc oa om oc dcs DB AB LB OB, Vec 2 31 ta tm tc (markCells m.trace) TB ∧ fm = fs.length + 1 ∧ FrRep fs cs B ∧ Vec 2 85 da dm dc dcs DB ∧ DfRep x.defers dcs AB ∧ Vec 1 28 la lm lc (ints .u64 x.locals) LB ∧ Vec 1 28 oa om oc (ints .u64 x.ops) OB ∧
      cs.length + 8 + junk.length = fc * 8 ∧ fm ≤ fc ∧ fc ≤ maxLen ∧ L = (mb, mCells pa pm pc m (some ⟨fb, 0, none⟩) fm fc ta tm tc, 76) :: (fb, cs ++ rowOf x da dm dc la lm lc oa om oc junk, 66) :: (TB ++ ((OB ++ (LB ++ (DB ++ AB))) ++ B)) := by
  obtain ⟨fa, fm, fc, ta, tm, tc, cells, FB, RB, TB, hF, hR, hT, rfl⟩ := h.ex
  rw [hm] at hR
  cases hR with
  | cons hcs hx =>
    rename_i cs r B RB
    cases hx with
    | mk hD hDf hL hO =>
      rename_i da la oa dm dc lm lc om oc dcs DB AB LB OB
      rcases hF.inv with ⟨_, _, _, h4, _⟩ | ⟨fb, junk, rfl, hl, hj, hmc, hc63, rfl⟩
      · simp at h4
      · refine ⟨fb, fm, fc, ta, tm, tc, TB, cs, junk, B, da, dm, dc, la, lm, lc, oa, om, oc, dcs, DB, AB, LB, OB, hT, ?_, hcs, hD, hDf, hL, hO, ?_, hmc, hc63, ?_⟩
        · rw [List.length_append, hcs.len] at hl; simp at hl; omega
        · rw [List.length_append, List.length_append] at hj; simp at hj; omega
        · have e : cs ++ rowOf x da dm dc la lm lc oa om oc [] ++ junk = cs ++ rowOf x da dm dc la lm lc oa om oc junk := by rw [List.append_assoc]; rfl
          rw [← e]; rfl

set_option maxHeartbeats 2000000 in
set_option maxRecDepth 4000 in
theorem leave_call (mb fb : Nat) (pa : Option Addr) (pm pc : Nat) (p : Pm.Prog) (PB : List Blk) (hp : ProgRd h0 PB pa pm pc p) (m : Mach) (x : Frm) (fs : List Frm) (hfr : m.frames = x :: fs) (fm fc : Nat) (ta : Option Addr) (tm tc : Nat) (TB : List Blk) (hT : Vec 2 31 ta tm tc (markCells m.trace) TB) (hfm : fm = fs.length + 1) (hfm2 : fm ≤ 1000000) (cs junk : List Value) (B : List Blk) (hcs : FrRep fs cs B)
    (da : Option Addr) (dm dc : Nat) (la : Option Addr) (lm lc : Nat) (oa : Option Addr) (om oc : Nat) (dcs : List Value) (DB AB LB OB : List Blk) (hD : Vec 2 85 da dm dc dcs DB) (hDf : DfRep x.defers dcs AB) (hL : Vec 1 28 la lm lc (ints .u64 x.locals) LB) (hO : Vec 1 28 oa om oc (ints .u64 x.ops) OB)
    (hj : cs.length + 8 + junk.length = fc * 8) (hfc : fm ≤ fc) (hc63 : fc ≤ maxLen) (d : Dfr) (ds : List Dfr) (hds : x.defers = d :: ds) (hd4 : x.defers.length ≤ 4) (hf0 : 0 ≤ d.f) (hf : d.f < pm) (hn : 0 ≤ (Pm.fn p d.f).locals ∧ (Pm.fn p d.f).locals ≤ 8) (ha : d.args.length ≤ (Pm.fn p d.f).locals) :
    Ct Try.prog h0 43 [.pointer (some ⟨mb, 0, none⟩)] ((mb, mCells pa pm pc m (some ⟨fb, 0, none⟩) fm fc ta tm tc, 76) :: (fb, cs ++ rowOf x da dm dc la lm lc oa om oc junk, 66) :: (TB ++ ((OB ++ (LB ++ (DB ++ AB))) ++ (B ++ PB))))
      fun v L' => v = .tuple #[] ∧ ∃ B', MRep mb pa pm pc (Am.leave p m) B' ∧ L' = B' ++ PB := by
  have hcl := hcs.len
  have hA : LenIs cs (((fm : Int) - 1).toNat * 8) := ⟨by rw [hcl]; congr 1; omega⟩
  have hlv : Am.leave p m = Am.enter p { m with frames := { x with defers := ds } :: fs } d.f d.args true := by unfold Am.leave; rw [hfr]; dsimp only; rw [hds]
  rw [hlv]
  rw [hds] at hDf hd4
  cases hDf with
  | cons hDf' hAa =>
  rename_i ccs Bd AA aa am ac
  have hdl := hDf'.len
  simp only [List.length_cons] at hd4
  rcases hD.inv with ⟨_, _, _, h4, _⟩ | ⟨db, djunk, rfl, hl, hdj, hmc, hd63, rfl⟩
  · simp at h4
  obtain rfl : dm = ds.length + 1 := by rw [List.length_append] at hl; simp at hl; omega
  have ham : am = d.args.length := by have := hAa.len; rw [length_ints] at this; omega
  subst ham
  have hB : LenIs ccs ((((ds.length + 1 : Nat) : Int) - 1).toNat * 2) := ⟨by rw [hdl]; congr 1; omega⟩
  have e0 : ccs ++ [.int .i64 d.f, .slice aa d.args.length ac] ++ djunk = ccs ++ (.int .i64 d.f :: .slice aa d.args.length ac :: djunk) := by rw [List.append_assoc]; rfl
  rw [e0] at hdj ⊢
  unfold mCells rowOf
  refine fn_of Try.func43 rfl rfl ?_
  repeat' (first | with_reducible (first | refine thenQ_n ?_ | refine thenQ_e ?_ | refine thenQ_r ?_ | refine ow_nil ?_) | (first | refine wY ?_ | refine wA ?_ | refine wS ?_ | refine wL (fun bk => ?_) | refine wB (fun bk => ?_) | refine wX (fun bk => ?_) | refine wB0 (fun bk => ?_) | refine wB1 (fun bk => ?_) | refine wB1o (fun bk => ?_) | refine wB2o (fun bk => ?_) | refine wG ?_ | (refine wGd (fun hb => ?_) (fun hb => ?_) <;> try (exfalso; omega)) | (refine wGe (fun hb => ?_) (fun hb => ?_) <;> try (exfalso; omega)) | (refine wGn (fun hb => ?_) (fun hb => ?_) <;> try (exfalso; omega))) | with_reducible (first | refine cw_then ?_ | refine cw_region ?_ | refine wCt ?_ | refine wCf ?_) | (((with_reducible refine wCd (fun hb => ?_) (fun hb => ?_)) <;> try subst hb) <;> try (exfalso; omega)) | (((with_reducible refine wCe (fun hb => ?_) (fun hb => ?_)) <;> try subst hb) <;> try (exfalso; omega)) | ((with_reducible refine wCn (fun hb => ?_) (fun hb => ?_)) <;> try (exfalso; omega)) | ((with_reducible refine wCo (fun hb => ?_) (fun hb => ?_))) | ((with_reducible refine wCi (fun hb => ?_) (fun hb => ?_))) | with_reducible (first | refine cw_block ?_ | refine cw_skip ?_ | refine cw_exit ?_ | refine cw_ret ?_ | refine cw_label ?_ | refine cw_scope ?_ | refine inB_same ?_ | refine inB_n ?_ | refine inB_r ?_ | refine wIo ?_ | refine noG_n ?_ | refine noG_r ?_ | refine noG_e ?_))
  have e1 : (((ds.length + 1 : Nat) : Int) - 1).toNat = ds.length := by omega
  have hD' : Vec 2 85 (some ⟨db, 0, none⟩) (((ds.length + 1 : Nat) : Int) - 1).toNat dc ccs [(db, ccs ++ (.int .i64 d.f :: .slice aa d.args.length ac :: djunk), 85)] := by
    rw [e1]; exact Vec.row db ds.length dc ccs _ hdl hdj (by omega) hd63
  refine ow_call (enter_fn mb pa pm pc p PB hp m (some ⟨fb, 0, none⟩) fm fc ta tm tc _ _ (frames_vec (x := { x with defers := ds }) (da := some ⟨db, 0, none⟩) (dm := (((ds.length + 1 : Nat) : Int) - 1).toNat) (dc := dc) (la := la) (lm := lm) (lc := lc) (oa := oa) (om := om) (oc := oc) hcs hfm hj hfc hc63) hfm2 d.f hf0 hf hn d.args ha aa ac AA (hAa.sr (fun q hq => hq)) true) rfl (fun v L' hv => ?_)
  obtain ⟨rfl, fa', fc', FB', la', lm', lc', LB', hF', hL', rfl⟩ := hv
  repeat' (first | with_reducible (first | refine thenQ_n ?_ | refine thenQ_e ?_ | refine thenQ_r ?_ | refine ow_nil ?_) | (first | refine wY ?_ | refine wA ?_ | refine wS ?_ | refine wL (fun bk => ?_) | refine wB (fun bk => ?_) | refine wX (fun bk => ?_) | refine wB0 (fun bk => ?_) | refine wB1 (fun bk => ?_) | refine wB1o (fun bk => ?_) | refine wB2o (fun bk => ?_) | refine wG ?_ | (refine wGd (fun hb => ?_) (fun hb => ?_) <;> try (exfalso; omega)) | (refine wGe (fun hb => ?_) (fun hb => ?_) <;> try (exfalso; omega)) | (refine wGn (fun hb => ?_) (fun hb => ?_) <;> try (exfalso; omega))) | with_reducible (first | refine cw_then ?_ | refine cw_region ?_ | refine wCt ?_ | refine wCf ?_) | (((with_reducible refine wCd (fun hb => ?_) (fun hb => ?_)) <;> try subst hb) <;> try (exfalso; omega)) | (((with_reducible refine wCe (fun hb => ?_) (fun hb => ?_)) <;> try subst hb) <;> try (exfalso; omega)) | ((with_reducible refine wCn (fun hb => ?_) (fun hb => ?_)) <;> try (exfalso; omega)) | ((with_reducible refine wCo (fun hb => ?_) (fun hb => ?_))) | ((with_reducible refine wCi (fun hb => ?_) (fun hb => ?_))) | with_reducible (first | refine cw_block ?_ | refine cw_skip ?_ | refine cw_exit ?_ | refine cw_ret ?_ | refine cw_label ?_ | refine cw_scope ?_ | refine inB_same ?_ | refine inB_n ?_ | refine inB_r ?_ | refine wIo ?_ | refine noG_n ?_ | refine noG_r ?_ | refine noG_e ?_))
  have hr : FrRow { x with defers := ds } (rowOf { x with defers := ds } (some ⟨db, 0, none⟩) (((ds.length + 1 : Nat) : Int) - 1).toNat dc la lm lc oa om oc []) (OB ++ (LB ++ ([(db, ccs ++ (.int .i64 d.f :: .slice aa d.args.length ac :: djunk), 85)] ++ Bd))) := .mk hD' hDf' hL hO
  have hn : FrRow ⟨d.f, 0, 0, true, 0, [], fill (Pm.fn p d.f).locals.toNat d.args, []⟩ _ ([] ++ (LB' ++ ([] ++ []))) := .mk (.nil (s := 2) (e := 85)) .nil hL' (.nil (s := 1) (e := 28))
  refine ret0 rfl (sub_mk (L' := ((mb, mCells pa pm pc m fa' (fm + 1) fc' ta tm tc, 76) :: (FB' ++ (TB ++ (([] ++ (LB' ++ ([] ++ []))) ++ ((OB ++ (LB ++ ([(db, ccs ++ (.int .i64 d.f :: .slice aa d.args.length ac :: djunk), 85)] ++ Bd))) ++ B))))) ++ PB) ⟨rfl, _, ⟨_, _, _, _, _, _, _, _, _, _, hF', .cons (.cons hcs hr) hn, hT, rfl⟩, rfl⟩)

/-- Two rows of the frames' block. -/
theorem two_rows {cs : List Value} {y : Frm} {da : Option Addr} {dm dc : Nat} {la : Option Addr} {lm lc : Nat} {oa : Option Addr} {om oc : Nat} (R : List Value) :
    (cs ++ rowOf y da dm dc la lm lc oa om oc []) ++ R = cs ++ rowOf y da dm dc la lm lc oa om oc R := by rw [List.append_assoc]; rfl

set_option maxHeartbeats 2000000 in
set_option maxRecDepth 4000 in
theorem leave_last (mb fb : Nat) (pa : Option Addr) (pm pc : Nat) (p : Pm.Prog) (PB : List Blk) (m : Mach) (x : Frm) (hfr : m.frames = [x]) (fm fc : Nat) (ta : Option Addr) (tm tc : Nat) (TB : List Blk) (hT : Vec 2 31 ta tm tc (markCells m.trace) TB) (hl : m.trace.length ≤ 1000000) (hfm : fm = 1) (cs junk : List Value) (hcs : cs = [])
    (la : Option Addr) (lm lc : Nat) (oa : Option Addr) (om oc : Nat) (da : Option Addr) (dc : Nat) (DB : List Blk)
    (hj : 8 + junk.length = fc * 8) (hfc : fm ≤ fc) (hc63 : fc ≤ maxLen) (hds : x.defers = []) :
    Ct Try.prog h0 43 [.pointer (some ⟨mb, 0, none⟩)] ((mb, mCells pa pm pc m (some ⟨fb, 0, none⟩) fm fc ta tm tc, 76) :: (fb, cs ++ rowOf x da 0 dc la lm lc oa om oc junk, 66) :: (TB ++ (DB ++ PB)))
      fun v L' => v = .tuple #[] ∧ ∃ B', MRep mb pa pm pc (Am.leave p m) B' ∧ L' = B' ++ PB := by
  have hA : LenIs cs (((fm : Int) - 1).toNat * 8) := ⟨by rw [hcs, hfm]; rfl⟩
  have hlv : Am.leave p m = Am.mark { m with frames := [], ended := true } (if x.mode = 2 then 4 else 3) x.value := by unfold Am.leave; rw [hfr]; dsimp only; rw [hds]
  have e1 : ((fm : Int) - 1).toNat = 0 := by omega
  have hV : Vec 8 66 (some ⟨fb, 0, none⟩) 0 fc [] [(fb, rowOf x da 0 dc la lm lc oa om oc junk, 66)] := .row fb 0 fc [] _ rfl (by simp; omega) (Nat.zero_le _) hc63
  rw [hlv]
  unfold mCells rowOf
  refine fn_of Try.func43 rfl rfl ?_
  repeat' (first | with_reducible (first | refine thenQ_n ?_ | refine thenQ_e ?_ | refine thenQ_r ?_ | refine ow_nil ?_) | (first | refine wY ?_ | refine wA ?_ | refine wS ?_ | refine wL (fun bk => ?_) | refine wB (fun bk => ?_) | refine wX (fun bk => ?_) | refine wB0 (fun bk => ?_) | refine wB1 (fun bk => ?_) | refine wB1o (fun bk => ?_) | refine wB2o (fun bk => ?_) | refine wG ?_ | (refine wGd (fun hb => ?_) (fun hb => ?_) <;> try (exfalso; omega)) | (refine wGe (fun hb => ?_) (fun hb => ?_) <;> try (exfalso; omega)) | (refine wGn (fun hb => ?_) (fun hb => ?_) <;> try (exfalso; omega))) | with_reducible (first | refine cw_then ?_ | refine cw_region ?_ | refine wCt ?_ | refine wCf ?_) | (((with_reducible refine wCd (fun hb => ?_) (fun hb => ?_)) <;> try subst hb) <;> try (exfalso; omega)) | (((with_reducible refine wCe (fun hb => ?_) (fun hb => ?_)) <;> try subst hb) <;> try (exfalso; omega)) | ((with_reducible refine wCn (fun hb => ?_) (fun hb => ?_)) <;> try (exfalso; omega)) | ((with_reducible refine wCo (fun hb => ?_) (fun hb => ?_))) | ((with_reducible refine wCi (fun hb => ?_) (fun hb => ?_))) | with_reducible (first | refine cw_block ?_ | refine cw_skip ?_ | refine cw_exit ?_ | refine cw_ret ?_ | refine cw_label ?_ | refine cw_scope ?_ | refine inB_same ?_ | refine inB_n ?_ | refine inB_r ?_ | refine wIo ?_ | refine noG_n ?_ | refine noG_r ?_ | refine noG_e ?_))
  · rw [if_pos (by assumption)]
    rw [e1]
    refine ow_call (mark_fn mb pa pm pc { m with frames := [], ended := true } (some ⟨fb, 0, none⟩) 0 fc ta tm tc 4 x.value TB hT hl) rfl (fun v L' hv => ?_)
    obtain ⟨rfl, ta', tm', tc', TB', hT', rfl⟩ := hv
    repeat' (first | with_reducible (first | refine thenQ_n ?_ | refine thenQ_e ?_ | refine thenQ_r ?_ | refine ow_nil ?_) | (first | refine wY ?_ | refine wA ?_ | refine wS ?_ | refine wL (fun bk => ?_) | refine wB (fun bk => ?_) | refine wX (fun bk => ?_) | refine wB0 (fun bk => ?_) | refine wB1 (fun bk => ?_) | refine wB1o (fun bk => ?_) | refine wB2o (fun bk => ?_) | refine wG ?_ | (refine wGd (fun hb => ?_) (fun hb => ?_) <;> try (exfalso; omega)) | (refine wGe (fun hb => ?_) (fun hb => ?_) <;> try (exfalso; omega)) | (refine wGn (fun hb => ?_) (fun hb => ?_) <;> try (exfalso; omega))) | with_reducible (first | refine cw_then ?_ | refine cw_region ?_ | refine wCt ?_ | refine wCf ?_) | (((with_reducible refine wCd (fun hb => ?_) (fun hb => ?_)) <;> try subst hb) <;> try (exfalso; omega)) | (((with_reducible refine wCe (fun hb => ?_) (fun hb => ?_)) <;> try subst hb) <;> try (exfalso; omega)) | ((with_reducible refine wCn (fun hb => ?_) (fun hb => ?_)) <;> try (exfalso; omega)) | ((with_reducible refine wCo (fun hb => ?_) (fun hb => ?_))) | ((with_reducible refine wCi (fun hb => ?_) (fun hb => ?_))) | with_reducible (first | refine cw_block ?_ | refine cw_skip ?_ | refine cw_exit ?_ | refine cw_ret ?_ | refine cw_label ?_ | refine cw_scope ?_ | refine inB_same ?_ | refine inB_n ?_ | refine inB_r ?_ | refine wIo ?_ | refine noG_n ?_ | refine noG_r ?_ | refine noG_e ?_))
    exact end0 rfl (sub_mk (L' := ((mb, mCells pa pm pc (Am.mark { m with frames := [], ended := true } 4 x.value) (some ⟨fb, 0, none⟩) 0 fc ta' tm' tc', 76) :: ([(fb, cs ++ rowOf x da 0 dc la lm lc oa om oc junk, 66)] ++ (TB' ++ []))) ++ PB) ⟨rfl, _, ⟨_, _, _, _, _, _, _, _, _, _, by rw [hcs]; exact hV, .nil, hT', rfl⟩, rfl⟩)
  · rw [if_neg (by assumption)]
    rw [e1]
    refine ow_call (mark_fn mb pa pm pc { m with frames := [], ended := true } (some ⟨fb, 0, none⟩) 0 fc ta tm tc 3 x.value TB hT hl) rfl (fun v L' hv => ?_)
    obtain ⟨rfl, ta', tm', tc', TB', hT', rfl⟩ := hv
    repeat' (first | with_reducible (first | refine thenQ_n ?_ | refine thenQ_e ?_ | refine thenQ_r ?_ | refine ow_nil ?_) | (first | refine wY ?_ | refine wA ?_ | refine wS ?_ | refine wL (fun bk => ?_) | refine wB (fun bk => ?_) | refine wX (fun bk => ?_) | refine wB0 (fun bk => ?_) | refine wB1 (fun bk => ?_) | refine wB1o (fun bk => ?_) | refine wB2o (fun bk => ?_) | refine wG ?_ | (refine wGd (fun hb => ?_) (fun hb => ?_) <;> try (exfalso; omega)) | (refine wGe (fun hb => ?_) (fun hb => ?_) <;> try (exfalso; omega)) | (refine wGn (fun hb => ?_) (fun hb => ?_) <;> try (exfalso; omega))) | with_reducible (first | refine cw_then ?_ | refine cw_region ?_ | refine wCt ?_ | refine wCf ?_) | (((with_reducible refine wCd (fun hb => ?_) (fun hb => ?_)) <;> try subst hb) <;> try (exfalso; omega)) | (((with_reducible refine wCe (fun hb => ?_) (fun hb => ?_)) <;> try subst hb) <;> try (exfalso; omega)) | ((with_reducible refine wCn (fun hb => ?_) (fun hb => ?_)) <;> try (exfalso; omega)) | ((with_reducible refine wCo (fun hb => ?_) (fun hb => ?_))) | ((with_reducible refine wCi (fun hb => ?_) (fun hb => ?_))) | with_reducible (first | refine cw_block ?_ | refine cw_skip ?_ | refine cw_exit ?_ | refine cw_ret ?_ | refine cw_label ?_ | refine cw_scope ?_ | refine inB_same ?_ | refine inB_n ?_ | refine inB_r ?_ | refine wIo ?_ | refine noG_n ?_ | refine noG_r ?_ | refine noG_e ?_))
    exact end0 rfl (sub_mk (L' := ((mb, mCells pa pm pc (Am.mark { m with frames := [], ended := true } 3 x.value) (some ⟨fb, 0, none⟩) 0 fc ta' tm' tc', 76) :: ([(fb, cs ++ rowOf x da 0 dc la lm lc oa om oc junk, 66)] ++ (TB' ++ []))) ++ PB) ⟨rfl, _, ⟨_, _, _, _, _, _, _, _, _, _, by rw [hcs]; exact hV, .nil, hT', rfl⟩, rfl⟩)

set_option maxHeartbeats 2000000 in
set_option maxRecDepth 4000 in
theorem leave_on (mb fb : Nat) (pa : Option Addr) (pm pc : Nat) (p : Pm.Prog) (PB : List Blk) (m : Mach) (x y : Frm) (fs : List Frm) (hfr : m.frames = x :: y :: fs) (fm fc : Nat) (ta : Option Addr) (tm tc : Nat) (TB : List Blk) (hT : Vec 2 31 ta tm tc (markCells m.trace) TB) (hfm : fm = fs.length + 2) (hfm2 : fm ≤ 1000000) (cs junk : List Value) (B : List Blk) (hcs : FrRep fs cs B)
    (da : Option Addr) (dc : Nat) (la : Option Addr) (lm lc : Nat) (oa : Option Addr) (om oc : Nat) (XB : List Blk)
    (da' : Option Addr) (dm' dc' : Nat) (la' : Option Addr) (lm' lc' : Nat) (oa' : Option Addr) (om' oc' : Nat) (dcs' : List Value) (DB' AB' LB' OB' : List Blk) (hD' : Vec 2 85 da' dm' dc' dcs' DB') (hDf' : DfRep y.defers dcs' AB') (hL' : Vec 1 28 la' lm' lc' (ints .u64 y.locals) LB') (hO' : Vec 1 28 oa' om' oc' (ints .u64 y.ops) OB')
    (hj : cs.length + 16 + junk.length = fc * 8) (hfc : fm ≤ fc) (hc63 : fc ≤ maxLen) (hds : x.defers = []) (hop : y.ops.length ≤ 1000) :
    Ct Try.prog h0 43 [.pointer (some ⟨mb, 0, none⟩)] ((mb, mCells pa pm pc m (some ⟨fb, 0, none⟩) fm fc ta tm tc, 76) :: (fb, cs ++ rowOf y da' dm' dc' la' lm' lc' oa' om' oc' (rowOf x da 0 dc la lm lc oa om oc junk), 66) :: (TB ++ (XB ++ ((OB' ++ (LB' ++ (DB' ++ AB'))) ++ (B ++ PB)))))
      fun v L' => v = .tuple #[] ∧ ∃ B', MRep mb pa pm pc (Am.leave p m) B' ∧ L' = B' ++ PB := by
  have hcl := hcs.len
  have hA : LenIs cs (((fm : Int) - 2).toNat * 8) := ⟨by rw [hcl]; congr 1; omega⟩
  have hA1 : LenIs (cs ++ rowOf y da' dm' dc' la' lm' lc' oa' om' oc' []) (((fm : Int) - 1).toNat * 8) := ⟨by rw [List.length_append, hcl]; simp; omega⟩
  have e1 : ((fm : Int) - 1).toNat = fs.length + 1 := by omega
  have hOl := hO'.len
  have hfm1 : ((fm : Int) - 1).toNat = fs.length + 1 := by omega
  rw [length_ints] at hOl
  rw [← two_rows]
  unfold mCells
  unfold rowOf at hA1 ⊢
  refine fn_of Try.func43 rfl rfl ?_
  have e2 : ∀ R : List Value, (cs ++ [.int .i64 y.f, .int .i64 y.pc, .int .i64 y.mode, .bool y.deferred, .int .u64 y.value, .slice da' dm' dc', .slice la' lm' lc', .slice oa' om' oc']) ++ R = cs ++ (.int .i64 y.f :: .int .i64 y.pc :: .int .i64 y.mode :: .bool y.deferred :: .int .u64 y.value :: .slice da' dm' dc' :: .slice la' lm' lc' :: .slice oa' om' oc' :: R) := fun R => by rw [List.append_assoc]; rfl
  repeat' (first | with_reducible (first | refine thenQ_n ?_ | refine thenQ_e ?_ | refine thenQ_r ?_ | refine ow_nil ?_) | (first | refine wY ?_ | refine wA ?_ | refine wS ?_ | refine wL (fun bk => ?_) | refine wB (fun bk => ?_) | refine wX (fun bk => ?_) | refine wB0 (fun bk => ?_) | refine wB1 (fun bk => ?_) | refine wB1o (fun bk => ?_) | refine wB2o (fun bk => ?_) | refine wG ?_ | (refine wGd (fun hb => ?_) (fun hb => ?_) <;> try (exfalso; omega)) | (refine wGe (fun hb => ?_) (fun hb => ?_) <;> try (exfalso; omega)) | (refine wGn (fun hb => ?_) (fun hb => ?_) <;> try (exfalso; omega))) | with_reducible (first | refine cw_then ?_ | refine cw_region ?_ | refine wCt ?_ | refine wCf ?_) | (((with_reducible refine wCd (fun hb => ?_) (fun hb => ?_)) <;> try subst hb) <;> try (exfalso; omega)) | (((with_reducible refine wCe (fun hb => ?_) (fun hb => ?_)) <;> try subst hb) <;> try (exfalso; omega)) | ((with_reducible refine wCn (fun hb => ?_) (fun hb => ?_)) <;> try (exfalso; omega)) | ((with_reducible refine wCo (fun hb => ?_) (fun hb => ?_))) | ((with_reducible refine wCi (fun hb => ?_) (fun hb => ?_))) | with_reducible (first | refine cw_block ?_ | refine cw_skip ?_ | refine cw_exit ?_ | refine cw_ret ?_ | refine cw_label ?_ | refine cw_scope ?_ | refine inB_same ?_ | refine inB_n ?_ | refine inB_r ?_ | refine wIo ?_ | refine noG_n ?_ | refine noG_r ?_ | refine noG_e ?_))
  · rw [e2]
    refine cw_drawnq 20 rfl rfl [(bk, [.int .i64 x.f, .int .i64 x.pc, .int .i64 x.mode, .bool x.deferred, .int .u64 x.value, .slice da 0 dc, .slice la lm lc, .slice oa om oc], 66), (mb, [.slice pa pm pc, .int .i64 m.first, .bool m.begun, .bool m.ended, .bool m.parked, .int .u64 m.refs, .slice (some ⟨fb, 0, none⟩) ((fm : Int) - 1).toNat fc, .slice ta tm tc], 76)] ?_
    repeat (first | refine wN ?_ | refine wK ?_)
    refine wO 16 ?_
    repeat (first | refine wY ?_ | refine wA ?_ | refine wS ?_ | refine wL (fun bk => ?_) | refine wB (fun bk => ?_) | refine wX (fun bk => ?_) | refine wB0 (fun bk => ?_) | refine wB1 (fun bk => ?_) | refine wB1o (fun bk => ?_) | refine wB2o (fun bk => ?_) | refine wG ?_ | (refine wGd (fun hb => ?_) (fun hb => ?_)) | (refine wGe (fun hb => ?_) (fun hb => ?_)) | (refine wGn (fun hb => ?_) (fun hb => ?_)))
    refine wP ?_
    repeat (first | refine wN ?_ | refine wK ?_)
    refine wO 19 ?_
    repeat (first | refine wY ?_ | refine wA ?_ | refine wS ?_ | refine wL (fun bk => ?_) | refine wB (fun bk => ?_) | refine wX (fun bk => ?_) | refine wB0 (fun bk => ?_) | refine wB1 (fun bk => ?_) | refine wB1o (fun bk => ?_) | refine wB2o (fun bk => ?_) | refine wG ?_ | (refine wGd (fun hb => ?_) (fun hb => ?_)) | (refine wGe (fun hb => ?_) (fun hb => ?_)) | (refine wGn (fun hb => ?_) (fun hb => ?_)))
    refine wP ?_
    refine wZ ?_
    repeat' (first | with_reducible (first | refine thenQ_n ?_ | refine thenQ_e ?_ | refine thenQ_r ?_ | refine ow_nil ?_) | (first | refine wY ?_ | refine wA ?_ | refine wS ?_ | refine wL (fun bk => ?_) | refine wB (fun bk => ?_) | refine wX (fun bk => ?_) | refine wB0 (fun bk => ?_) | refine wB1 (fun bk => ?_) | refine wB1o (fun bk => ?_) | refine wB2o (fun bk => ?_) | refine wG ?_ | (refine wGd (fun hb => ?_) (fun hb => ?_) <;> try (exfalso; omega)) | (refine wGe (fun hb => ?_) (fun hb => ?_) <;> try (exfalso; omega)) | (refine wGn (fun hb => ?_) (fun hb => ?_) <;> try (exfalso; omega))) | with_reducible (first | refine cw_then ?_ | refine cw_region ?_ | refine wCt ?_ | refine wCf ?_) | (((with_reducible refine wCd (fun hb => ?_) (fun hb => ?_)) <;> try subst hb) <;> try (exfalso; omega)) | (((with_reducible refine wCe (fun hb => ?_) (fun hb => ?_)) <;> try subst hb) <;> try (exfalso; omega)) | ((with_reducible refine wCn (fun hb => ?_) (fun hb => ?_)) <;> try (exfalso; omega)) | ((with_reducible refine wCo (fun hb => ?_) (fun hb => ?_))) | ((with_reducible refine wCi (fun hb => ?_) (fun hb => ?_))) | with_reducible (first | refine cw_block ?_ | refine cw_skip ?_ | refine cw_exit ?_ | refine cw_ret ?_ | refine cw_label ?_ | refine cw_scope ?_ | refine inB_same ?_ | refine inB_n ?_ | refine inB_r ?_ | refine wIo ?_ | refine noG_n ?_ | refine noG_r ?_ | refine noG_e ?_))
    have hlv : Am.leave p m = { m with frames := ({ y with mode := 2, value := x.value }) :: fs } := by unfold Am.leave; rw [hfr]; dsimp only; rw [hds]; simp_all

    have hM := mrep_put (mb := mb) (fb := fb) (pa := pa) (pm := pm) (pc := pc) (m := { m with frames := ({ y with mode := 2, value := x.value }) :: fs }) (x := { y with mode := 2, value := x.value }) (fs := fs) (junk := rowOf x da 0 dc la lm lc oa om oc junk) (fc := fc) rfl hT hfm1 hcs hD' hDf' hL' hO' (by simp at hj ⊢; omega) (by omega) hc63
    exact end0 rfl (sub_mk (L' := ((mb, mCells pa pm pc ({ m with frames := ({ y with mode := 2, value := x.value }) :: fs }) (some ⟨fb, 0, none⟩) (((fm : Int) - 1).toNat) fc ta tm tc, 76) :: (fb, cs ++ rowOf ({ y with mode := 2, value := x.value }) da' dm' dc' la' lm' lc' oa' om' oc' (rowOf x da 0 dc la lm lc oa om oc junk), 66) :: (TB ++ ((OB' ++ (LB' ++ (DB' ++ AB'))) ++ B))) ++ PB) ⟨rfl, _, by rw [hlv]; exact hM, rfl⟩)
  · rw [e2]
    refine cw_drawnq 22 rfl rfl [(bk, [.int .i64 x.f, .int .i64 x.pc, .int .i64 x.mode, .bool x.deferred, .int .u64 x.value, .slice da 0 dc, .slice la lm lc, .slice oa om oc], 66), (mb, [.slice pa pm pc, .int .i64 m.first, .bool m.begun, .bool m.ended, .bool m.parked, .int .u64 m.refs, .slice (some ⟨fb, 0, none⟩) ((fm : Int) - 1).toNat fc, .slice ta tm tc], 76)] ?_
    repeat (first | refine wN ?_ | refine wK ?_)
    refine wT 15 ?_
    refine wT 16 ?_
    refine hw_two 14 17 (by with_unfolding_all exact rfl) (by with_unfolding_all exact rfl) ?_ ?_ (by kernel_rfl)
    · repeat (first | refine wY ?_ | refine wA ?_ | refine wS ?_ | refine wL (fun bk => ?_) | refine wB (fun bk => ?_) | refine wX (fun bk => ?_) | refine wB0 (fun bk => ?_) | refine wB1 (fun bk => ?_) | refine wB1o (fun bk => ?_) | refine wB2o (fun bk => ?_) | refine wG ?_ | (refine wGd (fun hb => ?_) (fun hb => ?_)) | (refine wGe (fun hb => ?_) (fun hb => ?_)) | (refine wGn (fun hb => ?_) (fun hb => ?_)))
      refine wP ?_
      refine wO 17 ?_
      repeat (first | refine wY ?_ | refine wA ?_ | refine wS ?_ | refine wL (fun bk => ?_) | refine wB (fun bk => ?_) | refine wX (fun bk => ?_) | refine wB0 (fun bk => ?_) | refine wB1 (fun bk => ?_) | refine wB1o (fun bk => ?_) | refine wB2o (fun bk => ?_) | refine wG ?_ | (refine wGd (fun hb => ?_) (fun hb => ?_)) | (refine wGe (fun hb => ?_) (fun hb => ?_)) | (refine wGn (fun hb => ?_) (fun hb => ?_)))
      refine wP ?_
      refine wO 18 ?_
      refine ow_append rfl hO' rfl (ys := [.int .u64 x.value]) rfl (fun j u hu => by rw [Nat.zero_add]; exact hu) (by simp [Value.oneCell']) (by omega) (by decide) (fun oa2 om2 oc2 OB2 hO2 => ?_)
      refine wP ?_
      repeat (first | refine wN ?_ | refine wK ?_)
      refine wO 21 ?_
      repeat (first | refine wY ?_ | refine wA ?_ | refine wS ?_ | refine wL (fun bk => ?_) | refine wB (fun bk => ?_) | refine wX (fun bk => ?_) | refine wB0 (fun bk => ?_) | refine wB1 (fun bk => ?_) | refine wB1o (fun bk => ?_) | refine wB2o (fun bk => ?_) | refine wG ?_ | (refine wGd (fun hb => ?_) (fun hb => ?_)) | (refine wGe (fun hb => ?_) (fun hb => ?_)) | (refine wGn (fun hb => ?_) (fun hb => ?_)))
      refine wP ?_
      refine wZ ?_
      repeat' (first | with_reducible (first | refine thenQ_n ?_ | refine thenQ_e ?_ | refine thenQ_r ?_ | refine ow_nil ?_) | (first | refine wY ?_ | refine wA ?_ | refine wS ?_ | refine wL (fun bk => ?_) | refine wB (fun bk => ?_) | refine wX (fun bk => ?_) | refine wB0 (fun bk => ?_) | refine wB1 (fun bk => ?_) | refine wB1o (fun bk => ?_) | refine wB2o (fun bk => ?_) | refine wG ?_ | (refine wGd (fun hb => ?_) (fun hb => ?_) <;> try (exfalso; omega)) | (refine wGe (fun hb => ?_) (fun hb => ?_) <;> try (exfalso; omega)) | (refine wGn (fun hb => ?_) (fun hb => ?_) <;> try (exfalso; omega))) | with_reducible (first | refine cw_then ?_ | refine cw_region ?_ | refine wCt ?_ | refine wCf ?_) | (((with_reducible refine wCd (fun hb => ?_) (fun hb => ?_)) <;> try subst hb) <;> try (exfalso; omega)) | (((with_reducible refine wCe (fun hb => ?_) (fun hb => ?_)) <;> try subst hb) <;> try (exfalso; omega)) | ((with_reducible refine wCn (fun hb => ?_) (fun hb => ?_)) <;> try (exfalso; omega)) | ((with_reducible refine wCo (fun hb => ?_) (fun hb => ?_))) | ((with_reducible refine wCi (fun hb => ?_) (fun hb => ?_))) | with_reducible (first | refine cw_block ?_ | refine cw_skip ?_ | refine cw_exit ?_ | refine cw_ret ?_ | refine cw_label ?_ | refine cw_scope ?_ | refine inB_same ?_ | refine inB_n ?_ | refine inB_r ?_ | refine wIo ?_ | refine noG_n ?_ | refine noG_r ?_ | refine noG_e ?_))
      have hO3 : Vec 1 28 oa2 om2 oc2 (ints .u64 (y.ops ++ [x.value])) OB2 := by simpa [ints] using hO2
      have hlv : Am.leave p m = { m with frames := ({ y with ops := y.ops ++ [x.value] }) :: fs } := by unfold Am.leave; rw [hfr]; dsimp only; rw [hds]; simp_all

      have hM := mrep_put (mb := mb) (fb := fb) (pa := pa) (pm := pm) (pc := pc) (m := { m with frames := ({ y with ops := y.ops ++ [x.value] }) :: fs }) (x := { y with ops := y.ops ++ [x.value] }) (fs := fs) (junk := rowOf x da 0 dc la lm lc oa om oc junk) (fc := fc) rfl hT hfm1 hcs hD' hDf' hL' hO3 (by simp at hj ⊢; omega) (by omega) hc63
      exact end0 rfl (sub_mk (L' := ((mb, mCells pa pm pc ({ m with frames := ({ y with ops := y.ops ++ [x.value] }) :: fs }) (some ⟨fb, 0, none⟩) (((fm : Int) - 1).toNat) fc ta tm tc, 76) :: (fb, cs ++ rowOf ({ y with ops := y.ops ++ [x.value] }) da' dm' dc' la' lm' lc' oa2 om2 oc2 (rowOf x da 0 dc la lm lc oa om oc junk), 66) :: (TB ++ ((OB2 ++ (LB' ++ (DB' ++ AB'))) ++ B))) ++ PB) ⟨rfl, _, by rw [hlv]; exact hM, rfl⟩)
    · repeat (first | refine wY ?_ | refine wA ?_ | refine wS ?_ | refine wL (fun bk => ?_) | refine wB (fun bk => ?_) | refine wX (fun bk => ?_) | refine wB0 (fun bk => ?_) | refine wB1 (fun bk => ?_) | refine wB1o (fun bk => ?_) | refine wB2o (fun bk => ?_) | refine wG ?_ | (refine wGd (fun hb => ?_) (fun hb => ?_)) | (refine wGe (fun hb => ?_) (fun hb => ?_)) | (refine wGn (fun hb => ?_) (fun hb => ?_)))
      refine wP ?_
      refine wO 14 ?_
      repeat (first | refine wY ?_ | refine wA ?_ | refine wS ?_ | refine wL (fun bk => ?_) | refine wB (fun bk => ?_) | refine wX (fun bk => ?_) | refine wB0 (fun bk => ?_) | refine wB1 (fun bk => ?_) | refine wB1o (fun bk => ?_) | refine wB2o (fun bk => ?_) | refine wG ?_ | (refine wGd (fun hb => ?_) (fun hb => ?_)) | (refine wGe (fun hb => ?_) (fun hb => ?_)) | (refine wGn (fun hb => ?_) (fun hb => ?_)))
      refine wP ?_
      refine wO 18 ?_
      refine ow_append rfl hO' rfl (ys := [.int .u64 x.value]) rfl (fun j u hu => by rw [Nat.zero_add]; exact hu) (by simp [Value.oneCell']) (by omega) (by decide) (fun oa2 om2 oc2 OB2 hO2 => ?_)
      refine wP ?_
      repeat (first | refine wN ?_ | refine wK ?_)
      refine wO 21 ?_
      repeat (first | refine wY ?_ | refine wA ?_ | refine wS ?_ | refine wL (fun bk => ?_) | refine wB (fun bk => ?_) | refine wX (fun bk => ?_) | refine wB0 (fun bk => ?_) | refine wB1 (fun bk => ?_) | refine wB1o (fun bk => ?_) | refine wB2o (fun bk => ?_) | refine wG ?_ | (refine wGd (fun hb => ?_) (fun hb => ?_)) | (refine wGe (fun hb => ?_) (fun hb => ?_)) | (refine wGn (fun hb => ?_) (fun hb => ?_)))
      refine wP ?_
      refine wZ ?_
      repeat' (first | with_reducible (first | refine thenQ_n ?_ | refine thenQ_e ?_ | refine thenQ_r ?_ | refine ow_nil ?_) | (first | refine wY ?_ | refine wA ?_ | refine wS ?_ | refine wL (fun bk => ?_) | refine wB (fun bk => ?_) | refine wX (fun bk => ?_) | refine wB0 (fun bk => ?_) | refine wB1 (fun bk => ?_) | refine wB1o (fun bk => ?_) | refine wB2o (fun bk => ?_) | refine wG ?_ | (refine wGd (fun hb => ?_) (fun hb => ?_) <;> try (exfalso; omega)) | (refine wGe (fun hb => ?_) (fun hb => ?_) <;> try (exfalso; omega)) | (refine wGn (fun hb => ?_) (fun hb => ?_) <;> try (exfalso; omega))) | with_reducible (first | refine cw_then ?_ | refine cw_region ?_ | refine wCt ?_ | refine wCf ?_) | (((with_reducible refine wCd (fun hb => ?_) (fun hb => ?_)) <;> try subst hb) <;> try (exfalso; omega)) | (((with_reducible refine wCe (fun hb => ?_) (fun hb => ?_)) <;> try subst hb) <;> try (exfalso; omega)) | ((with_reducible refine wCn (fun hb => ?_) (fun hb => ?_)) <;> try (exfalso; omega)) | ((with_reducible refine wCo (fun hb => ?_) (fun hb => ?_))) | ((with_reducible refine wCi (fun hb => ?_) (fun hb => ?_))) | with_reducible (first | refine cw_block ?_ | refine cw_skip ?_ | refine cw_exit ?_ | refine cw_ret ?_ | refine cw_label ?_ | refine cw_scope ?_ | refine inB_same ?_ | refine inB_n ?_ | refine inB_r ?_ | refine wIo ?_ | refine noG_n ?_ | refine noG_r ?_ | refine noG_e ?_))
      have hO3 : Vec 1 28 oa2 om2 oc2 (ints .u64 (y.ops ++ [x.value])) OB2 := by simpa [ints] using hO2
      have hlv : Am.leave p m = { m with frames := ({ y with ops := y.ops ++ [x.value] }) :: fs } := by unfold Am.leave; rw [hfr]; dsimp only; rw [hds]; simp_all

      have hM := mrep_put (mb := mb) (fb := fb) (pa := pa) (pm := pm) (pc := pc) (m := { m with frames := ({ y with ops := y.ops ++ [x.value] }) :: fs }) (x := { y with ops := y.ops ++ [x.value] }) (fs := fs) (junk := rowOf x da 0 dc la lm lc oa om oc junk) (fc := fc) rfl hT hfm1 hcs hD' hDf' hL' hO3 (by simp at hj ⊢; omega) (by omega) hc63
      exact end0 rfl (sub_mk (L' := ((mb, mCells pa pm pc ({ m with frames := ({ y with ops := y.ops ++ [x.value] }) :: fs }) (some ⟨fb, 0, none⟩) (((fm : Int) - 1).toNat) fc ta tm tc, 76) :: (fb, cs ++ rowOf ({ y with ops := y.ops ++ [x.value] }) da' dm' dc' la' lm' lc' oa2 om2 oc2 (rowOf x da 0 dc la lm lc oa om oc junk), 66) :: (TB ++ ((OB2 ++ (LB' ++ (DB' ++ AB'))) ++ B))) ++ PB) ⟨rfl, _, by rw [hlv]; exact hM, rfl⟩)
  · rw [e2]
    have hlv : Am.leave p m = { m with frames := y :: fs } := by unfold Am.leave; rw [hfr]; dsimp only; rw [hds]; simp_all

    have hM := mrep_put (mb := mb) (fb := fb) (pa := pa) (pm := pm) (pc := pc) (m := { m with frames := y :: fs }) (x := y) (fs := fs) (junk := rowOf x da 0 dc la lm lc oa om oc junk) (fc := fc) rfl hT hfm1 hcs hD' hDf' hL' hO' (by simp at hj ⊢; omega) (by omega) hc63
    exact end0 rfl (sub_mk (L' := ((mb, mCells pa pm pc ({ m with frames := y :: fs }) (some ⟨fb, 0, none⟩) (((fm : Int) - 1).toNat) fc ta tm tc, 76) :: (fb, cs ++ rowOf (y) da' dm' dc' la' lm' lc' oa' om' oc' (rowOf x da 0 dc la lm lc oa om oc junk), 66) :: (TB ++ ((OB' ++ (LB' ++ (DB' ++ AB'))) ++ B))) ++ PB) ⟨rfl, _, by rw [hlv]; exact hM, rfl⟩)
end Go.Proofs.Ytnijpdehchdinaa
