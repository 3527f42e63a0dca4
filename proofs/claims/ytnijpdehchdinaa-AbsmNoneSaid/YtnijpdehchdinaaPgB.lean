/-
  Package prog: which functions and instructions may be, and what follows.
-/
import Derived.Test.YtnijpdehchdinaaPgA
set_option linter.unusedVariables false
set_option linter.unusedSimpArgs false
namespace Go.Proofs.Ytnijpdehchdinaa
open Go Go.Proofs Go.Hl
variable {h0 : Array Obj}

set_option maxHeartbeats 1000000 in
theorem sized_fn (L : List Blk) (f : Pm.Func) (ca : Option Addr) (cm cc : Nat) (hl : f.code.length = cm) :
    Ct Try.prog h0 72 [.agg #[.int .i64 f.params, .int .i64 f.locals, .int .i64 f.refs, .slice ca cm cc]] L fun v L' => v = .bool (Pm.sized f) ∧ L' = L := by
  refine fn_of Try.func72 rfl rfl ?_
  repeat' (first | with_reducible (first | refine thenQ_n ?_ | refine thenQ_e ?_ | refine thenQ_r ?_ | refine ow_nil ?_) | (first | refine wY ?_ | refine wA ?_ | refine wS ?_ | refine wL (fun bk => ?_) | refine wB (fun bk => ?_) | refine wX (fun bk => ?_) | refine wB0 (fun bk => ?_) | refine wB1 (fun bk => ?_) | refine wB1o (fun bk => ?_) | refine wB2o (fun bk => ?_) | refine wG ?_ | (refine wGd (fun hb => ?_) (fun hb => ?_) <;> try (exfalso; omega)) | (refine wGe (fun hb => ?_) (fun hb => ?_) <;> try (exfalso; omega)) | (refine wGn (fun hb => ?_) (fun hb => ?_) <;> try (exfalso; omega))) | with_reducible (first | refine cw_then ?_ | refine cw_region ?_ | refine wCt ?_ | refine wCf ?_) | (((with_reducible refine wCd (fun hb => ?_) (fun hb => ?_)) <;> try subst hb) <;> try (exfalso; omega)) | (((with_reducible refine wCe (fun hb => ?_) (fun hb => ?_)) <;> try subst hb) <;> try (exfalso; omega)) | ((with_reducible refine wCn (fun hb => ?_) (fun hb => ?_)) <;> try (exfalso; omega)) | ((with_reducible refine wCo (fun hb => ?_) (fun hb => ?_))) | ((with_reducible refine wCi (fun hb => ?_) (fun hb => ?_))) | with_reducible (first | refine cw_block ?_ | refine cw_skip ?_ | refine cw_exit ?_ | refine cw_ret ?_ | refine cw_label ?_ | refine cw_scope ?_ | refine inB_same ?_ | refine inB_n ?_ | refine inB_r ?_ | refine wIo ?_ | refine noG_n ?_ | refine noG_r ?_ | refine noG_e ?_))
  all_goals refine ret1 (v := .bool _) rfl rfl (sub_mk ⟨congrArg Value.bool ?_, rfl⟩)
  all_goals (unfold Pm.sized; simp; try omega)
  · subst hl
    rw [Bool.eq_iff_iff]; simp; omega

theorem next_fn (L : List Blk) (at_ : Int) (i : Pm.Instr) (h : 0 ≤ at_ ∧ at_ < 1000) :
    Ct Try.prog h0 77 [.int .i64 at_, .agg #[.int .i64 i.op, .int .i64 i.a, .int .i64 i.b]] L fun v L' => ∃ p m c B, v = .slice p m c ∧ Vec 1 3 p m c (ints .i64 (Pm.next at_ i)) B ∧ L' = B ++ L := by
  refine fn_of Try.func77 rfl rfl ?_
  repeat' (first | with_reducible (first | refine thenQ_n ?_ | refine thenQ_e ?_ | refine thenQ_r ?_ | refine ow_nil ?_) | (first | refine wY ?_ | refine wA ?_ | refine wS ?_ | refine wL (fun bk => ?_) | refine wB (fun bk => ?_) | refine wX (fun bk => ?_) | refine wB0 (fun bk => ?_) | refine wB1 (fun bk => ?_) | refine wB1o (fun bk => ?_) | refine wB2o (fun bk => ?_) | refine wG ?_ | (refine wGd (fun hb => ?_) (fun hb => ?_)) | (refine wGe (fun hb => ?_) (fun hb => ?_)) | (refine wGn (fun hb => ?_) (fun hb => ?_))) | with_reducible (first | refine cw_then ?_ | refine cw_region ?_ | refine wCt ?_ | refine wCf ?_) | ((with_reducible refine wCd (fun hb => ?_) (fun hb => ?_)) <;> try subst hb) | ((with_reducible refine wCe (fun hb => ?_) (fun hb => ?_)) <;> try subst hb) | ((with_reducible refine wCn (fun hb => ?_) (fun hb => ?_))) | ((with_reducible refine wCo (fun hb => ?_) (fun hb => ?_))) | ((with_reducible refine wCi (fun hb => ?_) (fun hb => ?_))) | with_reducible (first | refine cw_block ?_ | refine cw_skip ?_ | refine cw_exit ?_ | refine cw_ret ?_ | refine cw_label ?_ | refine cw_scope ?_ | refine inB_same ?_ | refine inB_n ?_ | refine inB_r ?_ | refine wIo ?_ | refine noG_n ?_ | refine noG_r ?_ | refine noG_e ?_))
  · refine ret1 (v := .slice none 0 0) rfl rfl (sub_mk (L' := [] ++ L) ⟨_, _, _, _, rfl, ?_, rfl⟩)
    simp [Pm.next, *]; exact .nil
  · refine ret1 (v := .slice none 0 0) rfl rfl (sub_mk (L' := [] ++ L) ⟨_, _, _, _, rfl, ?_, rfl⟩)
    simp [Pm.next, *]; exact .nil
  · refine ret1 (v := .slice (some ⟨_, 0, none⟩) _ _) rfl rfl (sub_mk (L' := [(bk, [.int .i64 i.a], 3)] ++ L) ⟨_, _, _, _, rfl, ?_, rfl⟩)
    simp only [Pm.next, *]
    exact .row bk 1 1 [_] [] rfl rfl (by omega) (by decide)
  · refine ret1 (v := .slice (some ⟨_, 0, none⟩) _ _) rfl rfl (sub_mk (L' := [(bk, [.int .i64 i.a, .int .i64 (at_ + 1)], 3)] ++ L) ⟨_, _, _, _, rfl, ?_, rfl⟩)
    simp only [Pm.next, *]
    exact .row bk 2 2 [_, _] [] rfl rfl (by omega) (by decide)
  · refine ret1 (v := .slice (some ⟨_, 0, none⟩) _ _) rfl rfl (sub_mk (L' := [(bk, [.int .i64 (at_ + 1)], 3)] ++ L) ⟨_, _, _, _, rfl, ?_, rfl⟩)
    simp only [Pm.next, *]
    exact .row bk 1 1 [_] [] rfl rfl (by omega) (by decide)

set_option maxHeartbeats 1000000 in
theorem shaped_fn (L : List Blk) (pa : Option Addr) (pm pc : Nat) (p : Pm.Prog) (hp : ProgRd h0 L pa pm pc p) (f : Pm.Func) (hf : Pm.sized f = true) (ca : Option Addr) (cm cc : Nat) (hl : f.code.length = cm) (i : Pm.Instr) :
    Ct Try.prog h0 73 [.agg #[.slice pa pm pc], .agg #[.int .i64 f.params, .int .i64 f.locals, .int .i64 f.refs, .slice ca cm cc], .agg #[.int .i64 i.op, .int .i64 i.a, .int .i64 i.b]] L fun v L' => v = .bool (Pm.shaped p f i) ∧ L' = L := by
  have hfb := hf
  simp [Pm.sized] at hfb
  obtain ⟨hpl, -, -⟩ := hp.len
  subst hpl hl
  obtain ⟨op, a, b⟩ := i
  dsimp only
  refine fn_of Try.func73 rfl rfl ?_
  repeat' (first | (first | with_reducible (first | refine thenQ_n ?_ | refine thenQ_e ?_ | refine thenQ_r ?_ | refine ow_nil ?_) | (first | refine wY ?_ | refine wA ?_ | refine wS ?_ | refine wL (fun bk => ?_) | refine wB (fun bk => ?_) | refine wX (fun bk => ?_) | refine wB0 (fun bk => ?_) | refine wB1 (fun bk => ?_) | refine wB1o (fun bk => ?_) | refine wB2o (fun bk => ?_) | refine wG ?_ | (refine wGd (fun hb => ?_) (fun hb => ?_)) | (refine wGe (fun hb => ?_) (fun hb => ?_)) | (refine wGn (fun hb => ?_) (fun hb => ?_))) | with_reducible (first | refine cw_then ?_ | refine cw_region ?_ | refine wCt ?_ | refine wCf ?_) | ((with_reducible refine wCd (fun hb => ?_) (fun hb => ?_)) <;> try subst hb) | ((with_reducible refine wCe (fun hb => ?_) (fun hb => ?_)) <;> try subst hb) | ((with_reducible refine wCn (fun hb => ?_) (fun hb => ?_))) | ((with_reducible refine wCo (fun hb => ?_) (fun hb => ?_))) | ((with_reducible refine wCi (fun hb => ?_) (fun hb => ?_))) | with_reducible (first | refine cw_block ?_ | refine cw_skip ?_ | refine cw_exit ?_ | refine cw_ret ?_ | refine cw_label ?_ | refine cw_scope ?_ | refine inB_same ?_ | refine inB_n ?_ | refine inB_r ?_ | refine wIo ?_ | refine noG_n ?_ | refine noG_r ?_ | refine noG_e ?_)) | (refine ow_call_all (below_fn _ _ _) rfl (fun v L' hv => ?_); obtain ⟨rfl, rfl⟩ := hv) | (refine ow_call_all (pops_fn _ pa _ pc p (hp.mono (fun b cs h => by infer_instance)) ⟨op, a, b⟩) rfl (fun v L' hv => ?_); obtain ⟨rfl, rfl⟩ := hv) | (refine ow_call_all (pushes_fn _ ⟨op, a, b⟩) rfl (fun v L' hv => ?_); obtain ⟨rfl, rfl⟩ := hv))
  all_goals refine ret1 (v := .bool _) rfl rfl (sub_mk ⟨congrArg Value.bool ?_, rfl⟩)
  all_goals first | (solve | (rw [Bool.eq_iff_iff]; simp [Pm.shaped, Pm.within, *] <;> omega)) | skip
  all_goals
    have hps : Pm.pops p ⟨op, a, b⟩ > 0 ↔ (5 ≤ op ∧ op ≤ 14) := by unfold Pm.pops; dsimp only; rw [if_neg (by omega)]; repeat' split; all_goals omega
    have hpu : Pm.pushes ⟨op, a, b⟩ > 0 ↔ (5 ≤ op ∧ op ≤ 14) := by unfold Pm.pushes; dsimp only; repeat' split; all_goals omega
    have hsh : Pm.shaped p f ⟨op, a, b⟩ = decide (5 ≤ op ∧ op ≤ 14) := by unfold Pm.shaped; rw [Bool.eq_iff_iff]; simp [*]; omega
    rw [hsh, Bool.eq_iff_iff]
    simp only [decide_eq_true_eq, Bool.false_eq_true, hpu]
    first | done | (constructor <;> intro hh <;> first | omega | exact (hb (hps.2 hh)).elim | exact hh.elim)
end Go.Proofs.Ytnijpdehchdinaa
