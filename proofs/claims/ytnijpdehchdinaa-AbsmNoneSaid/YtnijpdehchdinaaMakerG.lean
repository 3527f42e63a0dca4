/-
  The maker in memory: a piece of a code, kind by kind.
-/
import Derived.Test.YtnijpdehchdinaaMakerD
set_option linter.unusedVariables false
set_option linter.unusedSimpArgs false
namespace Go.Proofs.Ytnijpdehchdinaa
open Go Go.Proofs Go.Hl
variable {h0 : Array Obj}

set_option maxHeartbeats 4000000 in
set_option maxRecDepth 4000 in
theorem piece_18 {kb : Nat} {P : Pm.Prog} {A : List Pm.Func} {x : Pm.Func} {B : List Pm.Func} (F : KFix P A x B) {c : List Pm.Instr} {depth : List Int} {at_ : Int} {L : List Blk} (h : KRep h0 kb A { x with code := c } B depth at_ L) (G : Pm.Going P x c depth at_) (n : Nat) (hn : c.length ≤ n) (hn2 : n ≤ 800) (b : Int) (hb0 : 0 ≤ b ∧ b ≤ 255) :
    Ct Try.prog h0 59 [.pointer (some ⟨kb, 0, none⟩), .int .i64 18, .int .i64 b] L fun v L' => ∃ r, v = .bool r ∧ KPost h0 kb P A x B (n + 6) L' := by
  have hh := h
  obtain ⟨na, nm, nc, ns, pb, pm, pc, cA, cB, junk, BA, BB, CB, DB, ca, cm, cc, da, dm, dc, hns, hnz, hA, hB, hC, hD, hm, hmc, hpc, rfl⟩ := h.ex
  have hlA : LenIs cA (A.length * 4) := ⟨hA.len⟩
  have hdl := hD.len
  rw [length_ints] at hdl
  have hgl := G.len
  have hlo := G.lo
  have hhi := G.hi
  have hpl := F.plen
  have hxp := F.xp
  have hxl := F.loc
  have hxr := F.refs
  have hFl := F.len
  have hgm : (b % (pm : Int)).toNat < pm := by have := Int.emod_lt_of_pos b (show (0 : Int) < pm by omega); omega
  have hg0 := Int.emod_nonneg b (show (pm : Int) ≠ 0 by omega)
  have hg1 := Int.emod_lt_of_pos b (show (0 : Int) < pm by omega)
  obtain ⟨gf, hgf⟩ : ∃ f, (A ++ { x with code := c } :: B)[(b % (pm : Int)).toNat]? = some f := ⟨_, List.getElem?_eq_getElem (by simp; omega)⟩
  have hatg : At (cA ++ (.int .i64 x.params :: .int .i64 x.locals :: .int .i64 x.refs :: .slice ca cm cc :: (cB ++ junk))) (0 + (b % (pm : Int)).toNat * 4) (.int .i64 gf.params) := by
    have := (hA.app (.cons (f := { x with code := c }) hB hC)).row _ _ hgf
    refine ⟨?_⟩
    have e : cA ++ (.int .i64 x.params :: .int .i64 x.locals :: .int .i64 x.refs :: .slice ca cm cc :: (cB ++ junk)) = (cA ++ (.int .i64 x.params :: .int .i64 x.locals :: .int .i64 x.refs :: .slice ca cm cc :: cB)) ++ junk := by simp
    rw [e, Nat.zero_add, List.getElem?_append_left (List.getElem?_eq_some_iff.1 this).1]
    exact this
  have hgp : Pm.params P (b % (pm : Int)) = gf.params ∧ 0 ≤ gf.params ∧ gf.params ≤ 3 := by
    have hb2 : 0 ≤ gf.params ∧ gf.params ≤ 3 := by
      have hm := List.mem_of_getElem? hgf
      rcases List.mem_append.1 hm with hm | hm
      · exact F.small _ (List.mem_append_left _ hm)
      · rcases List.mem_cons.1 hm with rfl | hm
        · exact F.xp
        · exact F.small _ (List.mem_append_right _ (List.mem_cons_of_mem _ hm))
    refine ⟨?_, hb2⟩
    rw [← F.sh c, Pm.shape_params]
    unfold Pm.params Pm.fn
    rw [if_pos (by simp; omega), List.getD_eq_getElem?_getD, hgf]
    simp; omega
  obtain ⟨hgp, hgp0, hgp3⟩ := hgp
  obtain ⟨gn, hgn⟩ : ∃ gn : Nat, gf.params = gn := ⟨gf.params.toNat, by omega⟩
  rw [hgn] at hatg hgp hgp0 hgp3
  clear hgn
  have hpc17 : Pm.pops P ⟨17, b % (pm : Int), 0⟩ = (gn : Int) := by unfold Pm.pops; rw [if_pos (by simp)]; exact hgp
  have hpc19 : Pm.pops P ⟨19, b % (pm : Int), 0⟩ = (gn : Int) := by unfold Pm.pops; rw [if_pos (by simp)]; exact hgp
  unfold kCells at hh ⊢
  dsimp only at hh ⊢
  refine fn_of Try.func59 rfl rfl ?_
  repeat' (first | refine wRm ?_ | refine wQu ?_ | (first | with_reducible (first | refine thenQ_n ?_ | refine thenQ_e ?_ | refine thenQ_r ?_ | refine ow_nil ?_) | (first | refine wY ?_ | refine wA ?_ | refine wS ?_ | refine wL (fun bk => ?_) | refine wB (fun bk => ?_) | refine wX (fun bk => ?_) | refine wB0 (fun bk => ?_) | refine wB1 (fun bk => ?_) | refine wB1o (fun bk => ?_) | refine wB2o (fun bk => ?_) | refine wG ?_ | (refine wGd (fun hb => ?_) (fun hb => ?_) <;> try (exfalso; omega)) | (refine wGe (fun hb => ?_) (fun hb => ?_) <;> try (exfalso; omega)) | (refine wGn (fun hb => ?_) (fun hb => ?_) <;> try (exfalso; omega))) | with_reducible (first | refine cw_then ?_ | refine cw_region ?_ | refine wCt ?_ | refine wCf ?_) | (((with_reducible refine wCd (fun hb => ?_) (fun hb => ?_)) <;> try subst hb) <;> try (exfalso; omega)) | (((with_reducible refine wCe (fun hb => ?_) (fun hb => ?_)) <;> try subst hb) <;> try (exfalso; omega)) | ((with_reducible refine wCn (fun hb => ?_) (fun hb => ?_)) <;> try (exfalso; omega)) | ((with_reducible refine wCo (fun hb => ?_) (fun hb => ?_))) | ((with_reducible refine wCi (fun hb => ?_) (fun hb => ?_))) | with_reducible (first | refine cw_block ?_ | refine cw_skip ?_ | refine cw_exit ?_ | refine cw_ret ?_ | refine cw_label ?_ | refine cw_scope ?_ | refine inB_same ?_ | refine inB_n ?_ | refine inB_r ?_ | refine wIo ?_ | refine noG_n ?_ | refine noG_r ?_ | refine noG_e ?_)))
  all_goals try (refine cw_drawn 32 rfl rfl ?_; (repeat (first | refine wN ?_ | refine wK ?_)); (refine hw_case 166 rfl (fun hb => ?_) (fun hb => ?_) <;> (first | exact absurd hb (by decide) | (exfalso; simp at hb; omega) | skip) <;> (repeat (first | refine wN ?_ | refine wK ?_))); all_goals (refine hw_case 170 rfl (fun hb => ?_) (fun hb => ?_) <;> (first | exact absurd hb (by decide) | (exfalso; simp at hb; omega) | skip) <;> (repeat (first | refine wN ?_ | refine wK ?_))); all_goals (refine hw_case 180 rfl (fun hb => ?_) (fun hb => ?_) <;> (first | exact absurd hb (by decide) | (exfalso; simp at hb; omega) | skip) <;> (repeat (first | refine wN ?_ | refine wK ?_))); all_goals (refine wZ ?_; (repeat' (first | refine wRm ?_ | refine wQu ?_ | (first | with_reducible (first | refine thenQ_n ?_ | refine thenQ_e ?_ | refine thenQ_r ?_ | refine ow_nil ?_) | (first | refine wY ?_ | refine wA ?_ | refine wS ?_ | refine wL (fun bk => ?_) | refine wB (fun bk => ?_) | refine wX (fun bk => ?_) | refine wB0 (fun bk => ?_) | refine wB1 (fun bk => ?_) | refine wB1o (fun bk => ?_) | refine wB2o (fun bk => ?_) | refine wG ?_ | (refine wGd (fun hb => ?_) (fun hb => ?_) <;> try (exfalso; omega)) | (refine wGe (fun hb => ?_) (fun hb => ?_) <;> try (exfalso; omega)) | (refine wGn (fun hb => ?_) (fun hb => ?_) <;> try (exfalso; omega))) | with_reducible (first | refine cw_then ?_ | refine cw_region ?_ | refine wCt ?_ | refine wCf ?_) | (((with_reducible refine wCd (fun hb => ?_) (fun hb => ?_)) <;> try subst hb) <;> try (exfalso; omega)) | (((with_reducible refine wCe (fun hb => ?_) (fun hb => ?_)) <;> try subst hb) <;> try (exfalso; omega)) | ((with_reducible refine wCn (fun hb => ?_) (fun hb => ?_)) <;> try (exfalso; omega)) | ((with_reducible refine wCo (fun hb => ?_) (fun hb => ?_))) | ((with_reducible refine wCi (fun hb => ?_) (fun hb => ?_))) | with_reducible (first | refine cw_block ?_ | refine cw_skip ?_ | refine cw_exit ?_ | refine cw_ret ?_ | refine cw_label ?_ | refine cw_scope ?_ | refine inB_same ?_ | refine inB_n ?_ | refine inB_r ?_ | refine wIo ?_ | refine noG_n ?_ | refine noG_r ?_ | refine noG_e ?_))))))
  all_goals first
    | (refine ow_call_all (plain_fn F hh G n hn (by omega) _ b hb0) rfl (fun v L' hv => ?_); obtain ⟨r, rfl, hp⟩ := hv; (repeat' (first | with_reducible (first | refine thenQ_n ?_ | refine thenQ_e ?_ | refine thenQ_r ?_ | refine ow_nil ?_) | (first | refine wY ?_ | refine wA ?_ | refine wS ?_ | refine wL (fun bk => ?_) | refine wB (fun bk => ?_) | refine wX (fun bk => ?_) | refine wB0 (fun bk => ?_) | refine wB1 (fun bk => ?_) | refine wB1o (fun bk => ?_) | refine wB2o (fun bk => ?_) | refine wG ?_ | (refine wGd (fun hb => ?_) (fun hb => ?_) <;> try (exfalso; omega)) | (refine wGe (fun hb => ?_) (fun hb => ?_) <;> try (exfalso; omega)) | (refine wGn (fun hb => ?_) (fun hb => ?_) <;> try (exfalso; omega))) | with_reducible (first | refine cw_then ?_ | refine cw_region ?_ | refine wCt ?_ | refine wCf ?_) | (((with_reducible refine wCd (fun hb => ?_) (fun hb => ?_)) <;> try subst hb) <;> try (exfalso; omega)) | (((with_reducible refine wCe (fun hb => ?_) (fun hb => ?_)) <;> try subst hb) <;> try (exfalso; omega)) | ((with_reducible refine wCn (fun hb => ?_) (fun hb => ?_)) <;> try (exfalso; omega)) | ((with_reducible refine wCo (fun hb => ?_) (fun hb => ?_))) | ((with_reducible refine wCi (fun hb => ?_) (fun hb => ?_))) | with_reducible (first | refine cw_block ?_ | refine cw_skip ?_ | refine cw_exit ?_ | refine cw_ret ?_ | refine cw_label ?_ | refine cw_scope ?_ | refine inB_same ?_ | refine inB_n ?_ | refine inB_r ?_ | refine wIo ?_ | refine noG_n ?_ | refine noG_r ?_ | refine noG_e ?_))); exact ret1 (v := .bool r) rfl rfl (sub_mk ⟨r, rfl, hp.mono (by omega)⟩))
    | (first
      | (have e1 : (gn : Int) > 0 := (by simpa using ‹decide ((gn : Int) > 0) = true›)
         have e2 : at_ + max (gn : Int) 2 ≤ 8 := (by simpa using ‹decide (at_ + max (gn : Int) 2 ≤ 8) = true›)
         have e3 : (gn : Int) - 1 = ((gn - 1 : Nat) : Int) := (by omega)
         refine ow_call_all (addOne F hh G (by omega) 3 0 0 0 1 (.inr (.inr (.inl ⟨.inl rfl, Int.le_refl _, (by dsimp only; omega), rfl⟩))) (by omega) (by simp [Pm.pops]) (by simp [Pm.pushes]) (by omega) (by omega)) rfl (fun v L' hv => ?_)
         obtain ⟨rfl, hk1, hg1'⟩ := hv
         (repeat' (first | refine wRm ?_ | refine wQu ?_ | (first | with_reducible (first | refine thenQ_n ?_ | refine thenQ_e ?_ | refine thenQ_r ?_ | refine ow_nil ?_) | (first | refine wY ?_ | refine wA ?_ | refine wS ?_ | refine wL (fun bk => ?_) | refine wB (fun bk => ?_) | refine wX (fun bk => ?_) | refine wB0 (fun bk => ?_) | refine wB1 (fun bk => ?_) | refine wB1o (fun bk => ?_) | refine wB2o (fun bk => ?_) | refine wG ?_ | (refine wGd (fun hb => ?_) (fun hb => ?_) <;> try (exfalso; omega)) | (refine wGe (fun hb => ?_) (fun hb => ?_) <;> try (exfalso; omega)) | (refine wGn (fun hb => ?_) (fun hb => ?_) <;> try (exfalso; omega))) | with_reducible (first | refine cw_then ?_ | refine cw_region ?_ | refine wCt ?_ | refine wCf ?_) | (((with_reducible refine wCd (fun hb => ?_) (fun hb => ?_)) <;> try subst hb) <;> try (exfalso; omega)) | (((with_reducible refine wCe (fun hb => ?_) (fun hb => ?_)) <;> try subst hb) <;> try (exfalso; omega)) | ((with_reducible refine wCn (fun hb => ?_) (fun hb => ?_)) <;> try (exfalso; omega)) | ((with_reducible refine wCo (fun hb => ?_) (fun hb => ?_))) | ((with_reducible refine wCi (fun hb => ?_) (fun hb => ?_))) | with_reducible (first | refine cw_block ?_ | refine cw_skip ?_ | refine cw_exit ?_ | refine cw_ret ?_ | refine cw_label ?_ | refine cw_scope ?_ | refine inB_same ?_ | refine inB_n ?_ | refine inB_r ?_ | refine wIo ?_ | refine noG_n ?_ | refine noG_r ?_ | refine noG_e ?_))))
         refine ow_call_all (addOne F hk1 hg1' (by simp; omega) 1 1 0 0 1 (.inl ⟨rfl, (by dsimp only; omega), (by dsimp only; omega), rfl⟩) (by omega) (by simp [Pm.pops]) (by simp [Pm.pushes]) (by omega) (by omega)) rfl (fun v L' hv => ?_)
         obtain ⟨rfl, hk2, hg2'⟩ := hv
         (repeat' (first | refine wRm ?_ | refine wQu ?_ | (first | with_reducible (first | refine thenQ_n ?_ | refine thenQ_e ?_ | refine thenQ_r ?_ | refine ow_nil ?_) | (first | refine wY ?_ | refine wA ?_ | refine wS ?_ | refine wL (fun bk => ?_) | refine wB (fun bk => ?_) | refine wX (fun bk => ?_) | refine wB0 (fun bk => ?_) | refine wB1 (fun bk => ?_) | refine wB1o (fun bk => ?_) | refine wB2o (fun bk => ?_) | refine wG ?_ | (refine wGd (fun hb => ?_) (fun hb => ?_) <;> try (exfalso; omega)) | (refine wGe (fun hb => ?_) (fun hb => ?_) <;> try (exfalso; omega)) | (refine wGn (fun hb => ?_) (fun hb => ?_) <;> try (exfalso; omega))) | with_reducible (first | refine cw_then ?_ | refine cw_region ?_ | refine wCt ?_ | refine wCf ?_) | (((with_reducible refine wCd (fun hb => ?_) (fun hb => ?_)) <;> try subst hb) <;> try (exfalso; omega)) | (((with_reducible refine wCe (fun hb => ?_) (fun hb => ?_)) <;> try subst hb) <;> try (exfalso; omega)) | ((with_reducible refine wCn (fun hb => ?_) (fun hb => ?_)) <;> try (exfalso; omega)) | ((with_reducible refine wCo (fun hb => ?_) (fun hb => ?_))) | ((with_reducible refine wCi (fun hb => ?_) (fun hb => ?_))) | with_reducible (first | refine cw_block ?_ | refine cw_skip ?_ | refine cw_exit ?_ | refine cw_ret ?_ | refine cw_label ?_ | refine cw_scope ?_ | refine inB_same ?_ | refine inB_n ?_ | refine inB_r ?_ | refine wIo ?_ | refine noG_n ?_ | refine noG_r ?_ | refine noG_e ?_))))
         refine ow_call_all (addOne F hk2 hg2' (by simp; omega) 6 0 0 2 1 (.inr (.inr (.inr (.inr (.inr (.inr (.inr ⟨(by simp), rfl, rfl⟩))))))) (by omega) (by simp [Pm.pops]) (by simp [Pm.pushes]) (by omega) (by omega)) rfl (fun v L' hv => ?_)
         obtain ⟨rfl, hk3, hg3'⟩ := hv
         (repeat' (first | refine wRm ?_ | refine wQu ?_ | (first | with_reducible (first | refine thenQ_n ?_ | refine thenQ_e ?_ | refine thenQ_r ?_ | refine ow_nil ?_) | (first | refine wY ?_ | refine wA ?_ | refine wS ?_ | refine wL (fun bk => ?_) | refine wB (fun bk => ?_) | refine wX (fun bk => ?_) | refine wB0 (fun bk => ?_) | refine wB1 (fun bk => ?_) | refine wB1o (fun bk => ?_) | refine wB2o (fun bk => ?_) | refine wG ?_ | (refine wGd (fun hb => ?_) (fun hb => ?_) <;> try (exfalso; omega)) | (refine wGe (fun hb => ?_) (fun hb => ?_) <;> try (exfalso; omega)) | (refine wGn (fun hb => ?_) (fun hb => ?_) <;> try (exfalso; omega))) | with_reducible (first | refine cw_then ?_ | refine cw_region ?_ | refine wCt ?_ | refine wCf ?_) | (((with_reducible refine wCd (fun hb => ?_) (fun hb => ?_)) <;> try subst hb) <;> try (exfalso; omega)) | (((with_reducible refine wCe (fun hb => ?_) (fun hb => ?_)) <;> try subst hb) <;> try (exfalso; omega)) | ((with_reducible refine wCn (fun hb => ?_) (fun hb => ?_)) <;> try (exfalso; omega)) | ((with_reducible refine wCo (fun hb => ?_) (fun hb => ?_))) | ((with_reducible refine wCi (fun hb => ?_) (fun hb => ?_))) | with_reducible (first | refine cw_block ?_ | refine cw_skip ?_ | refine cw_exit ?_ | refine cw_ret ?_ | refine cw_label ?_ | refine cw_scope ?_ | refine inB_same ?_ | refine inB_n ?_ | refine inB_r ?_ | refine wIo ?_ | refine noG_n ?_ | refine noG_r ?_ | refine noG_e ?_))))
         rw [e3]
         refine ow_call_all (args_fn F hk3 hg3' (n + 3) (by simp; omega) (by omega) (gn - 1) b (by omega) (by omega)) rfl (fun v L' hv => ?_)
         obtain ⟨rfl, c4, d4, hk4, hg4, hl4⟩ := hv
         (repeat' (first | refine wRm ?_ | refine wQu ?_ | (first | with_reducible (first | refine thenQ_n ?_ | refine thenQ_e ?_ | refine thenQ_r ?_ | refine ow_nil ?_) | (first | refine wY ?_ | refine wA ?_ | refine wS ?_ | refine wL (fun bk => ?_) | refine wB (fun bk => ?_) | refine wX (fun bk => ?_) | refine wB0 (fun bk => ?_) | refine wB1 (fun bk => ?_) | refine wB1o (fun bk => ?_) | refine wB2o (fun bk => ?_) | refine wG ?_ | (refine wGd (fun hb => ?_) (fun hb => ?_) <;> try (exfalso; omega)) | (refine wGe (fun hb => ?_) (fun hb => ?_) <;> try (exfalso; omega)) | (refine wGn (fun hb => ?_) (fun hb => ?_) <;> try (exfalso; omega))) | with_reducible (first | refine cw_then ?_ | refine cw_region ?_ | refine wCt ?_ | refine wCf ?_) | (((with_reducible refine wCd (fun hb => ?_) (fun hb => ?_)) <;> try subst hb) <;> try (exfalso; omega)) | (((with_reducible refine wCe (fun hb => ?_) (fun hb => ?_)) <;> try subst hb) <;> try (exfalso; omega)) | ((with_reducible refine wCn (fun hb => ?_) (fun hb => ?_)) <;> try (exfalso; omega)) | ((with_reducible refine wCo (fun hb => ?_) (fun hb => ?_))) | ((with_reducible refine wCi (fun hb => ?_) (fun hb => ?_))) | with_reducible (first | refine cw_block ?_ | refine cw_skip ?_ | refine cw_exit ?_ | refine cw_ret ?_ | refine cw_label ?_ | refine cw_scope ?_ | refine inB_same ?_ | refine inB_n ?_ | refine inB_r ?_ | refine wIo ?_ | refine noG_n ?_ | refine noG_r ?_ | refine noG_e ?_))))
         refine ow_call_all (addOne F hk4 hg4 (by omega) 17 _ _ (gn : Int) 1 (.inr (.inr (.inr (.inr (.inl ⟨.inl rfl, hg0, (by rw [hpl, ← hm]; exact hg1), rfl⟩))))) (by omega) hpc17 (by simp [Pm.pushes]) (by omega) (by omega)) rfl (fun v L' hv => ?_)
         obtain ⟨rfl, hk, hg⟩ := hv
         (repeat' (first | with_reducible (first | refine thenQ_n ?_ | refine thenQ_e ?_ | refine thenQ_r ?_ | refine ow_nil ?_) | (first | refine wY ?_ | refine wA ?_ | refine wS ?_ | refine wL (fun bk => ?_) | refine wB (fun bk => ?_) | refine wX (fun bk => ?_) | refine wB0 (fun bk => ?_) | refine wB1 (fun bk => ?_) | refine wB1o (fun bk => ?_) | refine wB2o (fun bk => ?_) | refine wG ?_ | (refine wGd (fun hb => ?_) (fun hb => ?_) <;> try (exfalso; omega)) | (refine wGe (fun hb => ?_) (fun hb => ?_) <;> try (exfalso; omega)) | (refine wGn (fun hb => ?_) (fun hb => ?_) <;> try (exfalso; omega))) | with_reducible (first | refine cw_then ?_ | refine cw_region ?_ | refine wCt ?_ | refine wCf ?_) | (((with_reducible refine wCd (fun hb => ?_) (fun hb => ?_)) <;> try subst hb) <;> try (exfalso; omega)) | (((with_reducible refine wCe (fun hb => ?_) (fun hb => ?_)) <;> try subst hb) <;> try (exfalso; omega)) | ((with_reducible refine wCn (fun hb => ?_) (fun hb => ?_)) <;> try (exfalso; omega)) | ((with_reducible refine wCo (fun hb => ?_) (fun hb => ?_))) | ((with_reducible refine wCi (fun hb => ?_) (fun hb => ?_))) | with_reducible (first | refine cw_block ?_ | refine cw_skip ?_ | refine cw_exit ?_ | refine cw_ret ?_ | refine cw_label ?_ | refine cw_scope ?_ | refine inB_same ?_ | refine inB_n ?_ | refine inB_r ?_ | refine wIo ?_ | refine noG_n ?_ | refine noG_r ?_ | refine noG_e ?_)))
         exact ret1 (v := .bool true) rfl rfl (sub_mk ⟨true, rfl, _, _, _, hk, hg, (by simp; omega)⟩)))

set_option maxHeartbeats 4000000 in
set_option maxRecDepth 4000 in
theorem piece_19 {kb : Nat} {P : Pm.Prog} {A : List Pm.Func} {x : Pm.Func} {B : List Pm.Func} (F : KFix P A x B) {c : List Pm.Instr} {depth : List Int} {at_ : Int} {L : List Blk} (h : KRep h0 kb A { x with code := c } B depth at_ L) (G : Pm.Going P x c depth at_) (n : Nat) (hn : c.length ≤ n) (hn2 : n ≤ 800) (b : Int) (hb0 : 0 ≤ b ∧ b ≤ 255) :
    Ct Try.prog h0 59 [.pointer (some ⟨kb, 0, none⟩), .int .i64 19, .int .i64 b] L fun v L' => ∃ r, v = .bool r ∧ KPost h0 kb P A x B (n + 6) L' := by
  have hh := h
  obtain ⟨na, nm, nc, ns, pb, pm, pc, cA, cB, junk, BA, BB, CB, DB, ca, cm, cc, da, dm, dc, hns, hnz, hA, hB, hC, hD, hm, hmc, hpc, rfl⟩ := h.ex
  have hlA : LenIs cA (A.length * 4) := ⟨hA.len⟩
  have hdl := hD.len
  rw [length_ints] at hdl
  have hgl := G.len
  have hlo := G.lo
  have hhi := G.hi
  have hpl := F.plen
  have hxp := F.xp
  have hxl := F.loc
  have hxr := F.refs
  have hFl := F.len
  have hgm : (b % (pm : Int)).toNat < pm := by have := Int.emod_lt_of_pos b (show (0 : Int) < pm by omega); omega
  have hg0 := Int.emod_nonneg b (show (pm : Int) ≠ 0 by omega)
  have hg1 := Int.emod_lt_of_pos b (show (0 : Int) < pm by omega)
  obtain ⟨gf, hgf⟩ : ∃ f, (A ++ { x with code := c } :: B)[(b % (pm : Int)).toNat]? = some f := ⟨_, List.getElem?_eq_getElem (by simp; omega)⟩
  have hatg : At (cA ++ (.int .i64 x.params :: .int .i64 x.locals :: .int .i64 x.refs :: .slice ca cm cc :: (cB ++ junk))) (0 + (b % (pm : Int)).toNat * 4) (.int .i64 gf.params) := by
    have := (hA.app (.cons (f := { x with code := c }) hB hC)).row _ _ hgf
    refine ⟨?_⟩
    have e : cA ++ (.int .i64 x.params :: .int .i64 x.locals :: .int .i64 x.refs :: .slice ca cm cc :: (cB ++ junk)) = (cA ++ (.int .i64 x.params :: .int .i64 x.locals :: .int .i64 x.refs :: .slice ca cm cc :: cB)) ++ junk := by simp
    rw [e, Nat.zero_add, List.getElem?_append_left (List.getElem?_eq_some_iff.1 this).1]
    exact this
  have hgp : Pm.params P (b % (pm : Int)) = gf.params ∧ 0 ≤ gf.params ∧ gf.params ≤ 3 := by
    have hb2 : 0 ≤ gf.params ∧ gf.params ≤ 3 := by
      have hm := List.mem_of_getElem? hgf
      rcases List.mem_append.1 hm with hm | hm
      · exact F.small _ (List.mem_append_left _ hm)
      · rcases List.mem_cons.1 hm with rfl | hm
        · exact F.xp
        · exact F.small _ (List.mem_append_right _ (List.mem_cons_of_mem _ hm))
    refine ⟨?_, hb2⟩
    rw [← F.sh c, Pm.shape_params]
    unfold Pm.params Pm.fn
    rw [if_pos (by simp; omega), List.getD_eq_getElem?_getD, hgf]
    simp; omega
  obtain ⟨hgp, hgp0, hgp3⟩ := hgp
  obtain ⟨gn, hgn⟩ : ∃ gn : Nat, gf.params = gn := ⟨gf.params.toNat, by omega⟩
  rw [hgn] at hatg hgp hgp0 hgp3
  clear hgn
  have hpc17 : Pm.pops P ⟨17, b % (pm : Int), 0⟩ = (gn : Int) := by unfold Pm.pops; rw [if_pos (by simp)]; exact hgp
  have hpc19 : Pm.pops P ⟨19, b % (pm : Int), 0⟩ = (gn : Int) := by unfold Pm.pops; rw [if_pos (by simp)]; exact hgp
  unfold kCells at hh ⊢
  dsimp only at hh ⊢
  refine fn_of Try.func59 rfl rfl ?_
  repeat' (first | refine wRm ?_ | refine wQu ?_ | (first | with_reducible (first | refine thenQ_n ?_ | refine thenQ_e ?_ | refine thenQ_r ?_ | refine ow_nil ?_) | (first | refine wY ?_ | refine wA ?_ | refine wS ?_ | refine wL (fun bk => ?_) | refine wB (fun bk => ?_) | refine wX (fun bk => ?_) | refine wB0 (fun bk => ?_) | refine wB1 (fun bk => ?_) | refine wB1o (fun bk => ?_) | refine wB2o (fun bk => ?_) | refine wG ?_ | (refine wGd (fun hb => ?_) (fun hb => ?_) <;> try (exfalso; omega)) | (refine wGe (fun hb => ?_) (fun hb => ?_) <;> try (exfalso; omega)) | (refine wGn (fun hb => ?_) (fun hb => ?_) <;> try (exfalso; omega))) | with_reducible (first | refine cw_then ?_ | refine cw_region ?_ | refine wCt ?_ | refine wCf ?_) | (((with_reducible refine wCd (fun hb => ?_) (fun hb => ?_)) <;> try subst hb) <;> try (exfalso; omega)) | (((with_reducible refine wCe (fun hb => ?_) (fun hb => ?_)) <;> try subst hb) <;> try (exfalso; omega)) | ((with_reducible refine wCn (fun hb => ?_) (fun hb => ?_)) <;> try (exfalso; omega)) | ((with_reducible refine wCo (fun hb => ?_) (fun hb => ?_))) | ((with_reducible refine wCi (fun hb => ?_) (fun hb => ?_))) | with_reducible (first | refine cw_block ?_ | refine cw_skip ?_ | refine cw_exit ?_ | refine cw_ret ?_ | refine cw_label ?_ | refine cw_scope ?_ | refine inB_same ?_ | refine inB_n ?_ | refine inB_r ?_ | refine wIo ?_ | refine noG_n ?_ | refine noG_r ?_ | refine noG_e ?_)))
  all_goals try (refine cw_drawn 32 rfl rfl ?_; (repeat (first | refine wN ?_ | refine wK ?_)); (refine hw_case 166 rfl (fun hb => ?_) (fun hb => ?_) <;> (first | exact absurd hb (by decide) | (exfalso; simp at hb; omega) | skip) <;> (repeat (first | refine wN ?_ | refine wK ?_))); all_goals (refine hw_case 170 rfl (fun hb => ?_) (fun hb => ?_) <;> (first | exact absurd hb (by decide) | (exfalso; simp at hb; omega) | skip) <;> (repeat (first | refine wN ?_ | refine wK ?_))); all_goals (refine hw_case 180 rfl (fun hb => ?_) (fun hb => ?_) <;> (first | exact absurd hb (by decide) | (exfalso; simp at hb; omega) | skip) <;> (repeat (first | refine wN ?_ | refine wK ?_))); all_goals (refine wZ ?_; (repeat' (first | refine wRm ?_ | refine wQu ?_ | (first | with_reducible (first | refine thenQ_n ?_ | refine thenQ_e ?_ | refine thenQ_r ?_ | refine ow_nil ?_) | (first | refine wY ?_ | refine wA ?_ | refine wS ?_ | refine wL (fun bk => ?_) | refine wB (fun bk => ?_) | refine wX (fun bk => ?_) | refine wB0 (fun bk => ?_) | refine wB1 (fun bk => ?_) | refine wB1o (fun bk => ?_) | refine wB2o (fun bk => ?_) | refine wG ?_ | (refine wGd (fun hb => ?_) (fun hb => ?_) <;> try (exfalso; omega)) | (refine wGe (fun hb => ?_) (fun hb => ?_) <;> try (exfalso; omega)) | (refine wGn (fun hb => ?_) (fun hb => ?_) <;> try (exfalso; omega))) | with_reducible (first | refine cw_then ?_ | refine cw_region ?_ | refine wCt ?_ | refine wCf ?_) | (((with_reducible refine wCd (fun hb => ?_) (fun hb => ?_)) <;> try subst hb) <;> try (exfalso; omega)) | (((with_reducible refine wCe (fun hb => ?_) (fun hb => ?_)) <;> try subst hb) <;> try (exfalso; omega)) | ((with_reducible refine wCn (fun hb => ?_) (fun hb => ?_)) <;> try (exfalso; omega)) | ((with_reducible refine wCo (fun hb => ?_) (fun hb => ?_))) | ((with_reducible refine wCi (fun hb => ?_) (fun hb => ?_))) | with_reducible (first | refine cw_block ?_ | refine cw_skip ?_ | refine cw_exit ?_ | refine cw_ret ?_ | refine cw_label ?_ | refine cw_scope ?_ | refine inB_same ?_ | refine inB_n ?_ | refine inB_r ?_ | refine wIo ?_ | refine noG_n ?_ | refine noG_r ?_ | refine noG_e ?_))))))
  all_goals first
    | (refine ow_call_all (args_fn F hh G n hn (by omega) gn b (by omega) (by omega)) rfl (fun v L' hv => ?_); obtain ⟨rfl, c2, d2, hk2, hg2, hl2⟩ := hv; (repeat' (first | refine wRm ?_ | refine wQu ?_ | (first | with_reducible (first | refine thenQ_n ?_ | refine thenQ_e ?_ | refine thenQ_r ?_ | refine ow_nil ?_) | (first | refine wY ?_ | refine wA ?_ | refine wS ?_ | refine wL (fun bk => ?_) | refine wB (fun bk => ?_) | refine wX (fun bk => ?_) | refine wB0 (fun bk => ?_) | refine wB1 (fun bk => ?_) | refine wB1o (fun bk => ?_) | refine wB2o (fun bk => ?_) | refine wG ?_ | (refine wGd (fun hb => ?_) (fun hb => ?_) <;> try (exfalso; omega)) | (refine wGe (fun hb => ?_) (fun hb => ?_) <;> try (exfalso; omega)) | (refine wGn (fun hb => ?_) (fun hb => ?_) <;> try (exfalso; omega))) | with_reducible (first | refine cw_then ?_ | refine cw_region ?_ | refine wCt ?_ | refine wCf ?_) | (((with_reducible refine wCd (fun hb => ?_) (fun hb => ?_)) <;> try subst hb) <;> try (exfalso; omega)) | (((with_reducible refine wCe (fun hb => ?_) (fun hb => ?_)) <;> try subst hb) <;> try (exfalso; omega)) | ((with_reducible refine wCn (fun hb => ?_) (fun hb => ?_)) <;> try (exfalso; omega)) | ((with_reducible refine wCo (fun hb => ?_) (fun hb => ?_))) | ((with_reducible refine wCi (fun hb => ?_) (fun hb => ?_))) | with_reducible (first | refine cw_block ?_ | refine cw_skip ?_ | refine cw_exit ?_ | refine cw_ret ?_ | refine cw_label ?_ | refine cw_scope ?_ | refine inB_same ?_ | refine inB_n ?_ | refine inB_r ?_ | refine wIo ?_ | refine noG_n ?_ | refine noG_r ?_ | refine noG_e ?_)))); refine ow_call_all (addOne F hk2 hg2 (by omega) 19 _ _ (gn : Int) 0 ?_ (by omega) (hpc19) (by simp [Pm.pushes]) (by omega) (by omega)) rfl (fun v L' hv => ?_); (· exact .inr (.inr (.inr (.inr (.inl ⟨.inr rfl, hg0, by rw [hpl, ← hm]; exact hg1, rfl⟩))))); (· (obtain ⟨rfl, hk, hg⟩ := hv; ((repeat' (first | with_reducible (first | refine thenQ_n ?_ | refine thenQ_e ?_ | refine thenQ_r ?_ | refine ow_nil ?_) | (first | refine wY ?_ | refine wA ?_ | refine wS ?_ | refine wL (fun bk => ?_) | refine wB (fun bk => ?_) | refine wX (fun bk => ?_) | refine wB0 (fun bk => ?_) | refine wB1 (fun bk => ?_) | refine wB1o (fun bk => ?_) | refine wB2o (fun bk => ?_) | refine wG ?_ | (refine wGd (fun hb => ?_) (fun hb => ?_) <;> try (exfalso; omega)) | (refine wGe (fun hb => ?_) (fun hb => ?_) <;> try (exfalso; omega)) | (refine wGn (fun hb => ?_) (fun hb => ?_) <;> try (exfalso; omega))) | with_reducible (first | refine cw_then ?_ | refine cw_region ?_ | refine wCt ?_ | refine wCf ?_) | (((with_reducible refine wCd (fun hb => ?_) (fun hb => ?_)) <;> try subst hb) <;> try (exfalso; omega)) | (((with_reducible refine wCe (fun hb => ?_) (fun hb => ?_)) <;> try subst hb) <;> try (exfalso; omega)) | ((with_reducible refine wCn (fun hb => ?_) (fun hb => ?_)) <;> try (exfalso; omega)) | ((with_reducible refine wCo (fun hb => ?_) (fun hb => ?_))) | ((with_reducible refine wCi (fun hb => ?_) (fun hb => ?_))) | with_reducible (first | refine cw_block ?_ | refine cw_skip ?_ | refine cw_exit ?_ | refine cw_ret ?_ | refine cw_label ?_ | refine cw_scope ?_ | refine inB_same ?_ | refine inB_n ?_ | refine inB_r ?_ | refine wIo ?_ | refine noG_n ?_ | refine noG_r ?_ | refine noG_e ?_))); exact ret1 (v := .bool true) rfl rfl (sub_mk ⟨true, rfl, _, _, _, hk, hg, by simp; omega⟩)))))
    | (refine ow_call_all (plain_fn F hh G n hn (by omega) _ b hb0) rfl (fun v L' hv => ?_); obtain ⟨r, rfl, hp⟩ := hv; (repeat' (first | with_reducible (first | refine thenQ_n ?_ | refine thenQ_e ?_ | refine thenQ_r ?_ | refine ow_nil ?_) | (first | refine wY ?_ | refine wA ?_ | refine wS ?_ | refine wL (fun bk => ?_) | refine wB (fun bk => ?_) | refine wX (fun bk => ?_) | refine wB0 (fun bk => ?_) | refine wB1 (fun bk => ?_) | refine wB1o (fun bk => ?_) | refine wB2o (fun bk => ?_) | refine wG ?_ | (refine wGd (fun hb => ?_) (fun hb => ?_) <;> try (exfalso; omega)) | (refine wGe (fun hb => ?_) (fun hb => ?_) <;> try (exfalso; omega)) | (refine wGn (fun hb => ?_) (fun hb => ?_) <;> try (exfalso; omega))) | with_reducible (first | refine cw_then ?_ | refine cw_region ?_ | refine wCt ?_ | refine wCf ?_) | (((with_reducible refine wCd (fun hb => ?_) (fun hb => ?_)) <;> try subst hb) <;> try (exfalso; omega)) | (((with_reducible refine wCe (fun hb => ?_) (fun hb => ?_)) <;> try subst hb) <;> try (exfalso; omega)) | ((with_reducible refine wCn (fun hb => ?_) (fun hb => ?_)) <;> try (exfalso; omega)) | ((with_reducible refine wCo (fun hb => ?_) (fun hb => ?_))) | ((with_reducible refine wCi (fun hb => ?_) (fun hb => ?_))) | with_reducible (first | refine cw_block ?_ | refine cw_skip ?_ | refine cw_exit ?_ | refine cw_ret ?_ | refine cw_label ?_ | refine cw_scope ?_ | refine inB_same ?_ | refine inB_n ?_ | refine inB_r ?_ | refine wIo ?_ | refine noG_n ?_ | refine noG_r ?_ | refine noG_e ?_))); exact ret1 (v := .bool r) rfl rfl (sub_mk ⟨r, rfl, hp.mono (by omega)⟩))

set_option maxHeartbeats 4000000 in
set_option maxRecDepth 4000 in
theorem piece_0 {kb : Nat} {P : Pm.Prog} {A : List Pm.Func} {x : Pm.Func} {B : List Pm.Func} (F : KFix P A x B) {c : List Pm.Instr} {depth : List Int} {at_ : Int} {L : List Blk} (h : KRep h0 kb A { x with code := c } B depth at_ L) (G : Pm.Going P x c depth at_) (n : Nat) (hn : c.length ≤ n) (hn2 : n ≤ 800) (kind b : Int) (hkd : 0 ≤ kind ∧ kind < 20) (hne : kind ≠ 9 ∧ kind ≠ 10 ∧ kind ≠ 14 ∧ kind ≠ 15 ∧ kind ≠ 16 ∧ kind ≠ 17 ∧ kind ≠ 18 ∧ kind ≠ 19) (hb0 : 0 ≤ b ∧ b ≤ 255) :
    Ct Try.prog h0 59 [.pointer (some ⟨kb, 0, none⟩), .int .i64 kind, .int .i64 b] L fun v L' => ∃ r, v = .bool r ∧ KPost h0 kb P A x B (n + 6) L' := by
  have hh := h
  obtain ⟨na, nm, nc, ns, pb, pm, pc, cA, cB, junk, BA, BB, CB, DB, ca, cm, cc, da, dm, dc, hns, hnz, hA, hB, hC, hD, hm, hmc, hpc, rfl⟩ := h.ex
  have hlA : LenIs cA (A.length * 4) := ⟨hA.len⟩
  have hdl := hD.len
  rw [length_ints] at hdl
  have hgl := G.len
  have hlo := G.lo
  have hhi := G.hi
  have hpl := F.plen
  have hxp := F.xp
  have hxl := F.loc
  have hxr := F.refs
  have hFl := F.len
  have hgm : (b % (pm : Int)).toNat < pm := by have := Int.emod_lt_of_pos b (show (0 : Int) < pm by omega); omega
  have hg0 := Int.emod_nonneg b (show (pm : Int) ≠ 0 by omega)
  have hg1 := Int.emod_lt_of_pos b (show (0 : Int) < pm by omega)
  obtain ⟨gf, hgf⟩ : ∃ f, (A ++ { x with code := c } :: B)[(b % (pm : Int)).toNat]? = some f := ⟨_, List.getElem?_eq_getElem (by simp; omega)⟩
  have hatg : At (cA ++ (.int .i64 x.params :: .int .i64 x.locals :: .int .i64 x.refs :: .slice ca cm cc :: (cB ++ junk))) (0 + (b % (pm : Int)).toNat * 4) (.int .i64 gf.params) := by
    have := (hA.app (.cons (f := { x with code := c }) hB hC)).row _ _ hgf
    refine ⟨?_⟩
    have e : cA ++ (.int .i64 x.params :: .int .i64 x.locals :: .int .i64 x.refs :: .slice ca cm cc :: (cB ++ junk)) = (cA ++ (.int .i64 x.params :: .int .i64 x.locals :: .int .i64 x.refs :: .slice ca cm cc :: cB)) ++ junk := by simp
    rw [e, Nat.zero_add, List.getElem?_append_left (List.getElem?_eq_some_iff.1 this).1]
    exact this
  have hgp : Pm.params P (b % (pm : Int)) = gf.params ∧ 0 ≤ gf.params ∧ gf.params ≤ 3 := by
    have hb2 : 0 ≤ gf.params ∧ gf.params ≤ 3 := by
      have hm := List.mem_of_getElem? hgf
      rcases List.mem_append.1 hm with hm | hm
      · exact F.small _ (List.mem_append_left _ hm)
      · rcases List.mem_cons.1 hm with rfl | hm
        · exact F.xp
        · exact F.small _ (List.mem_append_right _ (List.mem_cons_of_mem _ hm))
    refine ⟨?_, hb2⟩
    rw [← F.sh c, Pm.shape_params]
    unfold Pm.params Pm.fn
    rw [if_pos (by simp; omega), List.getD_eq_getElem?_getD, hgf]
    simp; omega
  obtain ⟨hgp, hgp0, hgp3⟩ := hgp
  obtain ⟨gn, hgn⟩ : ∃ gn : Nat, gf.params = gn := ⟨gf.params.toNat, by omega⟩
  rw [hgn] at hatg hgp hgp0 hgp3
  clear hgn
  have hpc17 : Pm.pops P ⟨17, b % (pm : Int), 0⟩ = (gn : Int) := by unfold Pm.pops; rw [if_pos (by simp)]; exact hgp
  have hpc19 : Pm.pops P ⟨19, b % (pm : Int), 0⟩ = (gn : Int) := by unfold Pm.pops; rw [if_pos (by simp)]; exact hgp
  unfold kCells at hh ⊢
  dsimp only at hh ⊢
  refine fn_of Try.func59 rfl rfl ?_
  repeat' (first | refine wRm ?_ | refine wQu ?_ | (first | with_reducible (first | refine thenQ_n ?_ | refine thenQ_e ?_ | refine thenQ_r ?_ | refine ow_nil ?_) | (first | refine wY ?_ | refine wA ?_ | refine wS ?_ | refine wL (fun bk => ?_) | refine wB (fun bk => ?_) | refine wX (fun bk => ?_) | refine wB0 (fun bk => ?_) | refine wB1 (fun bk => ?_) | refine wB1o (fun bk => ?_) | refine wB2o (fun bk => ?_) | refine wG ?_ | (refine wGd (fun hb => ?_) (fun hb => ?_) <;> try (exfalso; omega)) | (refine wGe (fun hb => ?_) (fun hb => ?_) <;> try (exfalso; omega)) | (refine wGn (fun hb => ?_) (fun hb => ?_) <;> try (exfalso; omega))) | with_reducible (first | refine cw_then ?_ | refine cw_region ?_ | refine wCt ?_ | refine wCf ?_) | (((with_reducible refine wCd (fun hb => ?_) (fun hb => ?_)) <;> try subst hb) <;> try (exfalso; omega)) | (((with_reducible refine wCe (fun hb => ?_) (fun hb => ?_)) <;> try subst hb) <;> try (exfalso; omega)) | ((with_reducible refine wCn (fun hb => ?_) (fun hb => ?_)) <;> try (exfalso; omega)) | ((with_reducible refine wCo (fun hb => ?_) (fun hb => ?_))) | ((with_reducible refine wCi (fun hb => ?_) (fun hb => ?_))) | with_reducible (first | refine cw_block ?_ | refine cw_skip ?_ | refine cw_exit ?_ | refine cw_ret ?_ | refine cw_label ?_ | refine cw_scope ?_ | refine inB_same ?_ | refine inB_n ?_ | refine inB_r ?_ | refine wIo ?_ | refine noG_n ?_ | refine noG_r ?_ | refine noG_e ?_)))
  all_goals try (refine cw_drawn 32 rfl rfl ?_; (repeat (first | refine wN ?_ | refine wK ?_)); (refine hw_case 166 rfl (fun hb => ?_) (fun hb => ?_) <;> (first | exact absurd hb (by decide) | (exfalso; simp at hb; omega) | skip) <;> (repeat (first | refine wN ?_ | refine wK ?_))); all_goals (refine hw_case 170 rfl (fun hb => ?_) (fun hb => ?_) <;> (first | exact absurd hb (by decide) | (exfalso; simp at hb; omega) | skip) <;> (repeat (first | refine wN ?_ | refine wK ?_))); all_goals (refine hw_case 180 rfl (fun hb => ?_) (fun hb => ?_) <;> (first | exact absurd hb (by decide) | (exfalso; simp at hb; omega) | skip) <;> (repeat (first | refine wN ?_ | refine wK ?_))); all_goals (refine wZ ?_; (repeat' (first | refine wRm ?_ | refine wQu ?_ | (first | with_reducible (first | refine thenQ_n ?_ | refine thenQ_e ?_ | refine thenQ_r ?_ | refine ow_nil ?_) | (first | refine wY ?_ | refine wA ?_ | refine wS ?_ | refine wL (fun bk => ?_) | refine wB (fun bk => ?_) | refine wX (fun bk => ?_) | refine wB0 (fun bk => ?_) | refine wB1 (fun bk => ?_) | refine wB1o (fun bk => ?_) | refine wB2o (fun bk => ?_) | refine wG ?_ | (refine wGd (fun hb => ?_) (fun hb => ?_) <;> try (exfalso; omega)) | (refine wGe (fun hb => ?_) (fun hb => ?_) <;> try (exfalso; omega)) | (refine wGn (fun hb => ?_) (fun hb => ?_) <;> try (exfalso; omega))) | with_reducible (first | refine cw_then ?_ | refine cw_region ?_ | refine wCt ?_ | refine wCf ?_) | (((with_reducible refine wCd (fun hb => ?_) (fun hb => ?_)) <;> try subst hb) <;> try (exfalso; omega)) | (((with_reducible refine wCe (fun hb => ?_) (fun hb => ?_)) <;> try subst hb) <;> try (exfalso; omega)) | ((with_reducible refine wCn (fun hb => ?_) (fun hb => ?_)) <;> try (exfalso; omega)) | ((with_reducible refine wCo (fun hb => ?_) (fun hb => ?_))) | ((with_reducible refine wCi (fun hb => ?_) (fun hb => ?_))) | with_reducible (first | refine cw_block ?_ | refine cw_skip ?_ | refine cw_exit ?_ | refine cw_ret ?_ | refine cw_label ?_ | refine cw_scope ?_ | refine inB_same ?_ | refine inB_n ?_ | refine inB_r ?_ | refine wIo ?_ | refine noG_n ?_ | refine noG_r ?_ | refine noG_e ?_))))))
  all_goals first
    | (refine ow_call_all (plain_fn F hh G n hn (by omega) _ b hb0) rfl (fun v L' hv => ?_); obtain ⟨r, rfl, hp⟩ := hv; (repeat' (first | with_reducible (first | refine thenQ_n ?_ | refine thenQ_e ?_ | refine thenQ_r ?_ | refine ow_nil ?_) | (first | refine wY ?_ | refine wA ?_ | refine wS ?_ | refine wL (fun bk => ?_) | refine wB (fun bk => ?_) | refine wX (fun bk => ?_) | refine wB0 (fun bk => ?_) | refine wB1 (fun bk => ?_) | refine wB1o (fun bk => ?_) | refine wB2o (fun bk => ?_) | refine wG ?_ | (refine wGd (fun hb => ?_) (fun hb => ?_) <;> try (exfalso; omega)) | (refine wGe (fun hb => ?_) (fun hb => ?_) <;> try (exfalso; omega)) | (refine wGn (fun hb => ?_) (fun hb => ?_) <;> try (exfalso; omega))) | with_reducible (first | refine cw_then ?_ | refine cw_region ?_ | refine wCt ?_ | refine wCf ?_) | (((with_reducible refine wCd (fun hb => ?_) (fun hb => ?_)) <;> try subst hb) <;> try (exfalso; omega)) | (((with_reducible refine wCe (fun hb => ?_) (fun hb => ?_)) <;> try subst hb) <;> try (exfalso; omega)) | ((with_reducible refine wCn (fun hb => ?_) (fun hb => ?_)) <;> try (exfalso; omega)) | ((with_reducible refine wCo (fun hb => ?_) (fun hb => ?_))) | ((with_reducible refine wCi (fun hb => ?_) (fun hb => ?_))) | with_reducible (first | refine cw_block ?_ | refine cw_skip ?_ | refine cw_exit ?_ | refine cw_ret ?_ | refine cw_label ?_ | refine cw_scope ?_ | refine inB_same ?_ | refine inB_n ?_ | refine inB_r ?_ | refine wIo ?_ | refine noG_n ?_ | refine noG_r ?_ | refine noG_e ?_))); exact ret1 (v := .bool r) rfl rfl (sub_mk ⟨r, rfl, hp.mono (by omega)⟩))

end Go.Proofs.Ytnijpdehchdinaa
