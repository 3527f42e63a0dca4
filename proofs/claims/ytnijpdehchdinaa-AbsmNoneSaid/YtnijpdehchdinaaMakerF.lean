/-
  The maker in memory: a piece of a code, kind by kind.
-/
import Derived.Test.YtnijpdehchdinaaMakerD
set_option linter.unusedVariables false
set_option linter.unusedSimpArgs false
namespace Go.Proofs.Ytnijpdehchdinaa
open Go Go.Proofs Go.Hl
variable {h0 : Array Obj}

set_option maxHeartbeats 4000000 in
set_option maxRecDepth 4000 in
theorem piece_14 {kb : Nat} {P : Pm.Prog} {A : List Pm.Func} {x : Pm.Func} {B : List Pm.Func} (F : KFix P A x B) {c : List Pm.Instr} {depth : List Int} {at_ : Int} {L : List Blk} (h : KRep h0 kb A { x with code := c } B depth at_ L) (G : Pm.Going P x c depth at_) (n : Nat) (hn : c.length ≤ n) (hn2 : n ≤ 800) (b : Int) (hb0 : 0 ≤ b ∧ b ≤ 255) :
    Ct Try.prog h0 59 [.pointer (some ⟨kb, 0, none⟩), .int .i64 14, .int .i64 b] L fun v L' => ∃ r, v = .bool r ∧ KPost h0 kb P A x B (n + 6) L' := by
  have hh := h
  obtain ⟨na, nm, nc, ns, pb, pm, pc, cA, cB, junk, BA, BB, CB, DB, ca, cm, cc, da, dm, dc, hns, hnz, hA, hB, hC, hD, hm, hmc, hpc, rfl⟩ := h.ex
  have hlA : LenIs cA (A.length * 4) := ⟨hA.len⟩
  have hdl := hD.len
  rw [length_ints] at hdl
  have hgl := G.len
  have hlo := G.lo
  have hhi := G.hi
  have hpl := F.plen
  have hxp := F.xp
  have hxl := F.loc
  have hxr := F.refs
  have hFl := F.len
  have hgm : (b % (pm : Int)).toNat < pm := by have := Int.emod_lt_of_pos b (show (0 : Int) < pm by omega); omega
  have hg0 := Int.emod_nonneg b (show (pm : Int) ≠ 0 by omega)
  have hg1 := Int.emod_lt_of_pos b (show (0 : Int) < pm by omega)
  obtain ⟨gf, hgf⟩ : ∃ f, (A ++ { x with code := c } :: B)[(b % (pm : Int)).toNat]? = some f := ⟨_, List.getElem?_eq_getElem (by simp; omega)⟩
  have hatg : At (cA ++ (.int .i64 x.params :: .int .i64 x.locals :: .int .i64 x.refs :: .slice ca cm cc :: (cB ++ junk))) (0 + (b % (pm : Int)).toNat * 4) (.int .i64 gf.params) := by
    have := (hA.app (.cons (f := { x with code := c }) hB hC)).row _ _ hgf
    refine ⟨?_⟩
    have e : cA ++ (.int .i64 x.params :: .int .i64 x.locals :: .int .i64 x.refs :: .slice ca cm cc :: (cB ++ junk)) = (cA ++ (.int .i64 x.params :: .int .i64 x.locals :: .int .i64 x.refs :: .slice ca cm cc :: cB)) ++ junk := by simp
    rw [e, Nat.zero_add, List.getElem?_append_left (List.getElem?_eq_some_iff.1 this).1]
    exact this
  have hgp : Pm.params P (b % (pm : Int)) = gf.params ∧ 0 ≤ gf.params ∧ gf.params ≤ 3 := by
    have hb2 : 0 ≤ gf.params ∧ gf.params ≤ 3 := by
      have hm := List.mem_of_getElem? hgf
      rcases List.mem_append.1 hm with hm | hm
      · exact F.small _ (List.mem_append_left _ hm)
      · rcases List.mem_cons.1 hm with rfl | hm
        · exact F.xp
        · exact F.small _ (List.mem_append_right _ (List.mem_cons_of_mem _ hm))
    refine ⟨?_, hb2⟩
    rw [← F.sh c, Pm.shape_params]
    unfold Pm.params Pm.fn
    rw [if_pos (by simp; omega), List.getD_eq_getElem?_getD, hgf]
    simp; omega
  obtain ⟨hgp, hgp0, hgp3⟩ := hgp
  obtain ⟨gn, hgn⟩ : ∃ gn : Nat, gf.params = gn := ⟨gf.params.toNat, by omega⟩
  rw [hgn] at hatg hgp hgp0 hgp3
  clear hgn
  have hpc17 : Pm.pops P ⟨17, b % (pm : Int), 0⟩ = (gn : Int) := by unfold Pm.pops; rw [if_pos (by simp)]; exact hgp
  have hpc19 : Pm.pops P ⟨19, b % (pm : Int), 0⟩ = (gn : Int) := by unfold Pm.pops; rw [if_pos (by simp)]; exact hgp
  unfold kCells at hh ⊢
  dsimp only at hh ⊢
  refine fn_of Try.func59 rfl rfl ?_
  repeat' (first | refine wRm ?_ | refine wQu ?_ | (first | with_reducible (first | refine thenQ_n ?_ | refine thenQ_e ?_ | refine thenQ_r ?_ | refine ow_nil ?_) | (first | refine wY ?_ | refine wA ?_ | refine wS ?_ | refine wL (fun bk => ?_) | refine wB (fun bk => ?_) | refine wX (fun bk => ?_) | refine wB0 (fun bk => ?_) | refine wB1 (fun bk => ?_) | refine wB1o (fun bk => ?_) | refine wB2o (fun bk => ?_) | refine wG ?_ | (refine wGd (fun hb => ?_) (fun hb => ?_) <;> try (exfalso; omega)) | (refine wGe (fun hb => ?_) (fun hb => ?_) <;> try (exfalso; omega)) | (refine wGn (fun hb => ?_) (fun hb => ?_) <;> try (exfalso; omega))) | with_reducible (first | refine cw_then ?_ | refine cw_region ?_ | refine wCt ?_ | refine wCf ?_) | (((with_reducible refine wCd (fun hb => ?_) (fun hb => ?_)) <;> try subst hb) <;> try (exfalso; omega)) | (((with_reducible refine wCe (fun hb => ?_) (fun hb => ?_)) <;> try subst hb) <;> try (exfalso; omega)) | ((with_reducible refine wCn (fun hb => ?_) (fun hb => ?_)) <;> try (exfalso; omega)) | ((with_reducible refine wCo (fun hb => ?_) (fun hb => ?_))) | ((with_reducible refine wCi (fun hb => ?_) (fun hb => ?_))) | with_reducible (first | refine cw_block ?_ | refine cw_skip ?_ | refine cw_exit ?_ | refine cw_ret ?_ | refine cw_label ?_ | refine cw_scope ?_ | refine inB_same ?_ | refine inB_n ?_ | refine inB_r ?_ | refine wIo ?_ | refine noG_n ?_ | refine noG_r ?_ | refine noG_e ?_)))
  · have hat1 : 0 < at_ := by omega
    have hdne : 0 < depth.length := by
      rcases Nat.eq_zero_or_pos depth.length with h0 | h0
      · have := G.zero
        rw [List.eq_nil_of_length_eq_zero h0] at this
        simp at this; omega
      · exact h0
    rcases hD.inv with ⟨_, _, _, h4, _⟩ | ⟨db, djunk, rfl, hdl2, hdj, hdmc, hd63, rfl⟩
    · exfalso
      have e := congrArg List.length h4
      rw [length_ints] at e
      simp at e; omega
    refine ow_call_all (mkHere_fn hh) rfl (fun v L' hv => ?_)
    obtain ⟨rfl, rfl⟩ := hv
    repeat' (first | refine wRm ?_ | refine wQu ?_ | (first | with_reducible (first | refine thenQ_n ?_ | refine thenQ_e ?_ | refine thenQ_r ?_ | refine ow_nil ?_) | (first | refine wY ?_ | refine wA ?_ | refine wS ?_ | refine wL (fun bk => ?_) | refine wB (fun bk => ?_) | refine wX (fun bk => ?_) | refine wB0 (fun bk => ?_) | refine wB1 (fun bk => ?_) | refine wB1o (fun bk => ?_) | refine wB2o (fun bk => ?_) | refine wG ?_ | (refine wGd (fun hb => ?_) (fun hb => ?_) <;> try (exfalso; omega)) | (refine wGe (fun hb => ?_) (fun hb => ?_) <;> try (exfalso; omega)) | (refine wGn (fun hb => ?_) (fun hb => ?_) <;> try (exfalso; omega))) | with_reducible (first | refine cw_then ?_ | refine cw_region ?_ | refine wCt ?_ | refine wCf ?_) | (((with_reducible refine wCd (fun hb => ?_) (fun hb => ?_)) <;> try subst hb) <;> try (exfalso; omega)) | (((with_reducible refine wCe (fun hb => ?_) (fun hb => ?_)) <;> try subst hb) <;> try (exfalso; omega)) | ((with_reducible refine wCn (fun hb => ?_) (fun hb => ?_)) <;> try (exfalso; omega)) | ((with_reducible refine wCo (fun hb => ?_) (fun hb => ?_))) | ((with_reducible refine wCi (fun hb => ?_) (fun hb => ?_))) | with_reducible (first | refine cw_block ?_ | refine cw_skip ?_ | refine cw_exit ?_ | refine cw_ret ?_ | refine cw_label ?_ | refine cw_scope ?_ | refine inB_same ?_ | refine inB_n ?_ | refine inB_r ?_ | refine wIo ?_ | refine noG_n ?_ | refine noG_r ?_ | refine noG_e ?_)))
    refine cw_loop' (fun k T L' => ∃ j : Int, k = (j + 1).toNat ∧ -8 ≤ j ∧ j < depth.length ∧ Sl T [(0, .pointer (some ⟨kb, 0, none⟩)), (9, .int .i64 j)] ∧ L' = (kb, [.slice na nm nc, .slice (some ⟨pb, 0, none⟩) pm pc, .int .i64 A.length, .slice (some ⟨db, 0, none⟩) dm dc, .int .i64 at_], 88) :: (pb, cA ++ (.int .i64 x.params :: .int .i64 x.locals :: .int .i64 x.refs :: .slice ca cm cc :: (cB ++ junk)), 26) :: (CB ++ ([(db, ints .i64 depth ++ djunk, 3)] ++ (BA ++ BB)))) _ ⟨_, rfl, by omega, by omega, ⟨rfl, rfl, trivial⟩, rfl⟩ ?_
    rintro k T L' ⟨j, rfl, hj0, hj1, hT, rfl⟩
    obtain ⟨T0, rfl⟩ := sl_ov hT
    clear hT
    by_cases hlt : 0 ≤ j
    · obtain ⟨e, he⟩ : ∃ e, depth[j.toNat]? = some e := ⟨_, List.getElem?_eq_getElem (by omega)⟩
      have hate : At (ints .i64 depth ++ djunk) (0 + j.toNat * 1) (.int .i64 e) := ⟨by rw [List.getElem?_append_left (by rw [length_ints]; omega), Nat.zero_add, Nat.mul_one]; simp [ints, he]⟩
      repeat' (first | refine wRm ?_ | refine wQu ?_ | (first | with_reducible (first | refine thenQ_n ?_ | refine thenQ_e ?_ | refine thenQ_r ?_ | refine ow_nil ?_) | (first | refine wY ?_ | refine wA ?_ | refine wS ?_ | refine wL (fun bk => ?_) | refine wB (fun bk => ?_) | refine wX (fun bk => ?_) | refine wB0 (fun bk => ?_) | refine wB1 (fun bk => ?_) | refine wB1o (fun bk => ?_) | refine wB2o (fun bk => ?_) | refine wG ?_ | (refine wGd (fun hb => ?_) (fun hb => ?_) <;> try (exfalso; omega)) | (refine wGe (fun hb => ?_) (fun hb => ?_) <;> try (exfalso; omega)) | (refine wGn (fun hb => ?_) (fun hb => ?_) <;> try (exfalso; omega))) | with_reducible (first | refine cw_then ?_ | refine cw_region ?_ | refine wCt ?_ | refine wCf ?_) | (((with_reducible refine wCd (fun hb => ?_) (fun hb => ?_)) <;> try subst hb) <;> try (exfalso; omega)) | (((with_reducible refine wCe (fun hb => ?_) (fun hb => ?_)) <;> try subst hb) <;> try (exfalso; omega)) | ((with_reducible refine wCn (fun hb => ?_) (fun hb => ?_)) <;> try (exfalso; omega)) | ((with_reducible refine wCo (fun hb => ?_) (fun hb => ?_))) | ((with_reducible refine wCi (fun hb => ?_) (fun hb => ?_))) | with_reducible (first | refine cw_block ?_ | refine cw_skip ?_ | refine cw_exit ?_ | refine cw_ret ?_ | refine cw_label ?_ | refine cw_scope ?_ | refine inB_same ?_ | refine inB_n ?_ | refine inB_r ?_ | refine wIo ?_ | refine noG_n ?_ | refine noG_r ?_ | refine noG_e ?_)))
      refine cw_drawn 13 rfl rfl ?_
      repeat (first | refine wN ?_ | refine wK ?_)
      refine wZ ?_
      repeat' (first | refine wRm ?_ | refine wQu ?_ | (first | with_reducible (first | refine thenQ_n ?_ | refine thenQ_e ?_ | refine thenQ_r ?_ | refine ow_nil ?_) | (first | refine wY ?_ | refine wA ?_ | refine wS ?_ | refine wL (fun bk => ?_) | refine wB (fun bk => ?_) | refine wX (fun bk => ?_) | refine wB0 (fun bk => ?_) | refine wB1 (fun bk => ?_) | refine wB1o (fun bk => ?_) | refine wB2o (fun bk => ?_) | refine wG ?_ | (refine wGd (fun hb => ?_) (fun hb => ?_) <;> try (exfalso; omega)) | (refine wGe (fun hb => ?_) (fun hb => ?_) <;> try (exfalso; omega)) | (refine wGn (fun hb => ?_) (fun hb => ?_) <;> try (exfalso; omega))) | with_reducible (first | refine cw_then ?_ | refine cw_region ?_ | refine wCt ?_ | refine wCf ?_) | (((with_reducible refine wCd (fun hb => ?_) (fun hb => ?_)) <;> try subst hb) <;> try (exfalso; omega)) | (((with_reducible refine wCe (fun hb => ?_) (fun hb => ?_)) <;> try subst hb) <;> try (exfalso; omega)) | ((with_reducible refine wCn (fun hb => ?_) (fun hb => ?_)) <;> try (exfalso; omega)) | ((with_reducible refine wCo (fun hb => ?_) (fun hb => ?_))) | ((with_reducible refine wCi (fun hb => ?_) (fun hb => ?_))) | with_reducible (first | refine cw_block ?_ | refine cw_skip ?_ | refine cw_exit ?_ | refine cw_ret ?_ | refine cw_label ?_ | refine cw_scope ?_ | refine inB_same ?_ | refine inB_n ?_ | refine inB_r ?_ | refine wIo ?_ | refine noG_n ?_ | refine noG_r ?_ | refine noG_e ?_)))
      · refine ow_call_all (mkAdd_fn F hh G.len (by omega) ⟨hlo, hhi⟩ 16 j 0) rfl (fun v L' hv => ?_)
        obtain ⟨rfl, hk⟩ := hv
        have hg := G.back j.toNat (by rw [he]) (by omega)
        rw [show ((j.toNat : Nat) : Int) = j by omega] at hg
        rw [show Pm.behind P at_ ⟨16, j, 0⟩ = at_ - 1 by simp [Pm.behind, Pm.pops, Pm.pushes]] at hk
        repeat' (first | with_reducible (first | refine thenQ_n ?_ | refine thenQ_e ?_ | refine thenQ_r ?_ | refine ow_nil ?_) | (first | refine wY ?_ | refine wA ?_ | refine wS ?_ | refine wL (fun bk => ?_) | refine wB (fun bk => ?_) | refine wX (fun bk => ?_) | refine wB0 (fun bk => ?_) | refine wB1 (fun bk => ?_) | refine wB1o (fun bk => ?_) | refine wB2o (fun bk => ?_) | refine wG ?_ | (refine wGd (fun hb => ?_) (fun hb => ?_) <;> try (exfalso; omega)) | (refine wGe (fun hb => ?_) (fun hb => ?_) <;> try (exfalso; omega)) | (refine wGn (fun hb => ?_) (fun hb => ?_) <;> try (exfalso; omega))) | with_reducible (first | refine cw_then ?_ | refine cw_region ?_ | refine wCt ?_ | refine wCf ?_) | (((with_reducible refine wCd (fun hb => ?_) (fun hb => ?_)) <;> try subst hb) <;> try (exfalso; omega)) | (((with_reducible refine wCe (fun hb => ?_) (fun hb => ?_)) <;> try subst hb) <;> try (exfalso; omega)) | ((with_reducible refine wCn (fun hb => ?_) (fun hb => ?_)) <;> try (exfalso; omega)) | ((with_reducible refine wCo (fun hb => ?_) (fun hb => ?_))) | ((with_reducible refine wCi (fun hb => ?_) (fun hb => ?_))) | with_reducible (first | refine cw_block ?_ | refine cw_skip ?_ | refine cw_exit ?_ | refine cw_ret ?_ | refine cw_label ?_ | refine cw_scope ?_ | refine inB_same ?_ | refine inB_n ?_ | refine inB_r ?_ | refine wIo ?_ | refine noG_n ?_ | refine noG_r ?_ | refine noG_e ?_))
        exact ret1 (v := .bool true) rfl rfl (sub_mk ⟨true, rfl, _, _, _, hk, hg, by simp; omega⟩)
      · exact ⟨(j - 1 + 1).toNat, by omega, j - 1, rfl, by omega, by omega, ⟨rfl, rfl, trivial⟩, rfl⟩
    · repeat' (first | refine wRm ?_ | refine wQu ?_ | (first | with_reducible (first | refine thenQ_n ?_ | refine thenQ_e ?_ | refine thenQ_r ?_ | refine ow_nil ?_) | (first | refine wY ?_ | refine wA ?_ | refine wS ?_ | refine wL (fun bk => ?_) | refine wB (fun bk => ?_) | refine wX (fun bk => ?_) | refine wB0 (fun bk => ?_) | refine wB1 (fun bk => ?_) | refine wB1o (fun bk => ?_) | refine wB2o (fun bk => ?_) | refine wG ?_ | (refine wGd (fun hb => ?_) (fun hb => ?_) <;> try (exfalso; omega)) | (refine wGe (fun hb => ?_) (fun hb => ?_) <;> try (exfalso; omega)) | (refine wGn (fun hb => ?_) (fun hb => ?_) <;> try (exfalso; omega))) | with_reducible (first | refine cw_then ?_ | refine cw_region ?_ | refine wCt ?_ | refine wCf ?_) | (((with_reducible refine wCd (fun hb => ?_) (fun hb => ?_)) <;> try subst hb) <;> try (exfalso; omega)) | (((with_reducible refine wCe (fun hb => ?_) (fun hb => ?_)) <;> try subst hb) <;> try (exfalso; omega)) | ((with_reducible refine wCn (fun hb => ?_) (fun hb => ?_)) <;> try (exfalso; omega)) | ((with_reducible refine wCo (fun hb => ?_) (fun hb => ?_))) | ((with_reducible refine wCi (fun hb => ?_) (fun hb => ?_))) | with_reducible (first | refine cw_block ?_ | refine cw_skip ?_ | refine cw_exit ?_ | refine cw_ret ?_ | refine cw_label ?_ | refine cw_scope ?_ | refine inB_same ?_ | refine inB_n ?_ | refine inB_r ?_ | refine wIo ?_ | refine noG_n ?_ | refine noG_r ?_ | refine noG_e ?_)))
      exact ret1 (v := .bool false) rfl rfl (sub_mk ⟨false, rfl, c, depth, at_, hh, G, by omega⟩)
  all_goals try (refine cw_drawn 32 rfl rfl ?_; (repeat (first | refine wN ?_ | refine wK ?_)); (refine hw_case 166 rfl (fun hb => ?_) (fun hb => ?_) <;> (first | exact absurd hb (by decide) | (exfalso; simp at hb; omega) | skip) <;> (repeat (first | refine wN ?_ | refine wK ?_))); all_goals (refine hw_case 170 rfl (fun hb => ?_) (fun hb => ?_) <;> (first | exact absurd hb (by decide) | (exfalso; simp at hb; omega) | skip) <;> (repeat (first | refine wN ?_ | refine wK ?_))); all_goals (refine hw_case 180 rfl (fun hb => ?_) (fun hb => ?_) <;> (first | exact absurd hb (by decide) | (exfalso; simp at hb; omega) | skip) <;> (repeat (first | refine wN ?_ | refine wK ?_))); all_goals (refine wZ ?_; (repeat' (first | refine wRm ?_ | refine wQu ?_ | (first | with_reducible (first | refine thenQ_n ?_ | refine thenQ_e ?_ | refine thenQ_r ?_ | refine ow_nil ?_) | (first | refine wY ?_ | refine wA ?_ | refine wS ?_ | refine wL (fun bk => ?_) | refine wB (fun bk => ?_) | refine wX (fun bk => ?_) | refine wB0 (fun bk => ?_) | refine wB1 (fun bk => ?_) | refine wB1o (fun bk => ?_) | refine wB2o (fun bk => ?_) | refine wG ?_ | (refine wGd (fun hb => ?_) (fun hb => ?_) <;> try (exfalso; omega)) | (refine wGe (fun hb => ?_) (fun hb => ?_) <;> try (exfalso; omega)) | (refine wGn (fun hb => ?_) (fun hb => ?_) <;> try (exfalso; omega))) | with_reducible (first | refine cw_then ?_ | refine cw_region ?_ | refine wCt ?_ | refine wCf ?_) | (((with_reducible refine wCd (fun hb => ?_) (fun hb => ?_)) <;> try subst hb) <;> try (exfalso; omega)) | (((with_reducible refine wCe (fun hb => ?_) (fun hb => ?_)) <;> try subst hb) <;> try (exfalso; omega)) | ((with_reducible refine wCn (fun hb => ?_) (fun hb => ?_)) <;> try (exfalso; omega)) | ((with_reducible refine wCo (fun hb => ?_) (fun hb => ?_))) | ((with_reducible refine wCi (fun hb => ?_) (fun hb => ?_))) | with_reducible (first | refine cw_block ?_ | refine cw_skip ?_ | refine cw_exit ?_ | refine cw_ret ?_ | refine cw_label ?_ | refine cw_scope ?_ | refine inB_same ?_ | refine inB_n ?_ | refine inB_r ?_ | refine wIo ?_ | refine noG_n ?_ | refine noG_r ?_ | refine noG_e ?_))))))
  all_goals first
    | (refine ow_call_all (plain_fn F hh G n hn (by omega) _ b hb0) rfl (fun v L' hv => ?_); obtain ⟨r, rfl, hp⟩ := hv; (repeat' (first | with_reducible (first | refine thenQ_n ?_ | refine thenQ_e ?_ | refine thenQ_r ?_ | refine ow_nil ?_) | (first | refine wY ?_ | refine wA ?_ | refine wS ?_ | refine wL (fun bk => ?_) | refine wB (fun bk => ?_) | refine wX (fun bk => ?_) | refine wB0 (fun bk => ?_) | refine wB1 (fun bk => ?_) | refine wB1o (fun bk => ?_) | refine wB2o (fun bk => ?_) | refine wG ?_ | (refine wGd (fun hb => ?_) (fun hb => ?_) <;> try (exfalso; omega)) | (refine wGe (fun hb => ?_) (fun hb => ?_) <;> try (exfalso; omega)) | (refine wGn (fun hb => ?_) (fun hb => ?_) <;> try (exfalso; omega))) | with_reducible (first | refine cw_then ?_ | refine cw_region ?_ | refine wCt ?_ | refine wCf ?_) | (((with_reducible refine wCd (fun hb => ?_) (fun hb => ?_)) <;> try subst hb) <;> try (exfalso; omega)) | (((with_reducible refine wCe (fun hb => ?_) (fun hb => ?_)) <;> try subst hb) <;> try (exfalso; omega)) | ((with_reducible refine wCn (fun hb => ?_) (fun hb => ?_)) <;> try (exfalso; omega)) | ((with_reducible refine wCo (fun hb => ?_) (fun hb => ?_))) | ((with_reducible refine wCi (fun hb => ?_) (fun hb => ?_))) | with_reducible (first | refine cw_block ?_ | refine cw_skip ?_ | refine cw_exit ?_ | refine cw_ret ?_ | refine cw_label ?_ | refine cw_scope ?_ | refine inB_same ?_ | refine inB_n ?_ | refine inB_r ?_ | refine wIo ?_ | refine noG_n ?_ | refine noG_r ?_ | refine noG_e ?_))); exact ret1 (v := .bool r) rfl rfl (sub_mk ⟨r, rfl, hp.mono (by omega)⟩))

set_option maxHeartbeats 4000000 in
set_option maxRecDepth 4000 in
theorem piece_15 {kb : Nat} {P : Pm.Prog} {A : List Pm.Func} {x : Pm.Func} {B : List Pm.Func} (F : KFix P A x B) {c : List Pm.Instr} {depth : List Int} {at_ : Int} {L : List Blk} (h : KRep h0 kb A { x with code := c } B depth at_ L) (G : Pm.Going P x c depth at_) (n : Nat) (hn : c.length ≤ n) (hn2 : n ≤ 800) (b : Int) (hb0 : 0 ≤ b ∧ b ≤ 255) :
    Ct Try.prog h0 59 [.pointer (some ⟨kb, 0, none⟩), .int .i64 15, .int .i64 b] L fun v L' => ∃ r, v = .bool r ∧ KPost h0 kb P A x B (n + 6) L' := by
  have hh := h
  obtain ⟨na, nm, nc, ns, pb, pm, pc, cA, cB, junk, BA, BB, CB, DB, ca, cm, cc, da, dm, dc, hns, hnz, hA, hB, hC, hD, hm, hmc, hpc, rfl⟩ := h.ex
  have hlA : LenIs cA (A.length * 4) := ⟨hA.len⟩
  have hdl := hD.len
  rw [length_ints] at hdl
  have hgl := G.len
  have hlo := G.lo
  have hhi := G.hi
  have hpl := F.plen
  have hxp := F.xp
  have hxl := F.loc
  have hxr := F.refs
  have hFl := F.len
  have hgm : (b % (pm : Int)).toNat < pm := by have := Int.emod_lt_of_pos b (show (0 : Int) < pm by omega); omega
  have hg0 := Int.emod_nonneg b (show (pm : Int) ≠ 0 by omega)
  have hg1 := Int.emod_lt_of_pos b (show (0 : Int) < pm by omega)
  obtain ⟨gf, hgf⟩ : ∃ f, (A ++ { x with code := c } :: B)[(b % (pm : Int)).toNat]? = some f := ⟨_, List.getElem?_eq_getElem (by simp; omega)⟩
  have hatg : At (cA ++ (.int .i64 x.params :: .int .i64 x.locals :: .int .i64 x.refs :: .slice ca cm cc :: (cB ++ junk))) (0 + (b % (pm : Int)).toNat * 4) (.int .i64 gf.params) := by
    have := (hA.app (.cons (f := { x with code := c }) hB hC)).row _ _ hgf
    refine ⟨?_⟩
    have e : cA ++ (.int .i64 x.params :: .int .i64 x.locals :: .int .i64 x.refs :: .slice ca cm cc :: (cB ++ junk)) = (cA ++ (.int .i64 x.params :: .int .i64 x.locals :: .int .i64 x.refs :: .slice ca cm cc :: cB)) ++ junk := by simp
    rw [e, Nat.zero_add, List.getElem?_append_left (List.getElem?_eq_some_iff.1 this).1]
    exact this
  have hgp : Pm.params P (b % (pm : Int)) = gf.params ∧ 0 ≤ gf.params ∧ gf.params ≤ 3 := by
    have hb2 : 0 ≤ gf.params ∧ gf.params ≤ 3 := by
      have hm := List.mem_of_getElem? hgf
      rcases List.mem_append.1 hm with hm | hm
      · exact F.small _ (List.mem_append_left _ hm)
      · rcases List.mem_cons.1 hm with rfl | hm
        · exact F.xp
        · exact F.small _ (List.mem_append_right _ (List.mem_cons_of_mem _ hm))
    refine ⟨?_, hb2⟩
    rw [← F.sh c, Pm.shape_params]
    unfold Pm.params Pm.fn
    rw [if_pos (by simp; omega), List.getD_eq_getElem?_getD, hgf]
    simp; omega
  obtain ⟨hgp, hgp0, hgp3⟩ := hgp
  obtain ⟨gn, hgn⟩ : ∃ gn : Nat, gf.params = gn := ⟨gf.params.toNat, by omega⟩
  rw [hgn] at hatg hgp hgp0 hgp3
  clear hgn
  have hpc17 : Pm.pops P ⟨17, b % (pm : Int), 0⟩ = (gn : Int) := by unfold Pm.pops; rw [if_pos (by simp)]; exact hgp
  have hpc19 : Pm.pops P ⟨19, b % (pm : Int), 0⟩ = (gn : Int) := by unfold Pm.pops; rw [if_pos (by simp)]; exact hgp
  unfold kCells at hh ⊢
  dsimp only at hh ⊢
  refine fn_of Try.func59 rfl rfl ?_
  repeat' (first | refine wRm ?_ | refine wQu ?_ | (first | with_reducible (first | refine thenQ_n ?_ | refine thenQ_e ?_ | refine thenQ_r ?_ | refine ow_nil ?_) | (first | refine wY ?_ | refine wA ?_ | refine wS ?_ | refine wL (fun bk => ?_) | refine wB (fun bk => ?_) | refine wX (fun bk => ?_) | refine wB0 (fun bk => ?_) | refine wB1 (fun bk => ?_) | refine wB1o (fun bk => ?_) | refine wB2o (fun bk => ?_) | refine wG ?_ | (refine wGd (fun hb => ?_) (fun hb => ?_) <;> try (exfalso; omega)) | (refine wGe (fun hb => ?_) (fun hb => ?_) <;> try (exfalso; omega)) | (refine wGn (fun hb => ?_) (fun hb => ?_) <;> try (exfalso; omega))) | with_reducible (first | refine cw_then ?_ | refine cw_region ?_ | refine wCt ?_ | refine wCf ?_) | (((with_reducible refine wCd (fun hb => ?_) (fun hb => ?_)) <;> try subst hb) <;> try (exfalso; omega)) | (((with_reducible refine wCe (fun hb => ?_) (fun hb => ?_)) <;> try subst hb) <;> try (exfalso; omega)) | ((with_reducible refine wCn (fun hb => ?_) (fun hb => ?_)) <;> try (exfalso; omega)) | ((with_reducible refine wCo (fun hb => ?_) (fun hb => ?_))) | ((with_reducible refine wCi (fun hb => ?_) (fun hb => ?_))) | with_reducible (first | refine cw_block ?_ | refine cw_skip ?_ | refine cw_exit ?_ | refine cw_ret ?_ | refine cw_label ?_ | refine cw_scope ?_ | refine inB_same ?_ | refine inB_n ?_ | refine inB_r ?_ | refine wIo ?_ | refine noG_n ?_ | refine noG_r ?_ | refine noG_e ?_)))
  · obtain ⟨o2, ho2, hat2⟩ : ∃ o2 : Int, (o2 = 18 ∨ o2 = 20) ∧ At ([.int .i64 20, .int .i64 18] : List Value) (0 + ((15 : Int) - 15).toNat * 1) (.int .i64 o2) := by
      exact ⟨20, by omega, ⟨rfl⟩⟩
    refine ow_call_all (mkAdd_fn F hh G.len (by omega) ⟨hlo, hhi⟩ 1 (b % 3) 0) rfl (fun v L' hv => ?_)
    obtain ⟨rfl, hk1⟩ := hv
    rw [show Pm.behind P at_ ⟨1, b % 3, 0⟩ = at_ + 1 by simp [Pm.behind, Pm.pops, Pm.pushes]] at hk1
    repeat' (first | refine wRm ?_ | refine wQu ?_ | (first | with_reducible (first | refine thenQ_n ?_ | refine thenQ_e ?_ | refine thenQ_r ?_ | refine ow_nil ?_) | (first | refine wY ?_ | refine wA ?_ | refine wS ?_ | refine wL (fun bk => ?_) | refine wB (fun bk => ?_) | refine wX (fun bk => ?_) | refine wB0 (fun bk => ?_) | refine wB1 (fun bk => ?_) | refine wB1o (fun bk => ?_) | refine wB2o (fun bk => ?_) | refine wG ?_ | (refine wGd (fun hb => ?_) (fun hb => ?_) <;> try (exfalso; omega)) | (refine wGe (fun hb => ?_) (fun hb => ?_) <;> try (exfalso; omega)) | (refine wGn (fun hb => ?_) (fun hb => ?_) <;> try (exfalso; omega))) | with_reducible (first | refine cw_then ?_ | refine cw_region ?_ | refine wCt ?_ | refine wCf ?_) | (((with_reducible refine wCd (fun hb => ?_) (fun hb => ?_)) <;> try subst hb) <;> try (exfalso; omega)) | (((with_reducible refine wCe (fun hb => ?_) (fun hb => ?_)) <;> try subst hb) <;> try (exfalso; omega)) | ((with_reducible refine wCn (fun hb => ?_) (fun hb => ?_)) <;> try (exfalso; omega)) | ((with_reducible refine wCo (fun hb => ?_) (fun hb => ?_))) | ((with_reducible refine wCi (fun hb => ?_) (fun hb => ?_))) | with_reducible (first | refine cw_block ?_ | refine cw_skip ?_ | refine cw_exit ?_ | refine cw_ret ?_ | refine cw_label ?_ | refine cw_scope ?_ | refine inB_same ?_ | refine inB_n ?_ | refine inB_r ?_ | refine wIo ?_ | refine noG_n ?_ | refine noG_r ?_ | refine noG_e ?_)))
    refine ow_call_all (mkHere_fn hk1) rfl (fun v L' hv => ?_)
    obtain ⟨rfl, rfl⟩ := hv
    have hl1 : ((depth ++ [at_]).length : Int) = c.length + 1 := by simp; omega
    rw [hl1]
    repeat' (first | refine wRm ?_ | refine wQu ?_ | (first | with_reducible (first | refine thenQ_n ?_ | refine thenQ_e ?_ | refine thenQ_r ?_ | refine ow_nil ?_) | (first | refine wY ?_ | refine wA ?_ | refine wS ?_ | refine wL (fun bk => ?_) | refine wB (fun bk => ?_) | refine wX (fun bk => ?_) | refine wB0 (fun bk => ?_) | refine wB1 (fun bk => ?_) | refine wB1o (fun bk => ?_) | refine wB2o (fun bk => ?_) | refine wG ?_ | (refine wGd (fun hb => ?_) (fun hb => ?_) <;> try (exfalso; omega)) | (refine wGe (fun hb => ?_) (fun hb => ?_) <;> try (exfalso; omega)) | (refine wGn (fun hb => ?_) (fun hb => ?_) <;> try (exfalso; omega))) | with_reducible (first | refine cw_then ?_ | refine cw_region ?_ | refine wCt ?_ | refine wCf ?_) | (((with_reducible refine wCd (fun hb => ?_) (fun hb => ?_)) <;> try subst hb) <;> try (exfalso; omega)) | (((with_reducible refine wCe (fun hb => ?_) (fun hb => ?_)) <;> try subst hb) <;> try (exfalso; omega)) | ((with_reducible refine wCn (fun hb => ?_) (fun hb => ?_)) <;> try (exfalso; omega)) | ((with_reducible refine wCo (fun hb => ?_) (fun hb => ?_))) | ((with_reducible refine wCi (fun hb => ?_) (fun hb => ?_))) | with_reducible (first | refine cw_block ?_ | refine cw_skip ?_ | refine cw_exit ?_ | refine cw_ret ?_ | refine cw_label ?_ | refine cw_scope ?_ | refine inB_same ?_ | refine inB_n ?_ | refine inB_r ?_ | refine wIo ?_ | refine noG_n ?_ | refine noG_r ?_ | refine noG_e ?_)))
    refine ow_call_all (mkAdd_fn F hk1 (by simp; omega) (by simp; omega) ⟨by omega, by omega⟩ 16 ((c.length : Int) + 1 + 3) 0) rfl (fun v L' hv => ?_)
    obtain ⟨rfl, hk2⟩ := hv
    rw [show Pm.behind P (at_ + 1) ⟨16, (c.length : Int) + 1 + 3, 0⟩ = at_ by simp [Pm.behind, Pm.pops, Pm.pushes]] at hk2
    repeat' (first | refine wRm ?_ | refine wQu ?_ | (first | with_reducible (first | refine thenQ_n ?_ | refine thenQ_e ?_ | refine thenQ_r ?_ | refine ow_nil ?_) | (first | refine wY ?_ | refine wA ?_ | refine wS ?_ | refine wL (fun bk => ?_) | refine wB (fun bk => ?_) | refine wX (fun bk => ?_) | refine wB0 (fun bk => ?_) | refine wB1 (fun bk => ?_) | refine wB1o (fun bk => ?_) | refine wB2o (fun bk => ?_) | refine wG ?_ | (refine wGd (fun hb => ?_) (fun hb => ?_) <;> try (exfalso; omega)) | (refine wGe (fun hb => ?_) (fun hb => ?_) <;> try (exfalso; omega)) | (refine wGn (fun hb => ?_) (fun hb => ?_) <;> try (exfalso; omega))) | with_reducible (first | refine cw_then ?_ | refine cw_region ?_ | refine wCt ?_ | refine wCf ?_) | (((with_reducible refine wCd (fun hb => ?_) (fun hb => ?_)) <;> try subst hb) <;> try (exfalso; omega)) | (((with_reducible refine wCe (fun hb => ?_) (fun hb => ?_)) <;> try subst hb) <;> try (exfalso; omega)) | ((with_reducible refine wCn (fun hb => ?_) (fun hb => ?_)) <;> try (exfalso; omega)) | ((with_reducible refine wCo (fun hb => ?_) (fun hb => ?_))) | ((with_reducible refine wCi (fun hb => ?_) (fun hb => ?_))) | with_reducible (first | refine cw_block ?_ | refine cw_skip ?_ | refine cw_exit ?_ | refine cw_ret ?_ | refine cw_label ?_ | refine cw_scope ?_ | refine inB_same ?_ | refine inB_n ?_ | refine inB_r ?_ | refine wIo ?_ | refine noG_n ?_ | refine noG_r ?_ | refine noG_e ?_)))
    refine ow_call_all (mkAdd_fn F hk2 (by simp; omega) (by simp; omega) ⟨by omega, by omega⟩ 1 b 0) rfl (fun v L' hv => ?_)
    obtain ⟨rfl, hk3⟩ := hv
    rw [show Pm.behind P at_ ⟨1, b, 0⟩ = at_ + 1 by simp [Pm.behind, Pm.pops, Pm.pushes]] at hk3
    repeat' (first | refine wRm ?_ | refine wQu ?_ | (first | with_reducible (first | refine thenQ_n ?_ | refine thenQ_e ?_ | refine thenQ_r ?_ | refine ow_nil ?_) | (first | refine wY ?_ | refine wA ?_ | refine wS ?_ | refine wL (fun bk => ?_) | refine wB (fun bk => ?_) | refine wX (fun bk => ?_) | refine wB0 (fun bk => ?_) | refine wB1 (fun bk => ?_) | refine wB1o (fun bk => ?_) | refine wB2o (fun bk => ?_) | refine wG ?_ | (refine wGd (fun hb => ?_) (fun hb => ?_) <;> try (exfalso; omega)) | (refine wGe (fun hb => ?_) (fun hb => ?_) <;> try (exfalso; omega)) | (refine wGn (fun hb => ?_) (fun hb => ?_) <;> try (exfalso; omega))) | with_reducible (first | refine cw_then ?_ | refine cw_region ?_ | refine wCt ?_ | refine wCf ?_) | (((with_reducible refine wCd (fun hb => ?_) (fun hb => ?_)) <;> try subst hb) <;> try (exfalso; omega)) | (((with_reducible refine wCe (fun hb => ?_) (fun hb => ?_)) <;> try subst hb) <;> try (exfalso; omega)) | ((with_reducible refine wCn (fun hb => ?_) (fun hb => ?_)) <;> try (exfalso; omega)) | ((with_reducible refine wCo (fun hb => ?_) (fun hb => ?_))) | ((with_reducible refine wCi (fun hb => ?_) (fun hb => ?_))) | with_reducible (first | refine cw_block ?_ | refine cw_skip ?_ | refine cw_exit ?_ | refine cw_ret ?_ | refine cw_label ?_ | refine cw_scope ?_ | refine inB_same ?_ | refine inB_n ?_ | refine inB_r ?_ | refine wIo ?_ | refine noG_n ?_ | refine noG_r ?_ | refine noG_e ?_)))
    refine ow_call (mkAdd_fn F hk3 (by simp; omega) (by simp; omega) ⟨by omega, by omega⟩ o2 0 0) rfl (fun v L' hv => ?_)
    obtain ⟨rfl, hk4⟩ := hv
    have hp2 : Pm.pops P ⟨o2, 0, 0⟩ = 1 := by rcases ho2 with rfl | rfl <;> simp [Pm.pops]
    have hu2 : Pm.pushes ⟨o2, 0, 0⟩ = 0 := by rcases ho2 with rfl | rfl <;> simp [Pm.pushes]
    rw [show Pm.behind P (at_ + 1) ⟨o2, 0, 0⟩ = at_ by unfold Pm.behind; rw [hp2, hu2]; omega] at hk4
    have hg4 := G.leaves ⟨1, b % 3, 0⟩ (.inl ⟨rfl, by dsimp only; omega, by dsimp only; omega, rfl⟩) (by simp [Pm.pops]) (by simp [Pm.pushes]) ⟨by simp, by simp, by simp, by simp⟩ b o2 ⟨by omega, by omega⟩ ho2 (by omega)
    rw [show (c.length : Int) + 1 + 3 = c.length + 4 by omega] at hk4
    simp only [List.append_assoc, List.cons_append, List.nil_append] at hk4
    repeat' (first | with_reducible (first | refine thenQ_n ?_ | refine thenQ_e ?_ | refine thenQ_r ?_ | refine ow_nil ?_) | (first | refine wY ?_ | refine wA ?_ | refine wS ?_ | refine wL (fun bk => ?_) | refine wB (fun bk => ?_) | refine wX (fun bk => ?_) | refine wB0 (fun bk => ?_) | refine wB1 (fun bk => ?_) | refine wB1o (fun bk => ?_) | refine wB2o (fun bk => ?_) | refine wG ?_ | (refine wGd (fun hb => ?_) (fun hb => ?_) <;> try (exfalso; omega)) | (refine wGe (fun hb => ?_) (fun hb => ?_) <;> try (exfalso; omega)) | (refine wGn (fun hb => ?_) (fun hb => ?_) <;> try (exfalso; omega))) | with_reducible (first | refine cw_then ?_ | refine cw_region ?_ | refine wCt ?_ | refine wCf ?_) | (((with_reducible refine wCd (fun hb => ?_) (fun hb => ?_)) <;> try subst hb) <;> try (exfalso; omega)) | (((with_reducible refine wCe (fun hb => ?_) (fun hb => ?_)) <;> try subst hb) <;> try (exfalso; omega)) | ((with_reducible refine wCn (fun hb => ?_) (fun hb => ?_)) <;> try (exfalso; omega)) | ((with_reducible refine wCo (fun hb => ?_) (fun hb => ?_))) | ((with_reducible refine wCi (fun hb => ?_) (fun hb => ?_))) | with_reducible (first | refine cw_block ?_ | refine cw_skip ?_ | refine cw_exit ?_ | refine cw_ret ?_ | refine cw_label ?_ | refine cw_scope ?_ | refine inB_same ?_ | refine inB_n ?_ | refine inB_r ?_ | refine wIo ?_ | refine noG_n ?_ | refine noG_r ?_ | refine noG_e ?_))
    exact ret1 (v := .bool true) rfl rfl (sub_mk ⟨true, rfl, _, _, _, hk4, hg4, by simp; omega⟩)
  all_goals try (refine cw_drawn 32 rfl rfl ?_; (repeat (first | refine wN ?_ | refine wK ?_)); (refine hw_case 166 rfl (fun hb => ?_) (fun hb => ?_) <;> (first | exact absurd hb (by decide) | (exfalso; simp at hb; omega) | skip) <;> (repeat (first | refine wN ?_ | refine wK ?_))); all_goals (refine hw_case 170 rfl (fun hb => ?_) (fun hb => ?_) <;> (first | exact absurd hb (by decide) | (exfalso; simp at hb; omega) | skip) <;> (repeat (first | refine wN ?_ | refine wK ?_))); all_goals (refine hw_case 180 rfl (fun hb => ?_) (fun hb => ?_) <;> (first | exact absurd hb (by decide) | (exfalso; simp at hb; omega) | skip) <;> (repeat (first | refine wN ?_ | refine wK ?_))); all_goals (refine wZ ?_; (repeat' (first | refine wRm ?_ | refine wQu ?_ | (first | with_reducible (first | refine thenQ_n ?_ | refine thenQ_e ?_ | refine thenQ_r ?_ | refine ow_nil ?_) | (first | refine wY ?_ | refine wA ?_ | refine wS ?_ | refine wL (fun bk => ?_) | refine wB (fun bk => ?_) | refine wX (fun bk => ?_) | refine wB0 (fun bk => ?_) | refine wB1 (fun bk => ?_) | refine wB1o (fun bk => ?_) | refine wB2o (fun bk => ?_) | refine wG ?_ | (refine wGd (fun hb => ?_) (fun hb => ?_) <;> try (exfalso; omega)) | (refine wGe (fun hb => ?_) (fun hb => ?_) <;> try (exfalso; omega)) | (refine wGn (fun hb => ?_) (fun hb => ?_) <;> try (exfalso; omega))) | with_reducible (first | refine cw_then ?_ | refine cw_region ?_ | refine wCt ?_ | refine wCf ?_) | (((with_reducible refine wCd (fun hb => ?_) (fun hb => ?_)) <;> try subst hb) <;> try (exfalso; omega)) | (((with_reducible refine wCe (fun hb => ?_) (fun hb => ?_)) <;> try subst hb) <;> try (exfalso; omega)) | ((with_reducible refine wCn (fun hb => ?_) (fun hb => ?_)) <;> try (exfalso; omega)) | ((with_reducible refine wCo (fun hb => ?_) (fun hb => ?_))) | ((with_reducible refine wCi (fun hb => ?_) (fun hb => ?_))) | with_reducible (first | refine cw_block ?_ | refine cw_skip ?_ | refine cw_exit ?_ | refine cw_ret ?_ | refine cw_label ?_ | refine cw_scope ?_ | refine inB_same ?_ | refine inB_n ?_ | refine inB_r ?_ | refine wIo ?_ | refine noG_n ?_ | refine noG_r ?_ | refine noG_e ?_))))))
  all_goals first
    | (refine ow_call_all (plain_fn F hh G n hn (by omega) _ b hb0) rfl (fun v L' hv => ?_); obtain ⟨r, rfl, hp⟩ := hv; (repeat' (first | with_reducible (first | refine thenQ_n ?_ | refine thenQ_e ?_ | refine thenQ_r ?_ | refine ow_nil ?_) | (first | refine wY ?_ | refine wA ?_ | refine wS ?_ | refine wL (fun bk => ?_) | refine wB (fun bk => ?_) | refine wX (fun bk => ?_) | refine wB0 (fun bk => ?_) | refine wB1 (fun bk => ?_) | refine wB1o (fun bk => ?_) | refine wB2o (fun bk => ?_) | refine wG ?_ | (refine wGd (fun hb => ?_) (fun hb => ?_) <;> try (exfalso; omega)) | (refine wGe (fun hb => ?_) (fun hb => ?_) <;> try (exfalso; omega)) | (refine wGn (fun hb => ?_) (fun hb => ?_) <;> try (exfalso; omega))) | with_reducible (first | refine cw_then ?_ | refine cw_region ?_ | refine wCt ?_ | refine wCf ?_) | (((with_reducible refine wCd (fun hb => ?_) (fun hb => ?_)) <;> try subst hb) <;> try (exfalso; omega)) | (((with_reducible refine wCe (fun hb => ?_) (fun hb => ?_)) <;> try subst hb) <;> try (exfalso; omega)) | ((with_reducible refine wCn (fun hb => ?_) (fun hb => ?_)) <;> try (exfalso; omega)) | ((with_reducible refine wCo (fun hb => ?_) (fun hb => ?_))) | ((with_reducible refine wCi (fun hb => ?_) (fun hb => ?_))) | with_reducible (first | refine cw_block ?_ | refine cw_skip ?_ | refine cw_exit ?_ | refine cw_ret ?_ | refine cw_label ?_ | refine cw_scope ?_ | refine inB_same ?_ | refine inB_n ?_ | refine inB_r ?_ | refine wIo ?_ | refine noG_n ?_ | refine noG_r ?_ | refine noG_e ?_))); exact ret1 (v := .bool r) rfl rfl (sub_mk ⟨r, rfl, hp.mono (by omega)⟩))

set_option maxHeartbeats 4000000 in
set_option maxRecDepth 4000 in
theorem piece_16 {kb : Nat} {P : Pm.Prog} {A : List Pm.Func} {x : Pm.Func} {B : List Pm.Func} (F : KFix P A x B) {c : List Pm.Instr} {depth : List Int} {at_ : Int} {L : List Blk} (h : KRep h0 kb A { x with code := c } B depth at_ L) (G : Pm.Going P x c depth at_) (n : Nat) (hn : c.length ≤ n) (hn2 : n ≤ 800) (b : Int) (hb0 : 0 ≤ b ∧ b ≤ 255) :
    Ct Try.prog h0 59 [.pointer (some ⟨kb, 0, none⟩), .int .i64 16, .int .i64 b] L fun v L' => ∃ r, v = .bool r ∧ KPost h0 kb P A x B (n + 6) L' := by
  have hh := h
  obtain ⟨na, nm, nc, ns, pb, pm, pc, cA, cB, junk, BA, BB, CB, DB, ca, cm, cc, da, dm, dc, hns, hnz, hA, hB, hC, hD, hm, hmc, hpc, rfl⟩ := h.ex
  have hlA : LenIs cA (A.length * 4) := ⟨hA.len⟩
  have hdl := hD.len
  rw [length_ints] at hdl
  have hgl := G.len
  have hlo := G.lo
  have hhi := G.hi
  have hpl := F.plen
  have hxp := F.xp
  have hxl := F.loc
  have hxr := F.refs
  have hFl := F.len
  have hgm : (b % (pm : Int)).toNat < pm := by have := Int.emod_lt_of_pos b (show (0 : Int) < pm by omega); omega
  have hg0 := Int.emod_nonneg b (show (pm : Int) ≠ 0 by omega)
  have hg1 := Int.emod_lt_of_pos b (show (0 : Int) < pm by omega)
  obtain ⟨gf, hgf⟩ : ∃ f, (A ++ { x with code := c } :: B)[(b % (pm : Int)).toNat]? = some f := ⟨_, List.getElem?_eq_getElem (by simp; omega)⟩
  have hatg : At (cA ++ (.int .i64 x.params :: .int .i64 x.locals :: .int .i64 x.refs :: .slice ca cm cc :: (cB ++ junk))) (0 + (b % (pm : Int)).toNat * 4) (.int .i64 gf.params) := by
    have := (hA.app (.cons (f := { x with code := c }) hB hC)).row _ _ hgf
    refine ⟨?_⟩
    have e : cA ++ (.int .i64 x.params :: .int .i64 x.locals :: .int .i64 x.refs :: .slice ca cm cc :: (cB ++ junk)) = (cA ++ (.int .i64 x.params :: .int .i64 x.locals :: .int .i64 x.refs :: .slice ca cm cc :: cB)) ++ junk := by simp
    rw [e, Nat.zero_add, List.getElem?_append_left (List.getElem?_eq_some_iff.1 this).1]
    exact this
  have hgp : Pm.params P (b % (pm : Int)) = gf.params ∧ 0 ≤ gf.params ∧ gf.params ≤ 3 := by
    have hb2 : 0 ≤ gf.params ∧ gf.params ≤ 3 := by
      have hm := List.mem_of_getElem? hgf
      rcases List.mem_append.1 hm with hm | hm
      · exact F.small _ (List.mem_append_left _ hm)
      · rcases List.mem_cons.1 hm with rfl | hm
        · exact F.xp
        · exact F.small _ (List.mem_append_right _ (List.mem_cons_of_mem _ hm))
    refine ⟨?_, hb2⟩
    rw [← F.sh c, Pm.shape_params]
    unfold Pm.params Pm.fn
    rw [if_pos (by simp; omega), List.getD_eq_getElem?_getD, hgf]
    simp; omega
  obtain ⟨hgp, hgp0, hgp3⟩ := hgp
  obtain ⟨gn, hgn⟩ : ∃ gn : Nat, gf.params = gn := ⟨gf.params.toNat, by omega⟩
  rw [hgn] at hatg hgp hgp0 hgp3
  clear hgn
  have hpc17 : Pm.pops P ⟨17, b % (pm : Int), 0⟩ = (gn : Int) := by unfold Pm.pops; rw [if_pos (by simp)]; exact hgp
  have hpc19 : Pm.pops P ⟨19, b % (pm : Int), 0⟩ = (gn : Int) := by unfold Pm.pops; rw [if_pos (by simp)]; exact hgp
  unfold kCells at hh ⊢
  dsimp only at hh ⊢
  refine fn_of Try.func59 rfl rfl ?_
  repeat' (first | refine wRm ?_ | refine wQu ?_ | (first | with_reducible (first | refine thenQ_n ?_ | refine thenQ_e ?_ | refine thenQ_r ?_ | refine ow_nil ?_) | (first | refine wY ?_ | refine wA ?_ | refine wS ?_ | refine wL (fun bk => ?_) | refine wB (fun bk => ?_) | refine wX (fun bk => ?_) | refine wB0 (fun bk => ?_) | refine wB1 (fun bk => ?_) | refine wB1o (fun bk => ?_) | refine wB2o (fun bk => ?_) | refine wG ?_ | (refine wGd (fun hb => ?_) (fun hb => ?_) <;> try (exfalso; omega)) | (refine wGe (fun hb => ?_) (fun hb => ?_) <;> try (exfalso; omega)) | (refine wGn (fun hb => ?_) (fun hb => ?_) <;> try (exfalso; omega))) | with_reducible (first | refine cw_then ?_ | refine cw_region ?_ | refine wCt ?_ | refine wCf ?_) | (((with_reducible refine wCd (fun hb => ?_) (fun hb => ?_)) <;> try subst hb) <;> try (exfalso; omega)) | (((with_reducible refine wCe (fun hb => ?_) (fun hb => ?_)) <;> try subst hb) <;> try (exfalso; omega)) | ((with_reducible refine wCn (fun hb => ?_) (fun hb => ?_)) <;> try (exfalso; omega)) | ((with_reducible refine wCo (fun hb => ?_) (fun hb => ?_))) | ((with_reducible refine wCi (fun hb => ?_) (fun hb => ?_))) | with_reducible (first | refine cw_block ?_ | refine cw_skip ?_ | refine cw_exit ?_ | refine cw_ret ?_ | refine cw_label ?_ | refine cw_scope ?_ | refine inB_same ?_ | refine inB_n ?_ | refine inB_r ?_ | refine wIo ?_ | refine noG_n ?_ | refine noG_r ?_ | refine noG_e ?_)))
  · obtain ⟨o2, ho2, hat2⟩ : ∃ o2 : Int, (o2 = 18 ∨ o2 = 20) ∧ At ([.int .i64 20, .int .i64 18] : List Value) (0 + ((16 : Int) - 15).toNat * 1) (.int .i64 o2) := by
      exact ⟨18, by omega, ⟨rfl⟩⟩
    refine ow_call_all (mkAdd_fn F hh G.len (by omega) ⟨hlo, hhi⟩ 1 (b % 3) 0) rfl (fun v L' hv => ?_)
    obtain ⟨rfl, hk1⟩ := hv
    rw [show Pm.behind P at_ ⟨1, b % 3, 0⟩ = at_ + 1 by simp [Pm.behind, Pm.pops, Pm.pushes]] at hk1
    repeat' (first | refine wRm ?_ | refine wQu ?_ | (first | with_reducible (first | refine thenQ_n ?_ | refine thenQ_e ?_ | refine thenQ_r ?_ | refine ow_nil ?_) | (first | refine wY ?_ | refine wA ?_ | refine wS ?_ | refine wL (fun bk => ?_) | refine wB (fun bk => ?_) | refine wX (fun bk => ?_) | refine wB0 (fun bk => ?_) | refine wB1 (fun bk => ?_) | refine wB1o (fun bk => ?_) | refine wB2o (fun bk => ?_) | refine wG ?_ | (refine wGd (fun hb => ?_) (fun hb => ?_) <;> try (exfalso; omega)) | (refine wGe (fun hb => ?_) (fun hb => ?_) <;> try (exfalso; omega)) | (refine wGn (fun hb => ?_) (fun hb => ?_) <;> try (exfalso; omega))) | with_reducible (first | refine cw_then ?_ | refine cw_region ?_ | refine wCt ?_ | refine wCf ?_) | (((with_reducible refine wCd (fun hb => ?_) (fun hb => ?_)) <;> try subst hb) <;> try (exfalso; omega)) | (((with_reducible refine wCe (fun hb => ?_) (fun hb => ?_)) <;> try subst hb) <;> try (exfalso; omega)) | ((with_reducible refine wCn (fun hb => ?_) (fun hb => ?_)) <;> try (exfalso; omega)) | ((with_reducible refine wCo (fun hb => ?_) (fun hb => ?_))) | ((with_reducible refine wCi (fun hb => ?_) (fun hb => ?_))) | with_reducible (first | refine cw_block ?_ | refine cw_skip ?_ | refine cw_exit ?_ | refine cw_ret ?_ | refine cw_label ?_ | refine cw_scope ?_ | refine inB_same ?_ | refine inB_n ?_ | refine inB_r ?_ | refine wIo ?_ | refine noG_n ?_ | refine noG_r ?_ | refine noG_e ?_)))
    refine ow_call_all (mkHere_fn hk1) rfl (fun v L' hv => ?_)
    obtain ⟨rfl, rfl⟩ := hv
    have hl1 : ((depth ++ [at_]).length : Int) = c.length + 1 := by simp; omega
    rw [hl1]
    repeat' (first | refine wRm ?_ | refine wQu ?_ | (first | with_reducible (first | refine thenQ_n ?_ | refine thenQ_e ?_ | refine thenQ_r ?_ | refine ow_nil ?_) | (first | refine wY ?_ | refine wA ?_ | refine wS ?_ | refine wL (fun bk => ?_) | refine wB (fun bk => ?_) | refine wX (fun bk => ?_) | refine wB0 (fun bk => ?_) | refine wB1 (fun bk => ?_) | refine wB1o (fun bk => ?_) | refine wB2o (fun bk => ?_) | refine wG ?_ | (refine wGd (fun hb => ?_) (fun hb => ?_) <;> try (exfalso; omega)) | (refine wGe (fun hb => ?_) (fun hb => ?_) <;> try (exfalso; omega)) | (refine wGn (fun hb => ?_) (fun hb => ?_) <;> try (exfalso; omega))) | with_reducible (first | refine cw_then ?_ | refine cw_region ?_ | refine wCt ?_ | refine wCf ?_) | (((with_reducible refine wCd (fun hb => ?_) (fun hb => ?_)) <;> try subst hb) <;> try (exfalso; omega)) | (((with_reducible refine wCe (fun hb => ?_) (fun hb => ?_)) <;> try subst hb) <;> try (exfalso; omega)) | ((with_reducible refine wCn (fun hb => ?_) (fun hb => ?_)) <;> try (exfalso; omega)) | ((with_reducible refine wCo (fun hb => ?_) (fun hb => ?_))) | ((with_reducible refine wCi (fun hb => ?_) (fun hb => ?_))) | with_reducible (first | refine cw_block ?_ | refine cw_skip ?_ | refine cw_exit ?_ | refine cw_ret ?_ | refine cw_label ?_ | refine cw_scope ?_ | refine inB_same ?_ | refine inB_n ?_ | refine inB_r ?_ | refine wIo ?_ | refine noG_n ?_ | refine noG_r ?_ | refine noG_e ?_)))
    refine ow_call_all (mkAdd_fn F hk1 (by simp; omega) (by simp; omega) ⟨by omega, by omega⟩ 16 ((c.length : Int) + 1 + 3) 0) rfl (fun v L' hv => ?_)
    obtain ⟨rfl, hk2⟩ := hv
    rw [show Pm.behind P (at_ + 1) ⟨16, (c.length : Int) + 1 + 3, 0⟩ = at_ by simp [Pm.behind, Pm.pops, Pm.pushes]] at hk2
    repeat' (first | refine wRm ?_ | refine wQu ?_ | (first | with_reducible (first | refine thenQ_n ?_ | refine thenQ_e ?_ | refine thenQ_r ?_ | refine ow_nil ?_) | (first | refine wY ?_ | refine wA ?_ | refine wS ?_ | refine wL (fun bk => ?_) | refine wB (fun bk => ?_) | refine wX (fun bk => ?_) | refine wB0 (fun bk => ?_) | refine wB1 (fun bk => ?_) | refine wB1o (fun bk => ?_) | refine wB2o (fun bk => ?_) | refine wG ?_ | (refine wGd (fun hb => ?_) (fun hb => ?_) <;> try (exfalso; omega)) | (refine wGe (fun hb => ?_) (fun hb => ?_) <;> try (exfalso; omega)) | (refine wGn (fun hb => ?_) (fun hb => ?_) <;> try (exfalso; omega))) | with_reducible (first | refine cw_then ?_ | refine cw_region ?_ | refine wCt ?_ | refine wCf ?_) | (((with_reducible refine wCd (fun hb => ?_) (fun hb => ?_)) <;> try subst hb) <;> try (exfalso; omega)) | (((with_reducible refine wCe (fun hb => ?_) (fun hb => ?_)) <;> try subst hb) <;> try (exfalso; omega)) | ((with_reducible refine wCn (fun hb => ?_) (fun hb => ?_)) <;> try (exfalso; omega)) | ((with_reducible refine wCo (fun hb => ?_) (fun hb => ?_))) | ((with_reducible refine wCi (fun hb => ?_) (fun hb => ?_))) | with_reducible (first | refine cw_block ?_ | refine cw_skip ?_ | refine cw_exit ?_ | refine cw_ret ?_ | refine cw_label ?_ | refine cw_scope ?_ | refine inB_same ?_ | refine inB_n ?_ | refine inB_r ?_ | refine wIo ?_ | refine noG_n ?_ | refine noG_r ?_ | refine noG_e ?_)))
    refine ow_call_all (mkAdd_fn F hk2 (by simp; omega) (by simp; omega) ⟨by omega, by omega⟩ 1 b 0) rfl (fun v L' hv => ?_)
    obtain ⟨rfl, hk3⟩ := hv
    rw [show Pm.behind P at_ ⟨1, b, 0⟩ = at_ + 1 by simp [Pm.behind, Pm.pops, Pm.pushes]] at hk3
    repeat' (first | refine wRm ?_ | refine wQu ?_ | (first | with_reducible (first | refine thenQ_n ?_ | refine thenQ_e ?_ | refine thenQ_r ?_ | refine ow_nil ?_) | (first | refine wY ?_ | refine wA ?_ | refine wS ?_ | refine wL (fun bk => ?_) | refine wB (fun bk => ?_) | refine wX (fun bk => ?_) | refine wB0 (fun bk => ?_) | refine wB1 (fun bk => ?_) | refine wB1o (fun bk => ?_) | refine wB2o (fun bk => ?_) | refine wG ?_ | (refine wGd (fun hb => ?_) (fun hb => ?_) <;> try (exfalso; omega)) | (refine wGe (fun hb => ?_) (fun hb => ?_) <;> try (exfalso; omega)) | (refine wGn (fun hb => ?_) (fun hb => ?_) <;> try (exfalso; omega))) | with_reducible (first | refine cw_then ?_ | refine cw_region ?_ | refine wCt ?_ | refine wCf ?_) | (((with_reducible refine wCd (fun hb => ?_) (fun hb => ?_)) <;> try subst hb) <;> try (exfalso; omega)) | (((with_reducible refine wCe (fun hb => ?_) (fun hb => ?_)) <;> try subst hb) <;> try (exfalso; omega)) | ((with_reducible refine wCn (fun hb => ?_) (fun hb => ?_)) <;> try (exfalso; omega)) | ((with_reducible refine wCo (fun hb => ?_) (fun hb => ?_))) | ((with_reducible refine wCi (fun hb => ?_) (fun hb => ?_))) | with_reducible (first | refine cw_block ?_ | refine cw_skip ?_ | refine cw_exit ?_ | refine cw_ret ?_ | refine cw_label ?_ | refine cw_scope ?_ | refine inB_same ?_ | refine inB_n ?_ | refine inB_r ?_ | refine wIo ?_ | refine noG_n ?_ | refine noG_r ?_ | refine noG_e ?_)))
    refine ow_call (mkAdd_fn F hk3 (by simp; omega) (by simp; omega) ⟨by omega, by omega⟩ o2 0 0) rfl (fun v L' hv => ?_)
    obtain ⟨rfl, hk4⟩ := hv
    have hp2 : Pm.pops P ⟨o2, 0, 0⟩ = 1 := by rcases ho2 with rfl | rfl <;> simp [Pm.pops]
    have hu2 : Pm.pushes ⟨o2, 0, 0⟩ = 0 := by rcases ho2 with rfl | rfl <;> simp [Pm.pushes]
    rw [show Pm.behind P (at_ + 1) ⟨o2, 0, 0⟩ = at_ by unfold Pm.behind; rw [hp2, hu2]; omega] at hk4
    have hg4 := G.leaves ⟨1, b % 3, 0⟩ (.inl ⟨rfl, by dsimp only; omega, by dsimp only; omega, rfl⟩) (by simp [Pm.pops]) (by simp [Pm.pushes]) ⟨by simp, by simp, by simp, by simp⟩ b o2 ⟨by omega, by omega⟩ ho2 (by omega)
    rw [show (c.length : Int) + 1 + 3 = c.length + 4 by omega] at hk4
    simp only [List.append_assoc, List.cons_append, List.nil_append] at hk4
    repeat' (first | with_reducible (first | refine thenQ_n ?_ | refine thenQ_e ?_ | refine thenQ_r ?_ | refine ow_nil ?_) | (first | refine wY ?_ | refine wA ?_ | refine wS ?_ | refine wL (fun bk => ?_) | refine wB (fun bk => ?_) | refine wX (fun bk => ?_) | refine wB0 (fun bk => ?_) | refine wB1 (fun bk => ?_) | refine wB1o (fun bk => ?_) | refine wB2o (fun bk => ?_) | refine wG ?_ | (refine wGd (fun hb => ?_) (fun hb => ?_) <;> try (exfalso; omega)) | (refine wGe (fun hb => ?_) (fun hb => ?_) <;> try (exfalso; omega)) | (refine wGn (fun hb => ?_) (fun hb => ?_) <;> try (exfalso; omega))) | with_reducible (first | refine cw_then ?_ | refine cw_region ?_ | refine wCt ?_ | refine wCf ?_) | (((with_reducible refine wCd (fun hb => ?_) (fun hb => ?_)) <;> try subst hb) <;> try (exfalso; omega)) | (((with_reducible refine wCe (fun hb => ?_) (fun hb => ?_)) <;> try subst hb) <;> try (exfalso; omega)) | ((with_reducible refine wCn (fun hb => ?_) (fun hb => ?_)) <;> try (exfalso; omega)) | ((with_reducible refine wCo (fun hb => ?_) (fun hb => ?_))) | ((with_reducible refine wCi (fun hb => ?_) (fun hb => ?_))) | with_reducible (first | refine cw_block ?_ | refine cw_skip ?_ | refine cw_exit ?_ | refine cw_ret ?_ | refine cw_label ?_ | refine cw_scope ?_ | refine inB_same ?_ | refine inB_n ?_ | refine inB_r ?_ | refine wIo ?_ | refine noG_n ?_ | refine noG_r ?_ | refine noG_e ?_))
    exact ret1 (v := .bool true) rfl rfl (sub_mk ⟨true, rfl, _, _, _, hk4, hg4, by simp; omega⟩)
  all_goals try (refine cw_drawn 32 rfl rfl ?_; (repeat (first | refine wN ?_ | refine wK ?_)); (refine hw_case 166 rfl (fun hb => ?_) (fun hb => ?_) <;> (first | exact absurd hb (by decide) | (exfalso; simp at hb; omega) | skip) <;> (repeat (first | refine wN ?_ | refine wK ?_))); all_goals (refine hw_case 170 rfl (fun hb => ?_) (fun hb => ?_) <;> (first | exact absurd hb (by decide) | (exfalso; simp at hb; omega) | skip) <;> (repeat (first | refine wN ?_ | refine wK ?_))); all_goals (refine hw_case 180 rfl (fun hb => ?_) (fun hb => ?_) <;> (first | exact absurd hb (by decide) | (exfalso; simp at hb; omega) | skip) <;> (repeat (first | refine wN ?_ | refine wK ?_))); all_goals (refine wZ ?_; (repeat' (first | refine wRm ?_ | refine wQu ?_ | (first | with_reducible (first | refine thenQ_n ?_ | refine thenQ_e ?_ | refine thenQ_r ?_ | refine ow_nil ?_) | (first | refine wY ?_ | refine wA ?_ | refine wS ?_ | refine wL (fun bk => ?_) | refine wB (fun bk => ?_) | refine wX (fun bk => ?_) | refine wB0 (fun bk => ?_) | refine wB1 (fun bk => ?_) | refine wB1o (fun bk => ?_) | refine wB2o (fun bk => ?_) | refine wG ?_ | (refine wGd (fun hb => ?_) (fun hb => ?_) <;> try (exfalso; omega)) | (refine wGe (fun hb => ?_) (fun hb => ?_) <;> try (exfalso; omega)) | (refine wGn (fun hb => ?_) (fun hb => ?_) <;> try (exfalso; omega))) | with_reducible (first | refine cw_then ?_ | refine cw_region ?_ | refine wCt ?_ | refine wCf ?_) | (((with_reducible refine wCd (fun hb => ?_) (fun hb => ?_)) <;> try subst hb) <;> try (exfalso; omega)) | (((with_reducible refine wCe (fun hb => ?_) (fun hb => ?_)) <;> try subst hb) <;> try (exfalso; omega)) | ((with_reducible refine wCn (fun hb => ?_) (fun hb => ?_)) <;> try (exfalso; omega)) | ((with_reducible refine wCo (fun hb => ?_) (fun hb => ?_))) | ((with_reducible refine wCi (fun hb => ?_) (fun hb => ?_))) | with_reducible (first | refine cw_block ?_ | refine cw_skip ?_ | refine cw_exit ?_ | refine cw_ret ?_ | refine cw_label ?_ | refine cw_scope ?_ | refine inB_same ?_ | refine inB_n ?_ | refine inB_r ?_ | refine wIo ?_ | refine noG_n ?_ | refine noG_r ?_ | refine noG_e ?_))))))
  all_goals first
    | (refine ow_call_all (plain_fn F hh G n hn (by omega) _ b hb0) rfl (fun v L' hv => ?_); obtain ⟨r, rfl, hp⟩ := hv; (repeat' (first | with_reducible (first | refine thenQ_n ?_ | refine thenQ_e ?_ | refine thenQ_r ?_ | refine ow_nil ?_) | (first | refine wY ?_ | refine wA ?_ | refine wS ?_ | refine wL (fun bk => ?_) | refine wB (fun bk => ?_) | refine wX (fun bk => ?_) | refine wB0 (fun bk => ?_) | refine wB1 (fun bk => ?_) | refine wB1o (fun bk => ?_) | refine wB2o (fun bk => ?_) | refine wG ?_ | (refine wGd (fun hb => ?_) (fun hb => ?_) <;> try (exfalso; omega)) | (refine wGe (fun hb => ?_) (fun hb => ?_) <;> try (exfalso; omega)) | (refine wGn (fun hb => ?_) (fun hb => ?_) <;> try (exfalso; omega))) | with_reducible (first | refine cw_then ?_ | refine cw_region ?_ | refine wCt ?_ | refine wCf ?_) | (((with_reducible refine wCd (fun hb => ?_) (fun hb => ?_)) <;> try subst hb) <;> try (exfalso; omega)) | (((with_reducible refine wCe (fun hb => ?_) (fun hb => ?_)) <;> try subst hb) <;> try (exfalso; omega)) | ((with_reducible refine wCn (fun hb => ?_) (fun hb => ?_)) <;> try (exfalso; omega)) | ((with_reducible refine wCo (fun hb => ?_) (fun hb => ?_))) | ((with_reducible refine wCi (fun hb => ?_) (fun hb => ?_))) | with_reducible (first | refine cw_block ?_ | refine cw_skip ?_ | refine cw_exit ?_ | refine cw_ret ?_ | refine cw_label ?_ | refine cw_scope ?_ | refine inB_same ?_ | refine inB_n ?_ | refine inB_r ?_ | refine wIo ?_ | refine noG_n ?_ | refine noG_r ?_ | refine noG_e ?_))); exact ret1 (v := .bool r) rfl rfl (sub_mk ⟨r, rfl, hp.mono (by omega)⟩))

end Go.Proofs.Ytnijpdehchdinaa
