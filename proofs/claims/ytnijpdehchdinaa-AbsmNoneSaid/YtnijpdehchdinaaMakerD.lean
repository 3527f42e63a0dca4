/-
  The maker in memory: numbers that are pushed; a piece of a code.
-/
import Derived.Test.YtnijpdehchdinaaMakerC
set_option linter.unusedVariables false
set_option linter.unusedSimpArgs false
namespace Go.Hl
theorem FnRep.row {fs : List Pm.Func} {cs : List Value} {B : List Blk} (h : FnRep fs cs B) (k : Nat) (f : Pm.Func) (hk : fs[k]? = some f) : cs[k * 4]? = some (.int .i64 f.params) := by
  induction h generalizing k with
  | nil => simp at hk
  | @cons g fs ca cm cc cs CB B h hc ih =>
    cases k with
    | zero => simp at hk; subst hk; rfl
    | succ k =>
      have := ih k (by simpa using hk)
      rw [show (k + 1) * 4 = k * 4 + 1 + 1 + 1 + 1 by omega]
      simpa using this
end Go.Hl
namespace Go.Proofs.Ytnijpdehchdinaa
open Go Go.Proofs Go.Hl
variable {h0 : Array Obj}

theorem KPost.mono {kb : Nat} {P : Pm.Prog} {A : List Pm.Func} {x : Pm.Func} {B : List Pm.Func} {n m : Nat} {L : List Blk} (h : KPost h0 kb P A x B n L) (hm : n ≤ m) : KPost h0 kb P A x B m L := let ⟨c, d, a, h1, h2, h3⟩ := h; ⟨c, d, a, h1, h2, Nat.le_trans h3 hm⟩
theorem args_fn {kb : Nat} {P : Pm.Prog} {A : List Pm.Func} {x : Pm.Func} {B : List Pm.Func} (F : KFix P A x B) {c : List Pm.Instr} {depth : List Int} {at_ : Int} {L : List Blk} (h : KRep h0 kb A { x with code := c } B depth at_ L) (G : Pm.Going P x c depth at_) (n : Nat) (hn : c.length ≤ n) (hn2 : n ≤ 900) (k : Nat) (b : Int) (hb : 0 ≤ b ∧ b ≤ 1000) (h8 : at_ + k ≤ 8) :
    Ct Try.prog h0 82 [.pointer (some ⟨kb, 0, none⟩), .int .i64 k, .int .i64 b] L fun v L' => v = .tuple #[] ∧ ∃ c' depth', KRep h0 kb A { x with code := c' } B depth' (at_ + k) L' ∧ Pm.Going P x c' depth' (at_ + k) ∧ c'.length ≤ n + k := by
  have hlo := G.lo
  refine fn_of Try.func82 rfl rfl ?_
  repeat' (first | with_reducible (first | refine thenQ_n ?_ | refine thenQ_e ?_ | refine thenQ_r ?_ | refine ow_nil ?_) | (first | refine wY ?_ | refine wA ?_ | refine wS ?_ | refine wL (fun bk => ?_) | refine wB (fun bk => ?_) | refine wX (fun bk => ?_) | refine wB0 (fun bk => ?_) | refine wB1 (fun bk => ?_) | refine wB1o (fun bk => ?_) | refine wB2o (fun bk => ?_) | refine wG ?_ | (refine wGd (fun hb => ?_) (fun hb => ?_) <;> try (exfalso; omega)) | (refine wGe (fun hb => ?_) (fun hb => ?_) <;> try (exfalso; omega)) | (refine wGn (fun hb => ?_) (fun hb => ?_) <;> try (exfalso; omega))) | with_reducible (first | refine cw_then ?_ | refine cw_region ?_ | refine wCt ?_ | refine wCf ?_) | (((with_reducible refine wCd (fun hb => ?_) (fun hb => ?_)) <;> try subst hb) <;> try (exfalso; omega)) | (((with_reducible refine wCe (fun hb => ?_) (fun hb => ?_)) <;> try subst hb) <;> try (exfalso; omega)) | ((with_reducible refine wCn (fun hb => ?_) (fun hb => ?_)) <;> try (exfalso; omega)) | ((with_reducible refine wCo (fun hb => ?_) (fun hb => ?_))) | ((with_reducible refine wCi (fun hb => ?_) (fun hb => ?_))) | with_reducible (first | refine cw_block ?_ | refine cw_skip ?_ | refine cw_exit ?_ | refine cw_ret ?_ | refine cw_label ?_ | refine cw_scope ?_ | refine inB_same ?_ | refine inB_n ?_ | refine inB_r ?_ | refine wIo ?_ | refine noG_n ?_ | refine noG_r ?_ | refine noG_e ?_))
  refine cw_loop' (fun j T L' => ∃ (i : Nat) (c' : List Pm.Instr) (depth' : List Int) (L1 Lx : List Blk), j = k - i ∧ i ≤ k ∧ Sl T [(0, .pointer (some ⟨kb, 0, none⟩)), (1, .int .i64 k), (2, .int .i64 b), (6, .int .i64 i)] ∧
    KRep h0 kb A { x with code := c' } B depth' (at_ + i) L1 ∧ Pm.Going P x c' depth' (at_ + i) ∧ c'.length ≤ n + i ∧ Split L' L1 Lx) k ⟨0, c, depth, L, [], rfl, Nat.zero_le _, ⟨rfl, rfl, rfl, rfl, trivial⟩, by simpa using h, by simpa using G, by omega, inferInstance⟩ ?_
  rintro j T L' ⟨i, c', depth', L1, Lx, rfl, hi, hT, hK, hG, hl, hS⟩
  obtain ⟨T0, rfl⟩ := sl_ov hT
  clear hT
  refine cw_canon L1 ?_
  by_cases hlt : i < k
  · repeat' (first | refine wRm ?_ | refine wQu ?_ | (first | with_reducible (first | refine thenQ_n ?_ | refine thenQ_e ?_ | refine thenQ_r ?_ | refine ow_nil ?_) | (first | refine wY ?_ | refine wA ?_ | refine wS ?_ | refine wL (fun bk => ?_) | refine wB (fun bk => ?_) | refine wX (fun bk => ?_) | refine wB0 (fun bk => ?_) | refine wB1 (fun bk => ?_) | refine wB1o (fun bk => ?_) | refine wB2o (fun bk => ?_) | refine wG ?_ | (refine wGd (fun hb => ?_) (fun hb => ?_) <;> try (exfalso; omega)) | (refine wGe (fun hb => ?_) (fun hb => ?_) <;> try (exfalso; omega)) | (refine wGn (fun hb => ?_) (fun hb => ?_) <;> try (exfalso; omega))) | with_reducible (first | refine cw_then ?_ | refine cw_region ?_ | refine wCt ?_ | refine wCf ?_) | (((with_reducible refine wCd (fun hb => ?_) (fun hb => ?_)) <;> try subst hb) <;> try (exfalso; omega)) | (((with_reducible refine wCe (fun hb => ?_) (fun hb => ?_)) <;> try subst hb) <;> try (exfalso; omega)) | ((with_reducible refine wCn (fun hb => ?_) (fun hb => ?_)) <;> try (exfalso; omega)) | ((with_reducible refine wCo (fun hb => ?_) (fun hb => ?_))) | ((with_reducible refine wCi (fun hb => ?_) (fun hb => ?_))) | with_reducible (first | refine cw_block ?_ | refine cw_skip ?_ | refine cw_exit ?_ | refine cw_ret ?_ | refine cw_label ?_ | refine cw_scope ?_ | refine inB_same ?_ | refine inB_n ?_ | refine inB_r ?_ | refine wIo ?_ | refine noG_n ?_ | refine noG_r ?_ | refine noG_e ?_)))
    refine ow_call_all (addOne F hK hG (by omega) 1 _ _ 0 1 ?_ (by omega) (by simp [Pm.pops]) (by simp [Pm.pushes]) (by omega) (by omega)) rfl (fun v L' hv => ?_)
    · refine .inl ⟨rfl, ?_, ?_, rfl⟩ <;> (dsimp only; omega)
    obtain ⟨rfl, hk, hg⟩ := hv
    repeat' (first | refine wRm ?_ | refine wQu ?_ | (first | with_reducible (first | refine thenQ_n ?_ | refine thenQ_e ?_ | refine thenQ_r ?_ | refine ow_nil ?_) | (first | refine wY ?_ | refine wA ?_ | refine wS ?_ | refine wL (fun bk => ?_) | refine wB (fun bk => ?_) | refine wX (fun bk => ?_) | refine wB0 (fun bk => ?_) | refine wB1 (fun bk => ?_) | refine wB1o (fun bk => ?_) | refine wB2o (fun bk => ?_) | refine wG ?_ | (refine wGd (fun hb => ?_) (fun hb => ?_) <;> try (exfalso; omega)) | (refine wGe (fun hb => ?_) (fun hb => ?_) <;> try (exfalso; omega)) | (refine wGn (fun hb => ?_) (fun hb => ?_) <;> try (exfalso; omega))) | with_reducible (first | refine cw_then ?_ | refine cw_region ?_ | refine wCt ?_ | refine wCf ?_) | (((with_reducible refine wCd (fun hb => ?_) (fun hb => ?_)) <;> try subst hb) <;> try (exfalso; omega)) | (((with_reducible refine wCe (fun hb => ?_) (fun hb => ?_)) <;> try subst hb) <;> try (exfalso; omega)) | ((with_reducible refine wCn (fun hb => ?_) (fun hb => ?_)) <;> try (exfalso; omega)) | ((with_reducible refine wCo (fun hb => ?_) (fun hb => ?_))) | ((with_reducible refine wCi (fun hb => ?_) (fun hb => ?_))) | with_reducible (first | refine cw_block ?_ | refine cw_skip ?_ | refine cw_exit ?_ | refine cw_ret ?_ | refine cw_label ?_ | refine cw_scope ?_ | refine inB_same ?_ | refine inB_n ?_ | refine inB_r ?_ | refine wIo ?_ | refine noG_n ?_ | refine noG_r ?_ | refine noG_e ?_)))
    rw [show at_ + (i : Int) - 0 + 1 = at_ + ((i + 1 : Nat) : Int) by omega] at hk hg
    exact ⟨k - (i + 1), by omega, i + 1, _, _, _, [], rfl, by omega, ⟨rfl, rfl, rfl, rfl, trivial⟩, hk, hg, by simp; omega, inferInstance⟩
  · obtain rfl : i = k := by omega
    repeat' (first | refine wRm ?_ | refine wQu ?_ | (first | with_reducible (first | refine thenQ_n ?_ | refine thenQ_e ?_ | refine thenQ_r ?_ | refine ow_nil ?_) | (first | refine wY ?_ | refine wA ?_ | refine wS ?_ | refine wL (fun bk => ?_) | refine wB (fun bk => ?_) | refine wX (fun bk => ?_) | refine wB0 (fun bk => ?_) | refine wB1 (fun bk => ?_) | refine wB1o (fun bk => ?_) | refine wB2o (fun bk => ?_) | refine wG ?_ | (refine wGd (fun hb => ?_) (fun hb => ?_) <;> try (exfalso; omega)) | (refine wGe (fun hb => ?_) (fun hb => ?_) <;> try (exfalso; omega)) | (refine wGn (fun hb => ?_) (fun hb => ?_) <;> try (exfalso; omega))) | with_reducible (first | refine cw_then ?_ | refine cw_region ?_ | refine wCt ?_ | refine wCf ?_) | (((with_reducible refine wCd (fun hb => ?_) (fun hb => ?_)) <;> try subst hb) <;> try (exfalso; omega)) | (((with_reducible refine wCe (fun hb => ?_) (fun hb => ?_)) <;> try subst hb) <;> try (exfalso; omega)) | ((with_reducible refine wCn (fun hb => ?_) (fun hb => ?_)) <;> try (exfalso; omega)) | ((with_reducible refine wCo (fun hb => ?_) (fun hb => ?_))) | ((with_reducible refine wCi (fun hb => ?_) (fun hb => ?_))) | with_reducible (first | refine cw_block ?_ | refine cw_skip ?_ | refine cw_exit ?_ | refine cw_ret ?_ | refine cw_label ?_ | refine cw_scope ?_ | refine inB_same ?_ | refine inB_n ?_ | refine inB_r ?_ | refine wIo ?_ | refine noG_n ?_ | refine noG_r ?_ | refine noG_e ?_)))
    exact end0 rfl (sub_mk (L' := L1) ⟨rfl, c', depth', hK, hG, hl⟩)
end Go.Proofs.Ytnijpdehchdinaa
