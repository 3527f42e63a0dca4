/-
  Machines that are played; the document's example.
-/
import Derived.Test.YtnijpdehchdinaaStep
import Derived.Test.YtnijpdehchdinaaMarks
import Derived.Test.YtnijpdehchdinaaPlain
set_option linter.unusedVariables false
set_option linter.unusedSimpArgs false
namespace Go.Proofs.Ytnijpdehchdinaa
open Go Go.Proofs Go.Hl Go.Am
variable {h0 : Array Obj}

theorem wake_rep {mb : Nat} {pa : Option Addr} {pm pc : Nat} {m : Mach} {B : List Blk} (h : MRep mb pa pm pc m B) (Lr : List Blk) :
    Ct Try.prog h0 22 [.pointer (some ⟨mb, 0, none⟩)] (B ++ Lr) fun v L' => v = .tuple #[] ∧ ∃ B', MRep mb pa pm pc { m with parked := false } B' ∧ L' = B' ++ Lr := by
  obtain ⟨fa, fm, fc, ta, tm, tc, cells, FB, RB, TB, hF, hR, hT, rfl⟩ := h.ex
  refine (wake_fn mb pa pm pc m fa fm fc ta tm tc (FB ++ (TB ++ RB) ++ Lr)).mono fun v L' ⟨h1, h2⟩ => ⟨h1, _, ⟨fa, fm, fc, ta, tm, tc, cells, FB, RB, TB, hF, hR, hT, rfl⟩, h2⟩
theorem ended_rep {mb : Nat} {pa : Option Addr} {pm pc : Nat} {m : Mach} {B : List Blk} (h : MRep mb pa pm pc m B) (Lr : List Blk) :
    Ct Try.prog h0 13 [.pointer (some ⟨mb, 0, none⟩)] (B ++ Lr) fun v L' => v = .bool m.ended ∧ L' = B ++ Lr := by
  obtain ⟨fa, fm, fc, ta, tm, tc, cells, FB, RB, TB, hF, hR, hT, rfl⟩ := h.ex
  exact ended_fn mb pa pm pc m fa fm fc ta tm tc (FB ++ (TB ++ RB) ++ Lr)
theorem parked_rep {mb : Nat} {pa : Option Addr} {pm pc : Nat} {m : Mach} {B : List Blk} (h : MRep mb pa pm pc m B) (Lr : List Blk) :
    Ct Try.prog h0 27 [.pointer (some ⟨mb, 0, none⟩)] (B ++ Lr) fun v L' => v = .bool m.parked ∧ L' = B ++ Lr := by
  obtain ⟨fa, fm, fc, ta, tm, tc, cells, FB, RB, TB, hF, hR, hT, rfl⟩ := h.ex
  exact parked_fn mb pa pm pc m fa fm fc ta tm tc (FB ++ (TB ++ RB) ++ Lr)
theorem trace_rep {mb : Nat} {pa : Option Addr} {pm pc : Nat} {m : Mach} {B : List Blk} (h : MRep mb pa pm pc m B) (Lr : List Blk) (hl : m.trace.length ≤ 1000000) :
    Ct Try.prog h0 15 [.pointer (some ⟨mb, 0, none⟩)] (B ++ Lr) fun v L' => ∃ p' c' X, v = .slice p' m.trace.length c' ∧ Vec 2 31 p' m.trace.length c' (markCells m.trace) X ∧ L' = X ++ (B ++ Lr) := by
  obtain ⟨fa, fm, fc, ta, tm, tc, cells, FB, RB, TB, hF, hR, hT, rfl⟩ := h.ex
  have h := trace_fn (h0 := h0) mb pa pm pc m fa fm fc ta tm tc TB (FB ++ (RB ++ Lr)) hT hl
  refine Ct.perm (L0 := (mb, mCells pa pm pc m fa fm fc ta tm tc, 76) :: (TB ++ (FB ++ (RB ++ Lr)))) ?_ ?_
  · rw [List.cons_append]
    refine List.Perm.cons _ ?_
    rw [List.append_assoc, List.append_assoc]
    exact List.perm_append_comm_assoc ..
  · refine Ct.of_sub (h.mono fun v L' ⟨p', c', X, h1, h2, h3⟩ => ?_)
    refine ⟨_, [], ⟨?_⟩, p', c', X, h1, h2, rfl⟩
    rw [h3, List.append_nil]
    refine List.Perm.append_left X ?_
    rw [List.cons_append]
    refine List.Perm.cons _ ?_
    rw [List.append_assoc, List.append_assoc]
    exact List.perm_append_comm_assoc ..

/-- The machine behind so many acts. -/
theorem played_fn (L : List Blk) (pa : Option Addr) (pm pc : Nat) (p : Pm.Prog) (hp : ProgRd h0 L pa pm pc p) (hm : MayRun p 0) (k : Nat) (hk : k ≤ 900000) :
    Ct Try.prog h0 11 [.agg #[.slice pa pm pc], .int .i64 k] L fun v L' => ∃ mb q c PB B, v = .pointer (some ⟨mb, 0, none⟩) ∧ ProgRd h0 PB q pm c p ∧ MRep mb q pm c (playN p k (Am.new 0)) B ∧ L' = B ++ (PB ++ L) := by
  obtain ⟨D, hD⟩ := Valid.fam hm.1
  have hI : Inv p D (Am.new 0) := Inv.new hm.1 hD hm.2.1 hm.2.2.1 hm.2.2.2
  refine fn_of Try.func11 rfl rfl ?_
  repeat' (first | with_reducible (first | refine thenQ_n ?_ | refine thenQ_e ?_ | refine thenQ_r ?_ | refine ow_nil ?_) | (first | refine wY ?_ | refine wA ?_ | refine wS ?_ | refine wL (fun bk => ?_) | refine wB (fun bk => ?_) | refine wX (fun bk => ?_) | refine wB0 (fun bk => ?_) | refine wB1 (fun bk => ?_) | refine wB1o (fun bk => ?_) | refine wB2o (fun bk => ?_) | refine wG ?_ | (refine wGd (fun hb => ?_) (fun hb => ?_) <;> try (exfalso; omega)) | (refine wGe (fun hb => ?_) (fun hb => ?_) <;> try (exfalso; omega)) | (refine wGn (fun hb => ?_) (fun hb => ?_) <;> try (exfalso; omega))) | with_reducible (first | refine cw_then ?_ | refine cw_region ?_ | refine wCt ?_ | refine wCf ?_) | (((with_reducible refine wCd (fun hb => ?_) (fun hb => ?_)) <;> try subst hb) <;> try (exfalso; omega)) | (((with_reducible refine wCe (fun hb => ?_) (fun hb => ?_)) <;> try subst hb) <;> try (exfalso; omega)) | ((with_reducible refine wCn (fun hb => ?_) (fun hb => ?_)) <;> try (exfalso; omega)) | ((with_reducible refine wCo (fun hb => ?_) (fun hb => ?_))) | ((with_reducible refine wCi (fun hb => ?_) (fun hb => ?_))) | with_reducible (first | refine cw_block ?_ | refine cw_skip ?_ | refine cw_exit ?_ | refine cw_ret ?_ | refine cw_label ?_ | refine cw_scope ?_ | refine inB_same ?_ | refine inB_n ?_ | refine inB_r ?_ | refine wIo ?_ | refine noG_n ?_ | refine noG_r ?_ | refine noG_e ?_))
  refine ow_call_all (new_fn _ pa pm pc p (hp.mono (fun b cs h => by infer_instance)) 0) rfl (fun v L' hv => ?_)
  rcases hv with ⟨hn, _, _⟩ | ⟨_, mb, q, c, PB, rfl, hq, rfl⟩
  · exact absurd hm hn
  repeat' (first | with_reducible (first | refine thenQ_n ?_ | refine thenQ_e ?_ | refine thenQ_r ?_ | refine ow_nil ?_) | (first | refine wY ?_ | refine wA ?_ | refine wS ?_ | refine wL (fun bk => ?_) | refine wB (fun bk => ?_) | refine wX (fun bk => ?_) | refine wB0 (fun bk => ?_) | refine wB1 (fun bk => ?_) | refine wB1o (fun bk => ?_) | refine wB2o (fun bk => ?_) | refine wG ?_ | (refine wGd (fun hb => ?_) (fun hb => ?_) <;> try (exfalso; omega)) | (refine wGe (fun hb => ?_) (fun hb => ?_) <;> try (exfalso; omega)) | (refine wGn (fun hb => ?_) (fun hb => ?_) <;> try (exfalso; omega))) | with_reducible (first | refine cw_then ?_ | refine cw_region ?_ | refine wCt ?_ | refine wCf ?_) | (((with_reducible refine wCd (fun hb => ?_) (fun hb => ?_)) <;> try subst hb) <;> try (exfalso; omega)) | (((with_reducible refine wCe (fun hb => ?_) (fun hb => ?_)) <;> try subst hb) <;> try (exfalso; omega)) | ((with_reducible refine wCn (fun hb => ?_) (fun hb => ?_)) <;> try (exfalso; omega)) | ((with_reducible refine wCo (fun hb => ?_) (fun hb => ?_))) | ((with_reducible refine wCi (fun hb => ?_) (fun hb => ?_))) | with_reducible (first | refine cw_block ?_ | refine cw_skip ?_ | refine cw_exit ?_ | refine cw_ret ?_ | refine cw_label ?_ | refine cw_scope ?_ | refine inB_same ?_ | refine inB_n ?_ | refine inB_r ?_ | refine wIo ?_ | refine noG_n ?_ | refine noG_r ?_ | refine noG_e ?_))
  have hM0 : MRep mb q pm c (Am.new 0) [(mb, mCells q pm c (Am.new 0) none 0 0 none 0 0, 76)] := ⟨_, _, _, _, _, _, _, [], [], [], .nil, .nil, .nil, rfl⟩
  refine cw_loop' (fun j T L' => ∃ (i : Nat) (B : List Blk) (Lx : List Blk), j = k - i ∧ i ≤ k ∧ Sl T [(5, .pointer (some ⟨mb, 0, none⟩)), (6, .int .i64 i), (1, .int .i64 k)] ∧ MRep mb q pm c (playN p i (Am.new 0)) B ∧ Split L' (B ++ (PB ++ L)) Lx) k
    ⟨0, _, _, rfl, Nat.zero_le _, ⟨rfl, rfl, rfl, trivial⟩, hM0, by infer_instance⟩ ?_
  rintro j T L' ⟨i, B, Lx, rfl, hi, hsl, hM, hS⟩
  obtain ⟨T0, rfl⟩ := sl_ov hsl
  clear hsl
  refine cw_canon (B ++ (PB ++ L)) ?_
  by_cases hlt : i < k
  · have hIi := playN_inv i hI
    have hlen := playN_len p i (Am.new 0)
    simp [Am.new] at hlen
    repeat' (first | with_reducible (first | refine thenQ_n ?_ | refine thenQ_e ?_ | refine thenQ_r ?_ | refine ow_nil ?_) | (first | refine wY ?_ | refine wA ?_ | refine wS ?_ | refine wL (fun bk => ?_) | refine wB (fun bk => ?_) | refine wX (fun bk => ?_) | refine wB0 (fun bk => ?_) | refine wB1 (fun bk => ?_) | refine wB1o (fun bk => ?_) | refine wB2o (fun bk => ?_) | refine wG ?_ | (refine wGd (fun hb => ?_) (fun hb => ?_) <;> try (exfalso; omega)) | (refine wGe (fun hb => ?_) (fun hb => ?_) <;> try (exfalso; omega)) | (refine wGn (fun hb => ?_) (fun hb => ?_) <;> try (exfalso; omega))) | with_reducible (first | refine cw_then ?_ | refine cw_region ?_ | refine wCt ?_ | refine wCf ?_) | (((with_reducible refine wCd (fun hb => ?_) (fun hb => ?_)) <;> try subst hb) <;> try (exfalso; omega)) | (((with_reducible refine wCe (fun hb => ?_) (fun hb => ?_)) <;> try subst hb) <;> try (exfalso; omega)) | ((with_reducible refine wCn (fun hb => ?_) (fun hb => ?_)) <;> try (exfalso; omega)) | ((with_reducible refine wCo (fun hb => ?_) (fun hb => ?_))) | ((with_reducible refine wCi (fun hb => ?_) (fun hb => ?_))) | with_reducible (first | refine cw_block ?_ | refine cw_skip ?_ | refine cw_exit ?_ | refine cw_ret ?_ | refine cw_label ?_ | refine cw_scope ?_ | refine inB_same ?_ | refine inB_n ?_ | refine inB_r ?_ | refine wIo ?_ | refine noG_n ?_ | refine noG_r ?_ | refine noG_e ?_))
    refine ow_call_all (wake_rep hM _) rfl (fun v L' hv => ?_)
    obtain ⟨rfl, B1, hM1, rfl⟩ := hv
    repeat' (first | with_reducible (first | refine thenQ_n ?_ | refine thenQ_e ?_ | refine thenQ_r ?_ | refine ow_nil ?_) | (first | refine wY ?_ | refine wA ?_ | refine wS ?_ | refine wL (fun bk => ?_) | refine wB (fun bk => ?_) | refine wX (fun bk => ?_) | refine wB0 (fun bk => ?_) | refine wB1 (fun bk => ?_) | refine wB1o (fun bk => ?_) | refine wB2o (fun bk => ?_) | refine wG ?_ | (refine wGd (fun hb => ?_) (fun hb => ?_) <;> try (exfalso; omega)) | (refine wGe (fun hb => ?_) (fun hb => ?_) <;> try (exfalso; omega)) | (refine wGn (fun hb => ?_) (fun hb => ?_) <;> try (exfalso; omega))) | with_reducible (first | refine cw_then ?_ | refine cw_region ?_ | refine wCt ?_ | refine wCf ?_) | (((with_reducible refine wCd (fun hb => ?_) (fun hb => ?_)) <;> try subst hb) <;> try (exfalso; omega)) | (((with_reducible refine wCe (fun hb => ?_) (fun hb => ?_)) <;> try subst hb) <;> try (exfalso; omega)) | ((with_reducible refine wCn (fun hb => ?_) (fun hb => ?_)) <;> try (exfalso; omega)) | ((with_reducible refine wCo (fun hb => ?_) (fun hb => ?_))) | ((with_reducible refine wCi (fun hb => ?_) (fun hb => ?_))) | with_reducible (first | refine cw_block ?_ | refine cw_skip ?_ | refine cw_exit ?_ | refine cw_ret ?_ | refine cw_label ?_ | refine cw_scope ?_ | refine inB_same ?_ | refine inB_n ?_ | refine inB_r ?_ | refine wIo ?_ | refine noG_n ?_ | refine noG_r ?_ | refine noG_e ?_))
    refine ow_call (step_fn mb q pm c p PB hq D _ hIi.wake B1 hM1 (by simp [Am.new]; omega) (by simp [Am.new]; omega)) rfl (fun v L' hv => ?_)
    obtain ⟨rfl, B2, hM2, rfl⟩ := hv
    repeat' (first | with_reducible (first | refine thenQ_n ?_ | refine thenQ_e ?_ | refine thenQ_r ?_ | refine ow_nil ?_) | (first | refine wY ?_ | refine wA ?_ | refine wS ?_ | refine wL (fun bk => ?_) | refine wB (fun bk => ?_) | refine wX (fun bk => ?_) | refine wB0 (fun bk => ?_) | refine wB1 (fun bk => ?_) | refine wB1o (fun bk => ?_) | refine wB2o (fun bk => ?_) | refine wG ?_ | (refine wGd (fun hb => ?_) (fun hb => ?_) <;> try (exfalso; omega)) | (refine wGe (fun hb => ?_) (fun hb => ?_) <;> try (exfalso; omega)) | (refine wGn (fun hb => ?_) (fun hb => ?_) <;> try (exfalso; omega))) | with_reducible (first | refine cw_then ?_ | refine cw_region ?_ | refine wCt ?_ | refine wCf ?_) | (((with_reducible refine wCd (fun hb => ?_) (fun hb => ?_)) <;> try subst hb) <;> try (exfalso; omega)) | (((with_reducible refine wCe (fun hb => ?_) (fun hb => ?_)) <;> try subst hb) <;> try (exfalso; omega)) | ((with_reducible refine wCn (fun hb => ?_) (fun hb => ?_)) <;> try (exfalso; omega)) | ((with_reducible refine wCo (fun hb => ?_) (fun hb => ?_))) | ((with_reducible refine wCi (fun hb => ?_) (fun hb => ?_))) | with_reducible (first | refine cw_block ?_ | refine cw_skip ?_ | refine cw_exit ?_ | refine cw_ret ?_ | refine cw_label ?_ | refine cw_scope ?_ | refine inB_same ?_ | refine inB_n ?_ | refine inB_r ?_ | refine wIo ?_ | refine noG_n ?_ | refine noG_r ?_ | refine noG_e ?_))
    exact ⟨k - (i + 1), by omega, i + 1, B2, [], rfl, by omega, ⟨rfl, rfl, rfl, trivial⟩, by rw [playN_succ]; exact hM2, by infer_instance⟩
  · obtain rfl : i = k := by omega
    repeat' (first | with_reducible (first | refine thenQ_n ?_ | refine thenQ_e ?_ | refine thenQ_r ?_ | refine ow_nil ?_) | (first | refine wY ?_ | refine wA ?_ | refine wS ?_ | refine wL (fun bk => ?_) | refine wB (fun bk => ?_) | refine wX (fun bk => ?_) | refine wB0 (fun bk => ?_) | refine wB1 (fun bk => ?_) | refine wB1o (fun bk => ?_) | refine wB2o (fun bk => ?_) | refine wG ?_ | (refine wGd (fun hb => ?_) (fun hb => ?_) <;> try (exfalso; omega)) | (refine wGe (fun hb => ?_) (fun hb => ?_) <;> try (exfalso; omega)) | (refine wGn (fun hb => ?_) (fun hb => ?_) <;> try (exfalso; omega))) | with_reducible (first | refine cw_then ?_ | refine cw_region ?_ | refine wCt ?_ | refine wCf ?_) | (((with_reducible refine wCd (fun hb => ?_) (fun hb => ?_)) <;> try subst hb) <;> try (exfalso; omega)) | (((with_reducible refine wCe (fun hb => ?_) (fun hb => ?_)) <;> try subst hb) <;> try (exfalso; omega)) | ((with_reducible refine wCn (fun hb => ?_) (fun hb => ?_)) <;> try (exfalso; omega)) | ((with_reducible refine wCo (fun hb => ?_) (fun hb => ?_))) | ((with_reducible refine wCi (fun hb => ?_) (fun hb => ?_))) | with_reducible (first | refine cw_block ?_ | refine cw_skip ?_ | refine cw_exit ?_ | refine cw_ret ?_ | refine cw_label ?_ | refine cw_scope ?_ | refine inB_same ?_ | refine inB_n ?_ | refine inB_r ?_ | refine wIo ?_ | refine noG_n ?_ | refine noG_r ?_ | refine noG_e ?_))
    exact ret1 (v := .pointer (some ⟨mb, 0, none⟩)) rfl rfl (sub_mk ⟨mb, q, c, PB, B, rfl, hq, hM, rfl⟩)
end Go.Proofs.Ytnijpdehchdinaa
