/-
  The document's example holds.
-/
import Derived.Test.YtnijpdehchdinaaPlay
set_option linter.unusedVariables false
set_option linter.unusedSimpArgs false
namespace Go.Hl
theorem slRd_of {h0 : Array Obj} {L : List Blk} {s b m : Nat} {xs : List Value} {e : TypeId} (hb : (b, xs, e) ∈ L) (hl : xs.length = m * s) (hm : m ≤ maxLen) : SlRd h0 L s (some ⟨b, 0, none⟩) m m xs :=
  ⟨hl, Nat.le_refl _, by simpa [maxLen] using hm, fun _ => ⟨b, 0, xs, rfl, rd_mem hb, fun j u hu => by rw [Nat.zero_add]; exact hu⟩⟩
theorem Vec.mk {s : Nat} {e : TypeId} {b m : Nat} {xs : List Value} (hl : xs.length = m * s) (hm : m ≤ maxLen) : Vec s e (some ⟨b, 0, none⟩) m m xs [(b, xs, e)] := by
  have := Vec.row (s := s) (e := e) b m m xs [] hl (by simpa using hl) (Nat.le_refl _) hm
  simpa using this
end Go.Hl
namespace Go.Am
open Go.Pm
def stepN (p : Prog) : Nat → Mach → Mach
  | 0, m => m
  | n + 1, m => stepN p n (step p m).2
theorem stepN_succ (p : Prog) : ∀ (n : Nat) (m : Mach), stepN p (n + 1) m = (step p (stepN p n m)).2
  | 0, _ => rfl
  | n + 1, m => stepN_succ p n _
theorem stepN_len (p : Prog) : ∀ (n : Nat) (m : Mach), (stepN p n m).trace.length ≤ m.trace.length + n ∧ (stepN p n m).frames.length ≤ m.frames.length + n
  | 0, m => by simp [stepN]
  | n + 1, m => by
    have h1 := step_len p m
    have h2 := stepN_len p n (step p m).2
    rw [stepN]
    omega
theorem stepN_inv {p : Prog} {D : Nat → List Int} : ∀ (n : Nat) {m : Mach}, Inv p D m → Inv p D (stepN p n m)
  | 0, _, h => h
  | n + 1, _, h => stepN_inv n (step_inv h)
/-- The document's example. -/
def outs (a b : Int) : Prog := [⟨0, 0, 0, [⟨1, a, 0⟩, ⟨22, 0, 0⟩, ⟨1, b, 0⟩, ⟨18, 0, 0⟩]⟩]
theorem outs_valid : Valid (outs 1 2) := by
  refine ⟨by simp [outs], by simp [outs], ?_, ?_, ?_⟩
  · intro f hf; simp [outs] at hf; subst hf; decide
  · intro f hf i hi; simp [outs] at hf; subst hf; simp at hi; rcases hi with rfl | rfl | rfl | rfl <;> decide
  · intro f hf; simp [outs] at hf; subst hf
    exact ⟨_, fits_on (by simp [goesOn, behind, pops, pushes])⟩
theorem outs_step (i : Nat) (h : i < 6) : (step (outs 1 2) (stepN (outs 1 2) i (new 0))).1 = 0 := by
  match i, h with
  | 0, _ => rfl
  | 1, _ => rfl
  | 2, _ => rfl
  | 3, _ => rfl
  | 4, _ => rfl
  | 5, _ => rfl
theorem outs_dead : step (outs 1 2) (stepN (outs 1 2) 6 (new 0)) = (7, stepN (outs 1 2) 6 (new 0)) := rfl
theorem outs_dead2 : (step (outs 1 2) (stepN (outs 1 2) 6 (new 0))).2 = stepN (outs 1 2) 6 (new 0) := by rw [outs_dead]
theorem outs_end : (stepN (outs 1 2) 6 (new 0)).ended = true ∧ (stepN (outs 1 2) 6 (new 0)).trace = [(1, Fl.int 1), (3, Fl.int 2)] := ⟨rfl, rfl⟩
end Go.Am
namespace Go.Proofs.Ytnijpdehchdinaa
open Go Go.Proofs Go.Hl Go.Am
variable {h0 : Array Obj}

theorem outs_fn (L : List Blk) (a b : Int) : Ct Try.prog h0 35 [.int .i64 a, .int .i64 b] L fun v L' => ∃ fb PB, v = .agg #[.slice (some ⟨fb, 0, none⟩) 1 1] ∧ ProgRd h0 PB (some ⟨fb, 0, none⟩) 1 1 (outs a b) ∧ L' = PB ++ L := by
  refine fn_of Try.func35 rfl rfl ?_
  repeat' (first | with_reducible (first | refine thenQ_n ?_ | refine thenQ_e ?_ | refine thenQ_r ?_ | refine ow_nil ?_) | (first | refine wY ?_ | refine wA ?_ | refine wS ?_ | refine wL (fun bk => ?_) | refine wB (fun bk => ?_) | refine wX (fun bk => ?_) | refine wB0 (fun bk => ?_) | refine wB1 (fun bk => ?_) | refine wB1o (fun bk => ?_) | refine wB2o (fun bk => ?_) | refine wG ?_ | (refine wGd (fun hb => ?_) (fun hb => ?_) <;> try (exfalso; omega)) | (refine wGe (fun hb => ?_) (fun hb => ?_) <;> try (exfalso; omega)) | (refine wGn (fun hb => ?_) (fun hb => ?_) <;> try (exfalso; omega))) | with_reducible (first | refine cw_then ?_ | refine cw_region ?_ | refine wCt ?_ | refine wCf ?_) | (((with_reducible refine wCd (fun hb => ?_) (fun hb => ?_)) <;> try subst hb) <;> try (exfalso; omega)) | (((with_reducible refine wCe (fun hb => ?_) (fun hb => ?_)) <;> try subst hb) <;> try (exfalso; omega)) | ((with_reducible refine wCn (fun hb => ?_) (fun hb => ?_)) <;> try (exfalso; omega)) | ((with_reducible refine wCo (fun hb => ?_) (fun hb => ?_))) | ((with_reducible refine wCi (fun hb => ?_) (fun hb => ?_))) | with_reducible (first | refine cw_block ?_ | refine cw_skip ?_ | refine cw_exit ?_ | refine cw_ret ?_ | refine cw_label ?_ | refine cw_scope ?_ | refine inB_same ?_ | refine inB_n ?_ | refine inB_r ?_ | refine wIo ?_ | refine noG_n ?_ | refine noG_r ?_ | refine noG_e ?_))
  refine ow_ylx ⟨_, yl_build [(0, .int .i64 1), (1, .int .i64 a)] (.agg #[.int .i64 1, .int .i64 a, .int .i64 0]) rfl (fun w => by simp [go_sem]), ?_⟩
  refine ow_ylx ⟨_, yl_build [(0, .int .i64 22)] (.agg #[.int .i64 22, .int .i64 0, .int .i64 0]) rfl (fun w => by simp [go_sem]), ?_⟩
  repeat (first | refine wY ?_ | refine wA ?_ | refine wS ?_ | refine wL (fun bk => ?_) | refine wB (fun bk => ?_) | refine wX (fun bk => ?_) | refine wB0 (fun bk => ?_) | refine wB1 (fun bk => ?_) | refine wB1o (fun bk => ?_) | refine wB2o (fun bk => ?_) | refine wG ?_ | (refine wGd (fun hb => ?_) (fun hb => ?_)) | (refine wGe (fun hb => ?_) (fun hb => ?_)) | (refine wGn (fun hb => ?_) (fun hb => ?_)))
  refine ow_ylx ⟨_, yl_build [(0, .int .i64 1), (1, .int .i64 b)] (.agg #[.int .i64 1, .int .i64 b, .int .i64 0]) rfl (fun w => by simp [go_sem]), ?_⟩
  refine ow_ylx ⟨_, yl_build [(0, .int .i64 18)] (.agg #[.int .i64 18, .int .i64 0, .int .i64 0]) rfl (fun w => by simp [go_sem]), ?_⟩
  refine wBL [[.int .i64 1, .int .i64 a, .int .i64 0], [.int .i64 22, .int .i64 0, .int .i64 0], [.int .i64 1, .int .i64 b, .int .i64 0], [.int .i64 18, .int .i64 0, .int .i64 0]] [.int .i64 1, .int .i64 a, .int .i64 0, .int .i64 22, .int .i64 0, .int .i64 0, .int .i64 1, .int .i64 b, .int .i64 0, .int .i64 18, .int .i64 0, .int .i64 0] (fun cb => ?_)
  refine ow_ylx ⟨_, yl_build [(3, .slice (some ⟨cb, 0, none⟩) 4 4)] (.agg #[.int .i64 0, .int .i64 0, .int .i64 0, .slice (some ⟨cb, 0, none⟩) 4 4]) rfl (fun w => by simp [go_sem]), ?_⟩
  refine wBL [[.int .i64 0, .int .i64 0, .int .i64 0, .slice (some ⟨cb, 0, none⟩) 4 4]] [.int .i64 0, .int .i64 0, .int .i64 0, .slice (some ⟨cb, 0, none⟩) 4 4] (fun fb => ?_)
  refine ow_ylx ⟨_, yl_build [(0, .slice (some ⟨fb, 0, none⟩) 1 1)] (.agg #[.slice (some ⟨fb, 0, none⟩) 1 1]) rfl (fun w => by simp [go_sem]), ?_⟩
  repeat' (first | with_reducible (first | refine thenQ_n ?_ | refine thenQ_e ?_ | refine thenQ_r ?_ | refine ow_nil ?_) | (first | refine wY ?_ | refine wA ?_ | refine wS ?_ | refine wL (fun bk => ?_) | refine wB (fun bk => ?_) | refine wX (fun bk => ?_) | refine wB0 (fun bk => ?_) | refine wB1 (fun bk => ?_) | refine wB1o (fun bk => ?_) | refine wB2o (fun bk => ?_) | refine wG ?_ | (refine wGd (fun hb => ?_) (fun hb => ?_) <;> try (exfalso; omega)) | (refine wGe (fun hb => ?_) (fun hb => ?_) <;> try (exfalso; omega)) | (refine wGn (fun hb => ?_) (fun hb => ?_) <;> try (exfalso; omega))) | with_reducible (first | refine cw_then ?_ | refine cw_region ?_ | refine wCt ?_ | refine wCf ?_) | (((with_reducible refine wCd (fun hb => ?_) (fun hb => ?_)) <;> try subst hb) <;> try (exfalso; omega)) | (((with_reducible refine wCe (fun hb => ?_) (fun hb => ?_)) <;> try subst hb) <;> try (exfalso; omega)) | ((with_reducible refine wCn (fun hb => ?_) (fun hb => ?_)) <;> try (exfalso; omega)) | ((with_reducible refine wCo (fun hb => ?_) (fun hb => ?_))) | ((with_reducible refine wCi (fun hb => ?_) (fun hb => ?_))) | with_reducible (first | refine cw_block ?_ | refine cw_skip ?_ | refine cw_exit ?_ | refine cw_ret ?_ | refine cw_label ?_ | refine cw_scope ?_ | refine inB_same ?_ | refine inB_n ?_ | refine inB_r ?_ | refine wIo ?_ | refine noG_n ?_ | refine noG_r ?_ | refine noG_e ?_))
  refine retc (vs := [.slice (some ⟨fb, 0, none⟩) 1 1]) rfl rfl (sub_mk (L' := [(fb, [.int .i64 0, .int .i64 0, .int .i64 0, .slice (some ⟨cb, 0, none⟩) 4 4], 26), (cb, [.int .i64 1, .int .i64 a, .int .i64 0, .int .i64 22, .int .i64 0, .int .i64 0, .int .i64 1, .int .i64 b, .int .i64 0, .int .i64 18, .int .i64 0, .int .i64 0], 23)] ++ L) ⟨fb, _, rfl, ⟨[⟨⟨0, 0, 0, [⟨1, a, 0⟩, ⟨22, 0, 0⟩, ⟨1, b, 0⟩, ⟨18, 0, 0⟩]⟩, some ⟨cb, 0, none⟩, 4, 4⟩], rfl, slRd_of (List.mem_cons_self ..) rfl (by decide), ?_⟩, rfl⟩)
  intro r hr
  obtain rfl := List.mem_singleton.1 hr
  exact slRd_of (List.mem_cons_of_mem _ (List.mem_cons_self ..)) rfl (by show (4 : Nat) ≤ maxLen; decide)

theorem awake_fn (L : List Blk) : Ct Try.prog h0 16 [] L fun v L' => v = .bool true ∧ L' = L := by
  have hm : MayRun (outs 1 2) 0 := ⟨outs_valid, by decide, by simp [outs], rfl⟩
  obtain ⟨D, hD⟩ := Valid.fam hm.1
  have hI : Inv (outs 1 2) D (Am.new 0) := Inv.new hm.1 hD hm.2.1 hm.2.2.1 hm.2.2.2
  refine fn_of Try.func16 rfl rfl ?_
  repeat' (first | with_reducible (first | refine thenQ_n ?_ | refine thenQ_e ?_ | refine thenQ_r ?_ | refine ow_nil ?_) | (first | refine wY ?_ | refine wA ?_ | refine wS ?_ | refine wL (fun bk => ?_) | refine wB (fun bk => ?_) | refine wX (fun bk => ?_) | refine wB0 (fun bk => ?_) | refine wB1 (fun bk => ?_) | refine wB1o (fun bk => ?_) | refine wB2o (fun bk => ?_) | refine wG ?_ | (refine wGd (fun hb => ?_) (fun hb => ?_) <;> try (exfalso; omega)) | (refine wGe (fun hb => ?_) (fun hb => ?_) <;> try (exfalso; omega)) | (refine wGn (fun hb => ?_) (fun hb => ?_) <;> try (exfalso; omega))) | with_reducible (first | refine cw_then ?_ | refine cw_region ?_ | refine wCt ?_ | refine wCf ?_) | (((with_reducible refine wCd (fun hb => ?_) (fun hb => ?_)) <;> try subst hb) <;> try (exfalso; omega)) | (((with_reducible refine wCe (fun hb => ?_) (fun hb => ?_)) <;> try subst hb) <;> try (exfalso; omega)) | ((with_reducible refine wCn (fun hb => ?_) (fun hb => ?_)) <;> try (exfalso; omega)) | ((with_reducible refine wCo (fun hb => ?_) (fun hb => ?_))) | ((with_reducible refine wCi (fun hb => ?_) (fun hb => ?_))) | with_reducible (first | refine cw_block ?_ | refine cw_skip ?_ | refine cw_exit ?_ | refine cw_ret ?_ | refine cw_label ?_ | refine cw_scope ?_ | refine inB_same ?_ | refine inB_n ?_ | refine inB_r ?_ | refine wIo ?_ | refine noG_n ?_ | refine noG_r ?_ | refine noG_e ?_))
  refine ow_call_all (outs_fn _ 1 2) rfl (fun v L' hv => ?_)
  obtain ⟨fb, PB0, rfl, hp, rfl⟩ := hv
  repeat (first | refine wY ?_ | refine wA ?_ | refine wS ?_ | refine wL (fun bk => ?_) | refine wB (fun bk => ?_) | refine wX (fun bk => ?_) | refine wB0 (fun bk => ?_) | refine wB1 (fun bk => ?_) | refine wB1o (fun bk => ?_) | refine wB2o (fun bk => ?_) | refine wG ?_ | (refine wGd (fun hb => ?_) (fun hb => ?_)) | (refine wGe (fun hb => ?_) (fun hb => ?_)) | (refine wGn (fun hb => ?_) (fun hb => ?_)))
  refine ow_call_all (new_fn _ _ 1 1 _ (hp.mono (fun b cs h => by infer_instance)) 0) rfl (fun v L' hv => ?_)
  rcases hv with ⟨hn, _, _⟩ | ⟨_, mb, q, c, PB, rfl, hq, rfl⟩
  · exact absurd hm hn
  repeat' (first | with_reducible (first | refine thenQ_n ?_ | refine thenQ_e ?_ | refine thenQ_r ?_ | refine ow_nil ?_) | (first | refine wY ?_ | refine wA ?_ | refine wS ?_ | refine wL (fun bk => ?_) | refine wB (fun bk => ?_) | refine wX (fun bk => ?_) | refine wB0 (fun bk => ?_) | refine wB1 (fun bk => ?_) | refine wB1o (fun bk => ?_) | refine wB2o (fun bk => ?_) | refine wG ?_ | (refine wGd (fun hb => ?_) (fun hb => ?_) <;> try (exfalso; omega)) | (refine wGe (fun hb => ?_) (fun hb => ?_) <;> try (exfalso; omega)) | (refine wGn (fun hb => ?_) (fun hb => ?_) <;> try (exfalso; omega))) | with_reducible (first | refine cw_then ?_ | refine cw_region ?_ | refine wCt ?_ | refine wCf ?_) | (((with_reducible refine wCd (fun hb => ?_) (fun hb => ?_)) <;> try subst hb) <;> try (exfalso; omega)) | (((with_reducible refine wCe (fun hb => ?_) (fun hb => ?_)) <;> try subst hb) <;> try (exfalso; omega)) | ((with_reducible refine wCn (fun hb => ?_) (fun hb => ?_)) <;> try (exfalso; omega)) | ((with_reducible refine wCo (fun hb => ?_) (fun hb => ?_))) | ((with_reducible refine wCi (fun hb => ?_) (fun hb => ?_))) | with_reducible (first | refine cw_block ?_ | refine cw_skip ?_ | refine cw_exit ?_ | refine cw_ret ?_ | refine cw_label ?_ | refine cw_scope ?_ | refine inB_same ?_ | refine inB_n ?_ | refine inB_r ?_ | refine wIo ?_ | refine noG_n ?_ | refine noG_r ?_ | refine noG_e ?_))
  have hM0 : MRep mb q 1 c (Am.new 0) [(mb, mCells q 1 c (Am.new 0) none 0 0 none 0 0, 76)] := ⟨_, _, _, _, _, _, _, [], [], [], .nil, .nil, .nil, rfl⟩
  refine cw_loop' (fun j T L' => ∃ (i : Nat) (B : List Blk) (Lx : List Blk), j = 6 - i ∧ i ≤ 6 ∧ Sl T [(1, .pointer (some ⟨mb, 0, none⟩)), (2, .int .i64 i)] ∧ MRep mb q 1 c (stepN (outs 1 2) i (Am.new 0)) B ∧ Split L' (B ++ (PB ++ L)) Lx) 6
    ⟨0, _, _, rfl, Nat.zero_le _, ⟨rfl, rfl, trivial⟩, hM0, by infer_instance⟩ ?_
  rintro j T L' ⟨i, B, Lx, rfl, hi, hsl, hM, hS⟩
  obtain ⟨T0, rfl⟩ := sl_ov hsl
  clear hsl
  refine cw_canon (B ++ (PB ++ L)) ?_
  have hIi := stepN_inv i hI
  have hlen := stepN_len (outs 1 2) i (Am.new 0)
  simp [Am.new] at hlen
  by_cases hlt : i < 6
  · have hc := outs_step i hlt
    repeat' (first | with_reducible (first | refine thenQ_n ?_ | refine thenQ_e ?_ | refine thenQ_r ?_ | refine ow_nil ?_) | (first | refine wY ?_ | refine wA ?_ | refine wS ?_ | refine wL (fun bk => ?_) | refine wB (fun bk => ?_) | refine wX (fun bk => ?_) | refine wB0 (fun bk => ?_) | refine wB1 (fun bk => ?_) | refine wB1o (fun bk => ?_) | refine wB2o (fun bk => ?_) | refine wG ?_ | (refine wGd (fun hb => ?_) (fun hb => ?_) <;> try (exfalso; omega)) | (refine wGe (fun hb => ?_) (fun hb => ?_) <;> try (exfalso; omega)) | (refine wGn (fun hb => ?_) (fun hb => ?_) <;> try (exfalso; omega))) | with_reducible (first | refine cw_then ?_ | refine cw_region ?_ | refine wCt ?_ | refine wCf ?_) | (((with_reducible refine wCd (fun hb => ?_) (fun hb => ?_)) <;> try subst hb) <;> try (exfalso; omega)) | (((with_reducible refine wCe (fun hb => ?_) (fun hb => ?_)) <;> try subst hb) <;> try (exfalso; omega)) | ((with_reducible refine wCn (fun hb => ?_) (fun hb => ?_)) <;> try (exfalso; omega)) | ((with_reducible refine wCo (fun hb => ?_) (fun hb => ?_))) | ((with_reducible refine wCi (fun hb => ?_) (fun hb => ?_))) | with_reducible (first | refine cw_block ?_ | refine cw_skip ?_ | refine cw_exit ?_ | refine cw_ret ?_ | refine cw_label ?_ | refine cw_scope ?_ | refine inB_same ?_ | refine inB_n ?_ | refine inB_r ?_ | refine wIo ?_ | refine noG_n ?_ | refine noG_r ?_ | refine noG_e ?_))
    refine ow_call (step_fn mb q 1 c _ PB hq D _ hIi B hM (by simp [Am.new]; omega) (by simp [Am.new]; omega)) rfl (fun v L' hv => ?_)
    obtain ⟨rfl, B2, hM2, rfl⟩ := hv
    rw [hc]
    repeat' (first | with_reducible (first | refine thenQ_n ?_ | refine thenQ_e ?_ | refine thenQ_r ?_ | refine ow_nil ?_) | (first | refine wY ?_ | refine wA ?_ | refine wS ?_ | refine wL (fun bk => ?_) | refine wB (fun bk => ?_) | refine wX (fun bk => ?_) | refine wB0 (fun bk => ?_) | refine wB1 (fun bk => ?_) | refine wB1o (fun bk => ?_) | refine wB2o (fun bk => ?_) | refine wG ?_ | (refine wGd (fun hb => ?_) (fun hb => ?_) <;> try (exfalso; omega)) | (refine wGe (fun hb => ?_) (fun hb => ?_) <;> try (exfalso; omega)) | (refine wGn (fun hb => ?_) (fun hb => ?_) <;> try (exfalso; omega))) | with_reducible (first | refine cw_then ?_ | refine cw_region ?_ | refine wCt ?_ | refine wCf ?_) | (((with_reducible refine wCd (fun hb => ?_) (fun hb => ?_)) <;> try subst hb) <;> try (exfalso; omega)) | (((with_reducible refine wCe (fun hb => ?_) (fun hb => ?_)) <;> try subst hb) <;> try (exfalso; omega)) | ((with_reducible refine wCn (fun hb => ?_) (fun hb => ?_)) <;> try (exfalso; omega)) | ((with_reducible refine wCo (fun hb => ?_) (fun hb => ?_))) | ((with_reducible refine wCi (fun hb => ?_) (fun hb => ?_))) | with_reducible (first | refine cw_block ?_ | refine cw_skip ?_ | refine cw_exit ?_ | refine cw_ret ?_ | refine cw_label ?_ | refine cw_scope ?_ | refine inB_same ?_ | refine inB_n ?_ | refine inB_r ?_ | refine wIo ?_ | refine noG_n ?_ | refine noG_r ?_ | refine noG_e ?_))
    exact ⟨6 - (i + 1), by omega, i + 1, B2, [], rfl, by omega, ⟨rfl, rfl, trivial⟩, by rw [stepN_succ]; exact hM2, by infer_instance⟩
  · obtain rfl : i = 6 := by omega
    have he := outs_end
    have hd1 : (Am.step (outs 1 2) (stepN (outs 1 2) 6 (Am.new 0))).1 = 7 := (by rw [outs_dead])
    have hd2 : (Am.step (outs 1 2) (stepN (outs 1 2) 6 (Am.new 0))).2 = stepN (outs 1 2) 6 (Am.new 0) := outs_dead2
    repeat' (first | with_reducible (first | refine thenQ_n ?_ | refine thenQ_e ?_ | refine thenQ_r ?_ | refine ow_nil ?_) | (first | refine wY ?_ | refine wA ?_ | refine wS ?_ | refine wL (fun bk => ?_) | refine wB (fun bk => ?_) | refine wX (fun bk => ?_) | refine wB0 (fun bk => ?_) | refine wB1 (fun bk => ?_) | refine wB1o (fun bk => ?_) | refine wB2o (fun bk => ?_) | refine wG ?_ | (refine wGd (fun hb => ?_) (fun hb => ?_) <;> try (exfalso; omega)) | (refine wGe (fun hb => ?_) (fun hb => ?_) <;> try (exfalso; omega)) | (refine wGn (fun hb => ?_) (fun hb => ?_) <;> try (exfalso; omega))) | with_reducible (first | refine cw_then ?_ | refine cw_region ?_ | refine wCt ?_ | refine wCf ?_) | (((with_reducible refine wCd (fun hb => ?_) (fun hb => ?_)) <;> try subst hb) <;> try (exfalso; omega)) | (((with_reducible refine wCe (fun hb => ?_) (fun hb => ?_)) <;> try subst hb) <;> try (exfalso; omega)) | ((with_reducible refine wCn (fun hb => ?_) (fun hb => ?_)) <;> try (exfalso; omega)) | ((with_reducible refine wCo (fun hb => ?_) (fun hb => ?_))) | ((with_reducible refine wCi (fun hb => ?_) (fun hb => ?_))) | with_reducible (first | refine cw_block ?_ | refine cw_skip ?_ | refine cw_exit ?_ | refine cw_ret ?_ | refine cw_label ?_ | refine cw_scope ?_ | refine inB_same ?_ | refine inB_n ?_ | refine inB_r ?_ | refine wIo ?_ | refine noG_n ?_ | refine noG_r ?_ | refine noG_e ?_))
    refine ow_call_all (ended_rep hM _) rfl (fun v L' hv => ?_)
    obtain ⟨rfl, rfl⟩ := hv
    rw [he.1]
    repeat (first | refine wY ?_ | refine wA ?_ | refine wS ?_ | refine wL (fun bk => ?_) | refine wB (fun bk => ?_) | refine wX (fun bk => ?_) | refine wB0 (fun bk => ?_) | refine wB1 (fun bk => ?_) | refine wB1o (fun bk => ?_) | refine wB2o (fun bk => ?_) | refine wG ?_ | (refine wGd (fun hb => ?_) (fun hb => ?_)) | (refine wGe (fun hb => ?_) (fun hb => ?_)) | (refine wGn (fun hb => ?_) (fun hb => ?_)))
    refine ow_call (step_fn mb q 1 c _ PB hq D _ hIi B hM (by simp [Am.new]; omega) (by simp [Am.new]; omega)) rfl (fun v L' hv => ?_)
    obtain ⟨rfl, B2, hM2, rfl⟩ := hv
    rw [hd2] at hM2
    rw [hd1]
    repeat (first | refine wY ?_ | refine wA ?_ | refine wS ?_ | refine wL (fun bk => ?_) | refine wB (fun bk => ?_) | refine wX (fun bk => ?_) | refine wB0 (fun bk => ?_) | refine wB1 (fun bk => ?_) | refine wB1o (fun bk => ?_) | refine wB2o (fun bk => ?_) | refine wG ?_ | (refine wGd (fun hb => ?_) (fun hb => ?_) <;> try (exfalso; omega)) | (refine wGe (fun hb => ?_) (fun hb => ?_) <;> try (exfalso; omega)) | (refine wGn (fun hb => ?_) (fun hb => ?_) <;> try (exfalso; omega)))
    refine ow_call (trace_rep hM2 [] (by rw [he.2]; decide)) rfl (fun v L' hv => ?_)
    obtain ⟨p', c', X, rfl, hX, rfl⟩ := hv
    rw [he.2] at hX ⊢
    refine ow_call_all (fint_fn _ _) rfl (fun v L' hv => ?_)
    obtain ⟨rfl, rfl⟩ := hv
    refine ow_ylx ⟨_, yl_build [(0, .int .i64 1), (1, .int .u64 (Fl.int 1))] (.agg #[.int .i64 1, .int .u64 (Fl.int 1)]) rfl (fun w => by simp [go_sem]), ?_⟩
    refine ow_call_all (fint_fn _ _) rfl (fun v L' hv => ?_)
    obtain ⟨rfl, rfl⟩ := hv
    refine ow_ylx ⟨_, yl_build [(0, .int .i64 3), (1, .int .u64 (Fl.int 2))] (.agg #[.int .i64 3, .int .u64 (Fl.int 2)]) rfl (fun w => by simp [go_sem]), ?_⟩
    refine wBL [[.int .i64 1, .int .u64 (Fl.int 1)], [.int .i64 3, .int .u64 (Fl.int 2)]] [.int .i64 1, .int .u64 (Fl.int 1), .int .i64 3, .int .u64 (Fl.int 2)] (fun wb => ?_)
    refine ow_call_all (marks_fn _ p' _ c' [(1, Fl.int 1), (3, Fl.int 2)] (hX.slRd (fun q hq => ?_)) (some ⟨wb, 0, none⟩) 2 2 [(1, Fl.int 1), (3, Fl.int 2)] (slRd_of (List.mem_cons_self ..) rfl (by decide))) rfl (fun v L' hv => ?_)
    · simp [hq]
    obtain ⟨rfl, rfl⟩ := hv
    repeat' (first | with_reducible (first | refine thenQ_n ?_ | refine thenQ_e ?_ | refine thenQ_r ?_ | refine ow_nil ?_) | (first | refine wY ?_ | refine wA ?_ | refine wS ?_ | refine wL (fun bk => ?_) | refine wB (fun bk => ?_) | refine wX (fun bk => ?_) | refine wB0 (fun bk => ?_) | refine wB1 (fun bk => ?_) | refine wB1o (fun bk => ?_) | refine wB2o (fun bk => ?_) | refine wG ?_ | (refine wGd (fun hb => ?_) (fun hb => ?_) <;> try (exfalso; omega)) | (refine wGe (fun hb => ?_) (fun hb => ?_) <;> try (exfalso; omega)) | (refine wGn (fun hb => ?_) (fun hb => ?_) <;> try (exfalso; omega))) | with_reducible (first | refine cw_then ?_ | refine cw_region ?_ | refine wCt ?_ | refine wCf ?_) | (((with_reducible refine wCd (fun hb => ?_) (fun hb => ?_)) <;> try subst hb) <;> try (exfalso; omega)) | (((with_reducible refine wCe (fun hb => ?_) (fun hb => ?_)) <;> try subst hb) <;> try (exfalso; omega)) | ((with_reducible refine wCn (fun hb => ?_) (fun hb => ?_)) <;> try (exfalso; omega)) | ((with_reducible refine wCo (fun hb => ?_) (fun hb => ?_))) | ((with_reducible refine wCi (fun hb => ?_) (fun hb => ?_))) | with_reducible (first | refine cw_block ?_ | refine cw_skip ?_ | refine cw_exit ?_ | refine cw_ret ?_ | refine cw_label ?_ | refine cw_scope ?_ | refine inB_same ?_ | refine inB_n ?_ | refine inB_r ?_ | refine wIo ?_ | refine noG_n ?_ | refine noG_r ?_ | refine noG_e ?_))
    exact ret1 (v := .bool true) rfl (by simp [putD, upd]) (sub_mk ⟨rfl, rfl⟩)
end Go.Proofs.Ytnijpdehchdinaa
