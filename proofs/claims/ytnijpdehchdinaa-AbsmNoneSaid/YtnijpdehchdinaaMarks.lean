/-
  Traces held against each other: Prefix, SameMarks.
-/
import Derived.Test.YtnijpdehchdinaaRow
import Derived.Laws.StructEq
set_option linter.unusedVariables false
set_option linter.unusedSimpArgs false
namespace Go.Proofs.Ytnijpdehchdinaa
open Go Go.Proofs Go.Hl Go.Am
variable {h0 : Array Obj}

theorem yl_mark_ne {T : Slots} {L : List Blk} {d : Option Tmp} {ty : TypeId} {pos : String} {aft : Array Edge} {g : Option (Nat × Bool)} {t' : TypeId} {x y : Operand} {a b a' b' : Int} (hx : ev T x = .agg #[.int .i64 a, .int .u64 b]) (hy : ev T y = .agg #[.int .i64 a', .int .u64 b']) :
    Yl Try.prog h0 L T ⟨d, .binOp .neq 31 x y t', ty, pos, aft, g⟩ (.bool (!decide ((a, b) = (a', b')))) :=
  yl_bin hx hy (fun w => run_eqGuard_agg (P := Try.prog) w .neq 31 x y _ _ (by kernel_rfl)) (fun w => by
    rw [run_neq_struct, run_equalIn_agg w _ _ _ _ (by kernel_rfl) (by kernel_rfl)]
    have h3 := run_equalIn_int (P := Try.prog) w 9998 3 .i64 .i64 a a' Try.underlying3
    have h28 := run_equalIn_int (P := Try.prog) w 9998 28 .u64 .u64 b b' Try.underlying28
    simp only [Program.fieldsOf, Try.underlying31]
    simp [Op.eqFields, part, Try.isAgg3, Try.isAgg28, h3, h28]
    by_cases h1 : a = a' <;> by_cases h2 : b = b' <;> simp [h1, h2])

theorem SlRd_mark {L : List Blk} {pa : Option Addr} {m c : Nat} {xs : List (Int × Int)} (h : SlRd h0 L 2 pa m c (markCells xs)) (i : Nat) (hi : i < m) :
    ∃ b o cs x, pa = some ⟨b, o, none⟩ ∧ Rd h0 L b cs ∧ xs[i]? = some x ∧ Stretch cs (o + i * 2) 2 [.int .i64 x.1, .int .u64 x.2] := by
  have hlen := h.len
  rw [length_markCells] at hlen
  obtain ⟨b, o, cs, rfl, hrd, hat⟩ := h.rd (by omega)
  have hkr : i < xs.length := by omega
  have hr : xs[i]? = some xs[i] := List.getElem?_eq_getElem hkr
  refine ⟨b, o, cs, xs[i], rfl, hrd, hr, ⟨rfl, fun j v hv => ?_⟩⟩
  have := hat _ _ (flatMap_at (s := 2) (fun m : Int × Int => [.int .i64 m.1, .int .u64 m.2]) (fun _ => rfl) xs i j _ v hr hv)
  rw [← this]; congr 1; omega

/-- A trace begins with another one. -/
theorem prefix_fn (L : List Blk) (pa : Option Addr) (m c : Nat) (xs : List (Int × Int)) (ha : SlRd h0 L 2 pa m c (markCells xs)) (pb : Option Addr) (m' c' : Nat) (ys : List (Int × Int)) (hb : SlRd h0 L 2 pb m' c' (markCells ys)) :
    Ct Try.prog h0 25 [.slice pa m c, .slice pb m' c'] L fun v L' => v = .bool (decide (xs <+: ys)) ∧ L' = L := by
  have hl1 := ha.len
  have hl2 := hb.len
  have hc1 := ha.cap
  have hc2 := hb.cap
  have h63 := ha.cap63
  have h63' := hb.cap63
  rw [length_markCells] at hl1 hl2
  refine fn_of Try.func25 rfl rfl ?_
  have take_next : ∀ {l : List (Int × Int)} {i : Nat} {z : Int × Int}, l[i]? = some z → l.take (i + 1) = l.take i ++ [z] := fun h => by rw [List.take_add_one, h]; rfl
  repeat' (first | with_reducible (first | refine thenQ_n ?_ | refine thenQ_e ?_ | refine thenQ_r ?_ | refine ow_nil ?_) | (first | refine wY ?_ | refine wA ?_ | refine wS ?_ | refine wL (fun bk => ?_) | refine wB (fun bk => ?_) | refine wX (fun bk => ?_) | refine wB0 (fun bk => ?_) | refine wB1 (fun bk => ?_) | refine wB1o (fun bk => ?_) | refine wB2o (fun bk => ?_) | refine wG ?_ | (refine wGd (fun hb => ?_) (fun hb => ?_) <;> try (exfalso; omega)) | (refine wGe (fun hb => ?_) (fun hb => ?_) <;> try (exfalso; omega)) | (refine wGn (fun hb => ?_) (fun hb => ?_) <;> try (exfalso; omega))) | with_reducible (first | refine cw_then ?_ | refine cw_region ?_ | refine wCt ?_ | refine wCf ?_) | (((with_reducible refine wCd (fun hb => ?_) (fun hb => ?_)) <;> try subst hb) <;> try (exfalso; omega)) | (((with_reducible refine wCe (fun hb => ?_) (fun hb => ?_)) <;> try subst hb) <;> try (exfalso; omega)) | ((with_reducible refine wCn (fun hb => ?_) (fun hb => ?_)) <;> try (exfalso; omega)) | ((with_reducible refine wCo (fun hb => ?_) (fun hb => ?_))) | ((with_reducible refine wCi (fun hb => ?_) (fun hb => ?_))) | with_reducible (first | refine cw_block ?_ | refine cw_skip ?_ | refine cw_exit ?_ | refine cw_ret ?_ | refine cw_label ?_ | refine cw_scope ?_ | refine inB_same ?_ | refine inB_n ?_ | refine inB_r ?_ | refine wIo ?_ | refine noG_n ?_ | refine noG_r ?_ | refine noG_e ?_))
  · refine ret1 (v := .bool false) rfl rfl (sub_mk ⟨congrArg Value.bool (Eq.symm (decide_eq_false fun h => ?_)), rfl⟩)
    have := h.length_le; omega
  · refine cw_loop' (fun k T L' => ∃ i : Nat, k = m - i ∧ i ≤ m ∧ Sl T [(0, .slice pa m c), (1, .slice pb m' c'), (5, .int .i64 i)] ∧ xs.take i = ys.take i ∧ L' = L) m ⟨0, rfl, Nat.zero_le _, ⟨rfl, rfl, rfl, trivial⟩, rfl, rfl⟩ ?_
    rintro k T L' ⟨i, rfl, hi, hsl, heq, rfl⟩
    obtain ⟨T0, rfl⟩ := sl_ov hsl
    by_cases hlt : i < m
    · obtain ⟨b1, o1, cs1, x, rfl, hrd1, hx, hs1⟩ := SlRd_mark ha i hlt
      obtain ⟨b2, o2, cs2, y, rfl, hrd2, hy, hs2⟩ := SlRd_mark hb i (by omega)
      obtain ⟨x1, x2⟩ := x
      obtain ⟨y1, y2⟩ := y
      repeat' (first | with_reducible (first | refine thenQ_n ?_ | refine thenQ_e ?_ | refine thenQ_r ?_ | refine ow_nil ?_) | (first | refine wY ?_ | refine wA ?_ | refine wS ?_ | refine wL (fun bk => ?_) | refine wB (fun bk => ?_) | refine wX (fun bk => ?_) | refine wB0 (fun bk => ?_) | refine wB1 (fun bk => ?_) | refine wB1o (fun bk => ?_) | refine wB2o (fun bk => ?_) | refine wG ?_ | (refine wGd (fun hb => ?_) (fun hb => ?_) <;> try (exfalso; omega)) | (refine wGe (fun hb => ?_) (fun hb => ?_) <;> try (exfalso; omega)) | (refine wGn (fun hb => ?_) (fun hb => ?_) <;> try (exfalso; omega))) | with_reducible (first | refine cw_then ?_ | refine cw_region ?_ | refine wCt ?_ | refine wCf ?_) | (((with_reducible refine wCd (fun hb => ?_) (fun hb => ?_)) <;> try subst hb) <;> try (exfalso; omega)) | (((with_reducible refine wCe (fun hb => ?_) (fun hb => ?_)) <;> try subst hb) <;> try (exfalso; omega)) | ((with_reducible refine wCn (fun hb => ?_) (fun hb => ?_)) <;> try (exfalso; omega)) | ((with_reducible refine wCo (fun hb => ?_) (fun hb => ?_))) | ((with_reducible refine wCi (fun hb => ?_) (fun hb => ?_))) | with_reducible (first | refine cw_block ?_ | refine cw_skip ?_ | refine cw_exit ?_ | refine cw_ret ?_ | refine cw_label ?_ | refine cw_scope ?_ | refine inB_same ?_ | refine inB_n ?_ | refine inB_r ?_ | refine wIo ?_ | refine noG_n ?_ | refine noG_r ?_ | refine noG_e ?_))
      refine cw_drawn 9 rfl rfl ?_
      repeat (first | refine wN ?_ | refine wK ?_)
      refine wV 8 rfl (yl_mark_ne rfl rfl) ?_
      refine wZ ?_
      repeat' (first | with_reducible (first | refine thenQ_n ?_ | refine thenQ_e ?_ | refine thenQ_r ?_ | refine ow_nil ?_) | (first | refine wY ?_ | refine wA ?_ | refine wS ?_ | refine wL (fun bk => ?_) | refine wB (fun bk => ?_) | refine wX (fun bk => ?_) | refine wB0 (fun bk => ?_) | refine wB1 (fun bk => ?_) | refine wB1o (fun bk => ?_) | refine wB2o (fun bk => ?_) | refine wG ?_ | (refine wGd (fun hb => ?_) (fun hb => ?_) <;> try (exfalso; omega)) | (refine wGe (fun hb => ?_) (fun hb => ?_) <;> try (exfalso; omega)) | (refine wGn (fun hb => ?_) (fun hb => ?_) <;> try (exfalso; omega))) | with_reducible (first | refine cw_then ?_ | refine cw_region ?_ | refine wCt ?_ | refine wCf ?_) | (((with_reducible refine wCd (fun hb => ?_) (fun hb => ?_)) <;> try subst hb) <;> try (exfalso; omega)) | (((with_reducible refine wCe (fun hb => ?_) (fun hb => ?_)) <;> try subst hb) <;> try (exfalso; omega)) | ((with_reducible refine wCn (fun hb => ?_) (fun hb => ?_)) <;> try (exfalso; omega)) | ((with_reducible refine wCo (fun hb => ?_) (fun hb => ?_))) | ((with_reducible refine wCi (fun hb => ?_) (fun hb => ?_))) | with_reducible (first | refine cw_block ?_ | refine cw_skip ?_ | refine cw_exit ?_ | refine cw_ret ?_ | refine cw_label ?_ | refine cw_scope ?_ | refine inB_same ?_ | refine inB_n ?_ | refine inB_r ?_ | refine wIo ?_ | refine noG_n ?_ | refine noG_r ?_ | refine noG_e ?_))
      · refine ret1 (v := .bool false) rfl rfl (sub_mk ⟨congrArg Value.bool (Eq.symm (decide_eq_false fun h => ?_)), rfl⟩)
        obtain ⟨t, ht⟩ := h
        rw [← ht, List.getElem?_append_left (by omega), hx] at hy
        simp_all
      · have exy : (x1, x2) = (y1, y2) := by simp_all
        exact ⟨m - (i + 1), by omega, i + 1, rfl, by omega, ⟨rfl, rfl, rfl, trivial⟩, by rw [take_next hx, take_next hy, heq, exy], rfl⟩
    · repeat' (first | with_reducible (first | refine thenQ_n ?_ | refine thenQ_e ?_ | refine thenQ_r ?_ | refine ow_nil ?_) | (first | refine wY ?_ | refine wA ?_ | refine wS ?_ | refine wL (fun bk => ?_) | refine wB (fun bk => ?_) | refine wX (fun bk => ?_) | refine wB0 (fun bk => ?_) | refine wB1 (fun bk => ?_) | refine wB1o (fun bk => ?_) | refine wB2o (fun bk => ?_) | refine wG ?_ | (refine wGd (fun hb => ?_) (fun hb => ?_) <;> try (exfalso; omega)) | (refine wGe (fun hb => ?_) (fun hb => ?_) <;> try (exfalso; omega)) | (refine wGn (fun hb => ?_) (fun hb => ?_) <;> try (exfalso; omega))) | with_reducible (first | refine cw_then ?_ | refine cw_region ?_ | refine wCt ?_ | refine wCf ?_) | (((with_reducible refine wCd (fun hb => ?_) (fun hb => ?_)) <;> try subst hb) <;> try (exfalso; omega)) | (((with_reducible refine wCe (fun hb => ?_) (fun hb => ?_)) <;> try subst hb) <;> try (exfalso; omega)) | ((with_reducible refine wCn (fun hb => ?_) (fun hb => ?_)) <;> try (exfalso; omega)) | ((with_reducible refine wCo (fun hb => ?_) (fun hb => ?_))) | ((with_reducible refine wCi (fun hb => ?_) (fun hb => ?_))) | with_reducible (first | refine cw_block ?_ | refine cw_skip ?_ | refine cw_exit ?_ | refine cw_ret ?_ | refine cw_label ?_ | refine cw_scope ?_ | refine inB_same ?_ | refine inB_n ?_ | refine inB_r ?_ | refine wIo ?_ | refine noG_n ?_ | refine noG_r ?_ | refine noG_e ?_))
      refine ret1 (v := .bool true) rfl rfl (sub_mk ⟨congrArg Value.bool (Eq.symm (decide_eq_true ?_)), rfl⟩)
      rw [List.take_of_length_le (by omega)] at heq
      rw [heq]; exact List.take_prefix ..

theorem same_fn (L : List Blk) (pa : Option Addr) (m c : Nat) (xs : List (Int × Int)) (hsa : SlRd h0 L 2 pa m c (markCells xs)) (pb : Option Addr) (m' c' : Nat) (ys : List (Int × Int)) (hsb : SlRd h0 L 2 pb m' c' (markCells ys)) :
    Ct Try.prog h0 28 [.slice pa m c, .slice pb m' c'] L fun v L' => v = .bool (decide (xs = ys)) ∧ L' = L := by
  have hl1 := hsa.len
  have hl2 := hsb.len
  rw [length_markCells] at hl1 hl2
  refine fn_of Try.func28 rfl rfl ?_
  repeat' (first | (first | with_reducible (first | refine thenQ_n ?_ | refine thenQ_e ?_ | refine thenQ_r ?_ | refine ow_nil ?_) | (first | refine wY ?_ | refine wA ?_ | refine wS ?_ | refine wL (fun bk => ?_) | refine wB (fun bk => ?_) | refine wX (fun bk => ?_) | refine wB0 (fun bk => ?_) | refine wB1 (fun bk => ?_) | refine wB1o (fun bk => ?_) | refine wB2o (fun bk => ?_) | refine wG ?_ | (refine wGd (fun hb => ?_) (fun hb => ?_) <;> try (exfalso; omega)) | (refine wGe (fun hb => ?_) (fun hb => ?_) <;> try (exfalso; omega)) | (refine wGn (fun hb => ?_) (fun hb => ?_) <;> try (exfalso; omega))) | with_reducible (first | refine cw_then ?_ | refine cw_region ?_ | refine wCt ?_ | refine wCf ?_) | (((with_reducible refine wCd (fun hb => ?_) (fun hb => ?_)) <;> try subst hb) <;> try (exfalso; omega)) | (((with_reducible refine wCe (fun hb => ?_) (fun hb => ?_)) <;> try subst hb) <;> try (exfalso; omega)) | ((with_reducible refine wCn (fun hb => ?_) (fun hb => ?_)) <;> try (exfalso; omega)) | ((with_reducible refine wCo (fun hb => ?_) (fun hb => ?_))) | ((with_reducible refine wCi (fun hb => ?_) (fun hb => ?_))) | with_reducible (first | refine cw_block ?_ | refine cw_skip ?_ | refine cw_exit ?_ | refine cw_ret ?_ | refine cw_label ?_ | refine cw_scope ?_ | refine inB_same ?_ | refine inB_n ?_ | refine inB_r ?_ | refine wIo ?_ | refine noG_n ?_ | refine noG_r ?_ | refine noG_e ?_)) | (refine ow_call_all (prefix_fn _ pa m c xs hsa pb m' c' ys hsb) rfl (fun v L' hv => ?_); obtain ⟨rfl, rfl⟩ := hv))
  · refine ret1 (v := .bool _) rfl rfl (sub_mk ⟨congrArg Value.bool ?_, rfl⟩)
    rw [decide_eq_decide]
    refine ⟨fun h => h.eq_of_length (by omega), fun h => h ▸ List.prefix_refl _⟩
  · refine ret1 (v := .bool false) rfl rfl (sub_mk ⟨congrArg Value.bool (Eq.symm (decide_eq_false fun h => ?_)), rfl⟩)
    rw [h] at hl1; omega
theorem marks_fn (L : List Blk) (pa : Option Addr) (m c : Nat) (xs : List (Int × Int)) (hsa : SlRd h0 L 2 pa m c (markCells xs)) (pb : Option Addr) (m' c' : Nat) (ys : List (Int × Int)) (hsb : SlRd h0 L 2 pb m' c' (markCells ys)) :
    Ct Try.prog h0 14 [.slice pa m c, .slice pb m' c'] L fun v L' => v = .bool (decide (xs = ys)) ∧ L' = L := by
  refine fn_of Try.func14 rfl rfl ?_
  repeat' (first | (first | with_reducible (first | refine thenQ_n ?_ | refine thenQ_e ?_ | refine thenQ_r ?_ | refine ow_nil ?_) | (first | refine wY ?_ | refine wA ?_ | refine wS ?_ | refine wL (fun bk => ?_) | refine wB (fun bk => ?_) | refine wX (fun bk => ?_) | refine wB0 (fun bk => ?_) | refine wB1 (fun bk => ?_) | refine wB1o (fun bk => ?_) | refine wB2o (fun bk => ?_) | refine wG ?_ | (refine wGd (fun hb => ?_) (fun hb => ?_) <;> try (exfalso; omega)) | (refine wGe (fun hb => ?_) (fun hb => ?_) <;> try (exfalso; omega)) | (refine wGn (fun hb => ?_) (fun hb => ?_) <;> try (exfalso; omega))) | with_reducible (first | refine cw_then ?_ | refine cw_region ?_ | refine wCt ?_ | refine wCf ?_) | (((with_reducible refine wCd (fun hb => ?_) (fun hb => ?_)) <;> try subst hb) <;> try (exfalso; omega)) | (((with_reducible refine wCe (fun hb => ?_) (fun hb => ?_)) <;> try subst hb) <;> try (exfalso; omega)) | ((with_reducible refine wCn (fun hb => ?_) (fun hb => ?_)) <;> try (exfalso; omega)) | ((with_reducible refine wCo (fun hb => ?_) (fun hb => ?_))) | ((with_reducible refine wCi (fun hb => ?_) (fun hb => ?_))) | with_reducible (first | refine cw_block ?_ | refine cw_skip ?_ | refine cw_exit ?_ | refine cw_ret ?_ | refine cw_label ?_ | refine cw_scope ?_ | refine inB_same ?_ | refine inB_n ?_ | refine inB_r ?_ | refine wIo ?_ | refine noG_n ?_ | refine noG_r ?_ | refine noG_e ?_)) | (refine ow_call_all (same_fn _ pa m c xs hsa pb m' c' ys hsb) rfl (fun v L' hv => ?_); obtain ⟨rfl, rfl⟩ := hv))
  exact ret1 (v := .bool _) rfl rfl (sub_mk ⟨rfl, rfl⟩)
end Go.Proofs.Ytnijpdehchdinaa
