/-
  Package prog: depths.
-/
import Derived.Test.YtnijpdehchdinaaPgB
import Derived.Test.YtnijpdehchdinaaHlW
import Derived.Test.YtnijpdehchdinaaPmD
set_option linter.unusedVariables false
set_option linter.unusedSimpArgs false
namespace Go.Proofs.Ytnijpdehchdinaa
open Go Go.Proofs Go.Hl
variable {h0 : Array Obj}

/-- What depths comes to. -/
def DepthsR (p : Pm.Prog) (code : List Pm.Instr) (L : List Blk) (v : Value) (L' : List Blk) : Prop :=
  (∃ D q, Pm.Snd p code D ∧ Pm.Fits p code D ∧ v = .tuple #[.slice (some ⟨q, 0, none⟩) code.length code.length, .int .i64 0, .bool true] ∧ L' = (q, ints .i64 D, 3) :: L) ∨
  ((¬ ∃ D, Pm.Fits p code D) ∧ (∃ at_ : Nat, at_ < code.length ∧ v = .tuple #[.slice none 0 0, .int .i64 at_, .bool false]) ∧ L' = L)

set_option maxHeartbeats 4000000 in
theorem depths_fn (L : List Blk) (pa : Option Addr) (pm pc : Nat) (p : Pm.Prog) (hp : ProgRd h0 L pa pm pc p) (hps : ∀ f ∈ p, Pm.sized f = true) (code : List Pm.Instr) (ca : Option Addr) (cm cc : Nat) (hs : SlRd h0 L 3 ca cm cc (instrCells code))
    (hc1 : 1 ≤ cm) (hc2 : cm ≤ 64) (hj_ : ∀ i ∈ code, i.op = 15 ∨ i.op = 16 → 0 ≤ i.a ∧ i.a < 64) :
    Ct Try.prog h0 49 [.agg #[.slice pa pm pc], .slice ca cm cc] L (DepthsR p code L) := by
  have hlen := hs.len
  rw [length_instrCells] at hlen
  have hcap := hs.cap
  have h63 := hs.cap63
  have hcl : code.length = cm := by omega
  refine fn_of Try.func49 rfl rfl ?_
  repeat' (first | with_reducible (first | refine thenQ_n ?_ | refine thenQ_e ?_ | refine thenQ_r ?_ | refine ow_nil ?_) | (first | refine wY ?_ | refine wA ?_ | refine wS ?_ | refine wL (fun bk => ?_) | refine wB (fun bk => ?_) | refine wX (fun bk => ?_) | refine wB0 (fun bk => ?_) | refine wB1 (fun bk => ?_) | refine wB1o (fun bk => ?_) | refine wB2o (fun bk => ?_) | refine wG ?_ | (refine wGd (fun hb => ?_) (fun hb => ?_)) | (refine wGe (fun hb => ?_) (fun hb => ?_)) | (refine wGn (fun hb => ?_) (fun hb => ?_))) | with_reducible (first | refine cw_then ?_ | refine cw_region ?_ | refine wCt ?_ | refine wCf ?_) | ((with_reducible refine wCd (fun hb => ?_) (fun hb => ?_)) <;> try subst hb) | ((with_reducible refine wCe (fun hb => ?_) (fun hb => ?_)) <;> try subst hb) | ((with_reducible refine wCn (fun hb => ?_) (fun hb => ?_))) | ((with_reducible refine wCo (fun hb => ?_) (fun hb => ?_))) | ((with_reducible refine wCi (fun hb => ?_) (fun hb => ?_))) | with_reducible (first | refine cw_block ?_ | refine cw_skip ?_ | refine cw_exit ?_ | refine cw_ret ?_ | refine cw_label ?_ | refine cw_scope ?_ | refine inB_same ?_ | refine inB_n ?_ | refine inB_r ?_ | refine wIo ?_ | refine noG_n ?_ | refine noG_r ?_ | refine noG_e ?_))
  rename Nat => bp
  refine ow_makeSlice1 rfl rfl rfl (by omega) (by omega) (by omega) (fun q => ?_)
  repeat' (first | with_reducible (first | refine thenQ_n ?_ | refine thenQ_e ?_ | refine thenQ_r ?_ | refine ow_nil ?_) | (first | refine wY ?_ | refine wA ?_ | refine wS ?_ | refine wL (fun bk => ?_) | refine wB (fun bk => ?_) | refine wX (fun bk => ?_) | refine wB0 (fun bk => ?_) | refine wB1 (fun bk => ?_) | refine wB1o (fun bk => ?_) | refine wB2o (fun bk => ?_) | refine wG ?_ | (refine wGd (fun hb => ?_) (fun hb => ?_)) | (refine wGe (fun hb => ?_) (fun hb => ?_)) | (refine wGn (fun hb => ?_) (fun hb => ?_))) | with_reducible (first | refine cw_then ?_ | refine cw_region ?_ | refine wCt ?_ | refine wCf ?_) | ((with_reducible refine wCd (fun hb => ?_) (fun hb => ?_)) <;> try subst hb) | ((with_reducible refine wCe (fun hb => ?_) (fun hb => ?_)) <;> try subst hb) | ((with_reducible refine wCn (fun hb => ?_) (fun hb => ?_))) | ((with_reducible refine wCo (fun hb => ?_) (fun hb => ?_))) | ((with_reducible refine wCi (fun hb => ?_) (fun hb => ?_))) | with_reducible (first | refine cw_block ?_ | refine cw_skip ?_ | refine cw_exit ?_ | refine cw_ret ?_ | refine cw_label ?_ | refine cw_scope ?_ | refine inB_same ?_ | refine inB_n ?_ | refine inB_r ?_ | refine wIo ?_ | refine noG_n ?_ | refine noG_r ?_ | refine noG_e ?_))
  refine cw_loop' (fun k T L' => ∃ (i : Nat) (D : List Int), k = cm - i ∧ 1 ≤ i ∧ i ≤ cm ∧ Sl T [(0, .agg #[.slice pa pm pc]), (1, .slice ca cm cc), (2, .pointer (some ⟨bp, 0, none⟩)), (7, .slice (some ⟨q, 0, none⟩) cm cm), (8, .int .i64 i)] ∧ D.length = cm ∧ D[0]? = some 0 ∧ (∀ k, 1 ≤ k → k < i → D[k]? = some (-1)) ∧ L' = (q, ints .i64 D, 3) :: (bp, [.slice pa pm pc], 34) :: L) (cm - 1) ⟨1, List.replicate cm 0, rfl, by omega, by omega, ⟨rfl, rfl, rfl, rfl, rfl, trivial⟩, by simp, by rw [List.getElem?_replicate, if_pos (by omega)], by intro k h1 h2; omega, by rw [ints_replicate]; rfl⟩ ?_
  rintro k T L' ⟨i, D, rfl, hi1, hi, hsl, hDl, hD0, hD1, rfl⟩
  obtain ⟨T0, rfl⟩ := sl_ov hsl
  by_cases hlt : i < cm
  · have hset := set_ints (k := .i64) (v := -1) (show i < D.length by omega)
    repeat' (first | with_reducible (first | refine thenQ_n ?_ | refine thenQ_e ?_ | refine thenQ_r ?_ | refine ow_nil ?_) | (first | refine wY ?_ | refine wA ?_ | refine wS ?_ | refine wL (fun bk => ?_) | refine wB (fun bk => ?_) | refine wX (fun bk => ?_) | refine wB0 (fun bk => ?_) | refine wB1 (fun bk => ?_) | refine wB1o (fun bk => ?_) | refine wB2o (fun bk => ?_) | refine wG ?_ | (refine wGd (fun hb => ?_) (fun hb => ?_) <;> try (exfalso; omega)) | (refine wGe (fun hb => ?_) (fun hb => ?_) <;> try (exfalso; omega)) | (refine wGn (fun hb => ?_) (fun hb => ?_) <;> try (exfalso; omega))) | with_reducible (first | refine cw_then ?_ | refine cw_region ?_ | refine wCt ?_ | refine wCf ?_) | (((with_reducible refine wCd (fun hb => ?_) (fun hb => ?_)) <;> try subst hb) <;> try (exfalso; omega)) | (((with_reducible refine wCe (fun hb => ?_) (fun hb => ?_)) <;> try subst hb) <;> try (exfalso; omega)) | ((with_reducible refine wCn (fun hb => ?_) (fun hb => ?_)) <;> try (exfalso; omega)) | ((with_reducible refine wCo (fun hb => ?_) (fun hb => ?_))) | ((with_reducible refine wCi (fun hb => ?_) (fun hb => ?_))) | with_reducible (first | refine cw_block ?_ | refine cw_skip ?_ | refine cw_exit ?_ | refine cw_ret ?_ | refine cw_label ?_ | refine cw_scope ?_ | refine inB_same ?_ | refine inB_n ?_ | refine inB_r ?_ | refine wIo ?_ | refine noG_n ?_ | refine noG_r ?_ | refine noG_e ?_))
    refine ⟨cm - (i + 1), by omega, i + 1, D.set i (-1), rfl, by omega, by omega, ⟨rfl, rfl, rfl, rfl, rfl, trivial⟩, by simp [hDl], by rw [List.getElem?_set_ne (by omega)]; exact hD0, ?_, rfl⟩
    intro k h1 h2
    by_cases hki : i = k
    · subst hki; rw [List.getElem?_set_self (by omega)]
    · rw [List.getElem?_set_ne hki]; exact hD1 k h1 (by omega)
  have hDI : Pm.DI p code D := Pm.DI.init (by omega) hD0 (fun k h1 h2 => hD1 k h1 (by omega))
  clear hD1 hD0 hsl
  repeat' (first | with_reducible (first | refine thenQ_n ?_ | refine thenQ_e ?_ | refine thenQ_r ?_ | refine ow_nil ?_) | (first | refine wY ?_ | refine wA ?_ | refine wS ?_ | refine wL (fun bk => ?_) | refine wB (fun bk => ?_) | refine wX (fun bk => ?_) | refine wB0 (fun bk => ?_) | refine wB1 (fun bk => ?_) | refine wB1o (fun bk => ?_) | refine wB2o (fun bk => ?_) | refine wG ?_ | (refine wGd (fun hb => ?_) (fun hb => ?_) <;> try (exfalso; omega)) | (refine wGe (fun hb => ?_) (fun hb => ?_) <;> try (exfalso; omega)) | (refine wGn (fun hb => ?_) (fun hb => ?_) <;> try (exfalso; omega))) | with_reducible (first | refine cw_then ?_ | refine cw_region ?_ | refine wCt ?_ | refine wCf ?_) | (((with_reducible refine wCd (fun hb => ?_) (fun hb => ?_)) <;> try subst hb) <;> try (exfalso; omega)) | (((with_reducible refine wCe (fun hb => ?_) (fun hb => ?_)) <;> try subst hb) <;> try (exfalso; omega)) | ((with_reducible refine wCn (fun hb => ?_) (fun hb => ?_)) <;> try (exfalso; omega)) | ((with_reducible refine wCo (fun hb => ?_) (fun hb => ?_))) | ((with_reducible refine wCi (fun hb => ?_) (fun hb => ?_))) | with_reducible (first | refine cw_block ?_ | refine cw_skip ?_ | refine cw_exit ?_ | refine cw_ret ?_ | refine cw_label ?_ | refine cw_scope ?_ | refine inB_same ?_ | refine inB_n ?_ | refine inB_r ?_ | refine wIo ?_ | refine noG_n ?_ | refine noG_r ?_ | refine noG_e ?_))
  refine cw_loop' (fun k T L' => ∃ (D : List Int) (Lx : List Blk), k = Pm.unk D ∧ Pm.DI p code D ∧ Sl T [(1, .slice ca cm cc), (2, .pointer (some ⟨bp, 0, none⟩)), (7, .slice (some ⟨q, 0, none⟩) cm cm)] ∧ L' = Lx ++ (q, ints .i64 D, 3) :: (bp, [.slice pa pm pc], 34) :: L) (Pm.unk D) ⟨D, [], rfl, hDI, ⟨rfl, rfl, rfl, trivial⟩, rfl⟩ ?_
  clear hDI hDl
  rintro k T L' ⟨D, Lx, rfl, hDI, hsl, rfl⟩
  obtain ⟨T0, rfl⟩ := sl_ov hsl
  clear hsl
  repeat' (first | with_reducible (first | refine thenQ_n ?_ | refine thenQ_e ?_ | refine thenQ_r ?_ | refine ow_nil ?_) | (first | refine wY ?_ | refine wA ?_ | refine wS ?_ | refine wL (fun bk => ?_) | refine wB (fun bk => ?_) | refine wX (fun bk => ?_) | refine wB0 (fun bk => ?_) | refine wB1 (fun bk => ?_) | refine wB1o (fun bk => ?_) | refine wB2o (fun bk => ?_) | refine wG ?_ | (refine wGd (fun hb => ?_) (fun hb => ?_)) | (refine wGe (fun hb => ?_) (fun hb => ?_)) | (refine wGn (fun hb => ?_) (fun hb => ?_))) | with_reducible (first | refine cw_then ?_ | refine cw_region ?_ | refine wCt ?_ | refine wCf ?_) | ((with_reducible refine wCd (fun hb => ?_) (fun hb => ?_)) <;> try subst hb) | ((with_reducible refine wCe (fun hb => ?_) (fun hb => ?_)) <;> try subst hb) | ((with_reducible refine wCn (fun hb => ?_) (fun hb => ?_))) | ((with_reducible refine wCo (fun hb => ?_) (fun hb => ?_))) | ((with_reducible refine wCi (fun hb => ?_) (fun hb => ?_))) | with_reducible (first | refine cw_block ?_ | refine cw_skip ?_ | refine cw_exit ?_ | refine cw_ret ?_ | refine cw_label ?_ | refine cw_scope ?_ | refine inB_same ?_ | refine inB_n ?_ | refine inB_r ?_ | refine wIo ?_ | refine noG_n ?_ | refine noG_r ?_ | refine noG_e ?_))
  generalize hn0 : Pm.unk D = n0
  refine cw_loop' (fun k T L' => ∃ (i : Nat) (D : List Int) (fr : Bool) (Lx : List Blk), k = cm - i ∧ i ≤ cm ∧ Pm.DI p code D ∧ Sl T [(1, .slice ca cm cc), (2, .pointer (some ⟨bp, 0, none⟩)), (7, .slice (some ⟨q, 0, none⟩) cm cm), (9, .bool fr), (27, .slice ca cm cc), (28, .int .i64 cm), (29, .int .i64 i)] ∧
    (fr = false → Pm.unk D = n0 ∧ ∀ k, k < i → Pm.FitsAt p code D k) ∧ (fr = true → Pm.unk D < n0) ∧ L' = Lx ++ (q, ints .i64 D, 3) :: (bp, [.slice pa pm pc], 34) :: L) cm ⟨0, D, false, Lx, rfl, Nat.zero_le _, hDI, ⟨rfl, rfl, rfl, rfl, rfl, rfl, rfl, trivial⟩, fun _ => ⟨hn0, fun k hk => absurd hk (by omega)⟩, (fun h => Bool.noConfusion h), rfl⟩ ?_
  clear hDI hn0 D
  rintro k T L' ⟨i, D, fr, Lx, rfl, hi, hDI, hsl, hfr0, hfr1, rfl⟩
  obtain ⟨T0, rfl⟩ := sl_ov hsl
  clear hsl
  by_cases hlt : i < cm
  · obtain ⟨b, o, cs, x, rfl, hrd, hxi, hxm, h1, h2, h3, h4⟩ := hs.instr i hlt
    obtain ⟨d, hd⟩ : ∃ d, D[i]? = some d := ⟨_, List.getElem?_eq_getElem (by rw [hDI.len]; omega)⟩
    have hat := at_ints (k := .i64) hd
    have hdb := hDI.lo d (List.mem_of_getElem? hd)
    have hpo := Pm.pops_le hps x
    have hpu := Pm.pushes_le x
    by_cases hd0 : d < 0
    · repeat' (first | with_reducible (first | refine thenQ_n ?_ | refine thenQ_e ?_ | refine thenQ_r ?_ | refine ow_nil ?_) | (first | refine wY ?_ | refine wA ?_ | refine wS ?_ | refine wL (fun bk => ?_) | refine wB (fun bk => ?_) | refine wX (fun bk => ?_) | refine wB0 (fun bk => ?_) | refine wB1 (fun bk => ?_) | refine wB1o (fun bk => ?_) | refine wB2o (fun bk => ?_) | refine wG ?_ | (refine wGd (fun hb => ?_) (fun hb => ?_) <;> try (exfalso; omega)) | (refine wGe (fun hb => ?_) (fun hb => ?_) <;> try (exfalso; omega)) | (refine wGn (fun hb => ?_) (fun hb => ?_) <;> try (exfalso; omega))) | with_reducible (first | refine cw_then ?_ | refine cw_region ?_ | refine wCt ?_ | refine wCf ?_) | (((with_reducible refine wCd (fun hb => ?_) (fun hb => ?_)) <;> try subst hb) <;> try (exfalso; omega)) | (((with_reducible refine wCe (fun hb => ?_) (fun hb => ?_)) <;> try subst hb) <;> try (exfalso; omega)) | ((with_reducible refine wCn (fun hb => ?_) (fun hb => ?_)) <;> try (exfalso; omega)) | ((with_reducible refine wCo (fun hb => ?_) (fun hb => ?_))) | ((with_reducible refine wCi (fun hb => ?_) (fun hb => ?_))) | with_reducible (first | refine cw_block ?_ | refine cw_skip ?_ | refine cw_exit ?_ | refine cw_ret ?_ | refine cw_label ?_ | refine cw_scope ?_ | refine inB_same ?_ | refine inB_n ?_ | refine inB_r ?_ | refine wIo ?_ | refine noG_n ?_ | refine noG_r ?_ | refine noG_e ?_))
      refine ⟨cm - (i + 1), by omega, i + 1, D, fr, (bk, _, _) :: Lx, rfl, by omega, hDI, ⟨rfl, rfl, rfl, rfl, rfl, rfl, rfl, trivial⟩, fun hf => ⟨(hfr0 hf).1, fun k hk => ?_⟩, hfr1, rfl⟩
      rcases Nat.lt_or_ge k i with hki | hki
      · exact (hfr0 hf).2 k hki
      · obtain rfl : k = i := by omega
        intro y e hy he he0
        rw [hd] at he; cases he; omega
    obtain ⟨d, rfl⟩ := Int.eq_ofNat_of_zero_le (show 0 ≤ d by omega)
    repeat' (first | with_reducible (first | refine thenQ_n ?_ | refine thenQ_e ?_ | refine thenQ_r ?_ | refine ow_nil ?_) | (first | refine wY ?_ | refine wA ?_ | refine wS ?_ | refine wL (fun bk => ?_) | refine wB (fun bk => ?_) | refine wX (fun bk => ?_) | refine wB0 (fun bk => ?_) | refine wB1 (fun bk => ?_) | refine wB1o (fun bk => ?_) | refine wB2o (fun bk => ?_) | refine wG ?_ | (refine wGd (fun hb => ?_) (fun hb => ?_) <;> try (exfalso; omega)) | (refine wGe (fun hb => ?_) (fun hb => ?_) <;> try (exfalso; omega)) | (refine wGn (fun hb => ?_) (fun hb => ?_) <;> try (exfalso; omega))) | with_reducible (first | refine cw_then ?_ | refine cw_region ?_ | refine wCt ?_ | refine wCf ?_) | (((with_reducible refine wCd (fun hb => ?_) (fun hb => ?_)) <;> try subst hb) <;> try (exfalso; omega)) | (((with_reducible refine wCe (fun hb => ?_) (fun hb => ?_)) <;> try subst hb) <;> try (exfalso; omega)) | ((with_reducible refine wCn (fun hb => ?_) (fun hb => ?_)) <;> try (exfalso; omega)) | ((with_reducible refine wCo (fun hb => ?_) (fun hb => ?_))) | ((with_reducible refine wCi (fun hb => ?_) (fun hb => ?_))) | with_reducible (first | refine cw_block ?_ | refine cw_skip ?_ | refine cw_exit ?_ | refine cw_ret ?_ | refine cw_label ?_ | refine cw_scope ?_ | refine inB_same ?_ | refine inB_n ?_ | refine inB_r ?_ | refine wIo ?_ | refine noG_n ?_ | refine noG_r ?_ | refine noG_e ?_))
    · refine cw_drawn 12 rfl rfl ?_
      repeat (first | refine wN ?_ | refine wK ?_)
      refine wT 8 ?_
      refine wO 6 ?_
      refine ow_call_all (pops_fn _ pa pm pc p (hp.mono (fun b cs h => by infer_instance)) x) rfl (fun v L' hv => ?_); obtain ⟨rfl, rfl⟩ := hv
      refine wP ?_
      repeat (first | refine wN ?_ | refine wK ?_)
      refine wO 9 ?_
      refine ow_call_all (pushes_fn _ x) rfl (fun v L' hv => ?_); obtain ⟨rfl, rfl⟩ := hv
      refine wP ?_
      repeat (first | refine wN ?_ | refine wK ?_)
      refine wZ ?_
      repeat' (first | with_reducible (first | refine thenQ_n ?_ | refine thenQ_e ?_ | refine thenQ_r ?_ | refine ow_nil ?_) | (first | refine wY ?_ | refine wA ?_ | refine wS ?_ | refine wL (fun bk => ?_) | refine wB (fun bk => ?_) | refine wX (fun bk => ?_) | refine wB0 (fun bk => ?_) | refine wB1 (fun bk => ?_) | refine wB1o (fun bk => ?_) | refine wB2o (fun bk => ?_) | refine wG ?_ | (refine wGd (fun hb => ?_) (fun hb => ?_)) | (refine wGe (fun hb => ?_) (fun hb => ?_)) | (refine wGn (fun hb => ?_) (fun hb => ?_))) | with_reducible (first | refine cw_then ?_ | refine cw_region ?_ | refine wCt ?_ | refine wCf ?_) | ((with_reducible refine wCd (fun hb => ?_) (fun hb => ?_)) <;> try subst hb) | ((with_reducible refine wCe (fun hb => ?_) (fun hb => ?_)) <;> try subst hb) | ((with_reducible refine wCn (fun hb => ?_) (fun hb => ?_))) | ((with_reducible refine wCo (fun hb => ?_) (fun hb => ?_))) | ((with_reducible refine wCi (fun hb => ?_) (fun hb => ?_))) | with_reducible (first | refine cw_block ?_ | refine cw_skip ?_ | refine cw_exit ?_ | refine cw_ret ?_ | refine cw_label ?_ | refine cw_scope ?_ | refine inB_same ?_ | refine inB_n ?_ | refine inB_r ?_ | refine wIo ?_ | refine noG_n ?_ | refine noG_r ?_ | refine noG_e ?_))
      refine cw_drawn 12 rfl rfl ?_
      repeat (first | refine wN ?_ | refine wK ?_)
      refine wT 3 ?_
      refine wT 4 ?_
      refine wT 5 ?_
      refine wT 6 ?_
      refine wO 2 ?_
      refine ow_call_all (pops_fn _ pa pm pc p (hp.mono (fun b cs h => by infer_instance)) x) rfl (fun v L' hv => ?_); obtain ⟨rfl, rfl⟩ := hv
      refine wP ?_
      repeat (first | refine wN ?_ | refine wK ?_)
      refine hw_case 58 (b := decide _) rfl (fun hb => ?_) (fun hb => ?_)
      all_goals simp only [decide_eq_true_eq, decide_eq_false_iff_not] at hb
      all_goals repeat (first | refine wN ?_ | refine wK ?_)
      all_goals refine wZ ?_
      all_goals repeat' (first | with_reducible (first | refine thenQ_n ?_ | refine thenQ_e ?_ | refine thenQ_r ?_ | refine ow_nil ?_) | (first | refine wY ?_ | refine wA ?_ | refine wS ?_ | refine wL (fun bk => ?_) | refine wB (fun bk => ?_) | refine wX (fun bk => ?_) | refine wB0 (fun bk => ?_) | refine wB1 (fun bk => ?_) | refine wB1o (fun bk => ?_) | refine wB2o (fun bk => ?_) | refine wG ?_ | (refine wGd (fun hb => ?_) (fun hb => ?_) <;> try (exfalso; omega)) | (refine wGe (fun hb => ?_) (fun hb => ?_) <;> try (exfalso; omega)) | (refine wGn (fun hb => ?_) (fun hb => ?_) <;> try (exfalso; omega))) | with_reducible (first | refine cw_then ?_ | refine cw_region ?_ | refine wCt ?_ | refine wCf ?_) | (((with_reducible refine wCd (fun hb => ?_) (fun hb => ?_)) <;> try subst hb) <;> try (exfalso; omega)) | (((with_reducible refine wCe (fun hb => ?_) (fun hb => ?_)) <;> try subst hb) <;> try (exfalso; omega)) | ((with_reducible refine wCn (fun hb => ?_) (fun hb => ?_)) <;> try (exfalso; omega)) | ((with_reducible refine wCo (fun hb => ?_) (fun hb => ?_))) | ((with_reducible refine wCi (fun hb => ?_) (fun hb => ?_))) | with_reducible (first | refine cw_block ?_ | refine cw_skip ?_ | refine cw_exit ?_ | refine cw_ret ?_ | refine cw_label ?_ | refine cw_scope ?_ | refine inB_same ?_ | refine inB_n ?_ | refine inB_r ?_ | refine wIo ?_ | refine noG_n ?_ | refine noG_r ?_ | refine noG_e ?_))
      · exact ret3 rfl rfl rfl rfl (sub_mk (L' := L) (.inr ⟨hDI.bad hxi hd (.inl (by omega)), ⟨i, by omega, rfl⟩, rfl⟩))
      · exact ret3 rfl rfl rfl rfl (sub_mk (L' := L) (.inr ⟨hDI.bad hxi hd (.inr (by unfold Pm.behind; omega)), ⟨i, by omega, rfl⟩, rfl⟩))
      refine ow_call_all (next_fn _ i x ⟨by omega, by omega⟩) rfl (fun v L' hv => ?_)
      obtain ⟨np, nm, nc, nB, rfl, hnV, rfl⟩ := hv
      obtain ⟨hnl, hnmc, hn63⟩ := hnV.len
      rw [length_ints, Nat.mul_one] at hnl
      have hnl2 := Pm.next_len i x
      repeat' (first | with_reducible (first | refine thenQ_n ?_ | refine thenQ_e ?_ | refine thenQ_r ?_ | refine ow_nil ?_) | (first | refine wY ?_ | refine wA ?_ | refine wS ?_ | refine wL (fun bk => ?_) | refine wB (fun bk => ?_) | refine wX (fun bk => ?_) | refine wB0 (fun bk => ?_) | refine wB1 (fun bk => ?_) | refine wB1o (fun bk => ?_) | refine wB2o (fun bk => ?_) | refine wG ?_ | (refine wGd (fun hb => ?_) (fun hb => ?_)) | (refine wGe (fun hb => ?_) (fun hb => ?_)) | (refine wGn (fun hb => ?_) (fun hb => ?_))) | with_reducible (first | refine cw_then ?_ | refine cw_region ?_ | refine wCt ?_ | refine wCf ?_) | ((with_reducible refine wCd (fun hb => ?_) (fun hb => ?_)) <;> try subst hb) | ((with_reducible refine wCe (fun hb => ?_) (fun hb => ?_)) <;> try subst hb) | ((with_reducible refine wCn (fun hb => ?_) (fun hb => ?_))) | ((with_reducible refine wCo (fun hb => ?_) (fun hb => ?_))) | ((with_reducible refine wCi (fun hb => ?_) (fun hb => ?_))) | with_reducible (first | refine cw_block ?_ | refine cw_skip ?_ | refine cw_exit ?_ | refine cw_ret ?_ | refine cw_label ?_ | refine cw_scope ?_ | refine inB_same ?_ | refine inB_n ?_ | refine inB_r ?_ | refine wIo ?_ | refine noG_n ?_ | refine noG_r ?_ | refine noG_e ?_))
      refine cw_loop' (fun k T L' => ∃ (j : Nat) (D : List Int) (fr : Bool), k = nm - j ∧ j ≤ nm ∧ Pm.DI p code D ∧ D[i]? = some (d : Int) ∧ Sl T [(1, .slice (some ⟨b, o, none⟩) cm cc), (2, .pointer (some ⟨bp, 0, none⟩)), (7, .slice (some ⟨q, 0, none⟩) cm cm), (9, .bool fr), (10, .int .i64 i), (12, .int .i64 (Pm.behind p d x)), (27, .slice (some ⟨b, o, none⟩) cm cc), (28, .int .i64 cm), (29, .int .i64 i), (65, .slice np nm nc), (66, .int .i64 nm), (67, .int .i64 j)] ∧
        (fr = false → Pm.unk D = n0 ∧ (∀ k, k < i → Pm.FitsAt p code D k) ∧ ∀ t ∈ (Pm.next i x).take j, t < code.length ∧ D[t.toNat]? = some (Pm.behind p d x)) ∧ (fr = true → Pm.unk D < n0) ∧ L' = nB ++ (bk, [.int .i64 x.op, .int .i64 x.a, .int .i64 x.b], 23) :: (Lx ++ (q, ints .i64 D, 3) :: (bp, [.slice pa pm pc], 34) :: L)) nm
        ⟨0, D, fr, rfl, Nat.zero_le _, hDI, hd, ⟨rfl, rfl, rfl, rfl, rfl, rfl, rfl, rfl, rfl, rfl, rfl, rfl, trivial⟩, fun hf => ⟨(hfr0 hf).1, (hfr0 hf).2, fun t ht => by simp at ht⟩, hfr1, rfl⟩ ?_
      clear hfr0 hfr1 hDI hat hd hdb fr D
      rintro k T L' ⟨j, D, fr, rfl, hj, hDI, hd, hsl, hfr0, hfr1, rfl⟩
      obtain ⟨T0, rfl⟩ := sl_ov hsl
      clear hsl
      by_cases hjl : j < nm
      · obtain ⟨b', o', cs', rfl, hrd', hat'⟩ := (hnV.slRd (h0 := h0) (L := nB ++ (bk, [.int .i64 x.op, .int .i64 x.a, .int .i64 x.b], 23) :: (Lx ++ (q, ints .i64 D, 3) :: (bp, [.slice pa pm pc], 34) :: L)) (fun q hq => List.mem_append_left _ hq)).int j hjl
        have htj : (Pm.next i x)[j]? = some ((Pm.next i x).getD j 0) := by rw [List.getD_eq_getElem?_getD, List.getElem?_eq_getElem (by omega)]; rfl
        generalize (Pm.next i x).getD j 0 = t at hat' htj
        have htm : t ∈ Pm.next i x := List.mem_of_getElem? htj
        have ht0 := Pm.next_lo (fun h => (hj_ x hxm h).1) t htm
        have hbe := Pm.behind_lo (p := p) (d := d) (i := x) (by omega)
        have hbh : Pm.behind p d x ≤ 8 := by unfold Pm.behind; omega
        by_cases htc : t < cm
        · obtain ⟨u, hu⟩ : ∃ u, D[t.toNat]? = some u := ⟨_, List.getElem?_eq_getElem (by rw [hDI.len]; omega)⟩
          have hatu := at_ints (k := .i64) hu
          have hset := set_ints (k := .i64) (v := Pm.behind p d x) (show t.toNat < D.length by rw [hDI.len]; omega)
          repeat' (first | with_reducible (first | refine thenQ_n ?_ | refine thenQ_e ?_ | refine thenQ_r ?_ | refine ow_nil ?_) | (first | refine wY ?_ | refine wA ?_ | refine wS ?_ | refine wL (fun bk => ?_) | refine wB (fun bk => ?_) | refine wX (fun bk => ?_) | refine wB0 (fun bk => ?_) | refine wB1 (fun bk => ?_) | refine wB1o (fun bk => ?_) | refine wB2o (fun bk => ?_) | refine wG ?_ | (refine wGd (fun hb => ?_) (fun hb => ?_) <;> try (exfalso; omega)) | (refine wGe (fun hb => ?_) (fun hb => ?_) <;> try (exfalso; omega)) | (refine wGn (fun hb => ?_) (fun hb => ?_) <;> try (exfalso; omega))) | with_reducible (first | refine cw_then ?_ | refine cw_region ?_ | refine wCt ?_ | refine wCf ?_) | (((with_reducible refine wCd (fun hb => ?_) (fun hb => ?_)) <;> try subst hb) <;> try (exfalso; omega)) | (((with_reducible refine wCe (fun hb => ?_) (fun hb => ?_)) <;> try subst hb) <;> try (exfalso; omega)) | ((with_reducible refine wCn (fun hb => ?_) (fun hb => ?_)) <;> try (exfalso; omega)) | ((with_reducible refine wCo (fun hb => ?_) (fun hb => ?_))) | ((with_reducible refine wCi (fun hb => ?_) (fun hb => ?_))) | with_reducible (first | refine cw_block ?_ | refine cw_skip ?_ | refine cw_exit ?_ | refine cw_ret ?_ | refine cw_label ?_ | refine cw_scope ?_ | refine inB_same ?_ | refine inB_n ?_ | refine inB_r ?_ | refine wIo ?_ | refine noG_n ?_ | refine noG_r ?_ | refine noG_e ?_))
          · exact ret3 rfl rfl rfl rfl (sub_mk (L' := L) (.inr ⟨hDI.bad_to hxi hd htm (.inr ⟨u, hu, by omega, hb⟩), ⟨i, by omega, rfl⟩, rfl⟩))
          · refine ⟨nm - (j + 1), by omega, j + 1, D, fr, rfl, by omega, hDI, hd, ⟨rfl, rfl, rfl, rfl, rfl, rfl, rfl, rfl, rfl, rfl, rfl, rfl, trivial⟩, fun hf => ⟨(hfr0 hf).1, (hfr0 hf).2.1, fun y hy => ?_⟩, hfr1, rfl⟩
            rw [List.take_add_one, htj] at hy
            rcases List.mem_append.1 hy with hy | hy
            · exact (hfr0 hf).2.2 y hy
            · simp at hy; subst hy; exact ⟨by omega, by rw [hu]; simp only [Option.some.injEq]; omega⟩
          · refine ⟨nm - (j + 1), by omega, j + 1, D.set t.toNat (Pm.behind p d x), true, rfl, by omega, hDI.put hxi hd (by omega) hbh htm hu (by omega), ?_, ⟨rfl, rfl, rfl, rfl, rfl, rfl, rfl, rfl, rfl, rfl, rfl, rfl, trivial⟩, (fun h => Bool.noConfusion h), fun _ => ?_, rfl⟩
            · rw [List.getElem?_set_ne (fun e => by rw [e, hd] at hu; cases hu; omega)]; exact hd
            · have := Pm.unk_set hu (by omega) hbe
              cases fr with
              | false => have := (hfr0 rfl).1; omega
              | true => have := hfr1 rfl; omega
        · repeat' (first | with_reducible (first | refine thenQ_n ?_ | refine thenQ_e ?_ | refine thenQ_r ?_ | refine ow_nil ?_) | (first | refine wY ?_ | refine wA ?_ | refine wS ?_ | refine wL (fun bk => ?_) | refine wB (fun bk => ?_) | refine wX (fun bk => ?_) | refine wB0 (fun bk => ?_) | refine wB1 (fun bk => ?_) | refine wB1o (fun bk => ?_) | refine wB2o (fun bk => ?_) | refine wG ?_ | (refine wGd (fun hb => ?_) (fun hb => ?_) <;> try (exfalso; omega)) | (refine wGe (fun hb => ?_) (fun hb => ?_) <;> try (exfalso; omega)) | (refine wGn (fun hb => ?_) (fun hb => ?_) <;> try (exfalso; omega))) | with_reducible (first | refine cw_then ?_ | refine cw_region ?_ | refine wCt ?_ | refine wCf ?_) | (((with_reducible refine wCd (fun hb => ?_) (fun hb => ?_)) <;> try subst hb) <;> try (exfalso; omega)) | (((with_reducible refine wCe (fun hb => ?_) (fun hb => ?_)) <;> try subst hb) <;> try (exfalso; omega)) | ((with_reducible refine wCn (fun hb => ?_) (fun hb => ?_)) <;> try (exfalso; omega)) | ((with_reducible refine wCo (fun hb => ?_) (fun hb => ?_))) | ((with_reducible refine wCi (fun hb => ?_) (fun hb => ?_))) | with_reducible (first | refine cw_block ?_ | refine cw_skip ?_ | refine cw_exit ?_ | refine cw_ret ?_ | refine cw_label ?_ | refine cw_scope ?_ | refine inB_same ?_ | refine inB_n ?_ | refine inB_r ?_ | refine wIo ?_ | refine noG_n ?_ | refine noG_r ?_ | refine noG_e ?_))
          exact ret3 rfl rfl rfl rfl (sub_mk (L' := L) (.inr ⟨hDI.bad_to hxi hd htm (.inl (by omega)), ⟨i, by omega, rfl⟩, rfl⟩))
      · repeat' (first | with_reducible (first | refine thenQ_n ?_ | refine thenQ_e ?_ | refine thenQ_r ?_ | refine ow_nil ?_) | (first | refine wY ?_ | refine wA ?_ | refine wS ?_ | refine wL (fun bk => ?_) | refine wB (fun bk => ?_) | refine wX (fun bk => ?_) | refine wB0 (fun bk => ?_) | refine wB1 (fun bk => ?_) | refine wB1o (fun bk => ?_) | refine wB2o (fun bk => ?_) | refine wG ?_ | (refine wGd (fun hb => ?_) (fun hb => ?_) <;> try (exfalso; omega)) | (refine wGe (fun hb => ?_) (fun hb => ?_) <;> try (exfalso; omega)) | (refine wGn (fun hb => ?_) (fun hb => ?_) <;> try (exfalso; omega))) | with_reducible (first | refine cw_then ?_ | refine cw_region ?_ | refine wCt ?_ | refine wCf ?_) | (((with_reducible refine wCd (fun hb => ?_) (fun hb => ?_)) <;> try subst hb) <;> try (exfalso; omega)) | (((with_reducible refine wCe (fun hb => ?_) (fun hb => ?_)) <;> try subst hb) <;> try (exfalso; omega)) | ((with_reducible refine wCn (fun hb => ?_) (fun hb => ?_)) <;> try (exfalso; omega)) | ((with_reducible refine wCo (fun hb => ?_) (fun hb => ?_))) | ((with_reducible refine wCi (fun hb => ?_) (fun hb => ?_))) | with_reducible (first | refine cw_block ?_ | refine cw_skip ?_ | refine cw_exit ?_ | refine cw_ret ?_ | refine cw_label ?_ | refine cw_scope ?_ | refine inB_same ?_ | refine inB_n ?_ | refine inB_r ?_ | refine wIo ?_ | refine noG_n ?_ | refine noG_r ?_ | refine noG_e ?_))
        refine ⟨cm - (i + 1), by omega, i + 1, D, fr, nB ++ (bk, _, _) :: Lx, rfl, by omega, hDI, ⟨rfl, rfl, rfl, rfl, rfl, rfl, rfl, trivial⟩, fun hf => ⟨(hfr0 hf).1, fun k hk => ?_⟩, hfr1, by rw [List.append_assoc, List.cons_append]⟩
        rcases Nat.lt_or_ge k i with hki | hki
        · exact (hfr0 hf).2.1 k hki
        · obtain rfl : k = i := by omega
          intro y e hy he he0
          rw [hd] at he; cases he
          rw [hxi] at hy; cases hy
          refine ⟨by omega, by unfold Pm.behind; omega, fun t ht => (hfr0 hf).2.2 t ?_⟩
          rw [List.take_of_length_le (by omega)]; exact ht
  · repeat' (first | with_reducible (first | refine thenQ_n ?_ | refine thenQ_e ?_ | refine thenQ_r ?_ | refine ow_nil ?_) | (first | refine wY ?_ | refine wA ?_ | refine wS ?_ | refine wL (fun bk => ?_) | refine wB (fun bk => ?_) | refine wX (fun bk => ?_) | refine wB0 (fun bk => ?_) | refine wB1 (fun bk => ?_) | refine wB1o (fun bk => ?_) | refine wB2o (fun bk => ?_) | refine wG ?_ | (refine wGd (fun hb => ?_) (fun hb => ?_) <;> try (exfalso; omega)) | (refine wGe (fun hb => ?_) (fun hb => ?_) <;> try (exfalso; omega)) | (refine wGn (fun hb => ?_) (fun hb => ?_) <;> try (exfalso; omega))) | with_reducible (first | refine cw_then ?_ | refine cw_region ?_ | refine wCt ?_ | refine wCf ?_) | (((with_reducible refine wCd (fun hb => ?_) (fun hb => ?_)) <;> try subst hb) <;> try (exfalso; omega)) | (((with_reducible refine wCe (fun hb => ?_) (fun hb => ?_)) <;> try subst hb) <;> try (exfalso; omega)) | ((with_reducible refine wCn (fun hb => ?_) (fun hb => ?_)) <;> try (exfalso; omega)) | ((with_reducible refine wCo (fun hb => ?_) (fun hb => ?_))) | ((with_reducible refine wCi (fun hb => ?_) (fun hb => ?_))) | with_reducible (first | refine cw_block ?_ | refine cw_skip ?_ | refine cw_exit ?_ | refine cw_ret ?_ | refine cw_label ?_ | refine cw_scope ?_ | refine inB_same ?_ | refine inB_n ?_ | refine inB_r ?_ | refine wIo ?_ | refine noG_n ?_ | refine noG_r ?_ | refine noG_e ?_))
    · refine ret3 rfl rfl rfl rfl (sub_mk (.inl ⟨D, q, hDI.snd, hDI.fits (fun k hk => (hfr0 (by assumption)).2 k (by omega)), ?_, rfl⟩))
      rw [hcl]; rfl
    · exact ⟨Pm.unk D, hfr1 (by assumption), D, Lx, rfl, hDI, ⟨rfl, rfl, rfl, trivial⟩, rfl⟩
end Go.Proofs.Ytnijpdehchdinaa
