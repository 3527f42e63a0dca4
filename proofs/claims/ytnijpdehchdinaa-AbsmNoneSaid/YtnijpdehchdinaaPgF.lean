/-
  Package prog: Clone.
-/
import Derived.Test.YtnijpdehchdinaaClone
set_option linter.unusedVariables false
set_option linter.unusedSimpArgs false
namespace Go.Hl
theorem at_row {A M : List Value} {i s j : Nat} {v : Value} (hA : A.length = i * s) (h : M[j]? = some v) : At (A ++ M) (0 + i * s + j) v := ⟨by rw [Nat.zero_add, ← hA, List.getElem?_append_right (by omega)]; simpa using h⟩
theorem stretch_row {A X M : List Value} {i s : Nat} (hA : A.length = i * s) (hX : X.length = s) : Stretch (A ++ (X ++ M)) (0 + i * s) s X := ⟨hX, fun j v h => by
  rw [Nat.zero_add, ← hA, List.getElem?_append_right (by omega)]
  have hj := (List.getElem?_eq_some_iff.1 h).1
  rw [show A.length + j - A.length = j by omega, List.getElem?_append_left hj]; exact h⟩
theorem set_row {A M M' : List Value} {i s j : Nat} {v : Value} (hA : A.length = i * s) (h : SetAt M j v M') : SetAt (A ++ M) (0 + i * s + j) v (A ++ M') := ⟨by rw [List.length_append]; have := h.lt; omega, by
  rw [Nat.zero_add, ← hA, List.set_append_right _ _ (by omega)]; simp [h.eq]⟩
end Go.Hl
namespace Go.Proofs.Ytnijpdehchdinaa
open Go Go.Proofs Go.Hl
variable {h0 : Array Obj}

set_option maxHeartbeats 2000000 in
theorem progClone_fn (L : List Blk) (pa : Option Addr) (pm pc : Nat) (p : Pm.Prog) (hp : ProgRd h0 L pa pm pc p) (hp1 : 1 ≤ pm) (hp8 : pm ≤ 8) (hc : ∀ f ∈ p, 1 ≤ f.code.length ∧ f.code.length ≤ 64) :
    Ct Try.prog h0 46 [.agg #[.slice pa pm pc]] L fun v L' => ∃ q c PB, v = .agg #[.slice q pm c] ∧ ProgRd h0 PB q pm c p ∧ L' = PB ++ L := by
  obtain ⟨rows, hrows, hsl, hcode⟩ := hp.ex
  have hsr := hsl.sr (by omega)
  have hlen := hsl.len
  rw [length_fcells] at hlen
  refine fn_of Try.func46 rfl rfl ?_
  repeat' (first | with_reducible (first | refine thenQ_n ?_ | refine thenQ_e ?_ | refine thenQ_r ?_ | refine ow_nil ?_) | (first | refine wY ?_ | refine wA ?_ | refine wS ?_ | refine wL (fun bk => ?_) | refine wB (fun bk => ?_) | refine wX (fun bk => ?_) | refine wB0 (fun bk => ?_) | refine wB1 (fun bk => ?_) | refine wB1o (fun bk => ?_) | refine wB2o (fun bk => ?_) | refine wG ?_ | (refine wGd (fun hb => ?_) (fun hb => ?_)) | (refine wGe (fun hb => ?_) (fun hb => ?_)) | (refine wGn (fun hb => ?_) (fun hb => ?_))) | with_reducible (first | refine cw_then ?_ | refine cw_region ?_ | refine wCt ?_ | refine wCf ?_) | ((with_reducible refine wCd (fun hb => ?_) (fun hb => ?_)) <;> try subst hb) | ((with_reducible refine wCe (fun hb => ?_) (fun hb => ?_)) <;> try subst hb) | ((with_reducible refine wCn (fun hb => ?_) (fun hb => ?_))) | ((with_reducible refine wCo (fun hb => ?_) (fun hb => ?_))) | ((with_reducible refine wCi (fun hb => ?_) (fun hb => ?_))) | with_reducible (first | refine cw_block ?_ | refine cw_skip ?_ | refine cw_exit ?_ | refine cw_ret ?_ | refine cw_label ?_ | refine cw_scope ?_ | refine inB_same ?_ | refine inB_n ?_ | refine inB_r ?_ | refine wIo ?_ | refine noG_n ?_ | refine noG_r ?_ | refine noG_e ?_))
  refine ow_call_all (clone_func _ pa pm pc _ (hsr.mono (fun b cs h => by infer_instance)) (by intro u hu; simp [FRow.cells] at hu; obtain ⟨r, hr, hu⟩ := hu; rcases hu with rfl | rfl | rfl | rfl <;> rfl) (by omega)) rfl (fun v L' hv => ?_)
  obtain ⟨p', c', B', rfl, hV, rfl⟩ := hv
  repeat' (first | with_reducible (first | refine thenQ_n ?_ | refine thenQ_e ?_ | refine thenQ_r ?_ | refine ow_nil ?_) | (first | refine wY ?_ | refine wA ?_ | refine wS ?_ | refine wL (fun bk => ?_) | refine wB (fun bk => ?_) | refine wX (fun bk => ?_) | refine wB0 (fun bk => ?_) | refine wB1 (fun bk => ?_) | refine wB1o (fun bk => ?_) | refine wB2o (fun bk => ?_) | refine wG ?_ | (refine wGd (fun hb => ?_) (fun hb => ?_)) | (refine wGe (fun hb => ?_) (fun hb => ?_)) | (refine wGn (fun hb => ?_) (fun hb => ?_))) | with_reducible (first | refine cw_then ?_ | refine cw_region ?_ | refine wCt ?_ | refine wCf ?_) | ((with_reducible refine wCd (fun hb => ?_) (fun hb => ?_)) <;> try subst hb) | ((with_reducible refine wCe (fun hb => ?_) (fun hb => ?_)) <;> try subst hb) | ((with_reducible refine wCn (fun hb => ?_) (fun hb => ?_))) | ((with_reducible refine wCo (fun hb => ?_) (fun hb => ?_))) | ((with_reducible refine wCi (fun hb => ?_) (fun hb => ?_))) | with_reducible (first | refine cw_block ?_ | refine cw_skip ?_ | refine cw_exit ?_ | refine cw_ret ?_ | refine cw_label ?_ | refine cw_scope ?_ | refine inB_same ?_ | refine inB_n ?_ | refine inB_r ?_ | refine wIo ?_ | refine noG_n ?_ | refine noG_r ?_ | refine noG_e ?_))
  rename_i b1
  rcases hV.inv with ⟨_, h0m, _⟩ | ⟨fb, junk, rfl, hl, hj, hmc, hc63, rfl⟩
  · omega
  refine cw_loop' (fun k T L' => ∃ (i : Nat) (new : List FRow) (CB Lx : List Blk), k = pm - i ∧ i ≤ pm ∧ Sl T [(1, .pointer (some ⟨b1, 0, none⟩)), (2, .pointer (some ⟨bk, 0, none⟩)), (10, .slice (some ⟨fb, 0, none⟩) pm c'), (11, .int .i64 pm), (12, .int .i64 i)] ∧
    new.length = i ∧ new.map (·.f) = p.take i ∧ (∀ r ∈ new, SlRd h0 CB 3 r.ca r.cm r.cc (instrCells r.f.code)) ∧ Split L' (CB ++ (fb, new.flatMap FRow.cells ++ ((rows.drop i).flatMap FRow.cells ++ junk), 26) :: (bk, [.slice none 0 0], 34) :: (b1, [.slice (some ⟨fb, 0, none⟩) pm c'], 34) :: L) Lx) pm
    ⟨0, [], [], [], rfl, Nat.zero_le _, ⟨rfl, rfl, rfl, rfl, rfl, trivial⟩, rfl, rfl, (fun r hr => nomatch hr), Split.all⟩ ?_
  rintro k T L' ⟨i, new, CB, Lx, rfl, hi, hsl', hnl, hnm, hnc, hspl⟩
  refine cw_weaken (hspl.perm.trans List.perm_append_comm) ?_
  clear hspl
  obtain ⟨T0, rfl⟩ := sl_ov hsl'
  clear hsl'
  by_cases hlt : i < pm
  · obtain ⟨r, hr⟩ : ∃ r, rows[i]? = some r := ⟨_, List.getElem?_eq_getElem (by omega)⟩
    have hrm := List.mem_of_getElem? hr
    have hd : rows.drop i = r :: rows.drop (i + 1) := by
      have h1 := (List.getElem?_eq_some_iff.1 hr)
      obtain ⟨h1, h2⟩ := h1
      rw [List.drop_eq_getElem_cons h1, h2]
    have hpi : p[i]? = some r.f := by rw [← hrows]; simp [hr]
    have hrc := hcode r hrm
    have hrl := hrc.len
    rw [length_instrCells] at hrl
    have hrb := hc r.f (by rw [← hrows]; exact List.mem_map.2 ⟨r, hrm, rfl⟩)
    obtain ⟨f, ca, cm, cc⟩ := r
    dsimp only at hpi hrc hrl hrb
    have e : (rows.drop i).flatMap FRow.cells ++ junk = .int .i64 f.params :: .int .i64 f.locals :: .int .i64 f.refs :: .slice ca cm cc :: ((rows.drop (i + 1)).flatMap FRow.cells ++ junk) := by rw [hd]; rfl
    rw [e]
    have hA : (new.flatMap FRow.cells).length = i * 4 := by rw [length_fcells, hnl]
    have hst : Stretch (new.flatMap FRow.cells ++ (.int .i64 f.params :: .int .i64 f.locals :: .int .i64 f.refs :: .slice ca cm cc :: ((rows.drop (i + 1)).flatMap FRow.cells ++ junk))) (0 + i * 4) 4 [.int .i64 f.params, .int .i64 f.locals, .int .i64 f.refs, .slice ca cm cc] := stretch_row (X := [.int .i64 f.params, .int .i64 f.locals, .int .i64 f.refs, .slice ca cm cc]) hA rfl
    repeat' (first | with_reducible (first | refine thenQ_n ?_ | refine thenQ_e ?_ | refine thenQ_r ?_ | refine ow_nil ?_) | (first | refine wY ?_ | refine wA ?_ | refine wS ?_ | refine wL (fun bk => ?_) | refine wB (fun bk => ?_) | refine wX (fun bk => ?_) | refine wB0 (fun bk => ?_) | refine wB1 (fun bk => ?_) | refine wB1o (fun bk => ?_) | refine wB2o (fun bk => ?_) | refine wG ?_ | (refine wGd (fun hb => ?_) (fun hb => ?_) <;> try (exfalso; omega)) | (refine wGe (fun hb => ?_) (fun hb => ?_) <;> try (exfalso; omega)) | (refine wGn (fun hb => ?_) (fun hb => ?_) <;> try (exfalso; omega))) | with_reducible (first | refine cw_then ?_ | refine cw_region ?_ | refine wCt ?_ | refine wCf ?_) | (((with_reducible refine wCd (fun hb => ?_) (fun hb => ?_)) <;> try subst hb) <;> try (exfalso; omega)) | (((with_reducible refine wCe (fun hb => ?_) (fun hb => ?_)) <;> try subst hb) <;> try (exfalso; omega)) | ((with_reducible refine wCn (fun hb => ?_) (fun hb => ?_)) <;> try (exfalso; omega)) | ((with_reducible refine wCo (fun hb => ?_) (fun hb => ?_))) | ((with_reducible refine wCi (fun hb => ?_) (fun hb => ?_))) | with_reducible (first | refine cw_block ?_ | refine cw_skip ?_ | refine cw_exit ?_ | refine cw_ret ?_ | refine cw_label ?_ | refine cw_scope ?_ | refine inB_same ?_ | refine inB_n ?_ | refine inB_r ?_ | refine wIo ?_ | refine noG_n ?_ | refine noG_r ?_ | refine noG_e ?_))
    rename Nat => b4
    refine cw_drawnq 9 rfl rfl [(b4, [.int .i64 f.params, .int .i64 f.locals, .int .i64 f.refs, .slice ca cm cc], 26), (b1, [.slice (some ⟨fb, 0, none⟩) pm c'], 34)] ?_
    repeat (first | refine wN ?_ | refine wK ?_)
    refine wO 5 ?_
    refine ow_call_all (clone_instr _ ca cm cc _ ((hrc.sr (by omega)).mono (fun b cs h => by infer_instance)) (by intro u hu; simp [instrCells] at hu; obtain ⟨r, hr, hu⟩ := hu; rcases hu with rfl | rfl | rfl <;> rfl) (by omega)) rfl (fun v L' hv => ?_)
    obtain ⟨p2, c2, B2, rfl, hV2, rfl⟩ := hv
    refine wP ?_
    repeat (first | refine wN ?_ | refine wK ?_)
    have hset := set_row (v := .slice p2 cm c2) hA (show SetAt (.int .i64 f.params :: .int .i64 f.locals :: .int .i64 f.refs :: .slice ca cm cc :: ((rows.drop (i + 1)).flatMap FRow.cells ++ junk)) 3 (.slice p2 cm c2) _ from inferInstance)
    refine wO 8 ?_
    repeat (first | refine wY ?_ | refine wA ?_ | refine wS ?_ | refine wL (fun bk => ?_) | refine wB (fun bk => ?_) | refine wX (fun bk => ?_) | refine wB0 (fun bk => ?_) | refine wB1 (fun bk => ?_) | refine wB1o (fun bk => ?_) | refine wB2o (fun bk => ?_) | refine wG ?_ | (refine wGd (fun hb => ?_) (fun hb => ?_)) | (refine wGe (fun hb => ?_) (fun hb => ?_)) | (refine wGn (fun hb => ?_) (fun hb => ?_)))
    refine wP ?_
    refine wZ ?_
    repeat' (first | with_reducible (first | refine thenQ_n ?_ | refine thenQ_e ?_ | refine thenQ_r ?_ | refine ow_nil ?_) | (first | refine wY ?_ | refine wA ?_ | refine wS ?_ | refine wL (fun bk => ?_) | refine wB (fun bk => ?_) | refine wX (fun bk => ?_) | refine wB0 (fun bk => ?_) | refine wB1 (fun bk => ?_) | refine wB1o (fun bk => ?_) | refine wB2o (fun bk => ?_) | refine wG ?_ | (refine wGd (fun hb => ?_) (fun hb => ?_) <;> try (exfalso; omega)) | (refine wGe (fun hb => ?_) (fun hb => ?_) <;> try (exfalso; omega)) | (refine wGn (fun hb => ?_) (fun hb => ?_) <;> try (exfalso; omega))) | with_reducible (first | refine cw_then ?_ | refine cw_region ?_ | refine wCt ?_ | refine wCf ?_) | (((with_reducible refine wCd (fun hb => ?_) (fun hb => ?_)) <;> try subst hb) <;> try (exfalso; omega)) | (((with_reducible refine wCe (fun hb => ?_) (fun hb => ?_)) <;> try subst hb) <;> try (exfalso; omega)) | ((with_reducible refine wCn (fun hb => ?_) (fun hb => ?_)) <;> try (exfalso; omega)) | ((with_reducible refine wCo (fun hb => ?_) (fun hb => ?_))) | ((with_reducible refine wCi (fun hb => ?_) (fun hb => ?_))) | with_reducible (first | refine cw_block ?_ | refine cw_skip ?_ | refine cw_exit ?_ | refine cw_ret ?_ | refine cw_label ?_ | refine cw_scope ?_ | refine inB_same ?_ | refine inB_n ?_ | refine inB_r ?_ | refine wIo ?_ | refine noG_n ?_ | refine noG_r ?_ | refine noG_e ?_))
    have e2 : (new ++ [(⟨f, p2, cm, c2⟩ : FRow)]).flatMap FRow.cells ++ ((rows.drop (i + 1)).flatMap FRow.cells ++ junk) = new.flatMap FRow.cells ++ (.int .i64 f.params :: .int .i64 f.locals :: .int .i64 f.refs :: .slice p2 cm c2 :: ((rows.drop (i + 1)).flatMap FRow.cells ++ junk)) := by
      rw [List.flatMap_append, List.append_assoc]; rfl
    refine ⟨pm - (i + 1), by omega, i + 1, new ++ [⟨f, p2, cm, c2⟩], B2 ++ CB, _, rfl, by omega, ⟨rfl, rfl, rfl, rfl, rfl, trivial⟩, by simp [hnl], by rw [List.take_add_one, hpi]; simp [hnm], ?_, by rw [e2]; infer_instance⟩
    · intro r hr
      rcases List.mem_append.1 hr with hr | hr
      · exact (hnc r hr).mono (fun b cs h => by infer_instance)
      · rw [List.mem_singleton.1 hr]
        exact hV2.slRd (fun q hq => List.mem_append_left _ hq)
  · repeat' (first | with_reducible (first | refine thenQ_n ?_ | refine thenQ_e ?_ | refine thenQ_r ?_ | refine ow_nil ?_) | (first | refine wY ?_ | refine wA ?_ | refine wS ?_ | refine wL (fun bk => ?_) | refine wB (fun bk => ?_) | refine wX (fun bk => ?_) | refine wB0 (fun bk => ?_) | refine wB1 (fun bk => ?_) | refine wB1o (fun bk => ?_) | refine wB2o (fun bk => ?_) | refine wG ?_ | (refine wGd (fun hb => ?_) (fun hb => ?_) <;> try (exfalso; omega)) | (refine wGe (fun hb => ?_) (fun hb => ?_) <;> try (exfalso; omega)) | (refine wGn (fun hb => ?_) (fun hb => ?_) <;> try (exfalso; omega))) | with_reducible (first | refine cw_then ?_ | refine cw_region ?_ | refine wCt ?_ | refine wCf ?_) | (((with_reducible refine wCd (fun hb => ?_) (fun hb => ?_)) <;> try subst hb) <;> try (exfalso; omega)) | (((with_reducible refine wCe (fun hb => ?_) (fun hb => ?_)) <;> try subst hb) <;> try (exfalso; omega)) | ((with_reducible refine wCn (fun hb => ?_) (fun hb => ?_)) <;> try (exfalso; omega)) | ((with_reducible refine wCo (fun hb => ?_) (fun hb => ?_))) | ((with_reducible refine wCi (fun hb => ?_) (fun hb => ?_))) | with_reducible (first | refine cw_block ?_ | refine cw_skip ?_ | refine cw_exit ?_ | refine cw_ret ?_ | refine cw_label ?_ | refine cw_scope ?_ | refine inB_same ?_ | refine inB_n ?_ | refine inB_r ?_ | refine wIo ?_ | refine noG_n ?_ | refine noG_r ?_ | refine noG_e ?_))
    have hdn : rows.drop i = [] := List.drop_eq_nil_of_le (by omega)
    rw [hdn]
    simp only [List.flatMap_nil, List.nil_append]
    refine retc (vs := [.slice (some ⟨fb, 0, none⟩) pm c']) rfl rfl (sub_mk (L' := ((fb, new.flatMap FRow.cells ++ junk, 26) :: CB) ++ L) ⟨_, _, _, rfl, ⟨new, ?_, ?_, ?_⟩, rfl⟩)
    · rw [hnm, List.take_of_length_le (by have := hp.len.1; omega)]
    · have hl2 : (new.flatMap FRow.cells).length = pm * 4 := by rw [length_fcells, hnl]; omega
      exact (Vec.row (e := 26) fb pm c' _ junk hl2 (by rw [List.length_append] at hj ⊢; omega) hmc hc63).slRd (fun q hq => by rw [List.mem_singleton.1 hq]; exact List.mem_cons_self ..)
    · intro r hr
      exact (hnc r hr).mono (fun b cs h => by infer_instance)
end Go.Proofs.Ytnijpdehchdinaa
