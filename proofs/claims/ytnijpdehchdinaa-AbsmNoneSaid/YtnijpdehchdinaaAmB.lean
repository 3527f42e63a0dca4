/-
  The machine's closures: push, pops, ref; its next instruction.
-/
import Derived.Test.YtnijpdehchdinaaAmA
set_option linter.unusedVariables false
set_option linter.unusedSimpArgs false
namespace Go.Hl
theorem Vec.cut {s : Nat} {e : TypeId} {p : Option Addr} {m c : Nat} {xs : List Value} {B : List Blk} (h : Vec s e p m c xs B) (k : Nat) (hk : k ≤ m) : Vec s e p k c (xs.take (k * s)) B := by
  cases h with
  | nil => obtain rfl : k = 0 := by omega
           simpa using (Vec.nil (s := s) (e := e))
  | row b m c xs junk hl hj hmc hc =>
    have e1 : xs ++ junk = xs.take (k * s) ++ (xs.drop (k * s) ++ junk) := by rw [← List.append_assoc, List.take_append_drop]
    have hks : k * s ≤ m * s := Nat.mul_le_mul_right s hk
    rw [e1]
    exact .row b k c _ _ (by rw [List.length_take]; omega) (by rw [← e1]; exact hj) (by omega) hc
section
variable {P : Program} {h0 : Array Obj} {T : Slots} {L : List Blk} {d : Option Tmp} {ty : TypeId} {pos : String} {aft : Array Edge} {g : Option (Nat × Bool)}
theorem yl_slice_lo_nil {t e s by_ : Nat} {z : Value} {x i : Operand} {k : IntKind} [TySlice P t e s by_ z] (hx : ev T x = .slice none 0 0) (hi : ev T i = .int k 0) : Yl P h0 L T ⟨d, .slice t x (some i) none none, ty, pos, aft, g⟩ (.slice none 0 0) := ⟨fun w hw => by
    have e1 := run_underlying (TySlice.und (P := P) (t := t) (e := e) (s := s) (bytes := by_) (z := z)) w
    have e2 : (sizeOf e).run P w = .ok s w := by
      obtain ⟨i0, h1, h2⟩ := Option.map_eq_some_iff.1 (TySlice.info (P := P) (t := t) (e := e) (s := s) (bytes := by_) (z := z))
      simp only [Prod.mk.injEq] at h2
      simp [sizeOf, typeInfo, h1, h2.2.1]
    simp only [execOp, hx]
    simp only [Option.map, hi]
    simp [Instr.sliceAt, Instr.slice, Instr.sliceBounds, Instr.sliceBound, asIntOf, e1, e2]⟩
end
end Go.Hl
namespace Go.Proofs.Ytnijpdehchdinaa
open Go Go.Proofs Go.Hl Go.Am
variable {h0 : Array Obj}

theorem push_fn (xb fb o : Nat) (cs : List Value) (aa : Option Addr) (k ac : Nat) (oa : Option Addr) (om oc : Nat) (xs ys : List Value) (AB OB : List Blk) (hA : Sr h0 AB 1 aa k ac ys) (hk : 0 < k) (h1 : ∀ u ∈ ys, u.oneCell' = true) (hO : Vec 1 28 oa om oc xs OB) (hb : om + k ≤ 1000000)
    (hat : At cs (o + 7) (.slice oa om oc)) (gs : Value → List Value) (hset : ∀ v, SetAt cs (o + 7) v (gs v)) :
    Ct Try.prog h0 61 [.slice aa k ac, .pointer (some ⟨xb, 0, none⟩)] ((xb, [.pointer (some ⟨fb, o, none⟩)], 107) :: (fb, cs, 66) :: (AB ++ OB))
      fun v L' => v = .tuple #[] ∧ ∃ oa' oc' OB', Vec 1 28 oa' (om + k) oc' (xs ++ ys) OB' ∧ L' = (xb, [.pointer (some ⟨fb, o, none⟩)], 107) :: (fb, gs (.slice oa' (om + k) oc'), 66) :: OB' := by
  rcases hA with ⟨_, hk0, _⟩ | ⟨ab, ao, acs, rfl, hard, hal, haat⟩
  · omega
  refine fn_of Try.func61 rfl rfl ?_
  refine cw_drawnq 10 rfl rfl [(xb, [.pointer (some ⟨fb, o, none⟩)], 107)] ?_
  repeat (first | refine wN ?_ | refine wK ?_)
  refine wT 5 ?_
  refine wO 4 ?_
  repeat (first | refine wY ?_ | refine wA ?_ | refine wS ?_ | refine wL (fun bk => ?_) | refine wB (fun bk => ?_) | refine wX (fun bk => ?_) | refine wB0 (fun bk => ?_) | refine wB1 (fun bk => ?_) | refine wB1o (fun bk => ?_) | refine wB2o (fun bk => ?_) | refine wG ?_ | (refine wGd (fun hb => ?_) (fun hb => ?_)) | (refine wGe (fun hb => ?_) (fun hb => ?_)) | (refine wGn (fun hb => ?_) (fun hb => ?_)))
  refine wP ?_
  refine wO 6 ?_
  refine ow_append rfl hO rfl hal haat h1 (by omega) (by decide) (fun oa' om' oc' OB' hO' => ?_)
  obtain rfl : om' = om + k := by have e1 := hO'.len.1; have e2 := hO.len.1; rw [List.length_append] at e1; omega
  have hs := hset (.slice oa' (om + k) oc')
  refine wP ?_
  repeat (first | refine wN ?_ | refine wK ?_)
  refine wO 9 ?_
  repeat (first | refine wY ?_ | refine wA ?_ | refine wS ?_ | refine wL (fun bk => ?_) | refine wB (fun bk => ?_) | refine wX (fun bk => ?_) | refine wB0 (fun bk => ?_) | refine wB1 (fun bk => ?_) | refine wB1o (fun bk => ?_) | refine wB2o (fun bk => ?_) | refine wG ?_ | (refine wGd (fun hb => ?_) (fun hb => ?_)) | (refine wGe (fun hb => ?_) (fun hb => ?_)) | (refine wGn (fun hb => ?_) (fun hb => ?_)))
  refine wP ?_
  refine wZ ?_
  exact end0 rfl (sub_mk (L' := (xb, [.pointer (some ⟨fb, o, none⟩)], 107) :: (fb, gs (.slice oa' (om + k) oc'), 66) :: OB') ⟨rfl, oa', oc', OB', hO', rfl⟩)

theorem pops2_fn (xb fb o : Nat) (cs : List Value) (n : Nat) (oa : Option Addr) (om oc : Nat) (xs : List Value) (OB : List Blk) (h1 : ∀ u ∈ xs, u.oneCell' = true) (hO : Vec 1 28 oa om oc xs OB) (hn : n ≤ om) (hb : om ≤ 1000000)
    (hat : At cs (o + 7) (.slice oa om oc)) (gs : Value → List Value) (hset : ∀ v, SetAt cs (o + 7) v (gs v)) :
    Ct Try.prog h0 62 [.int .i64 n, .pointer (some ⟨xb, 0, none⟩)] ((xb, [.pointer (some ⟨fb, o, none⟩)], 107) :: (fb, cs, 66) :: OB)
      fun v L' => ∃ p' c' CB, v = .slice p' n c' ∧ Vec 1 28 p' n c' (xs.drop (om - n)) CB ∧ Vec 1 28 oa (om - n) oc (xs.take (om - n)) OB ∧ L' = (xb, [.pointer (some ⟨fb, o, none⟩)], 107) :: (fb, gs (.slice oa (om - n) oc), 66) :: (OB ++ CB) := by
  have hcut := hO.cut (om - n) (by omega)
  rw [Nat.mul_one] at hcut
  have hlen := hO.len
  have hs := hset (.slice oa (om - n) oc)
  refine fn_of Try.func62 rfl rfl ?_
  repeat' (first | with_reducible (first | refine thenQ_n ?_ | refine thenQ_e ?_ | refine thenQ_r ?_ | refine ow_nil ?_) | (first | refine wY ?_ | refine wA ?_ | refine wS ?_ | refine wL (fun bk => ?_) | refine wB (fun bk => ?_) | refine wX (fun bk => ?_) | refine wB0 (fun bk => ?_) | refine wB1 (fun bk => ?_) | refine wB1o (fun bk => ?_) | refine wB2o (fun bk => ?_) | refine wG ?_ | (refine wGd (fun hb => ?_) (fun hb => ?_)) | (refine wGe (fun hb => ?_) (fun hb => ?_)) | (refine wGn (fun hb => ?_) (fun hb => ?_))) | with_reducible (first | refine cw_then ?_ | refine cw_region ?_ | refine wCt ?_ | refine wCf ?_) | ((with_reducible refine wCd (fun hb => ?_) (fun hb => ?_)) <;> try subst hb) | ((with_reducible refine wCe (fun hb => ?_) (fun hb => ?_)) <;> try subst hb) | ((with_reducible refine wCn (fun hb => ?_) (fun hb => ?_))) | ((with_reducible refine wCo (fun hb => ?_) (fun hb => ?_))) | ((with_reducible refine wCi (fun hb => ?_) (fun hb => ?_))) | with_reducible (first | refine cw_block ?_ | refine cw_skip ?_ | refine cw_exit ?_ | refine cw_ret ?_ | refine cw_label ?_ | refine cw_scope ?_ | refine inB_same ?_ | refine inB_n ?_ | refine inB_r ?_ | refine wIo ?_ | refine noG_n ?_ | refine noG_r ?_ | refine noG_e ?_))
  rcases hO.inv with ⟨rfl, rfl, rfl, rfl, rfl⟩ | ⟨ob, junk, rfl, hl, hj, hmc, hc63, rfl⟩
  · obtain rfl : n = 0 := by omega
    refine ow_ylx ⟨_, yl_slice_lo_nil rfl rfl, ?_⟩
    refine ow_call_all (clone_word _ none 0 0 [] (.inl ⟨rfl, rfl, rfl, rfl⟩) (by simp) (by omega)) rfl (fun v L' hv => ?_)
    obtain ⟨p', c', CB, rfl, hC, rfl⟩ := hv
    repeat' (first | with_reducible (first | refine thenQ_n ?_ | refine thenQ_e ?_ | refine thenQ_r ?_ | refine ow_nil ?_) | (first | refine wY ?_ | refine wA ?_ | refine wS ?_ | refine wL (fun bk => ?_) | refine wB (fun bk => ?_) | refine wX (fun bk => ?_) | refine wB0 (fun bk => ?_) | refine wB1 (fun bk => ?_) | refine wB1o (fun bk => ?_) | refine wB2o (fun bk => ?_) | refine wG ?_ | (refine wGd (fun hb => ?_) (fun hb => ?_)) | (refine wGe (fun hb => ?_) (fun hb => ?_)) | (refine wGn (fun hb => ?_) (fun hb => ?_))) | with_reducible (first | refine cw_then ?_ | refine cw_region ?_ | refine wCt ?_ | refine wCf ?_) | ((with_reducible refine wCd (fun hb => ?_) (fun hb => ?_)) <;> try subst hb) | ((with_reducible refine wCe (fun hb => ?_) (fun hb => ?_)) <;> try subst hb) | ((with_reducible refine wCn (fun hb => ?_) (fun hb => ?_))) | ((with_reducible refine wCo (fun hb => ?_) (fun hb => ?_))) | ((with_reducible refine wCi (fun hb => ?_) (fun hb => ?_))) | with_reducible (first | refine cw_block ?_ | refine cw_skip ?_ | refine cw_exit ?_ | refine cw_ret ?_ | refine cw_label ?_ | refine cw_scope ?_ | refine inB_same ?_ | refine inB_n ?_ | refine inB_r ?_ | refine wIo ?_ | refine noG_n ?_ | refine noG_r ?_ | refine noG_e ?_))
    refine cw_drawnq 10 rfl rfl [(xb, [.pointer (some ⟨fb, o, none⟩)], 107)] ?_
    repeat (first | refine wN ?_ | refine wK ?_)
    refine wT 5 ?_
    refine wO 4 ?_
    repeat (first | refine wY ?_ | refine wA ?_ | refine wS ?_ | refine wL (fun bk => ?_) | refine wB (fun bk => ?_) | refine wX (fun bk => ?_) | refine wB0 (fun bk => ?_) | refine wB1 (fun bk => ?_) | refine wB1o (fun bk => ?_) | refine wB2o (fun bk => ?_) | refine wG ?_ | (refine wGd (fun hb => ?_) (fun hb => ?_)) | (refine wGe (fun hb => ?_) (fun hb => ?_)) | (refine wGn (fun hb => ?_) (fun hb => ?_)))
    refine wP ?_
    repeat (first | refine wN ?_ | refine wK ?_)
    refine wO 9 ?_
    repeat (first | refine wY ?_ | refine wA ?_ | refine wS ?_ | refine wL (fun bk => ?_) | refine wB (fun bk => ?_) | refine wX (fun bk => ?_) | refine wB0 (fun bk => ?_) | refine wB1 (fun bk => ?_) | refine wB1o (fun bk => ?_) | refine wB2o (fun bk => ?_) | refine wG ?_ | (refine wGd (fun hb => ?_) (fun hb => ?_)) | (refine wGe (fun hb => ?_) (fun hb => ?_)) | (refine wGn (fun hb => ?_) (fun hb => ?_)))
    refine wP ?_
    refine wZ ?_
    repeat' (first | with_reducible (first | refine thenQ_n ?_ | refine thenQ_e ?_ | refine thenQ_r ?_ | refine ow_nil ?_) | (first | refine wY ?_ | refine wA ?_ | refine wS ?_ | refine wL (fun bk => ?_) | refine wB (fun bk => ?_) | refine wX (fun bk => ?_) | refine wB0 (fun bk => ?_) | refine wB1 (fun bk => ?_) | refine wB1o (fun bk => ?_) | refine wB2o (fun bk => ?_) | refine wG ?_ | (refine wGd (fun hb => ?_) (fun hb => ?_)) | (refine wGe (fun hb => ?_) (fun hb => ?_)) | (refine wGn (fun hb => ?_) (fun hb => ?_))) | with_reducible (first | refine cw_then ?_ | refine cw_region ?_ | refine wCt ?_ | refine wCf ?_) | ((with_reducible refine wCd (fun hb => ?_) (fun hb => ?_)) <;> try subst hb) | ((with_reducible refine wCe (fun hb => ?_) (fun hb => ?_)) <;> try subst hb) | ((with_reducible refine wCn (fun hb => ?_) (fun hb => ?_))) | ((with_reducible refine wCo (fun hb => ?_) (fun hb => ?_))) | ((with_reducible refine wCi (fun hb => ?_) (fun hb => ?_))) | with_reducible (first | refine cw_block ?_ | refine cw_skip ?_ | refine cw_exit ?_ | refine cw_ret ?_ | refine cw_label ?_ | refine cw_scope ?_ | refine inB_same ?_ | refine inB_n ?_ | refine inB_r ?_ | refine wIo ?_ | refine noG_n ?_ | refine noG_r ?_ | refine noG_e ?_))
    exact ret1 (v := .slice p' 0 c') rfl rfl (sub_mk (L' := (xb, [.pointer (some ⟨fb, o, none⟩)], 107) :: (fb, gs (.slice none (((0 : Nat) : Int) - ((0 : Nat) : Int)).toNat 0), 66) :: ([] ++ CB)) ⟨p', c', CB, rfl, hC, .nil, rfl⟩)
  · have e : ((om : Int) - (n : Int)) = ((om - n : Nat) : Int) := by omega
    rw [e]
    refine ow_slice_lo rfl rfl (by omega) (by omega) (fun o' ho' => ?_)
    have e2 : om - (om - n) = n := by omega
    simp only [Int.toNat_natCast, e2] at ho' ⊢
    refine ow_call_all (clone_word _ (some ⟨ob, o', none⟩) n _ (xs.drop (om - n)) (.inr ⟨ob, o', xs ++ junk, rfl, inferInstance, by rw [List.length_drop]; omega, fun j u hu => ?_⟩) (fun u hu => h1 u (List.mem_of_mem_drop hu)) (by omega)) rfl (fun v L' hv => ?_)
    · have hj := (List.getElem?_eq_some_iff.1 hu).1
      rw [List.length_drop] at hj
      rw [ho' (by omega), List.getElem?_append_left (by omega), ← hu, List.getElem?_drop]
      congr 1; omega
    obtain ⟨p', c', CB, rfl, hC, rfl⟩ := hv
    repeat' (first | with_reducible (first | refine thenQ_n ?_ | refine thenQ_e ?_ | refine thenQ_r ?_ | refine ow_nil ?_) | (first | refine wY ?_ | refine wA ?_ | refine wS ?_ | refine wL (fun bk => ?_) | refine wB (fun bk => ?_) | refine wX (fun bk => ?_) | refine wB0 (fun bk => ?_) | refine wB1 (fun bk => ?_) | refine wB1o (fun bk => ?_) | refine wB2o (fun bk => ?_) | refine wG ?_ | (refine wGd (fun hb => ?_) (fun hb => ?_)) | (refine wGe (fun hb => ?_) (fun hb => ?_)) | (refine wGn (fun hb => ?_) (fun hb => ?_))) | with_reducible (first | refine cw_then ?_ | refine cw_region ?_ | refine wCt ?_ | refine wCf ?_) | ((with_reducible refine wCd (fun hb => ?_) (fun hb => ?_)) <;> try subst hb) | ((with_reducible refine wCe (fun hb => ?_) (fun hb => ?_)) <;> try subst hb) | ((with_reducible refine wCn (fun hb => ?_) (fun hb => ?_))) | ((with_reducible refine wCo (fun hb => ?_) (fun hb => ?_))) | ((with_reducible refine wCi (fun hb => ?_) (fun hb => ?_))) | with_reducible (first | refine cw_block ?_ | refine cw_skip ?_ | refine cw_exit ?_ | refine cw_ret ?_ | refine cw_label ?_ | refine cw_scope ?_ | refine inB_same ?_ | refine inB_n ?_ | refine inB_r ?_ | refine wIo ?_ | refine noG_n ?_ | refine noG_r ?_ | refine noG_e ?_))
    refine cw_drawnq 10 rfl rfl [(xb, [.pointer (some ⟨fb, o, none⟩)], 107)] ?_
    repeat (first | refine wN ?_ | refine wK ?_)
    refine wT 5 ?_
    refine wO 4 ?_
    repeat (first | refine wY ?_ | refine wA ?_ | refine wS ?_ | refine wL (fun bk => ?_) | refine wB (fun bk => ?_) | refine wX (fun bk => ?_) | refine wB0 (fun bk => ?_) | refine wB1 (fun bk => ?_) | refine wB1o (fun bk => ?_) | refine wB2o (fun bk => ?_) | refine wG ?_ | (refine wGd (fun hb => ?_) (fun hb => ?_)) | (refine wGe (fun hb => ?_) (fun hb => ?_)) | (refine wGn (fun hb => ?_) (fun hb => ?_)))
    refine wP ?_
    repeat (first | refine wN ?_ | refine wK ?_)
    refine wO 9 ?_
    repeat (first | refine wY ?_ | refine wA ?_ | refine wS ?_ | refine wL (fun bk => ?_) | refine wB (fun bk => ?_) | refine wX (fun bk => ?_) | refine wB0 (fun bk => ?_) | refine wB1 (fun bk => ?_) | refine wB1o (fun bk => ?_) | refine wB2o (fun bk => ?_) | refine wG ?_ | (refine wGd (fun hb => ?_) (fun hb => ?_)) | (refine wGe (fun hb => ?_) (fun hb => ?_)) | (refine wGn (fun hb => ?_) (fun hb => ?_)))
    refine wP ?_
    refine wZ ?_
    repeat' (first | with_reducible (first | refine thenQ_n ?_ | refine thenQ_e ?_ | refine thenQ_r ?_ | refine ow_nil ?_) | (first | refine wY ?_ | refine wA ?_ | refine wS ?_ | refine wL (fun bk => ?_) | refine wB (fun bk => ?_) | refine wX (fun bk => ?_) | refine wB0 (fun bk => ?_) | refine wB1 (fun bk => ?_) | refine wB1o (fun bk => ?_) | refine wB2o (fun bk => ?_) | refine wG ?_ | (refine wGd (fun hb => ?_) (fun hb => ?_)) | (refine wGe (fun hb => ?_) (fun hb => ?_)) | (refine wGn (fun hb => ?_) (fun hb => ?_))) | with_reducible (first | refine cw_then ?_ | refine cw_region ?_ | refine wCt ?_ | refine wCf ?_) | ((with_reducible refine wCd (fun hb => ?_) (fun hb => ?_)) <;> try subst hb) | ((with_reducible refine wCe (fun hb => ?_) (fun hb => ?_)) <;> try subst hb) | ((with_reducible refine wCn (fun hb => ?_) (fun hb => ?_))) | ((with_reducible refine wCo (fun hb => ?_) (fun hb => ?_))) | ((with_reducible refine wCi (fun hb => ?_) (fun hb => ?_))) | with_reducible (first | refine cw_block ?_ | refine cw_skip ?_ | refine cw_exit ?_ | refine cw_ret ?_ | refine cw_label ?_ | refine cw_scope ?_ | refine inB_same ?_ | refine inB_n ?_ | refine inB_r ?_ | refine wIo ?_ | refine noG_n ?_ | refine noG_r ?_ | refine noG_e ?_))
    exact ret1 (v := .slice p' n c') rfl rfl (sub_mk (L' := (xb, [.pointer (some ⟨fb, o, none⟩)], 107) :: (fb, gs (.slice (some ⟨ob, 0, none⟩) ((om - n : Nat) : Int).toNat oc), 66) :: ([(ob, xs ++ junk, 28)] ++ CB)) ⟨p', c', CB, rfl, hC, hcut, rfl⟩)

set_option maxRecDepth 4000 in
theorem ref_fn (mb xb fb o : Nat) (mcs cs : List Value) (pa : Option Addr) (pm pc : Nat) (p : Pm.Prog) (PB : List Blk) (hp : ProgRd h0 PB pa pm pc p) (f : Int) (hf0 : 0 ≤ f) (hf : f < pm) (k : Int) (la : Addr) (lm lc : Nat)
    (hm0 : At mcs 0 (.slice pa pm pc)) (hat0 : At cs (o + 0) (.int .i64 f)) (hat : At cs (o + 6) (.slice (some la) lm lc)) (lb : Nat) (hla : la = ⟨lb, 0, none⟩) (hk0 : 0 ≤ k) (hkr : k < (Pm.fn p f).refs) (hrl : (Pm.fn p f).refs ≤ lm) (hlm : lm ≤ 1000000) (tb : Nat) :
    Ct Try.prog h0 64 [.int .i64 k, .pointer (some ⟨xb, 0, none⟩), .pointer (some ⟨tb, 0, none⟩)] ((tb, [.pointer (some ⟨mb, 0, none⟩)], 35) :: (xb, [.pointer (some ⟨fb, o, none⟩)], 107) :: (mb, mcs, 76) :: (fb, cs, 66) :: PB)
      fun v L' => v = .pointer (some ⟨lb, 0 + (lm - (Pm.fn p f).refs + k).toNat * 1, none⟩) ∧ L' = (tb, [.pointer (some ⟨mb, 0, none⟩)], 35) :: (xb, [.pointer (some ⟨fb, o, none⟩)], 107) :: (mb, mcs, 76) :: (fb, cs, 66) :: PB := by
  subst hla
  rw [Nat.add_zero] at hat0
  obtain ⟨b, o1, cs1, fu, ca, cm, cc, rfl, hrd, hpk, hmem, hsl, hcl, h1, h2, h3, h4, h5⟩ := hp.func f.toNat (by omega)
  have hfu : Pm.fn p f = fu := by unfold Pm.fn; rw [List.getD_eq_getElem?_getD, hpk]; rfl
  simp only [hfu] at hkr hrl ⊢
  refine fn_of Try.func64 rfl rfl ?_
  refine cw_then (cw_region ?_)
  repeat (first | refine wY ?_ | refine wA ?_ | refine wS ?_ | refine wL (fun bk => ?_) | refine wB (fun bk => ?_) | refine wX (fun bk => ?_) | refine wB0 (fun bk => ?_) | refine wB1 (fun bk => ?_) | refine wB1o (fun bk => ?_) | refine wB2o (fun bk => ?_) | refine wG ?_ | (refine wGd (fun hb => ?_) (fun hb => ?_)) | (refine wGe (fun hb => ?_) (fun hb => ?_)) | (refine wGn (fun hb => ?_) (fun hb => ?_)))
  refine ow_nil (thenQ_n ?_)
  refine cw_then (cw_drawn 26 rfl rfl ?_)
  repeat (first | refine wN ?_ | refine wK ?_)
  refine wZ ?_
  repeat' (first | with_reducible (first | refine thenQ_n ?_ | refine thenQ_e ?_ | refine thenQ_r ?_ | refine ow_nil ?_) | (first | refine wY ?_ | refine wA ?_ | refine wS ?_ | refine wL (fun bk => ?_) | refine wB (fun bk => ?_) | refine wX (fun bk => ?_) | refine wB0 (fun bk => ?_) | refine wB1 (fun bk => ?_) | refine wB1o (fun bk => ?_) | refine wB2o (fun bk => ?_) | refine wG ?_ | (refine wGd (fun hb => ?_) (fun hb => ?_)) | (refine wGe (fun hb => ?_) (fun hb => ?_)) | (refine wGn (fun hb => ?_) (fun hb => ?_))) | with_reducible (first | refine cw_then ?_ | refine cw_region ?_ | refine wCt ?_ | refine wCf ?_) | ((with_reducible refine wCd (fun hb => ?_) (fun hb => ?_)) <;> try subst hb) | ((with_reducible refine wCe (fun hb => ?_) (fun hb => ?_)) <;> try subst hb) | ((with_reducible refine wCn (fun hb => ?_) (fun hb => ?_))) | ((with_reducible refine wCo (fun hb => ?_) (fun hb => ?_))) | ((with_reducible refine wCi (fun hb => ?_) (fun hb => ?_))) | with_reducible (first | refine cw_block ?_ | refine cw_skip ?_ | refine cw_exit ?_ | refine cw_ret ?_ | refine cw_label ?_ | refine cw_scope ?_ | refine inB_same ?_ | refine inB_n ?_ | refine inB_r ?_ | refine wIo ?_ | refine noG_n ?_ | refine noG_r ?_ | refine noG_e ?_))
  exact ret1 rfl rfl (sub_mk ⟨rfl, rfl⟩)

theorem mnext_fn (mb fb : Nat) (mcs cs : List Value) (pa : Option Addr) (pm pc : Nat) (p : Pm.Prog) (PB : List Blk) (hp : ProgRd h0 PB pa pm pc p) (f at_ : Int) (hf0 : 0 ≤ f) (hf : f < pm) (hat0 : 0 ≤ at_) (hat : at_ < (Pm.fn p f).code.length) (mo va : Int) (dd : Bool) (da la oa : Option Addr) (dm dc lm lc om oc : Nat) (fm fc : Nat) (hfm : 1 ≤ fm) (hfm2 : fm ≤ 1000000)
    (hm0 : At mcs 0 (.slice pa pm pc)) (hm6 : At mcs 6 (.slice (some ⟨fb, 0, none⟩) fm fc)) (hst : Stretch cs (0 + ((fm : Int) - 1).toNat * 8) 8 [.int .i64 f, .int .i64 at_, .int .i64 mo, .bool dd, .int .u64 va, .slice da dm dc, .slice la lm lc, .slice oa om oc]) :
    Ct Try.prog h0 60 [.pointer (some ⟨mb, 0, none⟩)] ((mb, mcs, 76) :: (fb, cs, 66) :: PB)
      fun v L' => v = .agg #[.int .i64 ((Pm.fn p f).code.getD at_.toNat default).op, .int .i64 ((Pm.fn p f).code.getD at_.toNat default).a, .int .i64 ((Pm.fn p f).code.getD at_.toNat default).b] ∧ L' = (mb, mcs, 76) :: (fb, cs, 66) :: PB := by
  obtain ⟨b, o1, cs1, fu, ca, cm, cc, rfl, hrd, hpk, hmem, hsl, hcl, h1, h2, h3, h4, h5⟩ := hp.func f.toNat (by omega)
  have hfu : Pm.fn p f = fu := by unfold Pm.fn; rw [List.getD_eq_getElem?_getD, hpk]; rfl
  simp only [hfu] at hat ⊢
  obtain ⟨b2, o2, cs2, x, rfl, hrd2, hxi, hxm, g1, g2, g3, g4⟩ := hsl.instr at_.toNat (by omega)
  have hx : fu.code.getD at_.toNat default = x := by rw [List.getD_eq_getElem?_getD, hxi]; rfl
  simp only [hx]
  refine fn_of Try.func60 rfl rfl ?_
  refine cw_then (cw_region ?_)
  repeat (first | refine wY ?_ | refine wA ?_ | refine wS ?_ | refine wL (fun bk => ?_) | refine wB (fun bk => ?_) | refine wX (fun bk => ?_) | refine wB0 (fun bk => ?_) | refine wB1 (fun bk => ?_) | refine wB1o (fun bk => ?_) | refine wB2o (fun bk => ?_) | refine wG ?_ | (refine wGd (fun hb => ?_) (fun hb => ?_)) | (refine wGe (fun hb => ?_) (fun hb => ?_)) | (refine wGn (fun hb => ?_) (fun hb => ?_)))
  refine ow_nil (thenQ_n ?_)
  rename Nat => b2'
  refine cw_then (cw_drawn 14 rfl rfl ?_)
  repeat (first | refine wN ?_ | refine wK ?_)
  refine wO 12 ?_
  repeat (first | refine wY ?_ | refine wA ?_ | refine wS ?_ | refine wL (fun bk => ?_) | refine wB (fun bk => ?_) | refine wX (fun bk => ?_) | refine wB0 (fun bk => ?_) | refine wB1 (fun bk => ?_) | refine wB1o (fun bk => ?_) | refine wB2o (fun bk => ?_) | refine wG ?_ | (refine wGd (fun hb => ?_) (fun hb => ?_)) | (refine wGe (fun hb => ?_) (fun hb => ?_)) | (refine wGn (fun hb => ?_) (fun hb => ?_)))
  refine wP ?_
  refine wO 13 ?_
  repeat (first | refine wY ?_ | refine wA ?_ | refine wS ?_ | refine wL (fun bk => ?_) | refine wB (fun bk => ?_) | refine wX (fun bk => ?_) | refine wB0 (fun bk => ?_) | refine wB1 (fun bk => ?_) | refine wB1o (fun bk => ?_) | refine wB2o (fun bk => ?_) | refine wG ?_ | (refine wGd (fun hb => ?_) (fun hb => ?_)) | (refine wGe (fun hb => ?_) (fun hb => ?_)) | (refine wGn (fun hb => ?_) (fun hb => ?_)))
  refine wP ?_
  refine wZ ?_
  refine thenQ_n (cw_then ?_)
  rename Nat => b3
  refine cw_drawnq 15 rfl rfl ((b3, [.int .i64 f, .int .i64 at_, .int .i64 mo, .bool dd, .int .u64 va, .slice da dm dc, .slice la lm lc, .slice oa om oc], 66) :: (mb, mcs, 76) :: PB) ?_
  repeat (first | refine wN ?_ | refine wK ?_)
  refine wO 14 ?_
  repeat (first | refine wY ?_ | refine wA ?_ | refine wS ?_ | refine wL (fun bk => ?_) | refine wB (fun bk => ?_) | refine wX (fun bk => ?_) | refine wB0 (fun bk => ?_) | refine wB1 (fun bk => ?_) | refine wB1o (fun bk => ?_) | refine wB2o (fun bk => ?_) | refine wG ?_ | (refine wGd (fun hb => ?_) (fun hb => ?_)) | (refine wGe (fun hb => ?_) (fun hb => ?_)) | (refine wGn (fun hb => ?_) (fun hb => ?_)))
  refine wP ?_
  refine wZ ?_
  repeat' (first | with_reducible (first | refine thenQ_n ?_ | refine thenQ_e ?_ | refine thenQ_r ?_ | refine ow_nil ?_) | (first | refine wY ?_ | refine wA ?_ | refine wS ?_ | refine wL (fun bk => ?_) | refine wB (fun bk => ?_) | refine wX (fun bk => ?_) | refine wB0 (fun bk => ?_) | refine wB1 (fun bk => ?_) | refine wB1o (fun bk => ?_) | refine wB2o (fun bk => ?_) | refine wG ?_ | (refine wGd (fun hb => ?_) (fun hb => ?_)) | (refine wGe (fun hb => ?_) (fun hb => ?_)) | (refine wGn (fun hb => ?_) (fun hb => ?_))) | with_reducible (first | refine cw_then ?_ | refine cw_region ?_ | refine wCt ?_ | refine wCf ?_) | ((with_reducible refine wCd (fun hb => ?_) (fun hb => ?_)) <;> try subst hb) | ((with_reducible refine wCe (fun hb => ?_) (fun hb => ?_)) <;> try subst hb) | ((with_reducible refine wCn (fun hb => ?_) (fun hb => ?_))) | ((with_reducible refine wCo (fun hb => ?_) (fun hb => ?_))) | ((with_reducible refine wCi (fun hb => ?_) (fun hb => ?_))) | with_reducible (first | refine cw_block ?_ | refine cw_skip ?_ | refine cw_exit ?_ | refine cw_ret ?_ | refine cw_label ?_ | refine cw_scope ?_ | refine inB_same ?_ | refine inB_n ?_ | refine inB_r ?_ | refine wIo ?_ | refine noG_n ?_ | refine noG_r ?_ | refine noG_e ?_))
  refine retc (vs := [.int .i64 x.op, .int .i64 x.a, .int .i64 x.b]) rfl rfl (sub_mk ⟨rfl, rfl⟩)
end Go.Proofs.Ytnijpdehchdinaa
