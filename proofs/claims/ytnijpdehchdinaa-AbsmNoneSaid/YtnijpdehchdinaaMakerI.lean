/-
  rickyardlaw17.Made: a program in memory that is right, whose function 0 has no Params.
-/
import Derived.Test.YtnijpdehchdinaaMakerH
set_option linter.unusedVariables false
set_option linter.unusedSimpArgs false
namespace Go.Hl
theorem FnRep.split {A : List Pm.Func} {x : Pm.Func} {B : List Pm.Func} {cs : List Value} {L : List Blk} (h : FnRep (A ++ x :: B) cs L) :
    ∃ cA cB BA BB CB ca cm cc, FnRep A cA BA ∧ FnRep B cB BB ∧ Vec 3 23 ca cm cc (instrCells x.code) CB ∧ cs = cA ++ (.int .i64 x.params :: .int .i64 x.locals :: .int .i64 x.refs :: .slice ca cm cc :: cB) ∧ L = BA ++ (CB ++ BB) := by
  induction A generalizing cs L with
  | nil =>
    cases h with
    | cons h hc => exact ⟨[], _, [], _, _, _, _, _, .nil, h, hc, rfl, rfl⟩
  | cons f A ih =>
    cases h with
    | @cons _ _ ca0 cm0 cc0 cs0 CB0 B0 h hc =>
      obtain ⟨cA, cB, BA, BB, CB, ca, cm, cc, h1, h2, h3, rfl, rfl⟩ := ih h
      exact ⟨_, cB, _, BB, CB, ca, cm, cc, .cons h1 hc, h2, h3, by simp, by simp⟩
end Go.Hl
namespace Go.Proofs.Ytnijpdehchdinaa
open Go Go.Proofs Go.Hl
variable {h0 : Array Obj}

theorem next_raw (kb : Nat) (c1 c2 c3 c4 : Value) (L : List Blk) (na : Option Addr) (nm nc : Nat) (ns : List Int) (hns : SlRd h0 [] 1 na nm nc (ints .u8 ns)) (hnz : ∀ z ∈ ns, 0 ≤ z ∧ z ≤ 255) :
    Ct Try.prog h0 39 [.pointer (some ⟨kb, 0, none⟩)] ((kb, [.slice na nm nc, c1, c2, c3, c4], 88) :: L) fun v L' => ∃ (b : Int) (na' : Option Addr) (nm' nc' : Nat) (ns' : List Int), v = .int .i64 b ∧ (0 ≤ b ∧ b ≤ 255) ∧ SlRd h0 [] 1 na' nm' nc' (ints .u8 ns') ∧ (∀ z ∈ ns', 0 ≤ z ∧ z ≤ 255) ∧ L' = (kb, [.slice na' nm' nc', c1, c2, c3, c4], 88) :: L := by
  have hnl := hns.len
  rw [length_ints] at hnl
  have hncap := hns.cap
  have hn63 := hns.cap63
  refine fn_of Try.func39 rfl rfl ?_
  by_cases h0n : nm = 0
  · subst h0n
    repeat' (first | with_reducible (first | refine thenQ_n ?_ | refine thenQ_e ?_ | refine thenQ_r ?_ | refine ow_nil ?_) | (first | refine wY ?_ | refine wA ?_ | refine wS ?_ | refine wL (fun bk => ?_) | refine wB (fun bk => ?_) | refine wX (fun bk => ?_) | refine wB0 (fun bk => ?_) | refine wB1 (fun bk => ?_) | refine wB1o (fun bk => ?_) | refine wB2o (fun bk => ?_) | refine wG ?_ | (refine wGd (fun hb => ?_) (fun hb => ?_) <;> try (exfalso; omega)) | (refine wGe (fun hb => ?_) (fun hb => ?_) <;> try (exfalso; omega)) | (refine wGn (fun hb => ?_) (fun hb => ?_) <;> try (exfalso; omega))) | with_reducible (first | refine cw_then ?_ | refine cw_region ?_ | refine wCt ?_ | refine wCf ?_) | (((with_reducible refine wCd (fun hb => ?_) (fun hb => ?_)) <;> try subst hb) <;> try (exfalso; omega)) | (((with_reducible refine wCe (fun hb => ?_) (fun hb => ?_)) <;> try subst hb) <;> try (exfalso; omega)) | ((with_reducible refine wCn (fun hb => ?_) (fun hb => ?_)) <;> try (exfalso; omega)) | ((with_reducible refine wCo (fun hb => ?_) (fun hb => ?_))) | ((with_reducible refine wCi (fun hb => ?_) (fun hb => ?_))) | with_reducible (first | refine cw_block ?_ | refine cw_skip ?_ | refine cw_exit ?_ | refine cw_ret ?_ | refine cw_label ?_ | refine cw_scope ?_ | refine inB_same ?_ | refine inB_n ?_ | refine inB_r ?_ | refine wIo ?_ | refine noG_n ?_ | refine noG_r ?_ | refine noG_e ?_))
    exact ret1 (v := .int .i64 0) rfl rfl (sub_mk ⟨0, na, 0, nc, ns, rfl, by omega, hns, hnz, rfl⟩)
  · obtain ⟨b, o, cs, rfl, hrd, hat⟩ := hns.int 0 (by omega)
    obtain ⟨z, zs, hzs⟩ : ∃ z zs, ns = z :: zs := by cases ns with | nil => simp at hnl; omega | cons z zs => exact ⟨z, zs, rfl⟩
    subst hzs
    have hz := hnz z (List.mem_cons_self ..)
    have hrda : ∀ L, Rd h0 L b cs := fun L => hrd.any L
    have hat' : At cs (o + (0 : Int).toNat * 1) (.int .u8 z) := hat
    have hwz : IntKind.i64.wrap z = z := wrap64_in (by omega)
    repeat' (first | with_reducible (first | refine thenQ_n ?_ | refine thenQ_e ?_ | refine thenQ_r ?_ | refine ow_nil ?_) | (first | refine wY ?_ | refine wA ?_ | refine wS ?_ | refine wL (fun bk => ?_) | refine wB (fun bk => ?_) | refine wX (fun bk => ?_) | refine wB0 (fun bk => ?_) | refine wB1 (fun bk => ?_) | refine wB1o (fun bk => ?_) | refine wB2o (fun bk => ?_) | refine wG ?_ | (refine wGd (fun hb => ?_) (fun hb => ?_) <;> try (exfalso; omega)) | (refine wGe (fun hb => ?_) (fun hb => ?_) <;> try (exfalso; omega)) | (refine wGn (fun hb => ?_) (fun hb => ?_) <;> try (exfalso; omega))) | with_reducible (first | refine cw_then ?_ | refine cw_region ?_ | refine wCt ?_ | refine wCf ?_) | (((with_reducible refine wCd (fun hb => ?_) (fun hb => ?_)) <;> try subst hb) <;> try (exfalso; omega)) | (((with_reducible refine wCe (fun hb => ?_) (fun hb => ?_)) <;> try subst hb) <;> try (exfalso; omega)) | ((with_reducible refine wCn (fun hb => ?_) (fun hb => ?_)) <;> try (exfalso; omega)) | ((with_reducible refine wCo (fun hb => ?_) (fun hb => ?_))) | ((with_reducible refine wCi (fun hb => ?_) (fun hb => ?_))) | with_reducible (first | refine cw_block ?_ | refine cw_skip ?_ | refine cw_exit ?_ | refine cw_ret ?_ | refine cw_label ?_ | refine cw_scope ?_ | refine inB_same ?_ | refine inB_n ?_ | refine inB_r ?_ | refine wIo ?_ | refine noG_n ?_ | refine noG_r ?_ | refine noG_e ?_))
    refine ow_slice_lo rfl rfl (by omega) (by omega) (fun o' ho' => ?_)
    repeat' (first | with_reducible (first | refine thenQ_n ?_ | refine thenQ_e ?_ | refine thenQ_r ?_ | refine ow_nil ?_) | (first | refine wY ?_ | refine wA ?_ | refine wS ?_ | refine wL (fun bk => ?_) | refine wB (fun bk => ?_) | refine wX (fun bk => ?_) | refine wB0 (fun bk => ?_) | refine wB1 (fun bk => ?_) | refine wB1o (fun bk => ?_) | refine wB2o (fun bk => ?_) | refine wG ?_ | (refine wGd (fun hb => ?_) (fun hb => ?_) <;> try (exfalso; omega)) | (refine wGe (fun hb => ?_) (fun hb => ?_) <;> try (exfalso; omega)) | (refine wGn (fun hb => ?_) (fun hb => ?_) <;> try (exfalso; omega))) | with_reducible (first | refine cw_then ?_ | refine cw_region ?_ | refine wCt ?_ | refine wCf ?_) | (((with_reducible refine wCd (fun hb => ?_) (fun hb => ?_)) <;> try subst hb) <;> try (exfalso; omega)) | (((with_reducible refine wCe (fun hb => ?_) (fun hb => ?_)) <;> try subst hb) <;> try (exfalso; omega)) | ((with_reducible refine wCn (fun hb => ?_) (fun hb => ?_)) <;> try (exfalso; omega)) | ((with_reducible refine wCo (fun hb => ?_) (fun hb => ?_))) | ((with_reducible refine wCi (fun hb => ?_) (fun hb => ?_))) | with_reducible (first | refine cw_block ?_ | refine cw_skip ?_ | refine cw_exit ?_ | refine cw_ret ?_ | refine cw_label ?_ | refine cw_scope ?_ | refine inB_same ?_ | refine inB_n ?_ | refine inB_r ?_ | refine wIo ?_ | refine noG_n ?_ | refine noG_r ?_ | refine noG_e ?_))
    rw [hwz]
    refine ret1 (v := .int .i64 z) rfl rfl (sub_mk ⟨z, some ⟨b, o', none⟩, nm - (1 : Int).toNat, nc - (1 : Int).toNat, zs, rfl, hz, ⟨?_, ?_, ?_, fun hp => ?_⟩, fun y hy => hnz y (List.mem_cons_of_mem _ hy), rfl⟩)
    · rw [length_ints]; simp at hnl; omega
    · omega
    · omega
    · obtain ⟨b2, o2, cs2, e2, hrd2, hat2⟩ := hns.rd (by omega)
      simp only [Option.some.injEq, Addr.mk.injEq, and_true] at e2
      obtain ⟨rfl, rfl⟩ := e2
      refine ⟨b, o', cs2, rfl, hrd2, fun j u hu => ?_⟩
      have := ho' (by omega)
      rw [this, show o + (1 : Int).toNat * 1 + j = o + (j + 1) by omega]
      exact hat2 (j + 1) u (by simpa [ints] using hu)

/-- A function without a code whose numbers may be. -/
def Bare (f : Pm.Func) : Prop := f.code = [] ∧ 0 ≤ f.params ∧ f.params ≤ 3 ∧ f.params ≤ f.locals ∧ f.locals ≤ 8 ∧ 0 ≤ f.refs ∧ f.refs ≤ f.locals - f.params

set_option maxHeartbeats 4000000 in
set_option maxRecDepth 4000 in
theorem made_fn (na : Option Addr) (nm nc : Nat) (ns : List Int) (hns : SlRd h0 [] 1 na nm nc (ints .u8 ns)) (hnz : ∀ z ∈ ns, 0 ≤ z ∧ z ≤ 255) :
    Ct Try.prog h0 21 [.slice na nm nc] [] fun v L' => ∃ pb pm pc p, v = .agg #[.slice (some ⟨pb, 0, none⟩) pm pc] ∧ ProgRd h0 L' (some ⟨pb, 0, none⟩) pm pc p ∧ Pm.Valid p ∧ (Pm.fn p 0).params = 0 := by
  refine fn_of Try.func21 rfl rfl ?_
  repeat' (first | with_reducible (first | refine thenQ_n ?_ | refine thenQ_e ?_ | refine thenQ_r ?_ | refine ow_nil ?_) | (first | refine wY ?_ | refine wA ?_ | refine wS ?_ | refine wL (fun bk => ?_) | refine wB (fun bk => ?_) | refine wX (fun bk => ?_) | refine wB0 (fun bk => ?_) | refine wB1 (fun bk => ?_) | refine wB1o (fun bk => ?_) | refine wB2o (fun bk => ?_) | refine wG ?_ | (refine wGd (fun hb => ?_) (fun hb => ?_) <;> try (exfalso; omega)) | (refine wGe (fun hb => ?_) (fun hb => ?_) <;> try (exfalso; omega)) | (refine wGn (fun hb => ?_) (fun hb => ?_) <;> try (exfalso; omega))) | with_reducible (first | refine cw_then ?_ | refine cw_region ?_ | refine wCt ?_ | refine wCf ?_) | (((with_reducible refine wCd (fun hb => ?_) (fun hb => ?_)) <;> try subst hb) <;> try (exfalso; omega)) | (((with_reducible refine wCe (fun hb => ?_) (fun hb => ?_)) <;> try subst hb) <;> try (exfalso; omega)) | ((with_reducible refine wCn (fun hb => ?_) (fun hb => ?_)) <;> try (exfalso; omega)) | ((with_reducible refine wCo (fun hb => ?_) (fun hb => ?_))) | ((with_reducible refine wCi (fun hb => ?_) (fun hb => ?_))) | with_reducible (first | refine cw_block ?_ | refine cw_skip ?_ | refine cw_exit ?_ | refine cw_ret ?_ | refine cw_label ?_ | refine cw_scope ?_ | refine inB_same ?_ | refine inB_n ?_ | refine inB_r ?_ | refine wIo ?_ | refine noG_n ?_ | refine noG_r ?_ | refine noG_e ?_))
  rename Nat => rb
  refine ow_ylx ⟨_, yl_build [(0, .slice na nm nc)] (.agg #[.slice na nm nc, .slice none 0 0, .int .i64 0, .slice none 0 0, .int .i64 0]) rfl (fun w => by simp [go_sem]), ?_⟩
  repeat' (first | with_reducible (first | refine thenQ_n ?_ | refine thenQ_e ?_ | refine thenQ_r ?_ | refine ow_nil ?_) | (first | refine wY ?_ | refine wA ?_ | refine wS ?_ | refine wL (fun bk => ?_) | refine wB (fun bk => ?_) | refine wX (fun bk => ?_) | refine wB0 (fun bk => ?_) | refine wB1 (fun bk => ?_) | refine wB1o (fun bk => ?_) | refine wB2o (fun bk => ?_) | refine wG ?_ | (refine wGd (fun hb => ?_) (fun hb => ?_) <;> try (exfalso; omega)) | (refine wGe (fun hb => ?_) (fun hb => ?_) <;> try (exfalso; omega)) | (refine wGn (fun hb => ?_) (fun hb => ?_) <;> try (exfalso; omega))) | with_reducible (first | refine cw_then ?_ | refine cw_region ?_ | refine wCt ?_ | refine wCf ?_) | (((with_reducible refine wCd (fun hb => ?_) (fun hb => ?_)) <;> try subst hb) <;> try (exfalso; omega)) | (((with_reducible refine wCe (fun hb => ?_) (fun hb => ?_)) <;> try subst hb) <;> try (exfalso; omega)) | ((with_reducible refine wCn (fun hb => ?_) (fun hb => ?_)) <;> try (exfalso; omega)) | ((with_reducible refine wCo (fun hb => ?_) (fun hb => ?_))) | ((with_reducible refine wCi (fun hb => ?_) (fun hb => ?_))) | with_reducible (first | refine cw_block ?_ | refine cw_skip ?_ | refine cw_exit ?_ | refine cw_ret ?_ | refine cw_label ?_ | refine cw_scope ?_ | refine inB_same ?_ | refine inB_n ?_ | refine inB_r ?_ | refine wIo ?_ | refine noG_n ?_ | refine noG_r ?_ | refine noG_e ?_))
  rename Nat => kb
  refine ow_call (next_raw kb (.slice none 0 0) (.int .i64 0) (.slice none 0 0) (.int .i64 0) [] na nm nc ns hns hnz) rfl (fun v L' hv => ?_)
  obtain ⟨b0, na1, nm1, nc1, ns1, rfl, hb0, hns1, hnz1, rfl⟩ := hv
  repeat' (first | refine wRm ?_ | refine wQu ?_ | (first | with_reducible (first | refine thenQ_n ?_ | refine thenQ_e ?_ | refine thenQ_r ?_ | refine ow_nil ?_) | (first | refine wY ?_ | refine wA ?_ | refine wS ?_ | refine wL (fun bk => ?_) | refine wB (fun bk => ?_) | refine wX (fun bk => ?_) | refine wB0 (fun bk => ?_) | refine wB1 (fun bk => ?_) | refine wB1o (fun bk => ?_) | refine wB2o (fun bk => ?_) | refine wG ?_ | (refine wGd (fun hb => ?_) (fun hb => ?_) <;> try (exfalso; omega)) | (refine wGe (fun hb => ?_) (fun hb => ?_) <;> try (exfalso; omega)) | (refine wGn (fun hb => ?_) (fun hb => ?_) <;> try (exfalso; omega))) | with_reducible (first | refine cw_then ?_ | refine cw_region ?_ | refine wCt ?_ | refine wCf ?_) | (((with_reducible refine wCd (fun hb => ?_) (fun hb => ?_)) <;> try subst hb) <;> try (exfalso; omega)) | (((with_reducible refine wCe (fun hb => ?_) (fun hb => ?_)) <;> try subst hb) <;> try (exfalso; omega)) | ((with_reducible refine wCn (fun hb => ?_) (fun hb => ?_)) <;> try (exfalso; omega)) | ((with_reducible refine wCo (fun hb => ?_) (fun hb => ?_))) | ((with_reducible refine wCi (fun hb => ?_) (fun hb => ?_))) | with_reducible (first | refine cw_block ?_ | refine cw_skip ?_ | refine cw_exit ?_ | refine cw_ret ?_ | refine cw_label ?_ | refine cw_scope ?_ | refine inB_same ?_ | refine inB_n ?_ | refine inB_r ?_ | refine wIo ?_ | refine noG_n ?_ | refine noG_r ?_ | refine noG_e ?_)))
  have hn5 : 1 ≤ 1 + b0 % 5 ∧ 1 + b0 % 5 ≤ 5 := by omega
  generalize 1 + b0 % 5 = n at hn5
  refine cw_loop' (fun k T L' => ∃ (i : Int) (na : Option Addr) (nm nc : Nat) (ns : List Int) (pa : Option Addr) (pm pc : Nat) (fs : List Pm.Func) (cs : List Value) (PB Lx : List Blk), k = (n - i).toNat ∧ 0 ≤ i ∧ i ≤ n ∧ Sl T [(2, .pointer (some ⟨rb, 0, none⟩)), (3, .pointer (some ⟨kb, 0, none⟩)), (4, .int .i64 n), (5, .int .i64 i)] ∧ SlRd h0 [] 1 na nm nc (ints .u8 ns) ∧ (∀ z ∈ ns, 0 ≤ z ∧ z ≤ 255) ∧
    FnRep fs cs [] ∧ Vec 4 26 pa pm pc cs PB ∧ (fs.length : Int) = i ∧ (∀ f ∈ fs, Bare f) ∧ (0 < i → (Pm.fn fs 0).params = 0) ∧ Split L' ((kb, [.slice na nm nc, .slice pa pm pc, .int .i64 0, .slice none 0 0, .int .i64 0], 88) :: (PB ++ [(rb, [.slice none 0 0], 34)])) Lx) n.toNat
    ⟨0, na1, nm1, nc1, ns1, none, 0, 0, [], [], [], _, by omega, by omega, by omega, ⟨rfl, rfl, rfl, rfl, trivial⟩, hns1, hnz1, .nil, .nil, rfl, (fun f hf => by cases hf), (fun h => absurd h (by omega)), inferInstance⟩ ?_
  clear hns1 hnz1 hns hnz
  rintro k T L' ⟨i, na, nm, nc, ns, pa, pm, pc, fs, cs, PB, Lx, rfl, hi0, hi1, hT, hns, hnz, hF, hV, hfl, hbare, hp0, hS⟩
  obtain ⟨T0, rfl⟩ := sl_ov hT
  clear hT
  refine cw_canon ((kb, [.slice na nm nc, .slice pa pm pc, .int .i64 0, .slice none 0 0, .int .i64 0], 88) :: (PB ++ [(rb, [.slice none 0 0], 34)])) ?_
  have hvl := hV.len
  rw [hF.len] at hvl
  by_cases hlt : i < n
  · repeat' (first | refine wRm ?_ | refine wQu ?_ | (first | with_reducible (first | refine thenQ_n ?_ | refine thenQ_e ?_ | refine thenQ_r ?_ | refine ow_nil ?_) | (first | refine wY ?_ | refine wA ?_ | refine wS ?_ | refine wL (fun bk => ?_) | refine wB (fun bk => ?_) | refine wX (fun bk => ?_) | refine wB0 (fun bk => ?_) | refine wB1 (fun bk => ?_) | refine wB1o (fun bk => ?_) | refine wB2o (fun bk => ?_) | refine wG ?_ | (refine wGd (fun hb => ?_) (fun hb => ?_) <;> try (exfalso; omega)) | (refine wGe (fun hb => ?_) (fun hb => ?_) <;> try (exfalso; omega)) | (refine wGn (fun hb => ?_) (fun hb => ?_) <;> try (exfalso; omega))) | with_reducible (first | refine cw_then ?_ | refine cw_region ?_ | refine wCt ?_ | refine wCf ?_) | (((with_reducible refine wCd (fun hb => ?_) (fun hb => ?_)) <;> try subst hb) <;> try (exfalso; omega)) | (((with_reducible refine wCe (fun hb => ?_) (fun hb => ?_)) <;> try subst hb) <;> try (exfalso; omega)) | ((with_reducible refine wCn (fun hb => ?_) (fun hb => ?_)) <;> try (exfalso; omega)) | ((with_reducible refine wCo (fun hb => ?_) (fun hb => ?_))) | ((with_reducible refine wCi (fun hb => ?_) (fun hb => ?_))) | with_reducible (first | refine cw_block ?_ | refine cw_skip ?_ | refine cw_exit ?_ | refine cw_ret ?_ | refine cw_label ?_ | refine cw_scope ?_ | refine inB_same ?_ | refine inB_n ?_ | refine inB_r ?_ | refine wIo ?_ | refine noG_n ?_ | refine noG_r ?_ | refine noG_e ?_)))
    refine ow_ylx ⟨_, yl_build [] (.agg #[.int .i64 0, .int .i64 0, .int .i64 0, .slice none 0 0]) rfl (fun w => by simp [go_sem]), ?_⟩
    repeat (first | refine wY ?_ | refine wA ?_ | refine wS ?_ | refine wL (fun bk => ?_) | refine wB (fun bk => ?_) | refine wX (fun bk => ?_) | refine wB0 (fun bk => ?_) | refine wB1 (fun bk => ?_) | refine wB1o (fun bk => ?_) | refine wB2o (fun bk => ?_) | refine wG ?_ | (refine wGd (fun hb => ?_) (fun hb => ?_) <;> try (exfalso; omega)) | (refine wGe (fun hb => ?_) (fun hb => ?_) <;> try (exfalso; omega)) | (refine wGn (fun hb => ?_) (fun hb => ?_) <;> try (exfalso; omega)))
    rename Nat => fb
    refine ow_nil (thenQ_n ?_)
    refine cw_join (fun T L' => ∃ (na : Option Addr) (nm nc : Nat) (ns : List Int) (k : Int) (Lx : List Blk), Sl T [(2, .pointer (some ⟨rb, 0, none⟩)), (3, .pointer (some ⟨kb, 0, none⟩)), (4, .int .i64 n), (5, .int .i64 i), (6, .pointer (some ⟨fb, 0, none⟩))] ∧ SlRd h0 [] 1 na nm nc (ints .u8 ns) ∧ (∀ z ∈ ns, 0 ≤ z ∧ z ≤ 255) ∧ (0 ≤ k ∧ k ≤ 3 ∧ (i = 0 → k = 0)) ∧
      Split L' ((fb, [.int .i64 k, .int .i64 0, .int .i64 0, .slice none 0 0], 26) :: (kb, [.slice na nm nc, .slice pa pm pc, .int .i64 0, .slice none 0 0, .int .i64 0], 88) :: (PB ++ [(rb, [.slice none 0 0], 34)])) Lx) ?_ ?_
    · repeat' (first | refine wRm ?_ | refine wQu ?_ | (first | with_reducible (first | refine thenQ_n ?_ | refine thenQ_e ?_ | refine thenQ_r ?_ | refine ow_nil ?_) | (first | refine wY ?_ | refine wA ?_ | refine wS ?_ | refine wL (fun bk => ?_) | refine wB (fun bk => ?_) | refine wX (fun bk => ?_) | refine wB0 (fun bk => ?_) | refine wB1 (fun bk => ?_) | refine wB1o (fun bk => ?_) | refine wB2o (fun bk => ?_) | refine wG ?_ | (refine wGd (fun hb => ?_) (fun hb => ?_) <;> try (exfalso; omega)) | (refine wGe (fun hb => ?_) (fun hb => ?_) <;> try (exfalso; omega)) | (refine wGn (fun hb => ?_) (fun hb => ?_) <;> try (exfalso; omega))) | with_reducible (first | refine cw_then ?_ | refine cw_region ?_ | refine wCt ?_ | refine wCf ?_) | (((with_reducible refine wCd (fun hb => ?_) (fun hb => ?_)) <;> try subst hb) <;> try (exfalso; omega)) | (((with_reducible refine wCe (fun hb => ?_) (fun hb => ?_)) <;> try subst hb) <;> try (exfalso; omega)) | ((with_reducible refine wCn (fun hb => ?_) (fun hb => ?_)) <;> try (exfalso; omega)) | ((with_reducible refine wCo (fun hb => ?_) (fun hb => ?_))) | ((with_reducible refine wCi (fun hb => ?_) (fun hb => ?_))) | with_reducible (first | refine cw_block ?_ | refine cw_skip ?_ | refine cw_exit ?_ | refine cw_ret ?_ | refine cw_label ?_ | refine cw_scope ?_ | refine inB_same ?_ | refine inB_n ?_ | refine inB_r ?_ | refine wIo ?_ | refine noG_n ?_ | refine noG_r ?_ | refine noG_e ?_)))
      · refine ow_call (next_raw kb (.slice pa pm pc) (.int .i64 0) (.slice none 0 0) (.int .i64 0) [] na nm nc ns hns hnz) rfl (fun v L' hv => ?_)
        obtain ⟨k0, na2, nm2, nc2, ns2, rfl, hk0, hns2, hnz2, rfl⟩ := hv
        repeat' (first | refine wRm ?_ | refine wQu ?_ | (first | with_reducible (first | refine thenQ_n ?_ | refine thenQ_e ?_ | refine thenQ_r ?_ | refine ow_nil ?_) | (first | refine wY ?_ | refine wA ?_ | refine wS ?_ | refine wL (fun bk => ?_) | refine wB (fun bk => ?_) | refine wX (fun bk => ?_) | refine wB0 (fun bk => ?_) | refine wB1 (fun bk => ?_) | refine wB1o (fun bk => ?_) | refine wB2o (fun bk => ?_) | refine wG ?_ | (refine wGd (fun hb => ?_) (fun hb => ?_) <;> try (exfalso; omega)) | (refine wGe (fun hb => ?_) (fun hb => ?_) <;> try (exfalso; omega)) | (refine wGn (fun hb => ?_) (fun hb => ?_) <;> try (exfalso; omega))) | with_reducible (first | refine cw_then ?_ | refine cw_region ?_ | refine wCt ?_ | refine wCf ?_) | (((with_reducible refine wCd (fun hb => ?_) (fun hb => ?_)) <;> try subst hb) <;> try (exfalso; omega)) | (((with_reducible refine wCe (fun hb => ?_) (fun hb => ?_)) <;> try subst hb) <;> try (exfalso; omega)) | ((with_reducible refine wCn (fun hb => ?_) (fun hb => ?_)) <;> try (exfalso; omega)) | ((with_reducible refine wCo (fun hb => ?_) (fun hb => ?_))) | ((with_reducible refine wCi (fun hb => ?_) (fun hb => ?_))) | with_reducible (first | refine cw_block ?_ | refine cw_skip ?_ | refine cw_exit ?_ | refine cw_ret ?_ | refine cw_label ?_ | refine cw_scope ?_ | refine inB_same ?_ | refine inB_n ?_ | refine inB_r ?_ | refine wIo ?_ | refine noG_n ?_ | refine noG_r ?_ | refine noG_e ?_)))
        exact ⟨na2, nm2, nc2, ns2, k0 % 4, _, ⟨rfl, rfl, rfl, rfl, rfl, trivial⟩, hns2, hnz2, ⟨by omega, by omega, by omega⟩, inferInstance⟩
      · exact ⟨na, nm, nc, ns, 0, _, ⟨rfl, rfl, rfl, rfl, rfl, trivial⟩, hns, hnz, ⟨by omega, by omega, by omega⟩, inferInstance⟩
    clear hns hnz hS
    rintro T L' ⟨na, nm, nc, ns, k, Lx2, hT, hns, hnz, hk, hS⟩
    obtain ⟨T1, rfl⟩ := sl_ov hT
    clear hT
    refine cw_canon ((fb, [.int .i64 k, .int .i64 0, .int .i64 0, .slice none 0 0], 26) :: (kb, [.slice na nm nc, .slice pa pm pc, .int .i64 0, .slice none 0 0, .int .i64 0], 88) :: (PB ++ [(rb, [.slice none 0 0], 34)])) ?_
    repeat' (first | refine wRm ?_ | refine wQu ?_ | (first | with_reducible (first | refine thenQ_n ?_ | refine thenQ_e ?_ | refine thenQ_r ?_ | refine ow_nil ?_) | (first | refine wY ?_ | refine wA ?_ | refine wS ?_ | refine wL (fun bk => ?_) | refine wB (fun bk => ?_) | refine wX (fun bk => ?_) | refine wB0 (fun bk => ?_) | refine wB1 (fun bk => ?_) | refine wB1o (fun bk => ?_) | refine wB2o (fun bk => ?_) | refine wG ?_ | (refine wGd (fun hb => ?_) (fun hb => ?_) <;> try (exfalso; omega)) | (refine wGe (fun hb => ?_) (fun hb => ?_) <;> try (exfalso; omega)) | (refine wGn (fun hb => ?_) (fun hb => ?_) <;> try (exfalso; omega))) | with_reducible (first | refine cw_then ?_ | refine cw_region ?_ | refine wCt ?_ | refine wCf ?_) | (((with_reducible refine wCd (fun hb => ?_) (fun hb => ?_)) <;> try subst hb) <;> try (exfalso; omega)) | (((with_reducible refine wCe (fun hb => ?_) (fun hb => ?_)) <;> try subst hb) <;> try (exfalso; omega)) | ((with_reducible refine wCn (fun hb => ?_) (fun hb => ?_)) <;> try (exfalso; omega)) | ((with_reducible refine wCo (fun hb => ?_) (fun hb => ?_))) | ((with_reducible refine wCi (fun hb => ?_) (fun hb => ?_))) | with_reducible (first | refine cw_block ?_ | refine cw_skip ?_ | refine cw_exit ?_ | refine cw_ret ?_ | refine cw_label ?_ | refine cw_scope ?_ | refine inB_same ?_ | refine inB_n ?_ | refine inB_r ?_ | refine wIo ?_ | refine noG_n ?_ | refine noG_r ?_ | refine noG_e ?_)))
    refine ow_call (next_raw kb (.slice pa pm pc) (.int .i64 0) (.slice none 0 0) (.int .i64 0) [] na nm nc ns hns hnz) rfl (fun v L' hv => ?_)
    obtain ⟨b, na2, nm2, nc2, ns2, rfl, hb, hns2, hnz2, rfl⟩ := hv
    repeat' (first | refine wRm ?_ | refine wQu ?_ | (first | with_reducible (first | refine thenQ_n ?_ | refine thenQ_e ?_ | refine thenQ_r ?_ | refine ow_nil ?_) | (first | refine wY ?_ | refine wA ?_ | refine wS ?_ | refine wL (fun bk => ?_) | refine wB (fun bk => ?_) | refine wX (fun bk => ?_) | refine wB0 (fun bk => ?_) | refine wB1 (fun bk => ?_) | refine wB1o (fun bk => ?_) | refine wB2o (fun bk => ?_) | refine wG ?_ | (refine wGd (fun hb => ?_) (fun hb => ?_) <;> try (exfalso; omega)) | (refine wGe (fun hb => ?_) (fun hb => ?_) <;> try (exfalso; omega)) | (refine wGn (fun hb => ?_) (fun hb => ?_) <;> try (exfalso; omega))) | with_reducible (first | refine cw_then ?_ | refine cw_region ?_ | refine wCt ?_ | refine wCf ?_) | (((with_reducible refine wCd (fun hb => ?_) (fun hb => ?_)) <;> try subst hb) <;> try (exfalso; omega)) | (((with_reducible refine wCe (fun hb => ?_) (fun hb => ?_)) <;> try subst hb) <;> try (exfalso; omega)) | ((with_reducible refine wCn (fun hb => ?_) (fun hb => ?_)) <;> try (exfalso; omega)) | ((with_reducible refine wCo (fun hb => ?_) (fun hb => ?_))) | ((with_reducible refine wCi (fun hb => ?_) (fun hb => ?_))) | with_reducible (first | refine cw_block ?_ | refine cw_skip ?_ | refine cw_exit ?_ | refine cw_ret ?_ | refine cw_label ?_ | refine cw_scope ?_ | refine inB_same ?_ | refine inB_n ?_ | refine inB_r ?_ | refine wIo ?_ | refine noG_n ?_ | refine noG_r ?_ | refine noG_e ?_)))
    refine zB 13 [12] [(fb, [.int .i64 k, .int .i64 (k + b % 5), .int .i64 (min (b % 5) (b / 5 % 4)), .slice none 0 0], 26), (kb, [.slice na2 nm2 nc2, .slice pa pm pc, .int .i64 0, .slice none 0 0, .int .i64 0], 88)] ?_
    repeat (first | refine zN ?_ | refine zK ?_ | refine zA ?_)
    refine zO 7 ?_
    repeat (first | refine wY ?_ | refine wA ?_ | refine wS ?_ | refine wL (fun bk => ?_) | refine wB (fun bk => ?_) | refine wX (fun bk => ?_) | refine wB0 (fun bk => ?_) | refine wB1 (fun bk => ?_) | refine wB1o (fun bk => ?_) | refine wB2o (fun bk => ?_) | refine wG ?_ | (refine wGd (fun hb => ?_) (fun hb => ?_)) | (refine wGe (fun hb => ?_) (fun hb => ?_)) | (refine wGn (fun hb => ?_) (fun hb => ?_)))
    refine zP ?_
    refine zO 8 ?_
    refine ow_append rfl hV rfl (ys := [.int .i64 k, .int .i64 (k + b % 5), .int .i64 (min (b % 5) (b / 5 % 4)), .slice none 0 0]) rfl (fun j u hu => by rw [Nat.zero_add]; exact hu) (by simp [Value.oneCell']) (by omega) (by decide) (fun pa' pm' pc' PB' hV' => ?_)
    refine zP ?_
    repeat (first | refine zN ?_ | refine zK ?_ | refine zA ?_)
    refine zE 12 ?_
    repeat (first | refine wY ?_ | refine wA ?_ | refine wS ?_ | refine wL (fun bk => ?_) | refine wB (fun bk => ?_) | refine wX (fun bk => ?_) | refine wB0 (fun bk => ?_) | refine wB1 (fun bk => ?_) | refine wB1o (fun bk => ?_) | refine wB2o (fun bk => ?_) | refine wG ?_ | (refine wGd (fun hb => ?_) (fun hb => ?_)) | (refine wGe (fun hb => ?_) (fun hb => ?_)) | (refine wGn (fun hb => ?_) (fun hb => ?_)))
    refine zQ ?_
    refine zZ ?_
    repeat' (first | refine wRm ?_ | refine wQu ?_ | (first | with_reducible (first | refine thenQ_n ?_ | refine thenQ_e ?_ | refine thenQ_r ?_ | refine ow_nil ?_) | (first | refine wY ?_ | refine wA ?_ | refine wS ?_ | refine wL (fun bk => ?_) | refine wB (fun bk => ?_) | refine wX (fun bk => ?_) | refine wB0 (fun bk => ?_) | refine wB1 (fun bk => ?_) | refine wB1o (fun bk => ?_) | refine wB2o (fun bk => ?_) | refine wG ?_ | (refine wGd (fun hb => ?_) (fun hb => ?_) <;> try (exfalso; omega)) | (refine wGe (fun hb => ?_) (fun hb => ?_) <;> try (exfalso; omega)) | (refine wGn (fun hb => ?_) (fun hb => ?_) <;> try (exfalso; omega))) | with_reducible (first | refine cw_then ?_ | refine cw_region ?_ | refine wCt ?_ | refine wCf ?_) | (((with_reducible refine wCd (fun hb => ?_) (fun hb => ?_)) <;> try subst hb) <;> try (exfalso; omega)) | (((with_reducible refine wCe (fun hb => ?_) (fun hb => ?_)) <;> try subst hb) <;> try (exfalso; omega)) | ((with_reducible refine wCn (fun hb => ?_) (fun hb => ?_)) <;> try (exfalso; omega)) | ((with_reducible refine wCo (fun hb => ?_) (fun hb => ?_))) | ((with_reducible refine wCi (fun hb => ?_) (fun hb => ?_))) | with_reducible (first | refine cw_block ?_ | refine cw_skip ?_ | refine cw_exit ?_ | refine cw_ret ?_ | refine cw_label ?_ | refine cw_scope ?_ | refine inB_same ?_ | refine inB_n ?_ | refine inB_r ?_ | refine wIo ?_ | refine noG_n ?_ | refine noG_r ?_ | refine noG_e ?_)))
    refine ⟨(n - (i + 1)).toNat, by omega, i + 1, na2, nm2, nc2, ns2, pa', pm', pc', fs ++ [⟨k, k + b % 5, min (b % 5) (b / 5 % 4), []⟩], _, PB', _, rfl, by omega, by omega, ⟨rfl, rfl, rfl, rfl, trivial⟩, hns2, hnz2, hF.app (FnRep.cons (f := ⟨k, k + b % 5, min (b % 5) (b / 5 % 4), []⟩) (ca := none) (cm := 0) (cc := 0) (CB := []) (B := []) .nil .nil), hV', by simp; omega, ?_, ?_, inferInstance⟩
    · intro f hf
      rcases List.mem_append.1 hf with hf | hf
      · exact hbare f hf
      · obtain rfl := List.mem_singleton.1 hf
        refine ⟨rfl, ?_, ?_, ?_, ?_, ?_, ?_⟩ <;> dsimp only <;> omega
    · intro _
      rcases Int.lt_or_eq_of_le hi0 with h | h
      · have := hp0 h
        unfold Pm.fn at this ⊢
        cases fs with
        | nil => simp at hfl; omega
        | cons g gs => exact this
      · have : fs = [] := List.eq_nil_of_length_eq_zero (by omega)
        subst this
        exact hk.2.2 h.symm
  · obtain rfl : i = n := by omega
    rcases hV.inv with ⟨_, h0m, _⟩ | ⟨pb, junk, rfl, hvl1, hvj, hpmc, hpc63, rfl⟩
    · omega
    have hpm : fs.length = pm := by omega
    have hpc9 : pc ≤ maxLen := by simpa [maxLen] using hpc63
    repeat' (first | refine wRm ?_ | refine wQu ?_ | (first | with_reducible (first | refine thenQ_n ?_ | refine thenQ_e ?_ | refine thenQ_r ?_ | refine ow_nil ?_) | (first | refine wY ?_ | refine wA ?_ | refine wS ?_ | refine wL (fun bk => ?_) | refine wB (fun bk => ?_) | refine wX (fun bk => ?_) | refine wB0 (fun bk => ?_) | refine wB1 (fun bk => ?_) | refine wB1o (fun bk => ?_) | refine wB2o (fun bk => ?_) | refine wG ?_ | (refine wGd (fun hb => ?_) (fun hb => ?_) <;> try (exfalso; omega)) | (refine wGe (fun hb => ?_) (fun hb => ?_) <;> try (exfalso; omega)) | (refine wGn (fun hb => ?_) (fun hb => ?_) <;> try (exfalso; omega))) | with_reducible (first | refine cw_then ?_ | refine cw_region ?_ | refine wCt ?_ | refine wCf ?_) | (((with_reducible refine wCd (fun hb => ?_) (fun hb => ?_)) <;> try subst hb) <;> try (exfalso; omega)) | (((with_reducible refine wCe (fun hb => ?_) (fun hb => ?_)) <;> try subst hb) <;> try (exfalso; omega)) | ((with_reducible refine wCn (fun hb => ?_) (fun hb => ?_)) <;> try (exfalso; omega)) | ((with_reducible refine wCo (fun hb => ?_) (fun hb => ?_))) | ((with_reducible refine wCi (fun hb => ?_) (fun hb => ?_))) | with_reducible (first | refine cw_block ?_ | refine cw_skip ?_ | refine cw_exit ?_ | refine cw_ret ?_ | refine cw_label ?_ | refine cw_scope ?_ | refine inB_same ?_ | refine inB_n ?_ | refine inB_r ?_ | refine wIo ?_ | refine noG_n ?_ | refine noG_r ?_ | refine noG_e ?_)))
    refine cw_loop' (fun k T L' => ∃ (j : Nat) (gs : List Pm.Func) (pb pc : Nat) (junk : List Value) (na : Option Addr) (nm nc : Nat) (ns : List Int) (cs : List Value) (FB : List Blk) (da : Option Addr) (dm dc : Nat) (depth : List Int) (DB : List Blk) (f0 at0 : Int) (Lx : List Blk), k = pm - j ∧ j ≤ pm ∧ Sl T [(2, .pointer (some ⟨rb, 0, none⟩)), (3, .pointer (some ⟨kb, 0, none⟩)), (4, .int .i64 i), (8, .int .i64 j)] ∧ SlRd h0 [] 1 na nm nc (ints .u8 ns) ∧ (∀ z ∈ ns, 0 ≤ z ∧ z ≤ 255) ∧
      FnRep gs cs FB ∧ Vec 1 3 da dm dc (ints .i64 depth) DB ∧ gs.length = pm ∧ pm ≤ pc ∧ pc ≤ maxLen ∧ Pm.shape gs = Pm.shape fs ∧ (∀ g ∈ gs, 0 ≤ g.params ∧ g.params ≤ 3) ∧ (∀ t g, t < j → gs[t]? = some g → Pm.Whole (Pm.shape fs) g) ∧ (∀ t g, j ≤ t → gs[t]? = some g → Bare g) ∧ Split L' ((kb, [.slice na nm nc, .slice (some ⟨pb, 0, none⟩) pm pc, .int .i64 f0, .slice da dm dc, .int .i64 at0], 88) :: (pb, cs ++ junk, 26) :: (DB ++ (FB ++ [(rb, [.slice none 0 0], 34)]))) Lx) pm
      ⟨0, fs, pb, pc, junk, na, nm, nc, ns, cs, [], none, 0, 0, [], [], 0, 0, _, rfl, Nat.zero_le _, ⟨rfl, rfl, rfl, rfl, trivial⟩, hns, hnz, hF, .nil, hpm, hpmc, hpc9, rfl, (fun g hg => ⟨(hbare g hg).2.1, (hbare g hg).2.2.1⟩), (fun t g ht => absurd ht (by omega)), (fun t g _ hg => hbare g (List.mem_of_getElem? hg)), inferInstance⟩ ?_
    clear hns hnz hF hV hvl hvl1 hvj hS hpmc hpc9 hpc63
    rintro k T L' ⟨j, gs, pb, pc, junk, na, nm, nc, ns, cs, FB, da, dm, dc, depth, DB, f0, at0, Lx2, rfl, hj, hT, hns, hnz, hF, hD, hgl, hpmc, hpc9, hsh, hsm, hwh, hba, hS⟩
    obtain ⟨T1, rfl⟩ := sl_ov hT
    clear hT
    refine cw_canon ((kb, [.slice na nm nc, .slice (some ⟨pb, 0, none⟩) pm pc, .int .i64 f0, .slice da dm dc, .int .i64 at0], 88) :: (pb, cs ++ junk, 26) :: (DB ++ (FB ++ [(rb, [.slice none 0 0], 34)]))) ?_
    by_cases hjl : j < pm
    · obtain ⟨A, x, B, hAl, rfl⟩ : ∃ A x B, A.length = j ∧ gs = A ++ x :: B := ⟨gs.take j, gs[j], gs.drop (j + 1), by simp; omega, by simp⟩
      subst hAl
      have hxg : (A ++ x :: B)[A.length]? = some x := by simp
      have hxb := hba A.length x (Nat.le_refl _) hxg
      obtain ⟨cA, cB, BA, BB, CB, ca, cm, cc, hA, hB, hC, rfl, rfl⟩ := hF.split
      have hxe : x = { x with code := [] } := by obtain ⟨a1, a2, a3, a4⟩ := x; have := hxb.1; simp at this; subst this; rfl
      have hlen2 : A.length + 1 + B.length = pm := by simp at hgl; omega
      have K : KFix (Pm.shape fs) A x B := ⟨fun c => by rw [← hsh]; simp [Pm.shape], by omega, hsm, ⟨hxb.2.2.2.1, hxb.2.2.2.2.1⟩, ⟨hxb.2.2.2.2.2.1, hxb.2.2.2.2.2.2⟩⟩
      repeat' (first | refine wRm ?_ | refine wQu ?_ | (first | with_reducible (first | refine thenQ_n ?_ | refine thenQ_e ?_ | refine thenQ_r ?_ | refine ow_nil ?_) | (first | refine wY ?_ | refine wA ?_ | refine wS ?_ | refine wL (fun bk => ?_) | refine wB (fun bk => ?_) | refine wX (fun bk => ?_) | refine wB0 (fun bk => ?_) | refine wB1 (fun bk => ?_) | refine wB1o (fun bk => ?_) | refine wB2o (fun bk => ?_) | refine wG ?_ | (refine wGd (fun hb => ?_) (fun hb => ?_) <;> try (exfalso; omega)) | (refine wGe (fun hb => ?_) (fun hb => ?_) <;> try (exfalso; omega)) | (refine wGn (fun hb => ?_) (fun hb => ?_) <;> try (exfalso; omega))) | with_reducible (first | refine cw_then ?_ | refine cw_region ?_ | refine wCt ?_ | refine wCf ?_) | (((with_reducible refine wCd (fun hb => ?_) (fun hb => ?_)) <;> try subst hb) <;> try (exfalso; omega)) | (((with_reducible refine wCe (fun hb => ?_) (fun hb => ?_)) <;> try subst hb) <;> try (exfalso; omega)) | ((with_reducible refine wCn (fun hb => ?_) (fun hb => ?_)) <;> try (exfalso; omega)) | ((with_reducible refine wCo (fun hb => ?_) (fun hb => ?_))) | ((with_reducible refine wCi (fun hb => ?_) (fun hb => ?_))) | with_reducible (first | refine cw_block ?_ | refine cw_skip ?_ | refine cw_exit ?_ | refine cw_ret ?_ | refine cw_label ?_ | refine cw_scope ?_ | refine inB_same ?_ | refine inB_n ?_ | refine inB_r ?_ | refine wIo ?_ | refine noG_n ?_ | refine noG_r ?_ | refine noG_e ?_)))
      have e1 : cA ++ (.int .i64 x.params :: .int .i64 x.locals :: .int .i64 x.refs :: .slice ca cm cc :: cB) ++ junk = cA ++ (.int .i64 x.params :: .int .i64 x.locals :: .int .i64 x.refs :: .slice ca cm cc :: (cB ++ junk)) := by simp
      rw [e1]
      have hK : KRep h0 kb A { x with code := [] } B depth at0 ((kb, kCells na nm nc pb pm pc A.length da dm dc at0, 88) :: (pb, cA ++ (.int .i64 x.params :: .int .i64 x.locals :: .int .i64 x.refs :: .slice ca cm cc :: (cB ++ junk)), 26) :: (CB ++ (DB ++ (BA ++ BB)))) :=
        ⟨na, nm, nc, ns, pb, pm, pc, cA, cB, junk, BA, BB, CB, DB, ca, cm, cc, da, dm, dc, hns, hnz, hA, hB, by rw [hxb.1] at hC; exact hC, hD, hlen2.symm, hpmc, hpc9, rfl⟩
      refine ow_call (code_fn K hK) rfl (fun v L' hv => ?_)
      obtain ⟨rfl, c, d, at1, hK2, hW⟩ := hv
      obtain ⟨na5, nm5, nc5, ns5, pb5, pm5, pc5, cA5, cB5, junk5, BA5, BB5, CB5, DB5, ca5, cm5, cc5, da5, dm5, dc5, hns5, hnz5, hA5, hB5, hC5, hD5, hm5, hmc5, hpc5, rfl⟩ := hK2.ex
      have e2 : cA5 ++ (.int .i64 x.params :: .int .i64 x.locals :: .int .i64 x.refs :: .slice ca5 cm5 cc5 :: (cB5 ++ junk5)) = (cA5 ++ (.int .i64 x.params :: .int .i64 x.locals :: .int .i64 x.refs :: .slice ca5 cm5 cc5 :: cB5)) ++ junk5 := by simp
      dsimp only
      rw [e2]
      obtain rfl : pm5 = pm := by omega
      unfold kCells
      repeat' (first | refine wRm ?_ | refine wQu ?_ | (first | with_reducible (first | refine thenQ_n ?_ | refine thenQ_e ?_ | refine thenQ_r ?_ | refine ow_nil ?_) | (first | refine wY ?_ | refine wA ?_ | refine wS ?_ | refine wL (fun bk => ?_) | refine wB (fun bk => ?_) | refine wX (fun bk => ?_) | refine wB0 (fun bk => ?_) | refine wB1 (fun bk => ?_) | refine wB1o (fun bk => ?_) | refine wB2o (fun bk => ?_) | refine wG ?_ | (refine wGd (fun hb => ?_) (fun hb => ?_) <;> try (exfalso; omega)) | (refine wGe (fun hb => ?_) (fun hb => ?_) <;> try (exfalso; omega)) | (refine wGn (fun hb => ?_) (fun hb => ?_) <;> try (exfalso; omega))) | with_reducible (first | refine cw_then ?_ | refine cw_region ?_ | refine wCt ?_ | refine wCf ?_) | (((with_reducible refine wCd (fun hb => ?_) (fun hb => ?_)) <;> try subst hb) <;> try (exfalso; omega)) | (((with_reducible refine wCe (fun hb => ?_) (fun hb => ?_)) <;> try subst hb) <;> try (exfalso; omega)) | ((with_reducible refine wCn (fun hb => ?_) (fun hb => ?_)) <;> try (exfalso; omega)) | ((with_reducible refine wCo (fun hb => ?_) (fun hb => ?_))) | ((with_reducible refine wCi (fun hb => ?_) (fun hb => ?_))) | with_reducible (first | refine cw_block ?_ | refine cw_skip ?_ | refine cw_exit ?_ | refine cw_ret ?_ | refine cw_label ?_ | refine cw_scope ?_ | refine inB_same ?_ | refine inB_n ?_ | refine inB_r ?_ | refine wIo ?_ | refine noG_n ?_ | refine noG_r ?_ | refine noG_e ?_)))
      have hat2 : ∀ t g, (A ++ { x with code := c } :: B)[t]? = some g → t ≠ A.length → (A ++ x :: B)[t]? = some g := fun t g hg hne => by
        by_cases h : t < A.length
        · rw [List.getElem?_append_left h] at hg ⊢; exact hg
        · rw [List.getElem?_append_right (by omega)] at hg ⊢
          obtain ⟨u, hu⟩ : ∃ u, t - A.length = u + 1 := ⟨t - A.length - 1, by omega⟩
          rw [hu] at hg ⊢; simpa using hg
      refine ⟨pm5 - (A.length + 1), by omega, A.length + 1, A ++ { x with code := c } :: B, pb5, pc5, junk5, na5, nm5, nc5, ns5, cA5 ++ (.int .i64 x.params :: .int .i64 x.locals :: .int .i64 x.refs :: .slice ca5 cm5 cc5 :: cB5), BA5 ++ (CB5 ++ BB5), da5, dm5, dc5, d, DB5, A.length, at1, _, rfl, by omega, ⟨rfl, rfl, rfl, rfl, trivial⟩, hns5, hnz5, hA5.app (.cons (f := { x with code := c }) hB5 hC5), hD5, by simpa using hgl, hmc5, hpc5, ?_, ?_, ?_, ?_, inferInstance⟩
      · rw [← hsh]; simp [Pm.shape]
      · intro g hg
        rcases List.mem_append.1 hg with hg | hg
        · exact hsm g (List.mem_append_left _ hg)
        · rcases List.mem_cons.1 hg with rfl | hg
          · exact hsm x (by simp)
          · exact hsm g (List.mem_append_right _ (List.mem_cons_of_mem _ hg))
      · intro t g ht hg
        by_cases h : t = A.length
        · subst h; simp at hg; subst hg; exact hW
        · exact hwh t g (by omega) (hat2 t g hg h)
      · intro t g ht hg
        exact hba t g (by omega) (hat2 t g hg (by omega))
    · obtain rfl : j = pm := by omega
      repeat' (first | refine wRm ?_ | refine wQu ?_ | (first | with_reducible (first | refine thenQ_n ?_ | refine thenQ_e ?_ | refine thenQ_r ?_ | refine ow_nil ?_) | (first | refine wY ?_ | refine wA ?_ | refine wS ?_ | refine wL (fun bk => ?_) | refine wB (fun bk => ?_) | refine wX (fun bk => ?_) | refine wB0 (fun bk => ?_) | refine wB1 (fun bk => ?_) | refine wB1o (fun bk => ?_) | refine wB2o (fun bk => ?_) | refine wG ?_ | (refine wGd (fun hb => ?_) (fun hb => ?_) <;> try (exfalso; omega)) | (refine wGe (fun hb => ?_) (fun hb => ?_) <;> try (exfalso; omega)) | (refine wGn (fun hb => ?_) (fun hb => ?_) <;> try (exfalso; omega))) | with_reducible (first | refine cw_then ?_ | refine cw_region ?_ | refine wCt ?_ | refine wCf ?_) | (((with_reducible refine wCd (fun hb => ?_) (fun hb => ?_)) <;> try subst hb) <;> try (exfalso; omega)) | (((with_reducible refine wCe (fun hb => ?_) (fun hb => ?_)) <;> try subst hb) <;> try (exfalso; omega)) | ((with_reducible refine wCn (fun hb => ?_) (fun hb => ?_)) <;> try (exfalso; omega)) | ((with_reducible refine wCo (fun hb => ?_) (fun hb => ?_))) | ((with_reducible refine wCi (fun hb => ?_) (fun hb => ?_))) | with_reducible (first | refine cw_block ?_ | refine cw_skip ?_ | refine cw_exit ?_ | refine cw_ret ?_ | refine cw_label ?_ | refine cw_scope ?_ | refine inB_same ?_ | refine inB_n ?_ | refine inB_r ?_ | refine wIo ?_ | refine noG_n ?_ | refine noG_r ?_ | refine noG_e ?_)))
      have hv : Pm.Valid gs := Pm.valid_of_whole (by omega) (by omega) (fun g hg => by
        obtain ⟨t, ht⟩ := List.getElem?_of_mem hg
        rw [hsh]; exact hwh t g (by have := (List.getElem?_eq_some_iff.1 ht).1; omega) ht)
      have hfn : (Pm.fn gs 0).params = 0 := by
        have h1 := hp0 (by omega)
        have h2 := congrArg (fun l : List Pm.Func => (l[0]?.map (·.params))) hsh
        simp only [Pm.shape, List.getElem?_map] at h2
        unfold Pm.fn at h1 ⊢
        rw [List.getD_eq_getElem?_getD] at h1 ⊢
        simp only [Int.toNat_zero] at h1 ⊢
        cases hg0 : gs[0]? with
        | none => have := List.getElem?_eq_none_iff.1 hg0; omega
        | some g =>
          cases hf0 : fs[0]? with
          | none => have := List.getElem?_eq_none_iff.1 hf0; omega
          | some f =>
            rw [hg0, hf0] at h2
            rw [hf0] at h1
            simp at h1 h2 ⊢
            omega
      refine retc (vs := [.slice (some ⟨pb, 0, none⟩) j pc]) rfl rfl (sub_mk (L' := (pb, cs ++ junk, 26) :: FB) ⟨pb, j, pc, gs, rfl, hF.prog (List.mem_cons_self ..) (fun q hq => List.mem_cons_of_mem _ hq) hgl.symm hpmc hpc9, hv, hfn⟩)
end Go.Proofs.Ytnijpdehchdinaa
