/-
  The machine's small functions: mark, enter, push, pops.
-/
import Derived.Test.YtnijpdehchdinaaPgF
import Derived.Test.YtnijpdehchdinaaFlt
import Derived.Test.YtnijpdehchdinaaAm
set_option linter.unusedVariables false
set_option linter.unusedSimpArgs false
namespace Go.Proofs.Ytnijpdehchdinaa
open Go Go.Proofs Go.Hl Go.Am
variable {h0 : Array Obj}

theorem mark_fn (mb : Nat) (pa : Option Addr) (pm pc : Nat) (m : Mach) (fa : Option Addr) (fm fc : Nat) (ta : Option Addr) (tm tc : Nat) (k wd : Int) (TB : List Blk) (hV : Vec 2 31 ta tm tc (markCells m.trace) TB) (hl : m.trace.length ≤ 1000000) :
    Ct Try.prog h0 70 [.pointer (some ⟨mb, 0, none⟩), .int .i64 k, .int .u64 wd] ((mb, mCells pa pm pc m fa fm fc ta tm tc, 76) :: TB)
      fun v L' => v = .tuple #[] ∧ ∃ ta' tm' tc' TB', Vec 2 31 ta' tm' tc' (markCells (Am.mark m k wd).trace) TB' ∧ L' = (mb, mCells pa pm pc (Am.mark m k wd) fa fm fc ta' tm' tc', 76) :: TB' := by
  have hlen := hV.len
  have hmc := length_markCells m.trace
  unfold mCells
  refine fn_of Try.func70 rfl rfl ?_
  refine cw_region ?_
  repeat (first | refine wY ?_ | refine wA ?_ | refine wS ?_ | refine wL (fun bk => ?_) | refine wB (fun bk => ?_) | refine wX (fun bk => ?_) | refine wB0 (fun bk => ?_) | refine wB1 (fun bk => ?_) | refine wB1o (fun bk => ?_) | refine wB2o (fun bk => ?_) | refine wG ?_ | (refine wGd (fun hb => ?_) (fun hb => ?_)) | (refine wGe (fun hb => ?_) (fun hb => ?_)) | (refine wGn (fun hb => ?_) (fun hb => ?_)))
  refine ow_ylx ⟨_, yl_build [(0, .int .i64 k), (1, .int .u64 wd)] (.agg #[.int .i64 k, .int .u64 wd]) rfl (fun w => by simp [go_sem]), ?_⟩
  refine ow_buildSlice [.agg #[.int .i64 k, .int .u64 wd]] rfl rfl (by simp [Value.cells]) (by decide) (fun bs => ?_)
  refine ow_append rfl hV rfl (ys := [.int .i64 k, .int .u64 wd]) rfl (by simp [Value.cells]) (by simp [Value.oneCell']) (by omega) (by decide) (fun p' m' c' B' hV' => ?_)
  repeat (first | refine wY ?_ | refine wA ?_ | refine wS ?_ | refine wL (fun bk => ?_) | refine wB (fun bk => ?_) | refine wX (fun bk => ?_) | refine wB0 (fun bk => ?_) | refine wB1 (fun bk => ?_) | refine wB1o (fun bk => ?_) | refine wB2o (fun bk => ?_) | refine wG ?_ | (refine wGd (fun hb => ?_) (fun hb => ?_)) | (refine wGe (fun hb => ?_) (fun hb => ?_)) | (refine wGn (fun hb => ?_) (fun hb => ?_)))
  refine ow_nil (end0 rfl (sub_mk (L' := (mb, [.slice pa pm pc, .int .i64 m.first, .bool m.begun, .bool m.ended, .bool m.parked, .int .u64 m.refs, .slice fa fm fc, .slice p' m' c'], 76) :: B') ⟨rfl, p', m', c', B', ?_, rfl⟩))
  simpa [markCells, Am.mark] using hV'

theorem enter_fn (mb : Nat) (pa : Option Addr) (pm pc : Nat) (p : Pm.Prog) (PB : List Blk) (hp : ProgRd h0 PB pa pm pc p) (m : Mach) (fa : Option Addr) (fm fc : Nat) (ta : Option Addr) (tm tc : Nat) (cells : List Value) (FB : List Blk) (hF : Vec 8 66 fa fm fc cells FB) (hfm : fm ≤ 1000000)
    (f : Int) (hf0 : 0 ≤ f) (hf : f < pm) (hn : 0 ≤ (Pm.fn p f).locals ∧ (Pm.fn p f).locals ≤ 8) (args : List Int) (ha : args.length ≤ (Pm.fn p f).locals) (aa : Option Addr) (ac : Nat) (AB : List Blk) (hA : Sr h0 AB 1 aa args.length ac (ints .u64 args)) (dfd : Bool) :
    Ct Try.prog h0 41 [.pointer (some ⟨mb, 0, none⟩), .int .i64 f, .slice aa args.length ac, .bool dfd] ((mb, mCells pa pm pc m fa fm fc ta tm tc, 76) :: (FB ++ (AB ++ PB)))
      fun v L' => v = .tuple #[] ∧ ∃ fa' fc' FB' la lm lc LB, Vec 8 66 fa' (fm + 1) fc' (cells ++ [.int .i64 f, .int .i64 0, .int .i64 0, .bool dfd, .int .u64 0, .slice none 0 0, .slice la lm lc, .slice none 0 0]) FB' ∧ Vec 1 28 la lm lc (ints .u64 (fill (Pm.fn p f).locals.toNat args)) LB ∧
        L' = (mb, mCells pa pm pc m fa' (fm + 1) fc' ta tm tc, 76) :: (FB' ++ (LB ++ PB)) := by
  obtain ⟨b, o, cs, fu, ca, cm, cc, rfl, hrd, hpk, hmem, hsl, hcl, h1, h2, h3, h4, h5⟩ := hp.func f.toNat (by omega)
  have hfu : Pm.fn p f = fu := by unfold Pm.fn; rw [List.getD_eq_getElem?_getD, hpk]; rfl
  simp only [hfu] at hn ha ⊢
  have hlen := hF.len
  unfold mCells
  refine fn_of Try.func41 rfl rfl ?_
  refine cw_then (cw_region ?_)
  repeat (first | refine wY ?_ | refine wA ?_ | refine wS ?_ | refine wL (fun bk => ?_) | refine wB (fun bk => ?_) | refine wX (fun bk => ?_) | refine wB0 (fun bk => ?_) | refine wB1 (fun bk => ?_) | refine wB1o (fun bk => ?_) | refine wB2o (fun bk => ?_) | refine wG ?_ | (refine wGd (fun hb => ?_) (fun hb => ?_)) | (refine wGe (fun hb => ?_) (fun hb => ?_)) | (refine wGn (fun hb => ?_) (fun hb => ?_)))
  refine ow_makeSlice1 rfl rfl rfl (by omega) (by omega) (by omega) (fun q => ?_)
  repeat (first | refine wY ?_ | refine wA ?_ | refine wS ?_ | refine wL (fun bk => ?_) | refine wB (fun bk => ?_) | refine wX (fun bk => ?_) | refine wB0 (fun bk => ?_) | refine wB1 (fun bk => ?_) | refine wB1o (fun bk => ?_) | refine wB2o (fun bk => ?_) | refine wG ?_ | (refine wGd (fun hb => ?_) (fun hb => ?_)) | (refine wGe (fun hb => ?_) (fun hb => ?_)) | (refine wGn (fun hb => ?_) (fun hb => ?_)))
  refine ow_nil (thenQ_n ?_)
  refine cw_then (cw_region ?_)
  repeat (first | refine wY ?_ | refine wA ?_ | refine wS ?_ | refine wL (fun bk => ?_) | refine wB (fun bk => ?_) | refine wX (fun bk => ?_) | refine wB0 (fun bk => ?_) | refine wB1 (fun bk => ?_) | refine wB1o (fun bk => ?_) | refine wB2o (fun bk => ?_) | refine wG ?_ | (refine wGd (fun hb => ?_) (fun hb => ?_)) | (refine wGe (fun hb => ?_) (fun hb => ?_)) | (refine wGn (fun hb => ?_) (fun hb => ?_)))
  rcases hA with ⟨rfl, hal, rfl, hax⟩ | ⟨ab, ao, acs, rfl, hard, hal, haat⟩
  · have hargs : args = [] := List.eq_nil_of_length_eq_zero hal
    subst hargs
    refine ow_ylx ⟨_, yl_copy_none rfl rfl, ?_⟩
    rw [show (List.replicate fu.locals.toNat (.int .u64 0) : List Value) = ints .u64 (fill fu.locals.toNat []) by simp [fill, ints]]
    repeat' (first | with_reducible (first | refine thenQ_n ?_ | refine thenQ_e ?_ | refine thenQ_r ?_ | refine ow_nil ?_) | (first | refine wY ?_ | refine wA ?_ | refine wS ?_ | refine wL (fun bk => ?_) | refine wB (fun bk => ?_) | refine wX (fun bk => ?_) | refine wB0 (fun bk => ?_) | refine wB1 (fun bk => ?_) | refine wB1o (fun bk => ?_) | refine wB2o (fun bk => ?_) | refine wG ?_ | (refine wGd (fun hb => ?_) (fun hb => ?_)) | (refine wGe (fun hb => ?_) (fun hb => ?_)) | (refine wGn (fun hb => ?_) (fun hb => ?_))) | with_reducible (first | refine cw_then ?_ | refine cw_region ?_ | refine wCt ?_ | refine wCf ?_) | ((with_reducible refine wCd (fun hb => ?_) (fun hb => ?_)) <;> try subst hb) | ((with_reducible refine wCe (fun hb => ?_) (fun hb => ?_)) <;> try subst hb) | ((with_reducible refine wCn (fun hb => ?_) (fun hb => ?_))) | ((with_reducible refine wCo (fun hb => ?_) (fun hb => ?_))) | ((with_reducible refine wCi (fun hb => ?_) (fun hb => ?_))) | with_reducible (first | refine cw_block ?_ | refine cw_skip ?_ | refine cw_exit ?_ | refine cw_ret ?_ | refine cw_label ?_ | refine cw_scope ?_ | refine inB_same ?_ | refine inB_n ?_ | refine inB_r ?_ | refine wIo ?_ | refine noG_n ?_ | refine noG_r ?_ | refine noG_e ?_))
    refine ow_ylx ⟨_, yl_build [(0, .int .i64 f), (3, .bool dfd), (6, .slice (some ⟨q, 0, none⟩) fu.locals.toNat fu.locals.toNat)] (.agg #[.int .i64 f, .int .i64 0, .int .i64 0, .bool dfd, .int .u64 0, .slice none 0 0, .slice (some ⟨q, 0, none⟩) fu.locals.toNat fu.locals.toNat, .slice none 0 0]) rfl (fun w => by simp [go_sem]), ?_⟩
    refine ow_buildSlice1 rfl rfl (by simp) (fun bs => ?_)
    refine ow_append rfl hF rfl (ys := [.int .i64 f, .int .i64 0, .int .i64 0, .bool dfd, .int .u64 0, .slice none 0 0, .slice (some ⟨q, 0, none⟩) fu.locals.toNat fu.locals.toNat, .slice none 0 0]) rfl (fun j u hu => by rw [Nat.zero_add]; exact hu) (by simp [Value.oneCell']) (by omega) (by decide) (fun fa' fm' fc' FB' hF' => ?_)
    have hfm' : fm' = fm + 1 := by have := hF'.len.1; simp at this; omega
    repeat (first | refine wY ?_ | refine wA ?_ | refine wS ?_ | refine wL (fun bk => ?_) | refine wB (fun bk => ?_) | refine wX (fun bk => ?_) | refine wB0 (fun bk => ?_) | refine wB1 (fun bk => ?_) | refine wB1o (fun bk => ?_) | refine wB2o (fun bk => ?_) | refine wG ?_ | (refine wGd (fun hb => ?_) (fun hb => ?_)) | (refine wGe (fun hb => ?_) (fun hb => ?_)) | (refine wGn (fun hb => ?_) (fun hb => ?_)))
    refine ow_nil (end0 rfl (sub_mk (L' := (mb, [.slice (some ⟨b, o, none⟩) pm pc, .int .i64 m.first, .bool m.begun, .bool m.ended, .bool m.parked, .int .u64 m.refs, .slice fa' fm' fc', .slice ta tm tc], 76) :: (FB' ++ ([(q, ints .u64 (fill fu.locals.toNat []), 28)] ++ PB))) ⟨rfl, fa', fc', FB', _, _, _, _, by rw [← hfm']; exact hF', .row q fu.locals.toNat fu.locals.toNat _ [] (by simp [ints, fill] <;> omega) (by simp [ints, fill] <;> omega) (Nat.le_refl _) (by unfold maxLen; omega), by simp [mCells, hfm']⟩))
  · have hmn : Nat.min args.length fu.locals.toNat = args.length := Nat.min_eq_left (by omega)
    refine ow_copy (ys := ints .u64 args) rfl rfl (by rw [hmn]; exact hal) haat (by intro u hu; simp [ints] at hu; obtain ⟨x, hx, rfl⟩ := hu; rfl) (by rw [length_ints, List.length_replicate]; omega) ?_
    rw [show (List.take 0 (List.replicate fu.locals.toNat (.int .u64 0)) ++ ints .u64 args ++ List.drop (0 + (ints .u64 args).length) (List.replicate fu.locals.toNat (.int .u64 0)) : List Value) = ints .u64 (fill fu.locals.toNat args) by
      rw [length_ints]; simp [fill, ints]; rw [List.take_of_length_le (by simp; omega)]]
    repeat' (first | with_reducible (first | refine thenQ_n ?_ | refine thenQ_e ?_ | refine thenQ_r ?_ | refine ow_nil ?_) | (first | refine wY ?_ | refine wA ?_ | refine wS ?_ | refine wL (fun bk => ?_) | refine wB (fun bk => ?_) | refine wX (fun bk => ?_) | refine wB0 (fun bk => ?_) | refine wB1 (fun bk => ?_) | refine wB1o (fun bk => ?_) | refine wB2o (fun bk => ?_) | refine wG ?_ | (refine wGd (fun hb => ?_) (fun hb => ?_)) | (refine wGe (fun hb => ?_) (fun hb => ?_)) | (refine wGn (fun hb => ?_) (fun hb => ?_))) | with_reducible (first | refine cw_then ?_ | refine cw_region ?_ | refine wCt ?_ | refine wCf ?_) | ((with_reducible refine wCd (fun hb => ?_) (fun hb => ?_)) <;> try subst hb) | ((with_reducible refine wCe (fun hb => ?_) (fun hb => ?_)) <;> try subst hb) | ((with_reducible refine wCn (fun hb => ?_) (fun hb => ?_))) | ((with_reducible refine wCo (fun hb => ?_) (fun hb => ?_))) | ((with_reducible refine wCi (fun hb => ?_) (fun hb => ?_))) | with_reducible (first | refine cw_block ?_ | refine cw_skip ?_ | refine cw_exit ?_ | refine cw_ret ?_ | refine cw_label ?_ | refine cw_scope ?_ | refine inB_same ?_ | refine inB_n ?_ | refine inB_r ?_ | refine wIo ?_ | refine noG_n ?_ | refine noG_r ?_ | refine noG_e ?_))
    refine ow_ylx ⟨_, yl_build [(0, .int .i64 f), (3, .bool dfd), (6, .slice (some ⟨q, 0, none⟩) fu.locals.toNat fu.locals.toNat)] (.agg #[.int .i64 f, .int .i64 0, .int .i64 0, .bool dfd, .int .u64 0, .slice none 0 0, .slice (some ⟨q, 0, none⟩) fu.locals.toNat fu.locals.toNat, .slice none 0 0]) rfl (fun w => by simp [go_sem]), ?_⟩
    refine ow_buildSlice1 rfl rfl (by simp) (fun bs => ?_)
    refine ow_append rfl hF rfl (ys := [.int .i64 f, .int .i64 0, .int .i64 0, .bool dfd, .int .u64 0, .slice none 0 0, .slice (some ⟨q, 0, none⟩) fu.locals.toNat fu.locals.toNat, .slice none 0 0]) rfl (fun j u hu => by rw [Nat.zero_add]; exact hu) (by simp [Value.oneCell']) (by omega) (by decide) (fun fa' fm' fc' FB' hF' => ?_)
    have hfm' : fm' = fm + 1 := by have := hF'.len.1; simp at this; omega
    repeat (first | refine wY ?_ | refine wA ?_ | refine wS ?_ | refine wL (fun bk => ?_) | refine wB (fun bk => ?_) | refine wX (fun bk => ?_) | refine wB0 (fun bk => ?_) | refine wB1 (fun bk => ?_) | refine wB1o (fun bk => ?_) | refine wB2o (fun bk => ?_) | refine wG ?_ | (refine wGd (fun hb => ?_) (fun hb => ?_)) | (refine wGe (fun hb => ?_) (fun hb => ?_)) | (refine wGn (fun hb => ?_) (fun hb => ?_)))
    refine ow_nil (end0 rfl (sub_mk (L' := (mb, [.slice (some ⟨b, o, none⟩) pm pc, .int .i64 m.first, .bool m.begun, .bool m.ended, .bool m.parked, .int .u64 m.refs, .slice fa' fm' fc', .slice ta tm tc], 76) :: (FB' ++ ([(q, ints .u64 (fill fu.locals.toNat args), 28)] ++ PB))) ⟨rfl, fa', fc', FB', _, _, _, _, by rw [← hfm']; exact hF', .row q fu.locals.toNat fu.locals.toNat _ [] (by simp [ints, fill] <;> omega) (by simp [ints, fill] <;> omega) (Nat.le_refl _) (by unfold maxLen; omega), by simp [mCells, hfm']⟩))
end Go.Proofs.Ytnijpdehchdinaa
