/-
  The machine's run: one instruction of the top frame.
-/
import Derived.Test.YtnijpdehchdinaaRow
set_option linter.unusedVariables false
set_option linter.unusedSimpArgs false
namespace Go.Proofs.Ytnijpdehchdinaa
open Go Go.Proofs Go.Hl Go.Am
variable {h0 : Array Obj}

theorem ints_one (k : IntKind) (l : List Int) : ∀ u ∈ ints k l, u.oneCell' = true := by intro u hu; simp [ints] at hu; obtain ⟨x, hx, rfl⟩ := hu; rfl
theorem ints_drop (k : IntKind) (l : List Int) (n : Nat) : (ints k l).drop n = ints k (l.drop n) := by simp [ints]
theorem ints_take (k : IntKind) (l : List Int) (n : Nat) : (ints k l).take n = ints k (l.take n) := by simp [ints]

def dropSeq : Nat → Code → Code
  | 0, c => c
  | k + 1, .seq _ y => dropSeq k y
  | _, c => c
def tailOf (f : Func) (k : Nat) : Code := dropSeq k (f.body.getD .skip)

set_option maxHeartbeats 1000000 in
theorem act_jump (mb fb tb ib xb : Nat) (pa : Option Addr) (pm pc : Nat) (p : Pm.Prog) (PB : List Blk) (hp : ProgRd h0 PB pa pm pc p) (m : Mach) (x : Frm) (fs : List Frm) (fm fc : Nat) (ta : Option Addr) (tm tc : Nat) (TB : List Blk) (hT : Vec 2 31 ta tm tc (markCells m.trace) TB) (hl : m.trace.length ≤ 1000000) (hfm : fm = fs.length + 1) (hfm2 : fm ≤ 1000000) (cs junk : List Value) (B : List Blk) (hcs : FrRep fs cs B) (da : Option Addr) (dm dc : Nat) (la : Option Addr) (lm lc : Nat) (oa : Option Addr) (om oc : Nat) (dcs : List Value) (DB AB LB OB : List Blk) (hD : Vec 2 85 da dm dc dcs DB) (hDf : DfRep x.defers dcs AB) (hL : Vec 1 28 la lm lc (ints .u64 x.locals) LB) (hO : Vec 1 28 oa om oc (ints .u64 x.ops) OB) (hj : cs.length + 8 + junk.length = fc * 8) (hfc : fm ≤ fc) (hc63 : fc ≤ maxLen) (hop8 : x.ops.length ≤ 1000) (i : Pm.Instr) (l : List Int) (lp : Option Addr) (lpc : Nat) (CB : List Blk) (hC : Vec 1 28 lp l.length lpc (ints .u64 l) CB) (T0 : Slots) (hop : i.op = 15) : CW Try.prog h0 Try.f42.ntmps (tailOf Try.f42 9) (ov T0 [(1, .pointer (some ⟨tb, 0, none⟩)), (2, .pointer (some ⟨ib, 0, none⟩)), (3, .pointer (some ⟨xb, 0, none⟩)), (4, .func (.func 61) #[] #[.pointer (some ⟨xb, 0, none⟩)]), (6, .slice lp l.length lpc), (7, .func (.func 64) #[] #[.pointer (some ⟨xb, 0, none⟩), .pointer (some ⟨tb, 0, none⟩)]), (40, .int .i64 i.op)]) ((tb, [.pointer (some ⟨mb, 0, none⟩)], 35) :: (xb, [.pointer (some ⟨fb, 0 + ((fm : Int) - 1).toNat * 8, none⟩)], 107) :: (ib, [.int .i64 i.op, .int .i64 i.a, .int .i64 i.b], 23) :: (mb, mCells pa pm pc m (some ⟨fb, 0, none⟩) fm fc ta tm tc, 76) :: (fb, cs ++ rowOf x da dm dc la lm lc oa om oc junk, 66) :: (TB ++ (OB ++ (CB ++ (LB ++ (DB ++ (AB ++ (B ++ PB)))))))) (retQ Try.prog h0 Try.f42 (Hl.Sub fun v L' => v = .tuple #[] ∧ ∃ B', MRep mb pa pm pc (Am.act p m x fs i l) B' ∧ L' = B' ++ PB)) := by
  have hA : LenIs cs (((fm : Int) - 1).toNat * 8) := ⟨by rw [hcs.len]; congr 1; omega⟩
  have hOl := hO.len
  rw [length_ints] at hOl
  obtain ⟨op, a, b⟩ := i
  dsimp only at hop ⊢
  subst hop
  refine cw_block ?_
  repeat' (first | with_reducible (first | refine thenQ_n ?_ | refine thenQ_e ?_ | refine thenQ_r ?_ | refine ow_nil ?_) | (first | refine wY ?_ | refine wA ?_ | refine wS ?_ | refine wL (fun bk => ?_) | refine wB (fun bk => ?_) | refine wX (fun bk => ?_) | refine wB0 (fun bk => ?_) | refine wB1 (fun bk => ?_) | refine wB1o (fun bk => ?_) | refine wB2o (fun bk => ?_) | refine wG ?_ | (refine wGd (fun hb => ?_) (fun hb => ?_) <;> try (exfalso; omega)) | (refine wGe (fun hb => ?_) (fun hb => ?_) <;> try (exfalso; omega)) | (refine wGn (fun hb => ?_) (fun hb => ?_) <;> try (exfalso; omega))) | with_reducible (first | refine cw_then ?_ | refine cw_region ?_ | refine wCt ?_ | refine wCf ?_) | (((with_reducible refine wCd (fun hb => ?_) (fun hb => ?_)) <;> try subst hb) <;> try (exfalso; omega)) | (((with_reducible refine wCe (fun hb => ?_) (fun hb => ?_)) <;> try subst hb) <;> try (exfalso; omega)) | ((with_reducible refine wCn (fun hb => ?_) (fun hb => ?_)) <;> try (exfalso; omega)) | ((with_reducible refine wCo (fun hb => ?_) (fun hb => ?_))) | ((with_reducible refine wCi (fun hb => ?_) (fun hb => ?_))) | with_reducible (first | refine cw_block ?_ | refine cw_skip ?_ | refine cw_exit ?_ | refine cw_ret ?_ | refine cw_label ?_ | refine cw_scope ?_ | refine inB_same ?_ | refine inB_n ?_ | refine inB_r ?_ | refine wIo ?_ | refine noG_n ?_ | refine noG_r ?_ | refine noG_e ?_))
  exact end0 rfl (sub_mk (L' := ((mb, mCells pa pm pc m (some ⟨fb, 0, none⟩) fm fc ta tm tc, 76) :: (fb, cs ++ rowOf { x with pc := a } da dm dc la lm lc oa om oc junk, 66) :: (TB ++ ((OB ++ (LB ++ (DB ++ AB))) ++ B))) ++ PB) ⟨rfl, _, mrep_put (m := { m with frames := { x with pc := a } :: fs }) rfl hT hfm hcs hD hDf hL hO hj hfc hc63, rfl⟩)
end Go.Proofs.Ytnijpdehchdinaa
