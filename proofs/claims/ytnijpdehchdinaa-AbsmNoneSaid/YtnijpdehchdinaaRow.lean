/-
  Rows of a block, by their number: reading, writing.
-/
import Derived.Test.YtnijpdehchdinaaAmB
import Derived.Test.YtnijpdehchdinaaRowK
set_option linter.unusedVariables false
set_option linter.unusedSimpArgs false
namespace Go.Hl
theorem yl_makeFuncl {P : Program} {h0 : Array Obj} {T : Slots} {L : List Blk} {d : Option Tmp} {ty : TypeId} {pos : String} {aft : Array Edge} {g : Option (Nat × Bool)} {fn : Go.Fn} {fs cs : Array Operand} {F C : List Value} (hF : fs.toList.map (ev T) = F) (hC : cs.toList.map (ev T) = C) : Yl P h0 L T ⟨d, .makeFunc fn fs cs, ty, pos, aft, g⟩ (.func fn F.toArray C.toArray) := ⟨fun w hw => by
  have e1 : fs.map (ev T) = F.toArray := by rw [← hF]; apply Array.ext'; simp
  have e2 : cs.map (ev T) = C.toArray := by rw [← hC]; apply Array.ext'; simp
  simp [execOp, Instr.makeFunc, e1, e2]⟩
end Go.Hl
namespace Go.Proofs.Ytnijpdehchdinaa
open Go Go.Proofs Go.Hl Go.Am
variable {h0 : Array Obj}
/-- A frame's cells. -/
abbrev rowOf (x : Frm) (da : Option Addr) (dm dc : Nat) (la : Option Addr) (lm lc : Nat) (oa : Option Addr) (om oc : Nat) (r : List Value) : List Value :=
  .int .i64 x.f :: .int .i64 x.pc :: .int .i64 x.mode :: .bool x.deferred :: .int .u64 x.value :: .slice da dm dc :: .slice la lm lc :: .slice oa om oc :: r

theorem mrep_put {mb fb : Nat} {pa : Option Addr} {pm pc : Nat} {m : Mach} {fm fc : Nat} {ta : Option Addr} {tm tc : Nat} {TB : List Blk} {x : Frm} {fs : List Frm} {cs junk : List Value} {B : List Blk} {da : Option Addr} {dm dc : Nat} {la : Option Addr} {lm lc : Nat} {oa : Option Addr} {om oc : Nat} {dcs : List Value} {DB AB LB OB : List Blk}
    (hm : m.frames = x :: fs) (hT : Vec 2 31 ta tm tc (markCells m.trace) TB) (hfm : fm = fs.length + 1) (hcs : FrRep fs cs B) (hD : Vec 2 85 da dm dc dcs DB) (hDf : DfRep x.defers dcs AB) (hL : Vec 1 28 la lm lc (ints .u64 x.locals) LB) (hO : Vec 1 28 oa om oc (ints .u64 x.ops) OB)
    (hj : cs.length + 8 + junk.length = fc * 8) (hfc : fm ≤ fc) (hc63 : fc ≤ maxLen) :
    MRep mb pa pm pc m ((mb, mCells pa pm pc m (some ⟨fb, 0, none⟩) fm fc ta tm tc, 76) :: (fb, cs ++ rowOf x da dm dc la lm lc oa om oc junk, 66) :: (TB ++ ((OB ++ (LB ++ (DB ++ AB))) ++ B))) := by
  have hr : FrRow x (rowOf x da dm dc la lm lc oa om oc []) (OB ++ (LB ++ (DB ++ AB))) := .mk hD hDf hL hO
  have hfr := FrRep.cons hcs hr
  have hV := Vec.row (s := 8) (e := 66) fb fm fc (cs ++ rowOf x da dm dc la lm lc oa om oc []) junk (by rw [List.length_append, hcs.len, hfm]; simp; omega) (by simp; omega) hfc hc63
  refine ⟨_, _, _, _, _, _, _, _, _, _, hV, by rw [hm]; exact hfr, hT, ?_⟩
  have e : cs ++ rowOf x da dm dc la lm lc oa om oc [] ++ junk = cs ++ rowOf x da dm dc la lm lc oa om oc junk := by rw [List.append_assoc]; rfl
  rw [e]; rfl

theorem recover_no (mb fb : Nat) (pa : Option Addr) (pm pc : Nat) (m : Mach) (fm fc : Nat) (ta : Option Addr) (tm tc : Nat) (hfm : 1 ≤ fm) (hfm2 : fm ≤ 1000000) (cs junk : List Value) (hcs : cs.length = (fm - 1) * 8) (x : Frm) (hx : x.deferred = false) (da : Option Addr) (dm dc : Nat) (la : Option Addr) (lm lc : Nat) (oa : Option Addr) (om oc : Nat) :
    Ct Try.prog h0 69 [.pointer (some ⟨mb, 0, none⟩)] [(mb, mCells pa pm pc m (some ⟨fb, 0, none⟩) fm fc ta tm tc, 76), (fb, cs ++ rowOf x da dm dc la lm lc oa om oc junk, 66)]
      fun v L' => ∃ b, v = .slice (some ⟨b, 0, none⟩) 2 2 ∧ L' = [(b, [.int .u64 (Fl.int 0), .int .u64 (Fl.int 0)], 28), (mb, mCells pa pm pc m (some ⟨fb, 0, none⟩) fm fc ta tm tc, 76), (fb, cs ++ rowOf x da dm dc la lm lc oa om oc junk, 66)] := by
  have hA : LenIs cs (((fm : Int) - 1).toNat * 8) := ⟨by rw [hcs]; congr 1; omega⟩
  unfold mCells rowOf
  rw [hx]
  refine fn_of Try.func69 rfl rfl ?_
  repeat' (first | (refine ow_call_all (fint_fn _ _) rfl (fun v L' hv => ?_); obtain ⟨rfl, rfl⟩ := hv) | (first | with_reducible (first | refine thenQ_n ?_ | refine thenQ_e ?_ | refine thenQ_r ?_ | refine ow_nil ?_) | (first | refine wY ?_ | refine wA ?_ | refine wS ?_ | refine wL (fun bk => ?_) | refine wB (fun bk => ?_) | refine wX (fun bk => ?_) | refine wB0 (fun bk => ?_) | refine wB1 (fun bk => ?_) | refine wB1o (fun bk => ?_) | refine wB2o (fun bk => ?_) | refine wG ?_ | (refine wGd (fun hb => ?_) (fun hb => ?_)) | (refine wGe (fun hb => ?_) (fun hb => ?_)) | (refine wGn (fun hb => ?_) (fun hb => ?_))) | with_reducible (first | refine cw_then ?_ | refine cw_region ?_ | refine wCt ?_ | refine wCf ?_) | ((with_reducible refine wCd (fun hb => ?_) (fun hb => ?_)) <;> try subst hb) | ((with_reducible refine wCe (fun hb => ?_) (fun hb => ?_)) <;> try subst hb) | ((with_reducible refine wCn (fun hb => ?_) (fun hb => ?_))) | ((with_reducible refine wCo (fun hb => ?_) (fun hb => ?_))) | ((with_reducible refine wCi (fun hb => ?_) (fun hb => ?_))) | with_reducible (first | refine cw_block ?_ | refine cw_skip ?_ | refine cw_exit ?_ | refine cw_ret ?_ | refine cw_label ?_ | refine cw_scope ?_ | refine inB_same ?_ | refine inB_n ?_ | refine inB_r ?_ | refine wIo ?_ | refine noG_n ?_ | refine noG_r ?_ | refine noG_e ?_)))
  exact ret1 (v := .slice (some ⟨bk, 0, none⟩) 2 2) rfl rfl (sub_mk ⟨bk, rfl, rfl⟩)

theorem recover_not (mb fb : Nat) (pa : Option Addr) (pm pc : Nat) (m : Mach) (fm fc : Nat) (ta : Option Addr) (tm tc : Nat) (hfm : 2 ≤ fm) (hfm2 : fm ≤ 1000000) (cs junk : List Value) (hcs : cs.length = (fm - 2) * 8) (x y : Frm) (hx : x.deferred = true) (hy : y.mode ≠ 2) (da : Option Addr) (dm dc : Nat) (la : Option Addr) (lm lc : Nat) (oa : Option Addr) (om oc : Nat)
    (da' : Option Addr) (dm' dc' : Nat) (la' : Option Addr) (lm' lc' : Nat) (oa' : Option Addr) (om' oc' : Nat) :
    Ct Try.prog h0 69 [.pointer (some ⟨mb, 0, none⟩)] [(mb, mCells pa pm pc m (some ⟨fb, 0, none⟩) fm fc ta tm tc, 76), (fb, cs ++ rowOf y da' dm' dc' la' lm' lc' oa' om' oc' (rowOf x da dm dc la lm lc oa om oc junk), 66)]
      fun v L' => ∃ b, v = .slice (some ⟨b, 0, none⟩) 2 2 ∧ L' = [(b, [.int .u64 (Fl.int 0), .int .u64 (Fl.int 0)], 28), (mb, mCells pa pm pc m (some ⟨fb, 0, none⟩) fm fc ta tm tc, 76), (fb, cs ++ rowOf y da' dm' dc' la' lm' lc' oa' om' oc' (rowOf x da dm dc la lm lc oa om oc junk), 66)] := by
  have hA : LenIs cs (((fm : Int) - 2).toNat * 8) := ⟨by rw [hcs]; congr 1; omega⟩
  have hd : At (cs ++ rowOf y da' dm' dc' la' lm' lc' oa' om' oc' (rowOf x da dm dc la lm lc oa om oc junk)) (0 + ((fm : Int) - 1).toNat * 8 + 3) (.bool x.deferred) := at_row2 (R := rowOf y da' dm' dc' la' lm' lc' oa' om' oc' []) (by rw [List.length_append, hcs]; simp; omega) rfl
  unfold mCells
  unfold rowOf at hd ⊢
  rw [hx] at hd ⊢
  refine fn_of Try.func69 rfl rfl ?_
  repeat' (first | (refine ow_call_all (fint_fn _ _) rfl (fun v L' hv => ?_); obtain ⟨rfl, rfl⟩ := hv) | (first | with_reducible (first | refine thenQ_n ?_ | refine thenQ_e ?_ | refine thenQ_r ?_ | refine ow_nil ?_) | (first | refine wY ?_ | refine wA ?_ | refine wS ?_ | refine wL (fun bk => ?_) | refine wB (fun bk => ?_) | refine wX (fun bk => ?_) | refine wB0 (fun bk => ?_) | refine wB1 (fun bk => ?_) | refine wB1o (fun bk => ?_) | refine wB2o (fun bk => ?_) | refine wG ?_ | (refine wGd (fun hb => ?_) (fun hb => ?_) <;> try (exfalso; omega)) | (refine wGe (fun hb => ?_) (fun hb => ?_) <;> try (exfalso; omega)) | (refine wGn (fun hb => ?_) (fun hb => ?_) <;> try (exfalso; omega))) | with_reducible (first | refine cw_then ?_ | refine cw_region ?_ | refine wCt ?_ | refine wCf ?_) | (((with_reducible refine wCd (fun hb => ?_) (fun hb => ?_)) <;> try subst hb) <;> try (exfalso; omega)) | (((with_reducible refine wCe (fun hb => ?_) (fun hb => ?_)) <;> try subst hb) <;> try (exfalso; omega)) | ((with_reducible refine wCn (fun hb => ?_) (fun hb => ?_)) <;> try (exfalso; omega)) | ((with_reducible refine wCo (fun hb => ?_) (fun hb => ?_))) | ((with_reducible refine wCi (fun hb => ?_) (fun hb => ?_))) | with_reducible (first | refine cw_block ?_ | refine cw_skip ?_ | refine cw_exit ?_ | refine cw_ret ?_ | refine cw_label ?_ | refine cw_scope ?_ | refine inB_same ?_ | refine inB_n ?_ | refine inB_r ?_ | refine wIo ?_ | refine noG_n ?_ | refine noG_r ?_ | refine noG_e ?_)))
  exact ret1 (v := .slice (some ⟨bk, 0, none⟩) 2 2) rfl rfl (sub_mk ⟨bk, rfl, rfl⟩)

theorem recover_yes (mb fb : Nat) (pa : Option Addr) (pm pc : Nat) (m : Mach) (fm fc : Nat) (ta : Option Addr) (tm tc : Nat) (TB : List Blk) (hT : Vec 2 31 ta tm tc (markCells m.trace) TB) (hl : m.trace.length ≤ 1000000) (hfm : 2 ≤ fm) (hfm2 : fm ≤ 1000000) (cs junk : List Value) (hcs : cs.length = (fm - 2) * 8) (x y : Frm) (hx : x.deferred = true) (hy : y.mode = 2) (da : Option Addr) (dm dc : Nat) (la : Option Addr) (lm lc : Nat) (oa : Option Addr) (om oc : Nat)
    (da' : Option Addr) (dm' dc' : Nat) (la' : Option Addr) (lm' lc' : Nat) (oa' : Option Addr) (om' oc' : Nat) :
    Ct Try.prog h0 69 [.pointer (some ⟨mb, 0, none⟩)] ((mb, mCells pa pm pc m (some ⟨fb, 0, none⟩) fm fc ta tm tc, 76) :: (fb, cs ++ rowOf y da' dm' dc' la' lm' lc' oa' om' oc' (rowOf x da dm dc la lm lc oa om oc junk), 66) :: TB)
      fun v L' => ∃ b ta' tm' tc' TB', v = .slice (some ⟨b, 0, none⟩) 2 2 ∧ Vec 2 31 ta' tm' tc' (markCells (Am.mark m 2 y.value).trace) TB' ∧ L' = (b, [.int .u64 y.value, .int .u64 (Fl.int 1)], 28) :: (mb, mCells pa pm pc (Am.mark m 2 y.value) (some ⟨fb, 0, none⟩) fm fc ta' tm' tc', 76) :: (fb, cs ++ rowOf { y with mode := 1, value := Fl.int 0 } da' dm' dc' la' lm' lc' oa' om' oc' (rowOf x da dm dc la lm lc oa om oc junk), 66) :: TB' := by
  have hA : LenIs cs (((fm : Int) - 2).toNat * 8) := ⟨by rw [hcs]; congr 1; omega⟩
  have hd : At (cs ++ rowOf y da' dm' dc' la' lm' lc' oa' om' oc' (rowOf x da dm dc la lm lc oa om oc junk)) (0 + ((fm : Int) - 1).toNat * 8 + 3) (.bool x.deferred) := at_row2 (R := rowOf y da' dm' dc' la' lm' lc' oa' om' oc' []) (by rw [List.length_append, hcs]; simp; omega) rfl
  unfold mCells
  unfold rowOf at hd ⊢
  rw [hx] at hd ⊢
  rw [hy] at hd ⊢
  refine fn_of Try.func69 rfl rfl ?_
  repeat' (first | (refine ow_call_all (fint_fn _ _) rfl (fun v L' hv => ?_); obtain ⟨rfl, rfl⟩ := hv) | (first | with_reducible (first | refine thenQ_n ?_ | refine thenQ_e ?_ | refine thenQ_r ?_ | refine ow_nil ?_) | (first | refine wY ?_ | refine wA ?_ | refine wS ?_ | refine wL (fun bk => ?_) | refine wB (fun bk => ?_) | refine wX (fun bk => ?_) | refine wB0 (fun bk => ?_) | refine wB1 (fun bk => ?_) | refine wB1o (fun bk => ?_) | refine wB2o (fun bk => ?_) | refine wG ?_ | (refine wGd (fun hb => ?_) (fun hb => ?_) <;> try (exfalso; omega)) | (refine wGe (fun hb => ?_) (fun hb => ?_) <;> try (exfalso; omega)) | (refine wGn (fun hb => ?_) (fun hb => ?_) <;> try (exfalso; omega))) | with_reducible (first | refine cw_then ?_ | refine cw_region ?_ | refine wCt ?_ | refine wCf ?_) | (((with_reducible refine wCd (fun hb => ?_) (fun hb => ?_)) <;> try subst hb) <;> try (exfalso; omega)) | (((with_reducible refine wCe (fun hb => ?_) (fun hb => ?_)) <;> try subst hb) <;> try (exfalso; omega)) | ((with_reducible refine wCn (fun hb => ?_) (fun hb => ?_)) <;> try (exfalso; omega)) | ((with_reducible refine wCo (fun hb => ?_) (fun hb => ?_))) | ((with_reducible refine wCi (fun hb => ?_) (fun hb => ?_))) | with_reducible (first | refine cw_block ?_ | refine cw_skip ?_ | refine cw_exit ?_ | refine cw_ret ?_ | refine cw_label ?_ | refine cw_scope ?_ | refine inB_same ?_ | refine inB_n ?_ | refine inB_r ?_ | refine wIo ?_ | refine noG_n ?_ | refine noG_r ?_ | refine noG_e ?_)))
  refine ow_call (mark_fn mb pa pm pc m (some ⟨fb, 0, none⟩) fm fc ta tm tc 2 y.value TB hT hl) rfl (fun v L' hv => ?_)
  obtain ⟨rfl, ta', tm', tc', TB', hT', rfl⟩ := hv
  repeat' (first | (refine ow_call_all (fint_fn _ _) rfl (fun v L' hv => ?_); obtain ⟨rfl, rfl⟩ := hv) | (first | with_reducible (first | refine thenQ_n ?_ | refine thenQ_e ?_ | refine thenQ_r ?_ | refine ow_nil ?_) | (first | refine wY ?_ | refine wA ?_ | refine wS ?_ | refine wL (fun bk => ?_) | refine wB (fun bk => ?_) | refine wX (fun bk => ?_) | refine wB0 (fun bk => ?_) | refine wB1 (fun bk => ?_) | refine wB1o (fun bk => ?_) | refine wB2o (fun bk => ?_) | refine wG ?_ | (refine wGd (fun hb => ?_) (fun hb => ?_) <;> try (exfalso; omega)) | (refine wGe (fun hb => ?_) (fun hb => ?_) <;> try (exfalso; omega)) | (refine wGn (fun hb => ?_) (fun hb => ?_) <;> try (exfalso; omega))) | with_reducible (first | refine cw_then ?_ | refine cw_region ?_ | refine wCt ?_ | refine wCf ?_) | (((with_reducible refine wCd (fun hb => ?_) (fun hb => ?_)) <;> try subst hb) <;> try (exfalso; omega)) | (((with_reducible refine wCe (fun hb => ?_) (fun hb => ?_)) <;> try subst hb) <;> try (exfalso; omega)) | ((with_reducible refine wCn (fun hb => ?_) (fun hb => ?_)) <;> try (exfalso; omega)) | ((with_reducible refine wCo (fun hb => ?_) (fun hb => ?_))) | ((with_reducible refine wCi (fun hb => ?_) (fun hb => ?_))) | with_reducible (first | refine cw_block ?_ | refine cw_skip ?_ | refine cw_exit ?_ | refine cw_ret ?_ | refine cw_label ?_ | refine cw_scope ?_ | refine inB_same ?_ | refine inB_n ?_ | refine inB_r ?_ | refine wIo ?_ | refine noG_n ?_ | refine noG_r ?_ | refine noG_e ?_)))
  exact ret1 (v := .slice (some ⟨bk, 0, none⟩) 2 2) rfl rfl (sub_mk ⟨bk, ta', tm', tc', TB', rfl, hT', rfl⟩)
end Go.Proofs.Ytnijpdehchdinaa
