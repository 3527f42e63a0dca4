/-
  The maker in memory: its state as a whole; next, here, add; one piece of a code.
-/
import Derived.Test.YtnijpdehchdinaaMaker
set_option linter.unusedVariables false
set_option linter.unusedSimpArgs false
namespace Go.Hl
section
variable {P : Program} {h0 : Array Obj} {n : Nat} {T : Slots} {L Lq : List Blk} {Q : Exit → Slots → List Blk → Prop} {ops : Array Oper} {rest : List Oper} {d : Option Tmp} {ty : TypeId} {pos : String} {aft : Array Edge} {g : Option (Nat × Bool)} {fuel : Nat} {listed : Array Bool} {o : Oper} {v : Value}
theorem Rd.any {b : Nat} {cs : List Value} (h : Rd h0 [] b cs) (L : List Blk) : Rd h0 L b cs := ⟨fun w hw => h.rd w (hw.sub (fun p hp => by cases hp) (by simp))⟩
/-- A slice of values of one cell each, written out. -/
theorem wBI {t e by_ m : Nat} {z : Value} {parts : Array (Nat × Operand)} (vals : List Value) [TySlice P t e 1 by_ z] (h : ∀ b, OW P h0 n ops rest (putD T d (.slice (some ⟨b, 0, none⟩) m m)) ((b, vals, e) :: L) Q)
    (hp : (parts.toList.map fun p => (p.1, ev T p.2)) = (vals.zipIdx.map fun (v, i) => (i, v)) := by with_unfolding_all exact rfl) (hm : vals.length = m := by with_unfolding_all exact rfl) (hv : vals.all (fun v => v.oneCell') = true := by with_unfolding_all exact rfl) (hsm : m * 1 ≤ 16777216 := by decide)
    (hg : Region.wanted ⟨d, .buildSlice t m parts, ty, pos, aft, g⟩ (yl ops T) = true := by with_unfolding_all exact rfl) (hd : dstOk n d = true := by with_unfolding_all exact rfl) : OW P h0 n ops (⟨d, .buildSlice t m parts, ty, pos, aft, g⟩ :: rest) T L Q := by
  have hc : ∀ v ∈ vals, v.cells = #[v] := fun v hv' => by
    have := List.all_eq_true.1 hv v hv'
    cases v <;> first | rfl | cases this
  refine ow_buildSlice (s := 1) vals hp hm (fun v hv' => by rw [hc v hv']; rfl) hsm (fun b => ?_) hg hd
  have e : ∀ l : List Value, (∀ v ∈ l, v.cells = #[v]) → (l.flatMap fun v => v.cells.toList) = l := fun l => by
    induction l with
    | nil => intro _; rfl
    | cons x l ih => intro hl; rw [List.flatMap_cons, hl x (List.mem_cons_self ..), ih (fun v h => hl v (List.mem_cons_of_mem _ h))]; rfl
  rw [e vals hc]; exact h b
theorem yl_remp {t t' : TypeId} {x y : Operand} {k : IntKind} {p q : Int} (hx : ev T x = .int k p) (hy : ev T y = .int k q) (h : 0 ≤ p ∧ 0 < q) : Yl P h0 L T ⟨d, .binOp .rem t x y t', ty, pos, aft, g⟩ (.int k (p % q)) := by
  have := yl_rem (P := P) (h0 := h0) (L := L) (d := d) (ty := ty) (pos := pos) (aft := aft) (g := g) (t := t) (t' := t') hx hy (by omega)
  rwa [Int.tmod_eq_emod_of_nonneg h.1] at this
theorem yl_quop {t t' : TypeId} {x y : Operand} {p q : Int} (hx : ev T x = .int .i64 p) (hy : ev T y = .int .i64 q) (h : 0 ≤ p ∧ 0 < q ∧ p ≤ 9223372036854775807) : Yl P h0 L T ⟨d, .binOp .quo t x y t', ty, pos, aft, g⟩ (.int .i64 (p / q)) := by
  have := yl_quo (P := P) (h0 := h0) (L := L) (d := d) (ty := ty) (pos := pos) (aft := aft) (g := g) (t := t) (t' := t') hx hy (by omega)
  rw [Int.tdiv_eq_ediv_of_nonneg h.1] at this
  have h2 : 0 ≤ p / q := Int.ediv_nonneg h.1 (by omega)
  have h3 : p / q ≤ p := Int.ediv_le_self _ h.1
  rwa [wrap64_in (by omega)] at this
theorem wRm {t t' : TypeId} {x y : Operand} {k : IntKind} {p q : Int} (h : OW P h0 n ops rest (putD T d (.int k (p % q))) L Q)
    (hg : Region.wanted ⟨d, .binOp .rem t x y t', ty, pos, aft, g⟩ (yl ops T) = true := by with_unfolding_all exact rfl) (hd : dstOk n d = true := by with_unfolding_all exact rfl)
    (hx : ev T x = .int k p := by with_unfolding_all exact rfl) (hy : ev T y = .int k q := by with_unfolding_all exact rfl) (hp : 0 ≤ p ∧ 0 < q := by omega) : OW P h0 n ops (⟨d, .binOp .rem t x y t', ty, pos, aft, g⟩ :: rest) T L Q := ow_yl (yl_remp hx hy hp) h hg hd
theorem wQu {t t' : TypeId} {x y : Operand} {p q : Int} (h : OW P h0 n ops rest (putD T d (.int .i64 (p / q))) L Q)
    (hg : Region.wanted ⟨d, .binOp .quo t x y t', ty, pos, aft, g⟩ (yl ops T) = true := by with_unfolding_all exact rfl) (hd : dstOk n d = true := by with_unfolding_all exact rfl)
    (hx : ev T x = .int .i64 p := by with_unfolding_all exact rfl) (hy : ev T y = .int .i64 q := by with_unfolding_all exact rfl) (hp : 0 ≤ p ∧ 0 < q ∧ p ≤ 9223372036854775807 := by omega) : OW P h0 n ops (⟨d, .binOp .quo t x y t', ty, pos, aft, g⟩ :: rest) T L Q := ow_yl (yl_quop hx hy hp) h hg hd
end
end Go.Hl
namespace Go.Proofs.Ytnijpdehchdinaa
open Go Go.Proofs Go.Hl
variable {h0 : Array Obj}

/-- The maker in memory. -/
structure KRep (h0 : Array Obj) (kb : Nat) (A : List Pm.Func) (x : Pm.Func) (B : List Pm.Func) (depth : List Int) (at_ : Int) (L : List Blk) : Prop where
  ex : ∃ na nm nc ns pb pm pc cA cB junk BA BB CB DB ca cm cc da dm dc, SlRd h0 [] 1 na nm nc (ints .u8 ns) ∧ (∀ z ∈ ns, 0 ≤ z ∧ z ≤ 255) ∧ FnRep A cA BA ∧ FnRep B cB BB ∧ Vec 3 23 ca cm cc (instrCells x.code) CB ∧ Vec 1 3 da dm dc (ints .i64 depth) DB ∧
    pm = A.length + 1 + B.length ∧ pm ≤ pc ∧ pc ≤ maxLen ∧
    L = (kb, kCells na nm nc pb pm pc A.length da dm dc at_, 88) :: (pb, cA ++ (.int .i64 x.params :: .int .i64 x.locals :: .int .i64 x.refs :: .slice ca cm cc :: (cB ++ junk)), 26) :: (CB ++ (DB ++ (BA ++ BB)))
/-- What stays while a function's code is made. -/
structure KFix (P : Pm.Prog) (A : List Pm.Func) (x : Pm.Func) (B : List Pm.Func) : Prop where
  sh : ∀ c, Pm.shape (A ++ { x with code := c } :: B) = P
  len : A.length + 1 + B.length ≤ 5
  small : ∀ f ∈ A ++ x :: B, 0 ≤ f.params ∧ f.params ≤ 3
  loc : x.params ≤ x.locals ∧ x.locals ≤ 8
  refs : 0 ≤ x.refs ∧ x.refs ≤ x.locals - x.params
theorem KFix.plen {P : Pm.Prog} {A : List Pm.Func} {x : Pm.Func} {B : List Pm.Func} (h : KFix P A x B) : P.length = A.length + 1 + B.length := by
  rw [← h.sh []]; simp [Pm.shape]; omega
theorem KFix.xp {P : Pm.Prog} {A : List Pm.Func} {x : Pm.Func} {B : List Pm.Func} (h : KFix P A x B) : 0 ≤ x.params ∧ x.params ≤ 3 := h.small x (by simp)

theorem mkNext_fn {kb : Nat} {A : List Pm.Func} {x : Pm.Func} {B : List Pm.Func} {depth : List Int} {at_ : Int} {L : List Blk} (h : KRep h0 kb A x B depth at_ L) :
    Ct Try.prog h0 39 [.pointer (some ⟨kb, 0, none⟩)] L fun v L' => ∃ b : Int, v = .int .i64 b ∧ (0 ≤ b ∧ b ≤ 255) ∧ KRep h0 kb A x B depth at_ L' := by
  obtain ⟨na, nm, nc, ns, pb, pm, pc, cA, cB, junk, BA, BB, CB, DB, ca, cm, cc, da, dm, dc, hns, hnz, hA, hB, hC, hD, hm, hmc, hpc, rfl⟩ := h.ex
  have hnl := hns.len
  rw [length_ints] at hnl
  have hncap := hns.cap
  have hn63 := hns.cap63
  unfold kCells
  refine fn_of Try.func39 rfl rfl ?_
  by_cases h0n : nm = 0
  · subst h0n
    repeat' (first | with_reducible (first | refine thenQ_n ?_ | refine thenQ_e ?_ | refine thenQ_r ?_ | refine ow_nil ?_) | (first | refine wY ?_ | refine wA ?_ | refine wS ?_ | refine wL (fun bk => ?_) | refine wB (fun bk => ?_) | refine wX (fun bk => ?_) | refine wB0 (fun bk => ?_) | refine wB1 (fun bk => ?_) | refine wB1o (fun bk => ?_) | refine wB2o (fun bk => ?_) | refine wG ?_ | (refine wGd (fun hb => ?_) (fun hb => ?_) <;> try (exfalso; omega)) | (refine wGe (fun hb => ?_) (fun hb => ?_) <;> try (exfalso; omega)) | (refine wGn (fun hb => ?_) (fun hb => ?_) <;> try (exfalso; omega))) | with_reducible (first | refine cw_then ?_ | refine cw_region ?_ | refine wCt ?_ | refine wCf ?_) | (((with_reducible refine wCd (fun hb => ?_) (fun hb => ?_)) <;> try subst hb) <;> try (exfalso; omega)) | (((with_reducible refine wCe (fun hb => ?_) (fun hb => ?_)) <;> try subst hb) <;> try (exfalso; omega)) | ((with_reducible refine wCn (fun hb => ?_) (fun hb => ?_)) <;> try (exfalso; omega)) | ((with_reducible refine wCo (fun hb => ?_) (fun hb => ?_))) | ((with_reducible refine wCi (fun hb => ?_) (fun hb => ?_))) | with_reducible (first | refine cw_block ?_ | refine cw_skip ?_ | refine cw_exit ?_ | refine cw_ret ?_ | refine cw_label ?_ | refine cw_scope ?_ | refine inB_same ?_ | refine inB_n ?_ | refine inB_r ?_ | refine wIo ?_ | refine noG_n ?_ | refine noG_r ?_ | refine noG_e ?_))
    exact ret1 (v := .int .i64 0) rfl rfl (sub_mk ⟨0, rfl, by omega, na, 0, nc, ns, pb, pm, pc, cA, cB, junk, BA, BB, CB, DB, ca, cm, cc, da, dm, dc, hns, hnz, hA, hB, hC, hD, hm, hmc, hpc, rfl⟩)
  · obtain ⟨b, o, cs, rfl, hrd, hat⟩ := hns.int 0 (by omega)
    obtain ⟨z, zs, hzs⟩ : ∃ z zs, ns = z :: zs := by cases ns with | nil => simp at hnl; omega | cons z zs => exact ⟨z, zs, rfl⟩
    subst hzs
    have hz := hnz z (List.mem_cons_self ..)
    have hrda : ∀ L, Rd h0 L b cs := fun L => hrd.any L
    have hat' : At cs (o + (0 : Int).toNat * 1) (.int .u8 z) := hat
    have hwz : IntKind.i64.wrap z = z := wrap64_in (by omega)
    repeat' (first | with_reducible (first | refine thenQ_n ?_ | refine thenQ_e ?_ | refine thenQ_r ?_ | refine ow_nil ?_) | (first | refine wY ?_ | refine wA ?_ | refine wS ?_ | refine wL (fun bk => ?_) | refine wB (fun bk => ?_) | refine wX (fun bk => ?_) | refine wB0 (fun bk => ?_) | refine wB1 (fun bk => ?_) | refine wB1o (fun bk => ?_) | refine wB2o (fun bk => ?_) | refine wG ?_ | (refine wGd (fun hb => ?_) (fun hb => ?_) <;> try (exfalso; omega)) | (refine wGe (fun hb => ?_) (fun hb => ?_) <;> try (exfalso; omega)) | (refine wGn (fun hb => ?_) (fun hb => ?_) <;> try (exfalso; omega))) | with_reducible (first | refine cw_then ?_ | refine cw_region ?_ | refine wCt ?_ | refine wCf ?_) | (((with_reducible refine wCd (fun hb => ?_) (fun hb => ?_)) <;> try subst hb) <;> try (exfalso; omega)) | (((with_reducible refine wCe (fun hb => ?_) (fun hb => ?_)) <;> try subst hb) <;> try (exfalso; omega)) | ((with_reducible refine wCn (fun hb => ?_) (fun hb => ?_)) <;> try (exfalso; omega)) | ((with_reducible refine wCo (fun hb => ?_) (fun hb => ?_))) | ((with_reducible refine wCi (fun hb => ?_) (fun hb => ?_))) | with_reducible (first | refine cw_block ?_ | refine cw_skip ?_ | refine cw_exit ?_ | refine cw_ret ?_ | refine cw_label ?_ | refine cw_scope ?_ | refine inB_same ?_ | refine inB_n ?_ | refine inB_r ?_ | refine wIo ?_ | refine noG_n ?_ | refine noG_r ?_ | refine noG_e ?_))
    refine ow_slice_lo rfl rfl (by omega) (by omega) (fun o' ho' => ?_)
    repeat' (first | with_reducible (first | refine thenQ_n ?_ | refine thenQ_e ?_ | refine thenQ_r ?_ | refine ow_nil ?_) | (first | refine wY ?_ | refine wA ?_ | refine wS ?_ | refine wL (fun bk => ?_) | refine wB (fun bk => ?_) | refine wX (fun bk => ?_) | refine wB0 (fun bk => ?_) | refine wB1 (fun bk => ?_) | refine wB1o (fun bk => ?_) | refine wB2o (fun bk => ?_) | refine wG ?_ | (refine wGd (fun hb => ?_) (fun hb => ?_) <;> try (exfalso; omega)) | (refine wGe (fun hb => ?_) (fun hb => ?_) <;> try (exfalso; omega)) | (refine wGn (fun hb => ?_) (fun hb => ?_) <;> try (exfalso; omega))) | with_reducible (first | refine cw_then ?_ | refine cw_region ?_ | refine wCt ?_ | refine wCf ?_) | (((with_reducible refine wCd (fun hb => ?_) (fun hb => ?_)) <;> try subst hb) <;> try (exfalso; omega)) | (((with_reducible refine wCe (fun hb => ?_) (fun hb => ?_)) <;> try subst hb) <;> try (exfalso; omega)) | ((with_reducible refine wCn (fun hb => ?_) (fun hb => ?_)) <;> try (exfalso; omega)) | ((with_reducible refine wCo (fun hb => ?_) (fun hb => ?_))) | ((with_reducible refine wCi (fun hb => ?_) (fun hb => ?_))) | with_reducible (first | refine cw_block ?_ | refine cw_skip ?_ | refine cw_exit ?_ | refine cw_ret ?_ | refine cw_label ?_ | refine cw_scope ?_ | refine inB_same ?_ | refine inB_n ?_ | refine inB_r ?_ | refine wIo ?_ | refine noG_n ?_ | refine noG_r ?_ | refine noG_e ?_))
    rw [hwz]
    refine ret1 (v := .int .i64 z) rfl rfl (sub_mk ⟨z, rfl, hz, some ⟨b, o', none⟩, nm - (1 : Int).toNat, nc - (1 : Int).toNat, zs, pb, pm, pc, cA, cB, junk, BA, BB, CB, DB, ca, cm, cc, da, dm, dc, ⟨?_, ?_, ?_, fun hp => ?_⟩, fun y hy => hnz y (List.mem_cons_of_mem _ hy), hA, hB, hC, hD, hm, hmc, hpc, rfl⟩)
    · rw [length_ints]; simp at hnl; omega
    · omega
    · omega
    · obtain ⟨b2, o2, cs2, e2, hrd2, hat2⟩ := hns.rd (by omega)
      simp only [Option.some.injEq, Addr.mk.injEq, and_true] at e2
      obtain ⟨rfl, rfl⟩ := e2
      refine ⟨b, o', cs2, rfl, hrd2, fun j u hu => ?_⟩
      have := ho' (by omega)
      rw [this, show o + (1 : Int).toNat * 1 + j = o + (j + 1) by omega]
      exact hat2 (j + 1) u (by simpa [ints] using hu)

theorem mkHere_fn {kb : Nat} {A : List Pm.Func} {x : Pm.Func} {B : List Pm.Func} {depth : List Int} {at_ : Int} {L : List Blk} (h : KRep h0 kb A x B depth at_ L) :
    Ct Try.prog h0 58 [.pointer (some ⟨kb, 0, none⟩)] L fun v L' => v = .int .i64 depth.length ∧ L' = L := by
  obtain ⟨na, nm, nc, ns, pb, pm, pc, cA, cB, junk, BA, BB, CB, DB, ca, cm, cc, da, dm, dc, hns, hnz, hA, hB, hC, hD, hm, hmc, hpc, rfl⟩ := h.ex
  have hdl := hD.len
  rw [length_ints] at hdl
  obtain rfl : dm = depth.length := by omega
  unfold kCells
  refine fn_of Try.func58 rfl rfl ?_
  repeat' (first | with_reducible (first | refine thenQ_n ?_ | refine thenQ_e ?_ | refine thenQ_r ?_ | refine ow_nil ?_) | (first | refine wY ?_ | refine wA ?_ | refine wS ?_ | refine wL (fun bk => ?_) | refine wB (fun bk => ?_) | refine wX (fun bk => ?_) | refine wB0 (fun bk => ?_) | refine wB1 (fun bk => ?_) | refine wB1o (fun bk => ?_) | refine wB2o (fun bk => ?_) | refine wG ?_ | (refine wGd (fun hb => ?_) (fun hb => ?_) <;> try (exfalso; omega)) | (refine wGe (fun hb => ?_) (fun hb => ?_) <;> try (exfalso; omega)) | (refine wGn (fun hb => ?_) (fun hb => ?_) <;> try (exfalso; omega))) | with_reducible (first | refine cw_then ?_ | refine cw_region ?_ | refine wCt ?_ | refine wCf ?_) | (((with_reducible refine wCd (fun hb => ?_) (fun hb => ?_)) <;> try subst hb) <;> try (exfalso; omega)) | (((with_reducible refine wCe (fun hb => ?_) (fun hb => ?_)) <;> try subst hb) <;> try (exfalso; omega)) | ((with_reducible refine wCn (fun hb => ?_) (fun hb => ?_)) <;> try (exfalso; omega)) | ((with_reducible refine wCo (fun hb => ?_) (fun hb => ?_))) | ((with_reducible refine wCi (fun hb => ?_) (fun hb => ?_))) | with_reducible (first | refine cw_block ?_ | refine cw_skip ?_ | refine cw_exit ?_ | refine cw_ret ?_ | refine cw_label ?_ | refine cw_scope ?_ | refine inB_same ?_ | refine inB_n ?_ | refine inB_r ?_ | refine wIo ?_ | refine noG_n ?_ | refine noG_r ?_ | refine noG_e ?_))
  exact ret1 (v := .int .i64 depth.length) rfl rfl (sub_mk ⟨rfl, rfl⟩)

theorem mkAdd_fn {kb : Nat} {P : Pm.Prog} {A : List Pm.Func} {x : Pm.Func} {B : List Pm.Func} (F : KFix P A x B) {c : List Pm.Instr} {depth : List Int} {at_ : Int} {L : List Blk} (h : KRep h0 kb A { x with code := c } B depth at_ L) (hl : depth.length = c.length) (hc : c.length ≤ 1000) (hat : 0 ≤ at_ ∧ at_ ≤ 8) (op a b : Int) :
    Ct Try.prog h0 57 [.pointer (some ⟨kb, 0, none⟩), .int .i64 op, .int .i64 a, .int .i64 b] L fun v L' => v = .tuple #[] ∧ KRep h0 kb A { x with code := c ++ [⟨op, a, b⟩] } B (depth ++ [at_]) (Pm.behind P at_ ⟨op, a, b⟩) L' := by
  obtain ⟨na, nm, nc, ns, pb, pm, pc, cA, cB, junk, BA, BB, CB, DB, ca, cm, cc, da, dm, dc, hns, hnz, hA, hB, hC, hD, hm, hmc, hpc, rfl⟩ := h.ex
  refine (add_raw kb na nm nc pb pm pc A B { x with code := c } cA cB junk BA BB CB DB hA hB ca cm cc hC da dm dc depth hD at_ hat hm hmc hpc hc (by omega) ?_ ⟨op, a, b⟩).mono ?_
  · intro f hf
    rcases List.mem_append.1 hf with hf | hf
    · exact (F.small f (List.mem_append_left _ hf)).2
    · rcases List.mem_cons.1 hf with rfl | hf
      · exact F.xp.2
      · exact (F.small f (List.mem_append_right _ (List.mem_cons_of_mem _ hf))).2
  · rintro v L' ⟨rfl, ca', cm', cc', CB', da', dm', dc', DB', hC', hD', rfl⟩
    refine ⟨rfl, na, nm, nc, ns, pb, pm, pc, cA, cB, junk, BA, BB, CB', DB', ca', cm', cc', da', dm', dc', hns, hnz, hA, hB, hC', hD', hm, hmc, hpc, ?_⟩
    rw [← F.sh c, Pm.shape_behind]

/-- One that goes on. -/
theorem addOne {kb : Nat} {P : Pm.Prog} {A : List Pm.Func} {x : Pm.Func} {B : List Pm.Func} (F : KFix P A x B) {c : List Pm.Instr} {depth : List Int} {at_ : Int} {L : List Blk} (h : KRep h0 kb A { x with code := c } B depth at_ L) (G : Pm.Going P x c depth at_) (hc : c.length ≤ 1000) (op a b pv uv : Int)
    (hs : Pm.shapedM P.length x ⟨op, a, b⟩) (ho : op ≠ 18 ∧ op ≠ 20 ∧ op ≠ 15 ∧ op ≠ 16) (hp : Pm.pops P ⟨op, a, b⟩ = pv) (hu : Pm.pushes ⟨op, a, b⟩ = uv) (h1 : pv ≤ at_) (h2 : at_ - pv + uv ≤ 8) :
    Ct Try.prog h0 57 [.pointer (some ⟨kb, 0, none⟩), .int .i64 op, .int .i64 a, .int .i64 b] L fun v L' => v = .tuple #[] ∧ KRep h0 kb A { x with code := c ++ [⟨op, a, b⟩] } B (depth ++ [at_]) (at_ - pv + uv) L' ∧ Pm.Going P x (c ++ [⟨op, a, b⟩]) (depth ++ [at_]) (at_ - pv + uv) := by
  have hb : Pm.behind P at_ ⟨op, a, b⟩ = at_ - pv + uv := by unfold Pm.behind; rw [hp, hu]
  refine (mkAdd_fn F h G.len hc ⟨G.lo, G.hi⟩ op a b).mono ?_
  rintro v L' ⟨rfl, hk⟩
  rw [hb] at hk
  have hg := G.one ⟨op, a, b⟩ hs ho.1 ho.2.1 ho.2.2.1 ho.2.2.2 (by rw [hp]; exact h1) (by rw [hb]; exact h2)
  rw [hb] at hg
  exact ⟨rfl, hk, hg⟩
end Go.Proofs.Ytnijpdehchdinaa
