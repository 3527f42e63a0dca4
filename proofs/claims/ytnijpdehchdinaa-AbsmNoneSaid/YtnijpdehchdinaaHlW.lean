/-
  Further rules: drawn regions with their number of operations told; lists of numbers in a block.
-/
import Derived.Test.YtnijpdehchdinaaRep
import Derived.Laws.Cover3
import Derived.Laws.Pointers
set_option linter.unusedVariables false
set_option linter.unusedSimpArgs false
namespace Go.Hl
section
variable {P : Program} {h0 : Array Obj} {T : Slots} {L : List Blk} {d : Option Tmp} {ty : TypeId} {pos : String} {aft : Array Edge} {g : Option (Nat × Bool)}
theorem run_equal_nil_s {t e s b : Nat} {z : Value} [TySlice P t e s b z] (w : World) (a : Option Addr) (m c : Nat) : (Op.equal t (.slice a m c) (.slice none 0 0)).run P w = .ok a.isNone w := run_equal_slice_nil w t e a m c (TySlice.und (P := P) (t := t) (e := e) (s := s) (bytes := b) (z := z))
theorem run_equal_nil_p {t e : Nat} [k : TyPtr P t e] (w : World) (a : Option Addr) : (Op.equal t (.pointer a) (.pointer none)).run P w = .ok a.isNone w := run_equal_pointer_nil w t a (by rw [(show P.pointee t = e by simp [Program.pointee, k.und])]; exact k.und)
theorem yl_eq_nil {t e s b : Nat} {z : Value} {t' : TypeId} [TySlice P t e s b z] {x y : Operand} {a : Option Addr} {m c : Nat} (hx : ev T x = .slice a m c) (hy : ev T y = .slice none 0 0) : Yl P h0 L T ⟨d, .binOp .eql t x y t', ty, pos, aft, g⟩ (.bool a.isNone) := yl_bin hx hy (fun _ => by rfl) (fun w => by rw [binOp] <;> simp [run_equal_nil_s (P := P) (t := t) (e := e) (s := s) (b := b) (z := z)])
theorem yl_eq_nil_t {t e s b : Nat} {z : Value} {t' : TypeId} [TySlice P t e s b z] {x y : Operand} (hx : ev T x = .slice none 0 0) (hy : ev T y = .slice none 0 0) : Yl P h0 L T ⟨d, .binOp .eql t x y t', ty, pos, aft, g⟩ (.bool true) := yl_eq_nil (a := none) hx hy
theorem yl_eq_nil_f {t e s b : Nat} {z : Value} {t' : TypeId} [TySlice P t e s b z] {x y : Operand} {a : Addr} {m c : Nat} (hx : ev T x = .slice (some a) m c) (hy : ev T y = .slice none 0 0) : Yl P h0 L T ⟨d, .binOp .eql t x y t', ty, pos, aft, g⟩ (.bool false) := yl_eq_nil (a := some a) hx hy
theorem yl_eq_nilp_t {t e : Nat} [TyPtr P t e] {t' : TypeId} {x y : Operand} (hx : ev T x = .pointer none) (hy : ev T y = .pointer none) : Yl P h0 L T ⟨d, .binOp .eql t x y t', ty, pos, aft, g⟩ (.bool true) := yl_bin hx hy (fun _ => by rfl) (fun w => by rw [binOp] <;> simp [run_equal_nil_p (P := P) (t := t) (e := e)])
theorem yl_eq_nilp_f {t e : Nat} [TyPtr P t e] {t' : TypeId} {x y : Operand} {a : Addr} (hx : ev T x = .pointer (some a)) (hy : ev T y = .pointer none) : Yl P h0 L T ⟨d, .binOp .eql t x y t', ty, pos, aft, g⟩ (.bool false) := yl_bin hx hy (fun _ => by rfl) (fun w => by rw [binOp] <;> simp [run_equal_nil_p (P := P) (t := t) (e := e)])
theorem yl_ne_nilp_t {t e : Nat} [TyPtr P t e] {t' : TypeId} {x y : Operand} {a : Addr} (hx : ev T x = .pointer (some a)) (hy : ev T y = .pointer none) : Yl P h0 L T ⟨d, .binOp .neq t x y t', ty, pos, aft, g⟩ (.bool true) := yl_bin hx hy (fun _ => by rfl) (fun w => by rw [binOp] <;> simp [run_equal_nil_p (P := P) (t := t) (e := e)])
theorem yl_ne_nilp_f {t e : Nat} [TyPtr P t e] {t' : TypeId} {x y : Operand} (hx : ev T x = .pointer none) (hy : ev T y = .pointer none) : Yl P h0 L T ⟨d, .binOp .neq t x y t', ty, pos, aft, g⟩ (.bool false) := yl_bin hx hy (fun _ => by rfl) (fun w => by rw [binOp] <;> simp [run_equal_nil_p (P := P) (t := t) (e := e)])
end
theorem retc {P : Program} {h0 : Array Obj} {fn : Func} {R : Value → List Blk → Prop} {T : Slots} {L : List Blk} {t : Tmp} {ty : TypeId} {b s : Nat} {cs vs : List Value} [TyAgg P ty s] (hf : fn.results = #[.cell t ty]) (hv : T t = .pointer (some ⟨b, 0, none⟩)) [Rd h0 L b cs] [k : Stretch cs 0 s vs] (hR : R (.agg vs.toArray) L) : retQ P h0 fn R .ret T L :=
  ⟨_, fun a w ab hw => by
    have h1 := ab.at_ t
    obtain ⟨e, fr, hb⟩ := Rd.rd (L := L) (b := b) w hw
    simp only [results, hf]
    rw [hv] at h1
    simp only [Array.getD_eq_getD_getElem?] at h1
    simp [h1, asAddr, loadVar, TyAgg.isAgg (P := P) (t := ty), TyAgg.size (P := P) (t := ty), run_loadCells_blk hb k.len k.at_], hR⟩
theorem cw_drawn {P : Program} {h0 : Array Obj} {n : Nat} {T : Slots} {L : List Blk} {Q : Exit → Slots → List Blk → Prop} {ops : Array Oper} {id : Nat} (m : Nat) (hs : ops.size = m) (hm : P.follows .mixedOrders = true)
    (h : HW P h0 n ops L m (Array.replicate m false) T L Q) : CW P h0 n (.region id ops true) T L Q := by
  subst hs
  exact cw_draw L hm h

theorem toList_at {ops : Array Oper} {i : Nat} {o : Oper} (h : ops.toList[i]? = some o) : ops[i]? = some o := by rw [← h]; simp
theorem hw_nextl {P : Program} {h0 : Array Obj} {n : Nat} {T : Slots} {L Lq : List Blk} {Q : Exit → Slots → List Blk → Prop} {ops : Array Oper} {fuel : Nat} {listed : Array Bool} {o : Oper} [NoPanic Q] (i : Nat) (hi0 : nx listed = i) (hi : ops.toList[i]? = some o) (h : ∃ v, Yl P h0 Lq T o v ∧ HW P h0 n ops Lq fuel (listed.setIfInBounds i true) (putD T o.dst v) L Q)
    (hs : Region.noSelect ops = true) (hf : Region.free .any ops listed i = true) (hr : (Region.ready .any ops listed).contains i = true)
    (hg : Region.wanted o (yl ops T) = true) (hd : dstOk n o.dst = true) : HW P h0 n ops Lq (fuel + 1) listed T L Q :=
  let ⟨_, h1, h2⟩ := h
  hw_take i (toList_at hi) h1 h2 hs hf hr hg hd
theorem hw_nskipl {P : Program} {h0 : Array Obj} {n : Nat} {T : Slots} {L Lq : List Blk} {Q : Exit → Slots → List Blk → Prop} {ops : Array Oper} {fuel : Nat} {listed : Array Bool} {o : Oper} [NoPanic Q] (i : Nat) (hi0 : nx listed = i) (hi : ops.toList[i]? = some o) (h : HW P h0 n ops Lq fuel (listed.setIfInBounds i true) (putD T o.dst undef) L Q)
    (hs : Region.noSelect ops = true) (hf : Region.free .any ops listed i = true) (hr : (Region.ready .any ops listed).contains i = true)
    (hg : Region.wanted o (yl ops T) = false) (hd : dstOk n o.dst = true) : HW P h0 n ops Lq (fuel + 1) listed T L Q :=
  hw_skip i (toList_at hi) h hs hf hr hg hd
theorem hw_tk {P : Program} {h0 : Array Obj} {n : Nat} {T : Slots} {L Lq : List Blk} {Q : Exit → Slots → List Blk → Prop} {ops : Array Oper} {fuel : Nat} {listed : Array Bool} (i : Nat) {o : Oper} [NoPanic Q] (hi : ops.toList[i]? = some o) (h : ∃ v, Yl P h0 Lq T o v ∧ HW P h0 n ops Lq fuel (listed.setIfInBounds i true) (putD T o.dst v) L Q)
    (hs : Region.noSelect ops = true) (hf : Region.free .any ops listed i = true) (hr : (Region.ready .any ops listed).contains i = true)
    (hg : Region.wanted o (yl ops T) = true) (hd : dstOk n o.dst = true) : HW P h0 n ops Lq (fuel + 1) listed T L Q :=
  let ⟨_, h1, h2⟩ := h
  hw_take i (toList_at hi) h1 h2 hs hf hr hg hd
theorem hw_o {P : Program} {h0 : Array Obj} {n : Nat} {T : Slots} {L Lq : List Blk} {Q : Exit → Slots → List Blk → Prop} {ops : Array Oper} {fuel : Nat} {listed : Array Bool} (i : Nat) {o : Oper} (hi : ops.toList[i]? = some o) (h : OW P h0 n ops [o] T L (thenQ (fun T' L' => (∃ Lr, Split L' Lq Lr) ∧ HW P h0 n ops Lq fuel (listed.setIfInBounds i true) T' L' Q) Q))
    (hr : Region.ready .any ops listed = [i]) : HW P h0 n ops Lq (fuel + 1) listed T L Q := hw_one i (toList_at hi) h hr
theorem hw_kp {L' Lq' Lr' : List Blk} {X : Prop} [k : Split L' Lq' Lr'] (h : X) : (∃ Lr, Split L' Lq' Lr) ∧ X := ⟨⟨_, k⟩, h⟩
theorem at_ints {k : IntKind} {l : List Int} {i : Nat} {v : Int} (h : l[i]? = some v) : At (ints k l) (0 + i * 1) (.int k v) := ⟨by rw [Nat.zero_add, Nat.mul_one]; simp [ints, h]⟩
theorem set_ints {k : IntKind} {l : List Int} {i : Nat} {v : Int} (h : i < l.length) : SetAt (ints k l) (0 + i * 1) (.int k v) (ints k (l.set i v)) := ⟨by rw [Nat.zero_add, Nat.mul_one]; simp [ints, h], by rw [Nat.zero_add, Nat.mul_one]; simp [ints, List.map_set]⟩
theorem cw_drawnq {P : Program} {h0 : Array Obj} {n : Nat} {T : Slots} {L Lr : List Blk} {Q : Exit → Slots → List Blk → Prop} {ops : Array Oper} {id : Nat} (m : Nat) (hs : ops.size = m) (hm : P.follows .mixedOrders = true) (Lq : List Blk) [Split L Lq Lr]
    (h : HW P h0 n ops Lq m (Array.replicate m false) T L Q) : CW P h0 n (.region id ops true) T L Q := by
  subst hs
  exact cw_draw Lq hm h
theorem Vec.inv {s : Nat} {e : TypeId} {p : Option Addr} {m c : Nat} {xs : List Value} {B : List Blk} (h : Vec s e p m c xs B) :
    (p = none ∧ m = 0 ∧ c = 0 ∧ xs = [] ∧ B = []) ∨ ∃ b junk, p = some ⟨b, 0, none⟩ ∧ xs.length = m * s ∧ (xs ++ junk).length = c * s ∧ m ≤ c ∧ c ≤ 9223372036854775807 ∧ B = [(b, xs ++ junk, e)] := by
  cases h with
  | nil => exact .inl ⟨rfl, rfl, rfl, rfl, rfl⟩
  | row b m c xs junk hl hj hmc hc => exact .inr ⟨b, junk, rfl, hl, hj, hmc, hc, rfl⟩
theorem cw_canon {P : Program} {h0 : Array Obj} {n : Nat} {T : Slots} {L Lr : List Blk} {Q : Exit → Slots → List Blk → Prop} {c : Code} (C : List Blk) [k : Split L C Lr] (h : CW P h0 n c T C Q) : CW P h0 n c T L Q := cw_weaken k.perm (cw_sub (List.sublist_append_left C Lr) h)
theorem cw_ov {P : Program} {h0 : Array Obj} {n : Nat} {T : Slots} {L : List Blk} {Q : Exit → Slots → List Blk → Prop} {c : Code} (l : List (Nat × Value)) (hs : Sl T l) (h : ∀ T0, CW P h0 n c (ov T0 l) L Q) : CW P h0 n c T L Q := by
  obtain ⟨T0, e⟩ := sl_ov hs
  rw [e]; exact h T0
theorem ints_replicate {k : IntKind} {n : Nat} {v : Int} : ints k (List.replicate n v) = List.replicate n (.int k v) := by simp [ints]
end Go.Hl
