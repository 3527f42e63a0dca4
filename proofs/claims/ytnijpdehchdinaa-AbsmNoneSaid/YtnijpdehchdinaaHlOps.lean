/-
  The operations of the model over the logic of XHl: one rule an operation. No program in sight.
-/
import Derived.Test.YtnijpdehchdinaaHl
set_option linter.unusedVariables false
set_option linter.unusedSimpArgs false
set_option linter.unusedSectionVars false
namespace Go.Hl

/-- What stands at a place of a list. -/
class At (cs : List Value) (o : Nat) (v : outParam Value) : Prop where
  at_ : cs[o]? = some v
instance {v : Value} {cs : List Value} : At (v :: cs) 0 v := ⟨rfl⟩
instance {c v : Value} {cs : List Value} {o : Nat} [k : At cs o v] : At (c :: cs) (o + 1) v := ⟨by simpa using k.at_⟩
instance {v : Value} {A M : List Value} {o : Nat} [k : At M o v] : At (A ++ M) (A.length + o) v := ⟨by rw [List.getElem?_append_right (by omega)]; simpa using k.at_⟩
instance {v : Value} {A M : List Value} : At (A ++ v :: M) A.length v := ⟨by rw [List.getElem?_append_right (Nat.le_refl _)]; simp⟩

/-! ### What a program's tables say of its types -/
class TyOne (P : Program) (t : TypeId) : Prop where
  isAgg : ∀ w, (isAgg t).run P w = .ok false w
  size : ∀ w, (sizeOf t).run P w = .ok 1 w
class TyAgg (P : Program) (t : TypeId) (s : outParam Nat) : Prop where
  isAgg : ∀ w, (isAgg t).run P w = .ok true w
  size : ∀ w, (sizeOf t).run P w = .ok s w
class TyZero (P : Program) (t : TypeId) (z : outParam Value) (zs : outParam (List Value)) : Prop where
  zero : ∀ w, (zeroValue t).run P w = .ok z w
  cells : z.cells = zs.toArray
class TySlice (P : Program) (t : TypeId) (e s bytes : outParam Nat) (z : outParam Value) : Prop where
  und : P.underlying t = some (.slice e)
  info : (P.info? e).map (fun i => (i.zero, i.size, i.bytes)) = some (some z, s, bytes)
  zsize : z.cells.size = s
  pos : 0 < s
class TyField (P : Program) (s : TypeId) (i : Nat) (off : outParam Nat) : Prop where
  at_ : ∀ a w, (Instr.fieldAt s (.pointer (some a)) i).run P w = .ok (.pointer (some (a.add off))) w
class TyStr (P : Program) (t : TypeId) : Prop where
  und : P.underlying t = some .string
class TyPtr (P : Program) (t : TypeId) (e : outParam Nat) : Prop where
  und : P.underlying t = some (.pointer e)
class TyArr (P : Program) (t : TypeId) (len e s : outParam Nat) : Prop where
  und : P.underlying t = some (.array len e)
  size : ∀ w, (sizeOf e).run P w = .ok s w
class TyInt (P : Program) (t : TypeId) (k : outParam IntKind) : Prop where
  und : P.underlying t = some (.int k)
class TyFloat (P : Program) (t : TypeId) (k : outParam FloatKind) : Prop where
  und : P.underlying t = some (.float k)
class TyBool (P : Program) (t : TypeId) : Prop where
  und : P.underlying t = some .bool
class FnEnter (P : Program) (f : FuncId) : Prop where
  enter : ∀ args w, (callFunc f args).run P w = .ok (.enter f args) w

/-! ### Blocks that are read, blocks that are written -/
class OldB (h0 : Array Obj) (b : Nat) (cs : outParam (List Value)) : Prop where
  eq : ∃ e fr, h0[b]? = some (.cells cs.toArray e fr)
class Rd (h0 : Array Obj) (L : List Blk) (b : Nat) (cs : outParam (List Value)) : Prop where
  rd : ∀ w, Has h0 L w → ∃ e fr, w.heap[b]? = some (.cells cs.toArray e fr)

theorem Has.tail {h0 : Array Obj} {p : Blk} {L : List Blk} {w : World} (h : Has h0 (p :: L) w) : Has h0 L w :=
  h.sub (fun _ q => List.mem_cons_of_mem _ q) (by have := h.nodup; simp only [keys_cons, List.nodup_cons] at this; exact this.2)
theorem Has.right {h0 : Array Obj} {A B : List Blk} {w : World} (h : Has h0 (A ++ B) w) : Has h0 B w :=
  h.sub (fun p q => List.mem_append_right _ q) (by have := h.nodup; rw [keys_append] at this; exact (List.nodup_append.1 this).2.1)

instance (priority := high) {h0 : Array Obj} {b : Nat} {cs : List Value} {e : TypeId} {L : List Blk} : Rd h0 ((b, cs, e) :: L) b cs := ⟨fun w h => ⟨e, (0, 0), h.at_ (b, cs, e) (List.mem_cons_self ..)⟩⟩
instance {h0 : Array Obj} {b : Nat} {cs : List Value} {p : Blk} {L : List Blk} [k : Rd h0 L b cs] : Rd h0 (p :: L) b cs := ⟨fun w h => k.rd w h.tail⟩
instance {h0 : Array Obj} {b : Nat} {cs : List Value} {A B : List Blk} [k : Rd h0 A b cs] : Rd h0 (A ++ B) b cs := ⟨fun w h => k.rd w h.left⟩
instance {h0 : Array Obj} {b : Nat} {cs : List Value} {A B : List Blk} [k : Rd h0 B b cs] : Rd h0 (A ++ B) b cs := ⟨fun w h => k.rd w h.right⟩
instance (priority := low) {h0 : Array Obj} {L : List Blk} {b : Nat} {cs : List Value} [k : OldB h0 b cs] : Rd h0 L b cs := ⟨fun w h => by
  obtain ⟨e, fr, hb⟩ := k.eq
  exact ⟨e, fr, by rw [h.base b (Array.getElem?_eq_some_iff.1 hb).1]; exact hb⟩⟩

theorem rd_mem {h0 : Array Obj} {L : List Blk} {b : Nat} {cs : List Value} {e : TypeId} (h : (b, cs, e) ∈ L) : Rd h0 L b cs := ⟨fun w k => ⟨e, (0, 0), k.at_ _ h⟩⟩

class St (L : List Blk) (b : Nat) (cs : outParam (List Value)) (e : outParam TypeId) (mk : outParam (List Value → List Blk)) : Prop where
  eq : ∃ A B, L = A ++ (b, cs, e) :: B ∧ ∀ cs', mk cs' = A ++ (b, cs', e) :: B
instance (priority := high) {b : Nat} {cs : List Value} {e : TypeId} {L : List Blk} : St ((b, cs, e) :: L) b cs e (fun cs' => (b, cs', e) :: L) := ⟨⟨[], L, rfl, fun _ => rfl⟩⟩
instance {b : Nat} {cs : List Value} {e : TypeId} {p : Blk} {L : List Blk} {mk : List Value → List Blk} [k : St L b cs e mk] : St (p :: L) b cs e (fun cs' => p :: mk cs') := ⟨by
  obtain ⟨A, B, h1, h2⟩ := k.eq
  exact ⟨p :: A, B, by rw [h1]; rfl, fun cs' => by rw [h2]; rfl⟩⟩
instance {b : Nat} {cs : List Value} {e : TypeId} {A L : List Blk} {mk : List Value → List Blk} [k : St L b cs e mk] : St (A ++ L) b cs e (fun cs' => A ++ mk cs') := ⟨by
  obtain ⟨A', B, h1, h2⟩ := k.eq
  exact ⟨A ++ A', B, by rw [h1, List.append_assoc], fun cs' => by rw [h2, List.append_assoc]⟩⟩

theorem Has.block {h0 : Array Obj} {L : List Blk} {w : World} (h : Has h0 L w) {b : Nat} {cs : List Value} {e : TypeId} {mk : List Value → List Blk} (k : St L b cs e mk) : w.heap[b]? = some (.cells cs.toArray e (0, 0)) := by
  obtain ⟨A, B, h1, _⟩ := k.eq
  exact h.at_ (b, cs, e) (by rw [h1]; simp)

/-- One block turned. -/
theorem Step.turn {h0 : Array Obj} {L : List Blk} {w w' : World} (h : Has h0 L w) {b : Nat} {cs cs' : List Value} {e : TypeId} {mk : List Value → List Blk} (k : St L b cs e mk)
    (ho : w'.os = w.os) (ht : w'.tape = w.tape) (hp : w'.output = w.output) (hz : w'.heap.size = w.heap.size)
    (hb : w'.heap[b]? = some (.cells cs'.toArray e (0, 0))) (hk : ∀ i, i ≠ b → w'.heap[i]? = w.heap[i]?) : Step h0 L (mk cs') w w' := by
  obtain ⟨A, B, h1, h2⟩ := k.eq
  have hkeys : keys (mk cs') = keys L := by rw [h2, h1]; simp [keys]
  have hbk : b ∈ keys L := by rw [h1]; simp [keys]
  have hold := h.old b hbk
  have hnd := h.nodup
  refine ⟨ho, ht, hp, by omega, fun i hi hn => hk i fun e => hn (e ▸ hbk), ⟨by have := h.low; omega, fun i hi => ?_, by rw [hkeys]; exact hnd, fun i hi => h.old i (by rw [hkeys] at hi; exact hi), fun p hpm => ?_⟩, fun i hi => .inl (by rw [hkeys] at hi; exact hi)⟩
  · rw [hk i (by omega)]; exact h.base i hi
  · rw [h2] at hpm
    have hne : ∀ q, q ∈ A ∨ q ∈ B → q.1 ≠ b := by
      rw [h1] at hnd
      simp only [keys, List.map_append, List.map_cons, List.nodup_append, List.nodup_cons, List.mem_cons] at hnd
      intro q hq e
      rcases hq with hq | hq
      · exact hnd.2.2 q.1 (List.mem_map.2 ⟨q, hq, rfl⟩) b (.inl rfl) e
      · exact hnd.2.1.1 (e ▸ List.mem_map.2 ⟨q, hq, rfl⟩)
    rcases List.mem_append.1 hpm with hq | hq
    · rw [hk p.1 (hne p (.inl hq))]; exact h.at_ p (by rw [h1]; exact List.mem_append_left _ hq)
    · rcases List.mem_cons.1 hq with rfl | hq
      · exact hb
      · rw [hk p.1 (hne p (.inr hq))]; exact h.at_ p (by rw [h1]; exact List.mem_append_right _ (List.mem_cons_of_mem _ hq))

/-- One block more. -/
theorem Step.alloc {h0 : Array Obj} {L : List Blk} {w : World} (h : Has h0 L w) (cs : List Value) (e : TypeId) : Step h0 L ((w.heap.size, cs, e) :: L) w (w.alloc (.cells cs.toArray e)) where
  os := rfl
  tape := rfl
  output := rfl
  size := by simp
  keep b hb _ := heap_alloc_old w _ b hb
  has := by
    refine ⟨by have := h.low; simp; omega, fun b hb => ?_, ?_, ?_, ?_⟩
    · rw [heap_alloc_old w _ b (Nat.lt_of_lt_of_le hb h.low)]; exact h.base b hb
    · simp only [keys_cons, List.nodup_cons]
      exact ⟨fun hm => Nat.lt_irrefl _ (h.lt hm), h.nodup⟩
    · intro b hb
      rcases List.mem_cons.1 hb with rfl | hb
      · exact h.low
      · exact h.old b hb
    · intro p hp
      rcases List.mem_cons.1 hp with rfl | hp
      · exact heap_alloc_new w _
      · rw [heap_alloc_old w _ p.1 (h.lt (mem_keys hp))]; exact h.at_ p hp
  new b hb := by
    rcases List.mem_cons.1 hb with rfl | hb
    · exact .inr (Nat.le_refl _)
    · exact .inl hb

theorem Step.drew {h0 : Array Obj} {L : List Blk} {w : World} (h : Has h0 L w) : Step h0 L L w w.drew where
  os := rfl
  tape := rfl
  output := rfl
  size := Nat.le_refl _
  keep _ _ _ := rfl
  has := ⟨h.low, h.base, h.nodup, h.old, h.at_⟩
  new _ hb := .inl hb

theorem cell_of_blk {w : World} {b o : Nat} {cs : List Value} {e : TypeId} {fr : Nat × Nat} {v : Value} (h : w.heap[b]? = some (.cells cs.toArray e fr)) (hv : cs[o]? = some v) : w.cell? ⟨b, o, none⟩ = some v := by
  simp [World.cell?, h, hv]

theorem run_load_blk {P : Program} {w : World} {b o : Nat} {cs : List Value} {e : TypeId} {fr : Nat × Nat} {v : Value} (h : w.heap[b]? = some (.cells cs.toArray e fr)) (hv : cs[o]? = some v) : (load ⟨b, o, none⟩).run P w = .ok v w := by
  simp only [load, Sem.run, cell_of_blk h hv]

theorem run_loadCells_blk {P : Program} {w : World} {b o s : Nat} {cs vs : List Value} {e : TypeId} {fr : Nat × Nat} (h : w.heap[b]? = some (.cells cs.toArray e fr)) (hl : vs.length = s) (hv : ∀ j v, vs[j]? = some v → cs[o + j]? = some v) :
    (loadCells ⟨b, o, none⟩ s).run P w = .ok vs.toArray w := by
  subst hl
  refine run_loadCells_list w ⟨b, o, none⟩ vs fun j v hj => ?_
  rw [Addr.add_lit]
  exact cell_of_blk h (hv j v hj)

/-- A store of some cells into a block. -/
theorem run_storeCells_blk {P : Program} {h0 : Array Obj} {L : List Blk} {w : World} (h : Has h0 L w) {b o : Nat} {cs vs : List Value} {e : TypeId} {mk : List Value → List Blk} (k : St L b cs e mk)
    (hfit : o + vs.length ≤ cs.length) (h1 : ∀ v ∈ vs, v.oneCell' = true) :
    ∃ w', (storeCells ⟨b, o, none⟩ vs).run P w = .ok () w' ∧ Step h0 L (mk (cs.take o ++ vs ++ cs.drop (o + vs.length))) w w' := by
  have hb := h.block k
  refine ⟨_, run_storeCells_at P b o e vs 0 cs.toArray w hb (by simpa using hfit) h1, ?_⟩
  refine Step.turn h k rfl rfl rfl (by simp [World.setRow]) ?_ (fun i hi => setRow_other w b i _ hi)
  simpa using setRow_heap w b cs.toArray _ e (0, 0) hb

theorem set_of_take {cs : List Value} {o : Nat} {v : Value} (h : o < cs.length) : cs.take o ++ [v] ++ cs.drop (o + 1) = cs.set o v := by
  rw [List.set_eq_take_append_cons_drop, if_pos h]; simp

/-- An operation that reads, and yields a value. -/
structure Yl (P : Program) (h0 : Array Obj) (L : List Blk) (T : Slots) (o : Oper) (v : Value) : Prop where
  run : ∀ w, Has h0 L w → (execOp (ev T) o).run P w = .ok (.value v) w

theorem ow_yl {P : Program} {h0 : Array Obj} {n : Nat} {T : Slots} {L : List Blk} {Q : Exit → Slots → List Blk → Prop} {ops : Array Oper} {o : Oper} {rest : List Oper} {v : Value} (hy : Yl P h0 L T o v) (h : OW P h0 n ops rest (putD T o.dst v) L Q)
    (hg : Region.wanted o (yl ops T) = true := by rfl) (hd : dstOk n o.dst = true := by rfl) : OW P h0 n ops (o :: rest) T L Q := ow_read hy.run hg hd h

section rules
variable {P : Program} {h0 : Array Obj} {n : Nat} {T : Slots} {L : List Blk} {Q : Exit → Slots → List Blk → Prop} {ops : Array Oper} {rest : List Oper} {d : Option Tmp} {ty : TypeId} {pos : String} {aft : Array Edge} {g : Option (Nat × Bool)}

/-! ### Moves -/
theorem yl_move {x : Operand} : Yl P h0 L T ⟨d, .move x, ty, pos, aft, g⟩ (ev T x) := ⟨fun w hw => rfl⟩
theorem yl_assign {x : Operand} : Yl P h0 L T ⟨d, .assign x, ty, pos, aft, g⟩ (ev T x) := ⟨fun w hw => rfl⟩
theorem yl_move_v {x : Operand} (v : Value) (hx : ev T x = v) : Yl P h0 L T ⟨d, .move x, ty, pos, aft, g⟩ v := ⟨fun w hw => by rw [← hx]; rfl⟩
theorem yl_assign_v {x : Operand} (v : Value) (hx : ev T x = v) : Yl P h0 L T ⟨d, .assign x, ty, pos, aft, g⟩ v := ⟨fun w hw => by rw [← hx]; rfl⟩
theorem yl_pick_t {c x y : Operand} {b : Bool} (hc : ev T c = .bool true) (hx : ev T x = .bool b) : Yl P h0 L T ⟨d, .pick c x y, ty, pos, aft, g⟩ (.bool b) := ⟨fun w hw => by simp [execOp, hc, hx, asBool]⟩
theorem yl_pick_f {c x y : Operand} {b : Bool} (hc : ev T c = .bool false) (hy : ev T y = .bool b) : Yl P h0 L T ⟨d, .pick c x y, ty, pos, aft, g⟩ (.bool b) := ⟨fun w hw => by simp [execOp, hc, hy, asBool]⟩
/-- A slot's Bool, both ways. -/
theorem ow_case {l : List Oper} (t : Nat) {b : Bool} (hb : T t = .bool b) (ht : b = true → OW P h0 n ops l (upd T t (.bool true)) L Q) (hf : b = false → OW P h0 n ops l (upd T t (.bool false)) L Q) : OW P h0 n ops l T L Q := by
  have key : upd T t (.bool b) = T := by
    funext u
    unfold upd
    cases hu : Nat.beq u t with
    | false => rfl
    | true => rw [Nat.eq_of_beq_eq_true hu, hb]; rfl
  cases b with
  | true => have := ht rfl; rwa [key] at this
  | false => have := hf rfl; rwa [key] at this
theorem yl_pick {c x y : Operand} {b : Bool} (hc : ev T c = .bool b) : Yl P h0 L T ⟨d, .pick c x y, ty, pos, aft, g⟩ (if b then ev T x else ev T y) := ⟨fun w hw => by simp [execOp, hc, asBool]⟩
/-! ### Arithmetic -/
theorem yl_bin {op : BinOp} {t t' : TypeId} {x y : Operand} {u v r : Value} (hx : ev T x = u) (hy : ev T y = v) (hq : ∀ w, (eqGuard op t x y u v).run P w = .ok () w) (hr : ∀ w, (binOp op t u v).run P w = .ok r w) : Yl P h0 L T ⟨d, .binOp op t x y t', ty, pos, aft, g⟩ r := ⟨fun w hw => by simp only [execOp, hx, hy]; simp [hq, hr]⟩
theorem yl_add {t t' : TypeId} {x y : Operand} {k : IntKind} {p q : Int} (hx : ev T x = .int k p) (hy : ev T y = .int k q) : Yl P h0 L T ⟨d, .binOp .add t x y t', ty, pos, aft, g⟩ (.int k (k.wrap (p + q))) := yl_bin hx hy (fun _ => rfl) (fun _ => by simp [binOp, Op.intArith])
theorem yl_sub {t t' : TypeId} {x y : Operand} {k : IntKind} {p q : Int} (hx : ev T x = .int k p) (hy : ev T y = .int k q) : Yl P h0 L T ⟨d, .binOp .sub t x y t', ty, pos, aft, g⟩ (.int k (k.wrap (p - q))) := yl_bin hx hy (fun _ => rfl) (fun _ => by simp [binOp, Op.intArith])
theorem yl_mul {t t' : TypeId} {x y : Operand} {k : IntKind} {p q : Int} (hx : ev T x = .int k p) (hy : ev T y = .int k q) : Yl P h0 L T ⟨d, .binOp .mul t x y t', ty, pos, aft, g⟩ (.int k (k.wrap (p * q))) := yl_bin hx hy (fun _ => rfl) (fun _ => by simp [binOp, Op.intArith])
theorem wrap64_in {x : Int} (h : -9223372036854775808 ≤ x ∧ x ≤ 9223372036854775807) : IntKind.i64.wrap x = x := by rw [IntKind.wrap_i64]; omega
theorem yl_add64 {t t' : TypeId} {x y : Operand} {p q : Int} (hx : ev T x = .int .i64 p) (hy : ev T y = .int .i64 q) (hr : -9223372036854775808 ≤ p + q ∧ p + q ≤ 9223372036854775807) : Yl P h0 L T ⟨d, .binOp .add t x y t', ty, pos, aft, g⟩ (.int .i64 (p + q)) := by
  have := yl_add (P := P) (h0 := h0) (L := L) (d := d) (ty := ty) (pos := pos) (aft := aft) (g := g) (t := t) (t' := t') hx hy
  rw [wrap64_in hr] at this
  exact this
theorem yl_sub64 {t t' : TypeId} {x y : Operand} {p q : Int} (hx : ev T x = .int .i64 p) (hy : ev T y = .int .i64 q) (hr : -9223372036854775808 ≤ p - q ∧ p - q ≤ 9223372036854775807) : Yl P h0 L T ⟨d, .binOp .sub t x y t', ty, pos, aft, g⟩ (.int .i64 (p - q)) := by
  have := yl_sub (P := P) (h0 := h0) (L := L) (d := d) (ty := ty) (pos := pos) (aft := aft) (g := g) (t := t) (t' := t') hx hy
  rw [wrap64_in hr] at this
  exact this
theorem yl_mul64 {t t' : TypeId} {x y : Operand} {p q : Int} (hx : ev T x = .int .i64 p) (hy : ev T y = .int .i64 q) (hr : -9223372036854775808 ≤ p * q ∧ p * q ≤ 9223372036854775807) : Yl P h0 L T ⟨d, .binOp .mul t x y t', ty, pos, aft, g⟩ (.int .i64 (p * q)) := by
  have := yl_mul (P := P) (h0 := h0) (L := L) (d := d) (ty := ty) (pos := pos) (aft := aft) (g := g) (t := t) (t' := t') hx hy
  rw [wrap64_in hr] at this
  exact this

/-- Comparisons of whole numbers. -/
def cmpI : BinOp → Int → Int → Option Bool
  | .eql, x, y => some (x == y)
  | .neq, x, y => some (x != y)
  | .lss, x, y => some (decide (x < y))
  | .leq, x, y => some (decide (x ≤ y))
  | .gtr, x, y => some (decide (x > y))
  | .geq, x, y => some (decide (x ≥ y))
  | _, _, _ => none
theorem yl_cmp {op : BinOp} {t t' : TypeId} {x y : Operand} {k : IntKind} {p q : Int} {b : Bool} (hx : ev T x = .int k p) (hy : ev T y = .int k q) (hb : cmpI op p q = some b) : Yl P h0 L T ⟨d, .binOp op t x y t', ty, pos, aft, g⟩ (.bool b) :=
  yl_bin hx hy (fun _ => by cases op <;> rfl) (fun _ => by cases op <;> simp_all [binOp, Op.intCmp, cmpI])
/-- Whole division by what is no nought. -/
theorem yl_quo {t t' : TypeId} {x y : Operand} {k : IntKind} {p q : Int} (hx : ev T x = .int k p) (hy : ev T y = .int k q) (hq : q ≠ 0) : Yl P h0 L T ⟨d, .binOp .quo t x y t', ty, pos, aft, g⟩ (.int k (k.wrap (p.tdiv q))) := yl_bin hx hy (fun _ => rfl) (fun _ => by simp [binOp, Op.intDiv, hq])
theorem yl_rem {t t' : TypeId} {x y : Operand} {k : IntKind} {p q : Int} (hx : ev T x = .int k p) (hy : ev T y = .int k q) (hq : q ≠ 0) : Yl P h0 L T ⟨d, .binOp .rem t x y t', ty, pos, aft, g⟩ (.int k (p.tmod q)) := yl_bin hx hy (fun _ => rfl) (fun _ => by simp [binOp, Op.intDiv, hq])
/-- Any operation on two values that reads nothing: its result is owed. -/
theorem yl_binop {op : BinOp} {t t' : TypeId} {x y : Operand} {u v : Value} (r : Value) (hx : ev T x = u) (hy : ev T y = v) (hr : ∀ w, (binOp op t u v).run P w = .ok r w) (hq : ∀ w, (eqGuard op t x y u v).run P w = .ok () w) : Yl P h0 L T ⟨d, .binOp op t x y t', ty, pos, aft, g⟩ r := yl_bin hx hy hq hr
theorem yl_max {a b : Operand} {t t' : TypeId} {k : IntKind} {p q : Int} (hx : ev T a = .int k p) (hy : ev T b = .int k q) : Yl P h0 L T ⟨d, .call { callee := .builtin .max, args := #[a, b], argTypes := #[t, t'] }, ty, pos, aft, g⟩ (.int k (max p q)) := ⟨fun w hw => by
  simp only [execOp]
  simp [resolve, invoke, builtin, hx, hy, Builtin.max_, Builtin.max2]
  rw [Int.max_def]; split <;> split <;> omega⟩
theorem yl_min {a b : Operand} {t t' : TypeId} {k : IntKind} {p q : Int} (hx : ev T a = .int k p) (hy : ev T b = .int k q) : Yl P h0 L T ⟨d, .call { callee := .builtin .min, args := #[a, b], argTypes := #[t, t'] }, ty, pos, aft, g⟩ (.int k (min p q)) := ⟨fun w hw => by
  simp only [execOp]
  simp [resolve, invoke, builtin, hx, hy, Builtin.min_, Builtin.min2]
  rw [Int.min_def]; split <;> split <;> omega⟩
theorem yl_not {t : TypeId} {x : Operand} {b : Bool} (hx : ev T x = .bool b) : Yl P h0 L T ⟨d, .unOp .not t x, ty, pos, aft, g⟩ (.bool (!b)) := ⟨fun w hw => by simp [execOp, hx, Op.unary]⟩
theorem yl_un {op : UnOp} {t : TypeId} {x : Operand} {u r : Value} (hx : ev T x = u) (hr : ∀ w, (Op.unary op u).run P w = .ok r w) : Yl P h0 L T ⟨d, .unOp op t x, ty, pos, aft, g⟩ r := ⟨fun w hw => by simp only [execOp, hx]; simp [hr]⟩
/-- From one whole number's type to another's. -/
theorem yl_conv_int {s t : TypeId} {x : Operand} {k k' : IntKind} {p : Int} [TyInt P t k] [si : TyInt P s k'] (hx : ev T x = .int k' p) : Yl P h0 L T ⟨d, .convert s t x, ty, pos, aft, g⟩ (.int k (k.wrap p)) := ⟨fun w hw => by
    have e1 := run_underlying (TyInt.und (P := P) (t := s)) w
    have e2 := run_underlying (TyInt.und (P := P) (t := t)) w
    simp [execOp, hx, convert, e1, e2, Conv.intToInt]⟩
theorem yl_conv {s t : TypeId} {x : Operand} {u : Value} (r : Value) (hx : ev T x = u) (hr : ∀ w, (convert s t u).run P w = .ok r w) : Yl P h0 L T ⟨d, .convert s t x, ty, pos, aft, g⟩ r := ⟨fun w hw => by simp only [execOp, hx]; simp [hr]⟩

/-! ### Addresses, loads, stores -/
theorem yl_field {s : TypeId} {x : Operand} {i b o off : Nat} [TyField P s i off] (hx : ev T x = .pointer (some ⟨b, o, none⟩)) : Yl P h0 L T ⟨d, .fieldAddr s x i, ty, pos, aft, g⟩ (.pointer (some ⟨b, o + off, none⟩)) := ⟨fun w hw => by simp only [execOp, hx]; simp [TyField.at_ (P := P) (s := s) (i := i), Addr.add_lit]⟩
theorem yl_field_z {s : TypeId} {x : Operand} {i b off : Nat} [TyField P s i off] (hx : ev T x = .pointer (some ⟨b, 0, none⟩)) : Yl P h0 L T ⟨d, .fieldAddr s x i, ty, pos, aft, g⟩ (.pointer (some ⟨b, off, none⟩)) := by
  have := yl_field (P := P) (h0 := h0) (L := L) (d := d) (ty := ty) (pos := pos) (aft := aft) (g := g) (s := s) (i := i) hx
  rwa [Nat.zero_add] at this
theorem yl_field_0 {s : TypeId} {x : Operand} {i b o : Nat} [TyField P s i 0] (hx : ev T x = .pointer (some ⟨b, o, none⟩)) : Yl P h0 L T ⟨d, .fieldAddr s x i, ty, pos, aft, g⟩ (.pointer (some ⟨b, o, none⟩)) := yl_field (off := 0) hx
theorem yl_load_at {t : TypeId} {x : Operand} {b o : Nat} {cs : List Value} {v : Value} [TyOne P t] (hx : ev T x = .pointer (some ⟨b, o, none⟩)) [Rd h0 L b cs] (hv : cs[o]? = some v) : Yl P h0 L T ⟨d, .load t x, ty, pos, aft, g⟩ v := ⟨fun w hw => by
    obtain ⟨e, fr, hb⟩ := Rd.rd (L := L) (b := b) w hw
    simp only [execOp, hx]
    simp [Instr.loadAt, Instr.sureAddr, loadVar, TyOne.isAgg (P := P) (t := t), cell_of_blk hb hv]⟩
theorem yl_load_agg {t : TypeId} {x : Operand} {b o s : Nat} {cs : List Value} (vs : List Value) [TyAgg P t s] (hx : ev T x = .pointer (some ⟨b, o, none⟩)) [Rd h0 L b cs] (hl : vs.length = s) (hv : ∀ j v, vs[j]? = some v → cs[o + j]? = some v) : Yl P h0 L T ⟨d, .load t x, ty, pos, aft, g⟩ (.agg vs.toArray) := ⟨fun w hw => by
    obtain ⟨e, fr, hb⟩ := Rd.rd (L := L) (b := b) w hw
    simp only [execOp, hx]
    simp [Instr.loadAt, Instr.sureAddr, loadVar, TyAgg.isAgg (P := P) (t := t), TyAgg.size (P := P) (t := t), run_loadCells_blk hb hl hv]⟩
theorem yl_load {t : TypeId} {x : Operand} {b o : Nat} {cs : List Value} {v : Value} [TyOne P t] (hx : ev T x = .pointer (some ⟨b, o, none⟩)) [Rd h0 L b cs] [k : At cs o v] : Yl P h0 L T ⟨d, .load t x, ty, pos, aft, g⟩ v := yl_load_at hx k.at_

/-- A stretch of a list that is written out. -/
class Stretch (cs : List Value) (o s : Nat) (vs : outParam (List Value)) : Prop where
  len : vs.length = s
  at_ : ∀ j v, vs[j]? = some v → cs[o + j]? = some v
instance {cs : List Value} {o : Nat} : Stretch cs o 0 [] := ⟨rfl, fun j v h => by simp at h⟩
instance {c : Value} {cs : List Value} {s : Nat} {vs : List Value} [k : Stretch cs 0 s vs] : Stretch (c :: cs) 0 (s + 1) (c :: vs) := ⟨by simp [k.len], fun j v h => by
  cases j with
  | zero => simpa using h
  | succ j =>
    have e : 0 + (j + 1) = (0 + j) + 1 := by omega
    rw [e, List.getElem?_cons_succ]
    exact k.at_ j v (by simpa using h)⟩
instance {c : Value} {cs : List Value} {o s : Nat} {vs : List Value} [k : Stretch cs o s vs] : Stretch (c :: cs) (o + 1) s vs := ⟨k.len, fun j v h => by
  have e : o + 1 + j = (o + j) + 1 := by omega
  rw [e, List.getElem?_cons_succ]
  exact k.at_ j v h⟩
theorem yl_load_agg' {t : TypeId} {x : Operand} {b o s : Nat} {cs vs : List Value} [TyAgg P t s] (hx : ev T x = .pointer (some ⟨b, o, none⟩)) [Rd h0 L b cs] [k : Stretch cs o s vs] : Yl P h0 L T ⟨d, .load t x, ty, pos, aft, g⟩ (.agg vs.toArray) := yl_load_agg vs hx k.len k.at_

/-- A list with one place turned. -/
class SetAt (cs : List Value) (o : Nat) (v : Value) (cs' : outParam (List Value)) : Prop where
  lt : o < cs.length
  eq : cs.set o v = cs'
instance {c v : Value} {cs : List Value} : SetAt (c :: cs) 0 v (v :: cs) := ⟨by simp, rfl⟩
instance {c v : Value} {cs cs' : List Value} {o : Nat} [k : SetAt cs o v cs'] : SetAt (c :: cs) (o + 1) v (c :: cs') := ⟨by have := k.lt; simp; omega, by simp [k.eq]⟩

instance {v : Value} {A M M' : List Value} {o : Nat} [k : SetAt M o v M'] : SetAt (A ++ M) (A.length + o) v (A ++ M') := ⟨by have := k.lt; simp; omega, by rw [List.set_append_right _ _ (by omega)]; simp [k.eq]⟩
instance {u v : Value} {A M : List Value} : SetAt (A ++ u :: M) A.length v (A ++ v :: M) := ⟨by simp, by rw [List.set_append_right _ _ (Nat.le_refl _)]; simp⟩

theorem ow_store {t : TypeId} {x y : Operand} {b o : Nat} {cs cs' : List Value} {e : TypeId} {mk : List Value → List Blk} {v : Value} [TyOne P t] (hx : ev T x = .pointer (some ⟨b, o, none⟩)) (hy : ev T y = v) (h1 : v.oneCell' = true) [k : St L b cs e mk] [ks : SetAt cs o v cs']
    (h : OW P h0 n ops rest (putD T d undef) (mk cs') Q)
    (hg : Region.wanted ⟨d, .store t x y, ty, pos, aft, g⟩ (yl ops T) = true := by rfl) (hd : dstOk n d = true := by rfl) : OW P h0 n ops (⟨d, .store t x y, ty, pos, aft, g⟩ :: rest) T L Q :=
  ow_run_skip hg hd fun w hw => by
    have hv1 : v.cells = #[v] := by cases v <;> first | rfl | cases h1
    obtain ⟨w', hr, hs⟩ := run_storeCells_blk (P := P) hw k (o := o) (vs := [v]) (by have := ks.lt; simp; omega) (by simpa using h1)
    rw [List.length_singleton, set_of_take ks.lt, ks.eq] at hs
    refine ⟨w', _, ?_, hs, h⟩
    simp only [execOp, hx, hy]
    simp [Instr.storeAt, Instr.sureAddr, storeVar, TyOne.size (P := P) (t := t), hv1, hr]

/-- The place is owed. -/
theorem ow_store_at {t : TypeId} {x y : Operand} {b o : Nat} {cs : List Value} {e : TypeId} {mk : List Value → List Blk} {v : Value} [TyOne P t] (hx : ev T x = .pointer (some ⟨b, o, none⟩)) (hy : ev T y = v) (h1 : v.oneCell' = true) [k : St L b cs e mk] (hlt : o < cs.length)
    (h : OW P h0 n ops rest (putD T d undef) (mk (cs.set o v)) Q)
    (hg : Region.wanted ⟨d, .store t x y, ty, pos, aft, g⟩ (yl ops T) = true := by rfl) (hd : dstOk n d = true := by rfl) : OW P h0 n ops (⟨d, .store t x y, ty, pos, aft, g⟩ :: rest) T L Q :=
  have : SetAt cs o v (cs.set o v) := ⟨hlt, rfl⟩
  ow_store hx hy h1 h hg hd

/-- A store of several cells. -/
theorem ow_store_agg {t : TypeId} {x y : Operand} {b o s : Nat} {cs vs : List Value} {e : TypeId} {mk : List Value → List Blk} [TyAgg P t s] (hx : ev T x = .pointer (some ⟨b, o, none⟩)) (hy : ev T y = .agg vs.toArray) (h1 : ∀ v ∈ vs, v.oneCell' = true) [k : St L b cs e mk] (hl : vs.length = s) (hfit : o + s ≤ cs.length)
    (h : OW P h0 n ops rest (putD T d undef) (mk (cs.take o ++ vs ++ cs.drop (o + s))) Q)
    (hg : Region.wanted ⟨d, .store t x y, ty, pos, aft, g⟩ (yl ops T) = true := by rfl) (hd : dstOk n d = true := by rfl) : OW P h0 n ops (⟨d, .store t x y, ty, pos, aft, g⟩ :: rest) T L Q :=
  ow_run_skip hg hd fun w hw => by
    obtain ⟨w', hr, hs⟩ := run_storeCells_blk (P := P) hw k (o := o) (vs := vs) (by omega) h1
    rw [hl] at hs
    refine ⟨w', _, ?_, hs, h⟩
    simp only [execOp, hx, hy]
    simp [Instr.storeAt, Instr.sureAddr, storeVar, TyAgg.size (P := P) (t := t), Value.cells, hl, hr]

/-- A list with a stretch turned. -/
class PutAt (cs : List Value) (o : Nat) (vs : List Value) (cs' : outParam (List Value)) : Prop where
  fit : o + vs.length ≤ cs.length
  eq : cs.take o ++ vs ++ cs.drop (o + vs.length) = cs'
instance {cs : List Value} : PutAt cs 0 [] cs := ⟨by simp, by simp⟩
instance {c v : Value} {cs vs cs' : List Value} [k : PutAt cs 0 vs cs'] : PutAt (c :: cs) 0 (v :: vs) (v :: cs') := ⟨by have := k.fit; simp at *; omega, by have := k.eq; simp at *; exact this⟩
instance {c : Value} {cs vs cs' : List Value} {o : Nat} [k : PutAt cs o vs cs'] : PutAt (c :: cs) (o + 1) vs (c :: cs') := ⟨by have := k.fit; simp at *; omega, by
  have := k.eq
  have e : o + 1 + vs.length = (o + vs.length) + 1 := by omega
  rw [e]
  simp at *; exact this⟩
instance {A M M' vs : List Value} {o : Nat} [k : PutAt M o vs M'] : PutAt (A ++ M) (A.length + o) vs (A ++ M') := ⟨by have := k.fit; simp; omega, by
  have := k.eq
  rw [List.take_append, List.drop_append]
  have e1 : A.length + o - A.length = o := by omega
  have e2 : A.length + o + vs.length - A.length = o + vs.length := by omega
  rw [e1, e2, List.take_of_length_le (by omega), List.drop_of_length_le (by omega)]
  simp at *; exact this⟩
instance {A M M' vs : List Value} [k : PutAt M 0 vs M'] : PutAt (A ++ M) A.length vs (A ++ M') := inferInstanceAs (PutAt (A ++ M) (A.length + 0) vs (A ++ M'))
theorem ow_store_agg' {t : TypeId} {x y : Operand} {b o s : Nat} {cs vs cs' : List Value} {e : TypeId} {mk : List Value → List Blk} [TyAgg P t s] (hx : ev T x = .pointer (some ⟨b, o, none⟩)) (hy : ev T y = .agg vs.toArray) (h1 : vs.all (fun v => v.oneCell') = true) (hl : vs.length = s) [k : St L b cs e mk] [kp : PutAt cs o vs cs']
    (h : OW P h0 n ops rest (putD T d undef) (mk cs') Q)
    (hg : Region.wanted ⟨d, .store t x y, ty, pos, aft, g⟩ (yl ops T) = true := by rfl) (hd : dstOk n d = true := by rfl) : OW P h0 n ops (⟨d, .store t x y, ty, pos, aft, g⟩ :: rest) T L Q :=
  ow_store_agg hx hy (fun v hv => List.all_eq_true.1 h1 v hv) hl (by have := kp.fit; omega) (by have := kp.eq; rw [hl] at this; rw [this]; exact h) hg hd

/-- New memory. -/
theorem ow_alloc {t : TypeId} {z : Value} {zs : List Value} [k : TyZero P t z zs] (h : ∀ b, OW P h0 n ops rest (putD T d (.pointer (some ⟨b, 0, none⟩))) ((b, zs, t) :: L) Q)
    (hg : Region.wanted ⟨d, .alloc t, ty, pos, aft, g⟩ (yl ops T) = true := by rfl) (hd : dstOk n d = true := by rfl) : OW P h0 n ops (⟨d, .alloc t, ty, pos, aft, g⟩ :: rest) T L Q :=
  ow_run hg hd fun w hw => ⟨_, _, _, by
    simp only [execOp, Instr.alloc]
    simp [k.zero, newVar, newRow, k.cells]
    rfl, by have := Step.alloc hw zs t; simpa using this, h w.heap.size⟩
theorem ow_box {t : TypeId} {x : Operand} {u : Value} (us : List Value) (hx : ev T x = u) (hu : u.cells = us.toArray) (h : ∀ b, OW P h0 n ops rest (putD T d (.pointer (some ⟨b, 0, none⟩))) ((b, us, t) :: L) Q)
    (hg : Region.wanted ⟨d, .box t x, ty, pos, aft, g⟩ (yl ops T) = true := by rfl) (hd : dstOk n d = true := by rfl) : OW P h0 n ops (⟨d, .box t x, ty, pos, aft, g⟩ :: rest) T L Q :=
  ow_run hg hd fun w hw => ⟨_, _, _, by
    simp only [execOp, Instr.box, hx]
    simp [newVar, newRow, hu]
    rfl, by have := Step.alloc hw us t; simpa using this, h w.heap.size⟩
theorem ow_box_agg {t : TypeId} {x : Operand} {us : List Value} (hx : ev T x = .agg us.toArray) (h : ∀ b, OW P h0 n ops rest (putD T d (.pointer (some ⟨b, 0, none⟩))) ((b, us, t) :: L) Q)
    (hg : Region.wanted ⟨d, .box t x, ty, pos, aft, g⟩ (yl ops T) = true := by rfl) (hd : dstOk n d = true := by rfl) : OW P h0 n ops (⟨d, .box t x, ty, pos, aft, g⟩ :: rest) T L Q :=
  ow_box us hx rfl h hg hd
theorem ow_box_one {t : TypeId} {x : Operand} (u : Value) (hx : ev T x = u) (hu : u.oneCell' = true) (h : ∀ b, OW P h0 n ops rest (putD T d (.pointer (some ⟨b, 0, none⟩))) ((b, [u], t) :: L) Q)
    (hg : Region.wanted ⟨d, .box t x, ty, pos, aft, g⟩ (yl ops T) = true := by rfl) (hd : dstOk n d = true := by rfl) : OW P h0 n ops (⟨d, .box t x, ty, pos, aft, g⟩ :: rest) T L Q :=
  ow_box [u] hx (by cases u <;> first | rfl | cases hu) h hg hd

/-- A guard that is not decided. -/
theorem ow_gcase_dec {o : Oper} {rest : List Oper} {j : Nat} {wa : Bool} {dj : Tmp} {p : Prop} [Decidable p] (hg : o.guard = some (j, wa)) (hj : (ops[j]?).bind (·.dst) = some dj) (hb : T dj = .bool (decide p))
    (ht : p → OW P h0 n ops (o :: rest) (upd T dj (.bool true)) L Q) (hf : ¬p → OW P h0 n ops (o :: rest) (upd T dj (.bool false)) L Q) : OW P h0 n ops (o :: rest) T L Q :=
  ow_case dj hb (fun h => ht (of_decide_eq_true h)) (fun h => hf (of_decide_eq_false h))
theorem ow_gcase_beq {o : Oper} {rest : List Oper} {j : Nat} {wa : Bool} {dj : Tmp} {p q : Int} (hg : o.guard = some (j, wa)) (hj : (ops[j]?).bind (·.dst) = some dj) (hb : T dj = .bool (p == q))
    (ht : p = q → OW P h0 n ops (o :: rest) (upd T dj (.bool true)) L Q) (hf : p ≠ q → OW P h0 n ops (o :: rest) (upd T dj (.bool false)) L Q) : OW P h0 n ops (o :: rest) T L Q :=
  ow_case dj hb (fun h => ht (by simpa using h)) (fun h => hf (by simpa using h))
theorem ow_gcase_bne {o : Oper} {rest : List Oper} {j : Nat} {wa : Bool} {dj : Tmp} {p q : Int} (hg : o.guard = some (j, wa)) (hj : (ops[j]?).bind (·.dst) = some dj) (hb : T dj = .bool (p != q))
    (ht : p ≠ q → OW P h0 n ops (o :: rest) (upd T dj (.bool true)) L Q) (hf : p = q → OW P h0 n ops (o :: rest) (upd T dj (.bool false)) L Q) : OW P h0 n ops (o :: rest) T L Q :=
  ow_case dj hb (fun h => ht (by simpa using h)) (fun h => hf (by simpa using h))
end rules
end Go.Hl
