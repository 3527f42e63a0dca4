/-
  More operations over the logic of XHl: indexes, slices, what is built, made, appended, copied; calls. No program in sight.
-/
import Derived.Test.YtnijpdehchdinaaHlOps
import Derived.Maps.AppendAt
import Derived.Laws.CopyRow
import Derived.Deep.OwnRows
import Derived.WalkKit
set_option linter.unusedVariables false
set_option linter.unusedSimpArgs false
set_option linter.unusedSectionVars false
namespace Go.Hl

theorem tyField_of {P : Program} {s i ft sz off : Nat} {fs : Array Field} {f : Field} (hu : P.underlying s = some (.struct fs)) (hf : fs[i]? = some f) (hs : ∀ w, (sizeOf ft).run P w = .ok sz w) (ht : f.type = ft) (ho : f.offset = off) (hz : 0 < sz) : TyField P s i off := ⟨fun a w => by
  subst ht; subst ho
  have e1 := run_underlying hu w
  have hne : sz ≠ 0 := by omega
  simp [Instr.fieldAt, e1, hf, Instr.sureAddr, fieldPlace, hs, hne]⟩

/-- A part of a struct by value. -/
class TyPart (P : Program) (t : TypeId) (i : Nat) (ft off s : outParam Nat) : Prop where
  at_ : ∀ (cs : Array Value) w, (Instr.field t (.agg cs) i).run P w = (part ft cs off).run P w
  size : ∀ w, (sizeOf ft).run P w = .ok s w
theorem tyPart_of {P : Program} {t i ft off sz : Nat} {fs : Array Field} {f : Field} (hu : P.underlying t = some (.struct fs)) (hf : fs[i]? = some f) (ht : f.type = ft) (ho : f.offset = off) (hs : ∀ w, (sizeOf ft).run P w = .ok sz w) : TyPart P t i ft off sz := ⟨fun cs w => by
  subst ht; subst ho
  have e1 := run_underlying hu w
  simp [Instr.field, e1, hf, asAgg], hs⟩

/-- A slice and the block that it owns: whole rows from the block's head on, some spare cells behind. -/
inductive Vec (s : Nat) (e : TypeId) : Option Addr → Nat → Nat → List Value → List Blk → Prop
  | nil : Vec s e none 0 0 [] []
  | row (b m c : Nat) (xs junk : List Value) (hl : xs.length = m * s) (hj : (xs ++ junk).length = c * s) (hmc : m ≤ c) (hc : c ≤ maxLen) : Vec s e (some ⟨b, 0, none⟩) m c xs [(b, xs ++ junk, e)]

theorem Vec.len {s : Nat} {e : TypeId} {p : Option Addr} {m c : Nat} {xs : List Value} {B : List Blk} (h : Vec s e p m c xs B) : xs.length = m * s ∧ m ≤ c ∧ c ≤ 9223372036854775807 := by
  cases h with
  | nil => simp
  | row b m c xs junk hl hj hmc hc => exact ⟨hl, hmc, by simpa [maxLen] using hc⟩

theorem Vec.owns {s : Nat} {e : TypeId} {p : Option Addr} {m c : Nat} {xs : List Value} {B : List Blk} (h : Vec s e p m c xs B) {h0 : Array Obj} {w : World} (hw : Has h0 B w) : w.ownsRow 0 e s (.slice p m c) m xs ∧ xs.length = m * s := by
  cases h with
  | nil => exact ⟨⟨by simp, .inl ⟨rfl, rfl⟩⟩, by simp⟩
  | row b m c xs junk hl hj hmc hc =>
    refine ⟨⟨hl, .inr ⟨b, c, _, rfl, Nat.zero_le _, hw.at_ _ (List.mem_cons_self ..), hmc, hc, by simpa using hj, by simp [← hl]⟩⟩, hl⟩

theorem Vec.key {s : Nat} {e : TypeId} {p : Option Addr} {m c : Nat} {xs : List Value} {B : List Blk} (h : Vec s e p m c xs B) {b : Nat} (hb : (Value.slice p m c).ownBlock = some b) : b ∈ keys B := by
  cases h with
  | nil => cases hb
  | row b' _ _ _ _ _ _ _ _ => simp only [Value.ownBlock, Option.some.injEq] at hb; simp [hb]

theorem Vec.of_owns {s : Nat} {e : TypeId} {v : Value} {n : Nat} {xs : List Value} {w : World} (h : w.ownsRow 0 e s v n xs) :
    ∃ p m c B, v = .slice p m c ∧ Vec s e p m c xs B ∧ (keys B).Nodup ∧ (∀ p ∈ B, w.heap[p.1]? = some (.cells p.2.1.toArray p.2.2 (0, 0))) ∧ (∀ b ∈ keys B, v.ownBlock = some b) := by
  obtain ⟨h1, h2⟩ := h
  rcases h2 with ⟨rfl, rfl⟩ | ⟨g, cap, cur, rfl, _, hg, hnc, hcm, hcs, htake⟩
  · have : xs = [] := List.eq_nil_of_length_eq_zero (by simpa using h1)
    subst this
    exact ⟨none, 0, 0, [], rfl, .nil, by simp, by simp, by simp⟩
  · have hx : xs ++ cur.toList.drop (n * s) = cur.toList := by rw [← htake]; exact List.take_append_drop ..
    refine ⟨_, _, _, [(g, xs ++ cur.toList.drop (n * s), e)], rfl, .row g n cap xs _ h1 (by rw [hx]; simpa using hcs) hnc hcm, by simp, ?_, ?_⟩
    · intro p hp
      obtain rfl := List.mem_singleton.1 hp
      simp only [hx]
      simpa using hg
    · intro b hb
      simp only [keys_cons, keys_nil, List.mem_singleton] at hb
      subst hb
      rfl

/-! ### A part of the blocks, and the rest -/
class Take (L : List Blk) (p : Blk) (M : outParam (List Blk)) : Prop where
  perm : L.Perm (p :: M)
class Split (L L0 : List Blk) (Lr : outParam (List Blk)) : Prop where
  perm : L.Perm (L0 ++ Lr)
instance (priority := high) Take.head {p : Blk} {L : List Blk} : Take (p :: L) p L := ⟨List.Perm.refl _⟩
instance Take.tail {p q : Blk} {L M : List Blk} [h : Take L p M] : Take (q :: L) p (q :: M) := ⟨(List.Perm.cons q h.perm).trans (List.Perm.swap ..)⟩
instance Take.right {p : Blk} {A L M : List Blk} [h : Take L p M] : Take (A ++ L) p (A ++ M) := ⟨(List.Perm.append_left A h.perm).trans List.perm_middle⟩
instance (priority := low) Take.left {p : Blk} {A L M : List Blk} [h : Take A p M] : Take (A ++ L) p (M ++ L) := ⟨by have := List.Perm.append_right L h.perm; simpa using this⟩
instance (priority := high) Split.nil {L : List Blk} : Split L [] L := ⟨List.Perm.refl _⟩
instance Split.cons {L M B Lr : List Blk} {p : Blk} [h : Take L p M] [k : Split M B Lr] : Split L (p :: B) Lr := ⟨h.perm.trans (List.Perm.cons p k.perm)⟩
instance Split.app {L M A B Lr : List Blk} [h : Split L A M] [k : Split M B Lr] : Split L (A ++ B) Lr := ⟨by
  have := h.perm.trans (List.Perm.append_left A k.perm)
  rw [List.append_assoc]
  exact this⟩
instance (priority := high) Split.all {L : List Blk} : Split L L [] := ⟨by rw [List.append_nil]⟩
instance (priority := high) Split.front {A L : List Blk} : Split (A ++ L) A L := ⟨List.Perm.refl _⟩
instance (priority := low) Split.skip {q : Blk} {L B Lr : List Blk} [h : Split L B Lr] : Split (q :: L) B (q :: Lr) := ⟨(List.Perm.cons q h.perm).trans List.perm_middle.symm⟩
instance (priority := low) Split.over {A L B Lr : List Blk} [h : Split L B Lr] : Split (A ++ L) B (A ++ Lr) := ⟨by
  refine (List.Perm.append_left A h.perm).trans ?_
  rw [← List.append_assoc, ← List.append_assoc]
  exact List.Perm.append_right _ List.perm_append_comm⟩
instance (priority := low) Split.into {A L B Lr : List Blk} [h : Split A B Lr] : Split (A ++ L) B (Lr ++ L) := ⟨by
  rw [← List.append_assoc]
  exact List.Perm.append_right _ h.perm⟩

section rules
variable {P : Program} {h0 : Array Obj} {n : Nat} {T : Slots} {L : List Blk} {Q : Exit → Slots → List Blk → Prop} {ops : Array Oper} {rest : List Oper} {d : Option Tmp} {ty : TypeId} {pos : String} {aft : Array Edge} {g : Option (Nat × Bool)}

theorem yl_nilCheck {x : Operand} {a : Addr} (hx : ev T x = .pointer (some a)) : Yl P h0 L T ⟨d, .nilCheck x, ty, pos, aft, g⟩ (.pointer (some a)) := ⟨fun w hw => by simp [execOp, hx]⟩
theorem yl_nilCheck_func {x : Operand} {f : FuncId} {as cs : Array Value} (hx : ev T x = .func (.func f) as cs) : Yl P h0 L T ⟨d, .nilCheck x, ty, pos, aft, g⟩ (.func (.func f) as cs) := ⟨fun w hw => by simp [execOp, hx]⟩
theorem yl_indexAddr {t e s by_ : Nat} {z : Value} {x i : Operand} {b o len cap : Nat} {k : IntKind} {p : Int} [TySlice P t e s by_ z] (hx : ev T x = .slice (some ⟨b, o, none⟩) len cap) (hi : ev T i = .int k p) (hp : 0 ≤ p ∧ p < len) : Yl P h0 L T ⟨d, .indexAddr t x i, ty, pos, aft, g⟩ (.pointer (some ⟨b, o + p.toNat * s, none⟩)) := ⟨fun w hw => by
    have e1 := run_underlying (TySlice.und (P := P) (t := t) (e := e) (s := s) (bytes := by_) (z := z)) w
    have e2 : (sizeOf e).run P w = .ok s w := by
      obtain ⟨i0, h1, h2⟩ := Option.map_eq_some_iff.1 (TySlice.info (P := P) (t := t) (e := e) (s := s) (bytes := by_) (z := z))
      simp only [Prod.mk.injEq] at h2
      simp [sizeOf, typeInfo, h1, h2.2.1]
    simp only [execOp, hx, hi]
    simp [Instr.indexAt, asIntOf, e1, e2, hp.1, hp.2, Addr.add_lit]⟩
theorem yl_indexAddr_nat {t e s by_ : Nat} {z : Value} {x i : Operand} {b o len cap : Nat} {k : IntKind} {p : Nat} [TySlice P t e s by_ z] (hx : ev T x = .slice (some ⟨b, o, none⟩) len cap) (hi : ev T i = .int k (p : Int)) (hp : p < len) : Yl P h0 L T ⟨d, .indexAddr t x i, ty, pos, aft, g⟩ (.pointer (some ⟨b, o + p * s, none⟩)) :=
  yl_indexAddr hx hi ⟨by omega, by omega⟩

theorem yl_indexAddr_arr {t len e s : Nat} {x i : Operand} {b o : Nat} {k : IntKind} {p : Int} [TyArr P t len e s] (hx : ev T x = .pointer (some ⟨b, o, none⟩)) (hi : ev T i = .int k p) (hp : 0 ≤ p ∧ p < len) : Yl P h0 L T ⟨d, .indexAddr t x i, ty, pos, aft, g⟩ (.pointer (some ⟨b, o + p.toNat * s, none⟩)) := ⟨fun w hw => by
    have e1 := run_underlying (TyArr.und (P := P) (t := t) (len := len) (e := e) (s := s)) w
    have e2 := TyArr.size (P := P) (t := t) (len := len) (e := e) (s := s) w
    simp only [execOp, hx, hi]
    simp [Instr.indexAt, asIntOf, e1, e2, hp.1, hp.2, Addr.add_lit, Instr.sureAddr]⟩
theorem yl_index_str {t : TypeId} {x i : Operand} {s : ByteArray} {k : IntKind} {p : Int} [TyStr P t] (hx : ev T x = .string s) (hi : ev T i = .int k p) (h0p : 0 ≤ p) (hp : p.toNat < s.size) : Yl P h0 L T ⟨d, .index t x i, ty, pos, aft, g⟩ (.int .u8 ((s[p.toNat]'hp).toNat : Int)) := ⟨fun w hw => by
    have e1 := run_underlying (TyStr.und (P := P) (t := t)) w
    simp only [execOp, hx, hi]
    simp [Instr.index, asIntOf, e1, h0p, hp]⟩
theorem yl_len {a : Operand} {t : TypeId} {e s by_ : Nat} {z : Value} {p : Option Addr} {m c : Nat} [TySlice P t e s by_ z] (hx : ev T a = .slice p m c) : Yl P h0 L T ⟨d, .call { callee := .builtin .len, args := #[a], argTypes := #[t] }, ty, pos, aft, g⟩ (.int .i64 m) := ⟨fun w hw => by
    have e1 := run_underlying (TySlice.und (P := P) (t := t) (e := e) (s := s) (bytes := by_) (z := z)) w
    simp [execOp, resolve, invoke, builtin, hx, Builtin.len_, e1, goInt]⟩
theorem yl_len_str {a : Operand} {t : TypeId} {s : ByteArray} [TyStr P t] (hx : ev T a = .string s) : Yl P h0 L T ⟨d, .call { callee := .builtin .len, args := #[a], argTypes := #[t] }, ty, pos, aft, g⟩ (.int .i64 s.size) := ⟨fun w hw => by
    have e1 := run_underlying (TyStr.und (P := P) (t := t)) w
    simp [execOp, resolve, invoke, builtin, hx, Builtin.len_, e1, goInt]⟩
/-- 'x[:hi]'. -/
theorem yl_slice_hi {t e s by_ : Nat} {z : Value} {x i : Operand} {a : Option Addr} {len cap : Nat} {k : IntKind} {q : Int} [TySlice P t e s by_ z] (hx : ev T x = .slice a len cap) (hi : ev T i = .int k q) (hq : 0 ≤ q ∧ q ≤ cap) : Yl P h0 L T ⟨d, .slice t x none (some i) none, ty, pos, aft, g⟩ (.slice a q.toNat cap) := ⟨fun w hw => by
    have e1 := run_underlying (TySlice.und (P := P) (t := t) (e := e) (s := s) (bytes := by_) (z := z)) w
    have e2 : (sizeOf e).run P w = .ok s w := by
      obtain ⟨i0, h1, h2⟩ := Option.map_eq_some_iff.1 (TySlice.info (P := P) (t := t) (e := e) (s := s) (bytes := by_) (z := z))
      simp only [Prod.mk.injEq] at h2
      simp [sizeOf, typeInfo, h1, h2.2.1]
    simp only [execOp, hx]
    simp only [Option.map, hi]
    simp [Instr.sliceAt, Instr.slice, Instr.sliceBounds, Instr.sliceBound, asIntOf, e1, e2, hq.1, hq.2]
    cases a <;> simp [Addr.add]⟩
/-- 'x[lo:]': the address counts only where something is left. -/
theorem ow_slice_lo {t e s by_ : Nat} {z : Value} {x i : Operand} {b o : Nat} {len cap : Nat} {k : IntKind} {p : Int} [TySlice P t e s by_ z] (hx : ev T x = .slice (some ⟨b, o, none⟩) len cap) (hi : ev T i = .int k p) (hp : 0 ≤ p ∧ p ≤ len) (hlc : len ≤ cap)
    (h : ∀ o', (p.toNat < cap → o' = o + p.toNat * s) → OW P h0 n ops rest (putD T d (.slice (some ⟨b, o', none⟩) (len - p.toNat) (cap - p.toNat))) L Q)
    (hg : Region.wanted ⟨d, .slice t x (some i) none none, ty, pos, aft, g⟩ (yl ops T) = true := by rfl) (hd : dstOk n d = true := by rfl) : OW P h0 n ops (⟨d, .slice t x (some i) none none, ty, pos, aft, g⟩ :: rest) T L Q :=
  ow_pure (v := .slice (some ⟨b, if cap = p.toNat then o else o + p.toNat * s, none⟩) (len - p.toNat) (cap - p.toNat)) (fun w => by
    have e1 := run_underlying (TySlice.und (P := P) (t := t) (e := e) (s := s) (bytes := by_) (z := z)) w
    have e2 : (sizeOf e).run P w = .ok s w := by
      obtain ⟨i0, h1, h2⟩ := Option.map_eq_some_iff.1 (TySlice.info (P := P) (t := t) (e := e) (s := s) (bytes := by_) (z := z))
      simp only [Prod.mk.injEq] at h2
      simp [sizeOf, typeInfo, h1, h2.2.1]
    simp only [execOp, hx]
    simp only [Option.map, hi]
    simp [Instr.sliceAt, Instr.slice, Instr.sliceBounds, Instr.sliceBound, asIntOf, e1, e2, hp.1, hp.2, Addr.add_lit]
    split <;> simp_all) hg hd (h _ (fun hlt => by rw [if_neg (by omega)]))

/-- 'x[lo:hi]'. -/
theorem ow_slice_lohi {t e s by_ : Nat} {z : Value} {x i j : Operand} {b o : Nat} {len cap : Nat} {k k' : IntKind} {p q : Int} [TySlice P t e s by_ z] (hx : ev T x = .slice (some ⟨b, o, none⟩) len cap) (hi : ev T i = .int k p) (hj : ev T j = .int k' q) (hp : 0 ≤ p ∧ p ≤ q) (hq : q ≤ cap)
    (h : ∀ o', (p.toNat < cap → o' = o + p.toNat * s) → OW P h0 n ops rest (putD T d (.slice (some ⟨b, o', none⟩) (q.toNat - p.toNat) (cap - p.toNat))) L Q)
    (hg : Region.wanted ⟨d, .slice t x (some i) (some j) none, ty, pos, aft, g⟩ (yl ops T) = true := by rfl) (hd : dstOk n d = true := by rfl) : OW P h0 n ops (⟨d, .slice t x (some i) (some j) none, ty, pos, aft, g⟩ :: rest) T L Q :=
  ow_pure (v := .slice (some ⟨b, if cap = p.toNat then o else o + p.toNat * s, none⟩) (q.toNat - p.toNat) (cap - p.toNat)) (fun w => by
    have e1 := run_underlying (TySlice.und (P := P) (t := t) (e := e) (s := s) (bytes := by_) (z := z)) w
    have e2 : (sizeOf e).run P w = .ok s w := by
      obtain ⟨i0, h1, h2⟩ := Option.map_eq_some_iff.1 (TySlice.info (P := P) (t := t) (e := e) (s := s) (bytes := by_) (z := z))
      simp only [Prod.mk.injEq] at h2
      simp [sizeOf, typeInfo, h1, h2.2.1]
    have hq0 : 0 ≤ q := by omega
    have hpq : p ≤ max q 0 := by omega
    simp only [execOp, hx]
    simp only [Option.map, hi, hj]
    simp [Instr.sliceAt, Instr.slice, Instr.sliceBounds, Instr.sliceBound, asIntOf, e1, e2, hp.1, hp.2, hq, hq0, hpq, Addr.add_lit]
    split <;> simp_all) hg hd (h _ (fun hlt => by rw [if_neg (by omega)]))

/-- The parts of a tuple, of a struct by value. -/
theorem yl_extract {x : Operand} {i : Nat} {vs : Array Value} {v : Value} (hx : ev T x = .tuple vs) (hv : vs[i]? = some v) : Yl P h0 L T ⟨d, .extract x i, ty, pos, aft, g⟩ v := ⟨fun w hw => by simp [execOp, hx, Instr.extract, hv]⟩
theorem yl_part {t : TypeId} {x : Operand} {i ft off : Nat} {cs : List Value} {v : Value} [TyPart P t i ft off 1] [TyOne P ft] (hx : ev T x = .agg cs.toArray) (hv : cs[off]? = some v) : Yl P h0 L T ⟨d, .field t x i, ty, pos, aft, g⟩ v := ⟨fun w hw => by
    have e1 := TyPart.at_ (P := P) (t := t) (i := i) (ft := ft) (off := off) (s := 1) cs.toArray w
    simp only [execOp, hx]
    simp [e1, part, TyOne.isAgg (P := P) (t := ft), hv]⟩
/-- What is built: the value is owed. -/
theorem yl_build {t : TypeId} {parts : Array (Nat × Operand)} (vals : List (Nat × Value)) (r : Value) (hv : (parts.toList.map fun p => (p.1, ev T p.2)) = vals) (hr : ∀ w, (Instr.build t vals.toArray).run P w = .ok r w) : Yl P h0 L T ⟨d, .build t parts, ty, pos, aft, g⟩ r := ⟨fun w hw => by
    have e : (parts.map fun (i, x) => (i, ev T x)) = vals.toArray := by rw [← hv]; apply Array.ext'; simp
    simp only [execOp, e]; simp [hr]⟩
theorem fill_rows (s : Nat) : ∀ (vals : List Value) (k : Nat) (pre post : List Value), (∀ v ∈ vals, v.cells.size = s) → pre.length = k * s → post.length = vals.length * s →
    Instr.fill (fun i => some (i * s, s)) (pre ++ post).toArray (vals.zipIdx k |>.map fun (v, i) => (i, v)) = some (pre ++ vals.flatMap fun v => v.cells.toList).toArray
  | [], k, pre, post, _, _, hp => by
    have : post = [] := List.eq_nil_of_length_eq_zero (by simpa using hp)
    simp [Instr.fill, this]
  | v :: vals, k, pre, post, hv, hk, hp => by
    have hs : v.cells.size = s := hv v (List.mem_cons_self ..)
    simp only [List.length_cons, Nat.add_mul, Nat.one_mul] at hp
    simp only [List.zipIdx_cons, List.map_cons, Instr.fill]
    have hle : k * s + v.cells.size ≤ (pre ++ post).toArray.size := by simp; omega
    rw [if_neg (by simp only [hs]; simp; omega)]
    have hset : (v.cells.zipIdx.foldl (fun cs (c, j) => cs.setIfInBounds (k * s + j) c) (pre ++ post).toArray) = ((pre ++ v.cells.toList) ++ post.drop s).toArray := by
      rw [← Array.foldl_toList, Array.toList_zipIdx]
      have key : ∀ (l : List Value) (j : Nat) (A B C : List Value), A.length = k * s + j → B.length = l.length → (l.zipIdx j).foldl (fun (cs : Array Value) (c, j) => cs.setIfInBounds (k * s + j) c) (A ++ B ++ C).toArray = (A ++ l ++ C).toArray := by
        intro l
        induction l with
        | nil => intro j A B C hA hB; have : B = [] := List.eq_nil_of_length_eq_zero (by simpa using hB); simp [this]
        | cons x l ih =>
          intro j A B C hA hB
          cases B with
          | nil => simp at hB
          | cons y B =>
            simp only [List.zipIdx_cons, List.foldl_cons]
            have e : ((A ++ y :: B ++ C).toArray.setIfInBounds (k * s + j) x) = ((A ++ [x]) ++ B ++ C).toArray := by
              rw [List.setIfInBounds_toArray, ← hA]
              simp [List.set_append]
            rw [e, ih (j + 1) (A ++ [x]) B C (by simp; omega) (by simpa using hB)]
            simp
      have hpost : post = post.take s ++ post.drop s := (List.take_append_drop ..).symm
      have := key v.cells.toList 0 pre (post.take s) (post.drop s) (by simpa using hk) (by simp [hs]; omega)
      rw [List.append_assoc, ← hpost] at this
      exact this
    rw [hset, fill_rows s vals (k + 1) (pre ++ v.cells.toList) (post.drop s) (fun u hu => hv u (List.mem_cons_of_mem _ hu)) (by simp [hs, Nat.add_mul, hk]) (by simp; omega)]
    simp

/-- A slice written out: of some parts, one behind the other. -/
theorem ow_buildSlice {t e s by_ m : Nat} {z : Value} {parts : Array (Nat × Operand)} (vals : List Value) [TySlice P t e s by_ z] (hp : (parts.toList.map fun p => (p.1, ev T p.2)) = (vals.zipIdx.map fun (v, i) => (i, v))) (hm : vals.length = m) (hv : ∀ v ∈ vals, v.cells.size = s) (hsm : m * s ≤ 16777216)
    (h : ∀ b, OW P h0 n ops rest (putD T d (.slice (some ⟨b, 0, none⟩) m m)) ((b, vals.flatMap fun v => v.cells.toList, e) :: L) Q)
    (hg : Region.wanted ⟨d, .buildSlice t m parts, ty, pos, aft, g⟩ (yl ops T) = true := by rfl) (hd : dstOk n d = true := by rfl) : OW P h0 n ops (⟨d, .buildSlice t m parts, ty, pos, aft, g⟩ :: rest) T L Q :=
  ow_run hg hd fun w hw => by
    obtain ⟨i0, h1, h2⟩ := Option.map_eq_some_iff.1 (TySlice.info (P := P) (t := t) (e := e) (s := s) (bytes := by_) (z := z))
    simp only [Prod.mk.injEq] at h2
    have e1 := run_underlying (TySlice.und (P := P) (t := t) (e := e) (s := s) (bytes := by_) (z := z)) w
    have e2 : (sizeOf e).run P w = .ok s w := by simp [sizeOf, typeInfo, h1, h2.2.1]
    have e3 : (zeroValue e).run P w = .ok z w := by simp [zeroValue, typeInfo, h1, h2.1]
    refine ⟨_, _, _, ?_, by have := Step.alloc hw (vals.flatMap fun v => v.cells.toList) e; exact this, h w.heap.size⟩
    have hf : ∀ arr : Array Value, arr.size = m * s → Instr.fill (fun i => some (i * s, s)) arr (List.map (fun x => (x.fst, ev T x.snd)) parts.toList) = some (vals.flatMap fun v => v.cells.toList).toArray := by
      intro arr harr
      have hp' := hp
      have := fill_rows s vals 0 [] arr.toList hv (by simp) (by simp [hm, harr])
      rw [hp']
      simpa using this
    have hsm' : ¬ 2 ^ 24 < m * s := by omega
    by_cases hz : m * s = 0
    · simp only [execOp]
      have hz2 : m = 0 ∨ s = 0 := Nat.mul_eq_zero.1 hz
      simp [Instr.buildSlice, e1, e2, hsm', hz, hz2, newRow]
      rw [hf _ (by simp [hz])]
      simp
    · have hz2 : ¬ (m = 0 ∨ s = 0) := fun x => hz (Nat.mul_eq_zero.2 x)
      simp only [execOp]
      simp [Instr.buildSlice, e1, e2, e3, hsm', hz, hz2, newRow]
      rw [hf _ (by simp)]
      simp

theorem ow_buildSlice0 {t e s by_ : Nat} {z : Value} [TySlice P t e s by_ z] (h : ∀ b, OW P h0 n ops rest (putD T d (.slice (some ⟨b, 0, none⟩) 0 0)) ((b, [], e) :: L) Q)
    (hg : Region.wanted ⟨d, .buildSlice t 0 #[], ty, pos, aft, g⟩ (yl ops T) = true := by rfl) (hd : dstOk n d = true := by rfl) : OW P h0 n ops (⟨d, .buildSlice t 0 #[], ty, pos, aft, g⟩ :: rest) T L Q :=
  ow_buildSlice (P := P) (s := s) (by_ := by_) (z := z) [] rfl rfl (by simp) (by omega) h hg hd
theorem ow_buildSlice1 {t e s by_ : Nat} {z : Value} {x : Operand} {us : List Value} [TySlice P t e s by_ z] (hx : ev T x = .agg us.toArray) (hs : us.length = s) (hsm : s ≤ 16777216) (h : ∀ b, OW P h0 n ops rest (putD T d (.slice (some ⟨b, 0, none⟩) 1 1)) ((b, us, e) :: L) Q)
    (hg : Region.wanted ⟨d, .buildSlice t 1 #[(0, x)], ty, pos, aft, g⟩ (yl ops T) = true := by rfl) (hd : dstOk n d = true := by rfl) : OW P h0 n ops (⟨d, .buildSlice t 1 #[(0, x)], ty, pos, aft, g⟩ :: rest) T L Q :=
  ow_buildSlice (P := P) (s := s) (by_ := by_) (z := z) [.agg us.toArray] (by simp [hx]) rfl (by simp [Value.cells, hs]) (by omega) (fun b => by simpa [Value.cells] using h b) hg hd
theorem ow_buildSlice1o {t e by_ : Nat} {z : Value} {x : Operand} (u : Value) [TySlice P t e 1 by_ z] (hx : ev T x = u) (hu : u.oneCell' = true) (h : ∀ b, OW P h0 n ops rest (putD T d (.slice (some ⟨b, 0, none⟩) 1 1)) ((b, [u], e) :: L) Q)
    (hg : Region.wanted ⟨d, .buildSlice t 1 #[(0, x)], ty, pos, aft, g⟩ (yl ops T) = true := by rfl) (hd : dstOk n d = true := by rfl) : OW P h0 n ops (⟨d, .buildSlice t 1 #[(0, x)], ty, pos, aft, g⟩ :: rest) T L Q := by
  have hc : u.cells = #[u] := by cases u <;> first | rfl | cases hu
  exact ow_buildSlice (P := P) (s := 1) (by_ := by_) (z := z) [u] (by simp [hx]) rfl (by simp [hc]) (by omega) (fun b => by simpa [hc] using h b) hg hd
theorem ow_buildSlice2o {t e by_ : Nat} {z : Value} {x y : Operand} (u v : Value) [TySlice P t e 1 by_ z] (hx : ev T x = u) (hy : ev T y = v) (hu : u.oneCell' = true) (hv : v.oneCell' = true) (h : ∀ b, OW P h0 n ops rest (putD T d (.slice (some ⟨b, 0, none⟩) 2 2)) ((b, [u, v], e) :: L) Q)
    (hg : Region.wanted ⟨d, .buildSlice t 2 #[(0, x), (1, y)], ty, pos, aft, g⟩ (yl ops T) = true := by rfl) (hd : dstOk n d = true := by rfl) : OW P h0 n ops (⟨d, .buildSlice t 2 #[(0, x), (1, y)], ty, pos, aft, g⟩ :: rest) T L Q := by
  have hc : u.cells = #[u] := by cases u <;> first | rfl | cases hu
  have hc' : v.cells = #[v] := by cases v <;> first | rfl | cases hv
  exact ow_buildSlice (P := P) (s := 1) (by_ := by_) (z := z) [u, v] (by simp [hx, hy]) rfl (by simp [hc, hc']) (by omega) (fun b => by simpa [hc, hc'] using h b) hg hd

/-- 'make([]T, n)'. -/
theorem ow_makeSlice {t e s by_ : Nat} {z : Value} {x y : Operand} {k k' : IntKind} {p : Int} [TySlice P t e s by_ z] (hx : ev T x = .int k p) (hy : ev T y = .int k' p) (hp : 0 ≤ p) (hb : by_ * p.toNat ≤ 281474976710656) (h63 : p ≤ 9223372036854775807)
    (h : ∀ b, OW P h0 n ops rest (putD T d (.slice (some ⟨b, 0, none⟩) p.toNat p.toNat)) ((b, (madeCells z.cells (p.toNat * s)).toList, e) :: L) Q)
    (hg : Region.wanted ⟨d, .makeSlice t x y, ty, pos, aft, g⟩ (yl ops T) = true := by rfl) (hd : dstOk n d = true := by rfl) : OW P h0 n ops (⟨d, .makeSlice t x y, ty, pos, aft, g⟩ :: rest) T L Q :=
  ow_run hg hd fun w hw => by
    obtain ⟨i0, h1, h2⟩ := Option.map_eq_some_iff.1 (TySlice.info (P := P) (t := t) (e := e) (s := s) (bytes := by_) (z := z))
    simp only [Prod.mk.injEq] at h2
    obtain ⟨q, rfl⟩ := Int.eq_ofNat_of_zero_le hp
    have hr := run_make (P := P) w t e i0 z (TySlice.und (P := P) (t := t) (e := e) (s := s) (bytes := by_) (z := z)) h1 h2.1 k k' q q hp (Int.le_refl _) (by rw [h2.2.2]; simp only [Int.toNat_natCast] at hb; rw [← Int.natCast_mul]; omega) h63
    refine ⟨_, _, _, ?_, by have := Step.alloc hw (madeCells z.cells ((q : Int).toNat * s)).toList e; exact this, h w.heap.size⟩
    simp only [execOp, hx, hy]
    simp [hr, h2.2.1]

theorem madeCells_one (z : Value) (m : Nat) (h : z.oneCell' = true) : (madeCells z.cells m).toList = List.replicate m z := by
  have hc : z.cells = #[z] := by cases z <;> first | rfl | cases h
  rw [hc]
  apply List.ext_getElem
  · simp [madeCells]
  · intro i h1 h2
    simp [madeCells, Nat.mod_one]

theorem ow_makeSlice1 {t e by_ : Nat} {z : Value} {x y : Operand} {k k' : IntKind} {p : Int} [TySlice P t e 1 by_ z] (hx : ev T x = .int k p) (hy : ev T y = .int k' p) (hz : z.oneCell' = true) (hp : 0 ≤ p) (hb : by_ * p.toNat ≤ 281474976710656) (h63 : p ≤ 9223372036854775807)
    (h : ∀ b, OW P h0 n ops rest (putD T d (.slice (some ⟨b, 0, none⟩) p.toNat p.toNat)) ((b, List.replicate p.toNat z, e) :: L) Q)
    (hg : Region.wanted ⟨d, .makeSlice t x y, ty, pos, aft, g⟩ (yl ops T) = true := by rfl) (hd : dstOk n d = true := by rfl) : OW P h0 n ops (⟨d, .makeSlice t x y, ty, pos, aft, g⟩ :: rest) T L Q :=
  ow_makeSlice hx hy hp hb h63 (fun b => by rw [Nat.mul_one, madeCells_one z _ hz]; exact h b) hg hd

/-- 'append(v, x...)', v with a block of its own, x another slice that is read. -/
theorem ow_append {t e s by_ : Nat} {z : Value} {sx xx : Operand} {pv : Option Addr} {mv cv : Nat} {xs ys csx : List Value} {B Lr : List Blk} {bx ox k cx : Nat} [TySlice P t e s by_ z] (hs : ev T sx = .slice pv mv cv) (hV : Vec s e pv mv cv xs B) [hL : Split L B Lr]
    (hx : ev T xx = .slice (some ⟨bx, ox, none⟩) k cx) [Rd h0 L bx csx] (hl : ys.length = k * s) (hat : ∀ j u, ys[j]? = some u → csx[ox + j]? = some u) (h1 : ∀ u ∈ ys, u.oneCell' = true) (hb : (mv + k) * by_ ≤ 140737488355328)
    (hb0 : 0 < by_)
    (h : ∀ p' m' c' B', Vec s e p' m' c' (xs ++ ys) B' → OW P h0 n ops rest (putD T d (.slice p' m' c')) (B' ++ Lr) Q)
    (hg : Region.wanted ⟨d, .call { callee := .builtin .append, args := #[sx, xx], argTypes := #[t, t] }, ty, pos, aft, g⟩ (yl ops T) = true := by rfl) (hd : dstOk n d = true := by rfl) :
    OW P h0 n ops (⟨d, .call { callee := .builtin .append, args := #[sx, xx], argTypes := #[t, t] }, ty, pos, aft, g⟩ :: rest) T L Q :=
  ow_run hg hd fun w hw => by
    obtain ⟨i0, hi1, hi2⟩ := Option.map_eq_some_iff.1 (TySlice.info (P := P) (t := t) (e := e) (s := s) (bytes := by_) (z := z))
    simp only [Prod.mk.injEq] at hi2
    have hpos := TySlice.pos (P := P) (t := t) (e := e) (s := s) (bytes := by_) (z := z)
    have hw2 := hw.perm hL.perm
    obtain ⟨hown, hm⟩ := hV.owns hw2.left
    obtain ⟨ex, frx, hbx⟩ := Rd.rd (L := L) (b := bx) (cs := csx) w hw
    have hcells : ∀ j u, ys[j]? = some u → w.cell? ((⟨bx, ox, none⟩ : Addr).add j) = some u := fun j u hu => by rw [Addr.add_lit]; exact cell_of_blk hbx (hat j u hu)
    have hbb : (mv + k) * by_ ≤ 140737488355328 := hb
    have h63 : mv + k ≤ maxLen := by
      have := Nat.le_mul_of_pos_right (mv + k) hb0
      simp only [maxLen]; omega
    obtain ⟨v', w', hr, h2, h3, _, h5⟩ := run_append_own_at (P := P) w 0 t ty e i0 z s by_ (TySlice.und (P := P) (t := t) (e := e) (s := s) (bytes := by_) (z := z)) hi1 hi2.1 hi2.2.1 hi2.2.2
      (TySlice.zsize (P := P) (t := t) (e := e) (s := s) (bytes := by_) (z := z)) hpos (.slice pv mv cv) mv xs hown ⟨bx, ox, none⟩ k cx ys hl hcells h1 h63 hbb (Nat.zero_le _)
    obtain ⟨p', m', c', B', rfl, hV', hnd, hat', hob⟩ := Vec.of_owns h2
    have hkeyB : ∀ b, (Value.slice pv mv cv).ownBlock = some b → b ∈ keys B := fun b hb => hV.key hb
    refine ⟨.slice p' m' c', w', B' ++ Lr, ?_, ?_, h p' m' c' B' hV'⟩
    · simp only [execOp]
      simp [resolve, invoke, builtin, hs, hx, hr]
    · have hstep : Step h0 B B' w w' := by
        refine ⟨h3.os, h3.tape, h3.output, h3.size, fun b hb hn => h3.block b hb fun e => hn (hkeyB b e.symm), ⟨by have := hw2.low; have := h3.size; omega, fun b hb => ?_, hnd, ?_, hat'⟩, ?_⟩
        · have hlt : b < w.heap.size := Nat.lt_of_lt_of_le hb hw2.low
          rw [h3.block b hlt fun e => ?_]
          · exact hw2.base b hb
          · have := hw2.left.old b (hkeyB b e.symm)
            omega
        · intro b hb
          have hv := hob b hb
          rcases h5 with h5 | h5
          · exact hw2.left.old b (hkeyB b (h5 ▸ hv))
          · rw [h5] at hv
            simp only [Option.some.injEq] at hv
            have := hw2.low
            omega
        · intro b hb
          have hv := hob b hb
          rcases h5 with h5 | h5
          · exact .inl (hkeyB b (h5 ▸ hv))
          · rw [h5] at hv
            simp only [Option.some.injEq] at hv
            exact .inr (by omega)
      exact (hstep.frame hw2).weaken (fun b hb => ((hL.perm.map _).mem_iff).2 hb) (fun _ h => h) (hstep.frame hw2).has.nodup

/-- The source is empty. -/
theorem yl_append_none {t e s by_ : Nat} {z : Value} {sx xx : Operand} {pv : Option Addr} {mv cv : Nat} {xs : List Value} {B Lr : List Blk} [TySlice P t e s by_ z] (hs : ev T sx = .slice pv mv cv) (hV : Vec s e pv mv cv xs B) [hL : Split L B Lr] (hx : ev T xx = .slice none 0 0) : Yl P h0 L T ⟨d, .call { callee := .builtin .append, args := #[sx, xx], argTypes := #[t, t] }, ty, pos, aft, g⟩ (.slice pv mv cv) := ⟨fun w hw => by
    obtain ⟨i0, hi1, hi2⟩ := Option.map_eq_some_iff.1 (TySlice.info (P := P) (t := t) (e := e) (s := s) (bytes := by_) (z := z))
    have hw2 := hw.perm hL.perm
    obtain ⟨hown, hm⟩ := hV.owns hw2.left
    have hr := run_append_owned_none (P := P) (w := w) 0 t ty e i0 s (TySlice.und (P := P) (t := t) (e := e) (s := s) (bytes := by_) (z := z)) hi1 (.slice pv mv cv) mv xs hown
    simp only [execOp]
    simp [resolve, invoke, builtin, hs, hx, hr]⟩
/-- 'copy(dst, src)'. -/
theorem ow_copy {t u e s by_ : Nat} {z : Value} {dx sx : Operand} {b o dl dc bx ox sl sc : Nat} {cs csx ys : List Value} {eb : TypeId} {mk : List Value → List Blk} [TySlice P t e s by_ z] (hdx : ev T dx = .slice (some ⟨b, o, none⟩) dl dc) (hsx : ev T sx = .slice (some ⟨bx, ox, none⟩) sl sc) [k : St L b cs eb mk] [Rd h0 L bx csx]
    (hl : ys.length = Nat.min sl dl * s) (hat : ∀ j u, ys[j]? = some u → csx[ox + j]? = some u) (h1 : ∀ u ∈ ys, u.oneCell' = true) (hfit : o + ys.length ≤ cs.length)
    (h : OW P h0 n ops rest (putD T d (.int .i64 (Nat.min sl dl))) (mk (cs.take o ++ ys ++ cs.drop (o + ys.length))) Q)
    (hg : Region.wanted ⟨d, .call { callee := .builtin .copy, args := #[dx, sx], argTypes := #[t, u] }, ty, pos, aft, g⟩ (yl ops T) = true := by rfl) (hd : dstOk n d = true := by rfl) :
    OW P h0 n ops (⟨d, .call { callee := .builtin .copy, args := #[dx, sx], argTypes := #[t, u] }, ty, pos, aft, g⟩ :: rest) T L Q :=
  ow_run hg hd fun w hw => by
    obtain ⟨i0, hi1, hi2⟩ := Option.map_eq_some_iff.1 (TySlice.info (P := P) (t := t) (e := e) (s := s) (bytes := by_) (z := z))
    simp only [Prod.mk.injEq] at hi2
    have e1 := run_underlying (TySlice.und (P := P) (t := t) (e := e) (s := s) (bytes := by_) (z := z)) w
    have e2 : (sizeOf e).run P w = .ok s w := by simp [sizeOf, typeInfo, hi1, hi2.2.1]
    obtain ⟨ex, frx, hbx⟩ := Rd.rd (L := L) (b := bx) (cs := csx) w hw
    have hf : (Builtin.firstCells s (Nat.min sl dl) (.slice (some ⟨bx, ox, none⟩) sl sc)).run P w = .ok ys.toArray w := run_firstCells_some w s _ ⟨bx, ox, none⟩ sl sc ys hl fun j v hj => by rw [Addr.add_lit]; exact cell_of_blk hbx (hat j v hj)
    obtain ⟨w', hr, hs⟩ := run_storeCells_blk (P := P) hw k (o := o) (vs := ys) hfit h1
    refine ⟨_, w', _, ?_, hs, h⟩
    simp only [execOp]
    simp [resolve, invoke, builtin, hdx, hsx, Builtin.copy_, e1, e2, Builtin.lenOf, hf, hr, goInt]
theorem yl_copy_none {t u e s by_ : Nat} {z : Value} {dx sx : Operand} {a : Option Addr} {dl dc : Nat} [TySlice P t e s by_ z] (hdx : ev T dx = .slice a dl dc) (hsx : ev T sx = .slice none 0 0) : Yl P h0 L T ⟨d, .call { callee := .builtin .copy, args := #[dx, sx], argTypes := #[t, u] }, ty, pos, aft, g⟩ (.int .i64 0) := ⟨fun w hw => by
    obtain ⟨i0, hi1, hi2⟩ := Option.map_eq_some_iff.1 (TySlice.info (P := P) (t := t) (e := e) (s := s) (bytes := by_) (z := z))
    simp only [Prod.mk.injEq] at hi2
    have e1 := run_underlying (TySlice.und (P := P) (t := t) (e := e) (s := s) (bytes := by_) (z := z)) w
    have e2 : (sizeOf e).run P w = .ok s w := by simp [sizeOf, typeInfo, hi1, hi2.2.1]
    simp only [execOp]
    cases a <;> simp [resolve, invoke, builtin, hdx, hsx, Builtin.copy_, e1, e2, Builtin.lenOf, Builtin.firstCells, storeCells, goInt]⟩
/-- Closures. -/
theorem yl_makeFunc {fn : Go.Fn} {fs cs : Array Operand} : Yl P h0 L T ⟨d, .makeFunc fn fs cs, ty, pos, aft, g⟩ (.func fn (fs.map (ev T)) (cs.map (ev T))) := ⟨fun w hw => by simp [execOp, Instr.makeFunc]⟩
/-- A call of a function by its contract, over a part of the blocks. -/
theorem ow_call {f : FuncId} {args : Array Operand} {tys : Array TypeId} {A : List Value} {R : Value → List Blk → Prop} {L0 Lr : List Blk} [FnEnter P f] (hF : Ct P h0 f A L0 R) (hA : args.toList.map (ev T) = A) [hL : Split L L0 Lr]
    (h : ∀ v L', R v L' → OW P h0 n ops rest (putD T d v) (L' ++ Lr) Q)
    (hg : Region.wanted ⟨d, .call { callee := .value (.func f), args := args, argTypes := tys }, ty, pos, aft, g⟩ (yl ops T) = true := by rfl) (hd : dstOk n d = true := by rfl) :
    OW P h0 n ops (⟨d, .call { callee := .value (.func f), args := args, argTypes := tys }, ty, pos, aft, g⟩ :: rest) T L Q :=
  ow_call_raw (A := A) (fun w => by
    have hA' : args.map (ev T) = A.toArray := by rw [← hA]; apply Array.ext'; simp
    simp only [execOp]
    simp [resolve, invoke, ev, Deferred.ofValue, hA', FnEnter.enter (P := P) (f := f)]) (Ct.perm hL.perm hF.frame) hg hd fun v L' ⟨L1, hR, hL1⟩ => by rw [hL1]; exact h v L1 hR

/-- A call whose callee reads the blocks as they are. -/
theorem ow_call_all {f : FuncId} {args : Array Operand} {tys : Array TypeId} {A : List Value} {R : Value → List Blk → Prop} [FnEnter P f] (hF : Ct P h0 f A L R) (hA : args.toList.map (ev T) = A)
    (h : ∀ v L', R v L' → OW P h0 n ops rest (putD T d v) L' Q)
    (hg : Region.wanted ⟨d, .call { callee := .value (.func f), args := args, argTypes := tys }, ty, pos, aft, g⟩ (yl ops T) = true := by rfl) (hd : dstOk n d = true := by rfl) :
    OW P h0 n ops (⟨d, .call { callee := .value (.func f), args := args, argTypes := tys }, ty, pos, aft, g⟩ :: rest) T L Q :=
  ow_call_raw (A := A) (fun w => by
    have hA' : args.map (ev T) = A.toArray := by rw [← hA]; apply Array.ext'; simp
    simp only [execOp]
    simp [resolve, invoke, ev, Deferred.ofValue, hA', FnEnter.enter (P := P) (f := f)]) hF hg hd h

/-- A call of a function value. -/
theorem ow_call_value {f : FuncId} {x : Operand} {fs cs : Array Value} {args : Array Operand} {tys : Array TypeId} {A : List Value} {R : Value → List Blk → Prop} {L0 Lr : List Blk} [FnEnter P f] (hx : ev T x = .func (.func f) fs cs) (hF : Ct P h0 f A L0 R) (hA : fs.toList ++ args.toList.map (ev T) ++ cs.toList = A) [hL : Split L L0 Lr]
    (h : ∀ v L', R v L' → OW P h0 n ops rest (putD T d v) (L' ++ Lr) Q)
    (hg : Region.wanted ⟨d, .call { callee := .value x, args := args, argTypes := tys }, ty, pos, aft, g⟩ (yl ops T) = true := by rfl) (hd : dstOk n d = true := by rfl) :
    OW P h0 n ops (⟨d, .call { callee := .value x, args := args, argTypes := tys }, ty, pos, aft, g⟩ :: rest) T L Q :=
  ow_call_raw (A := A) (fun w => by
    have hA' : fs ++ args.map (ev T) ++ cs = A.toArray := by rw [← hA]; apply Array.ext'; simp
    simp only [execOp]
    simp [resolve, invoke, hx, Deferred.ofValue, hA', FnEnter.enter (P := P) (f := f)]) (Ct.perm hL.perm hF.frame) hg hd fun v L' ⟨L1, hR, hL1⟩ => by rw [hL1]; exact h v L1 hR
end rules

/-! ### Contracts up to blocks that are dropped -/
def Sub (R : Value → List Blk → Prop) : Value → List Blk → Prop := fun v L => ∃ L' Lr, Split L L' Lr ∧ R v L'
theorem Ct.of_sub {P : Program} {h0 : Array Obj} {f : FuncId} {args : List Value} {L : List Blk} {R : Value → List Blk → Prop} (h : Ct P h0 f args L (Sub R)) : Ct P h0 f args L R :=
  h.drop fun v L ⟨L', Lr, hs, hR⟩ hn => ⟨L', hR, by
    have := (hs.perm.map (fun p : Blk => p.1)).nodup_iff.1 hn
    rw [List.map_append] at this
    exact (List.nodup_append.1 this).1, fun p hp => hs.perm.mem_iff.2 (List.mem_append_left _ hp)⟩
theorem fn_of {P : Program} {h0 : Array Obj} {f : FuncId} {fn : Func} {c : Code} {args : List Value} {L : List Blk} {R : Value → List Blk → Prop}
    (hf : P.funcs[f]? = some fn) (hb : fn.body = some c) (hnb : Nat.ble args.length fn.ntmps = true) (h : CW P h0 fn.ntmps c (argT args) L (retQ P h0 fn (Sub R))) : Ct P h0 f args L R :=
  Ct.of_sub (fn_of_cw hf hb hnb h)
theorem sub_mk {R : Value → List Blk → Prop} {v : Value} {L L' Lr : List Blk} [h : Split L L' Lr] (hR : R v L') : Sub R v L := ⟨L', Lr, h, hR⟩

/-! ### Results -/
section
variable {P : Program} {h0 : Array Obj} {fn : Func} {R : Value → List Blk → Prop} {T : Slots} {L : List Blk}
theorem ret0 (hf : fn.results = #[]) (hR : R (.tuple #[]) L) : retQ P h0 fn R .ret T L := ⟨_, fun a w _ _ => by simp [results, hf], hR⟩
theorem end0 (hf : fn.results = #[]) (hR : R (.tuple #[]) L) : retQ P h0 fn R .normal T L := ⟨_, fun a w _ _ => by simp [results, hf], hR⟩
theorem ret1 {t : Tmp} {v : Value} (hf : fn.results = #[.tmp t]) (hv : T t = v) (hR : R v L) : retQ P h0 fn R .ret T L := ⟨_, fun a w ab _ => by simp only [results, hf]; have := ab.at_ t; simp [← hv, ← this], hR⟩
theorem ret2 {t u : Tmp} {v v' : Value} (hf : fn.results = #[.tmp t, .tmp u]) (hv : T t = v) (hv' : T u = v') (hR : R (.tuple #[v, v']) L) : retQ P h0 fn R .ret T L :=
  ⟨_, fun a w ab _ => by have h1 := ab.at_ t; have h2 := ab.at_ u; simp only [results, hf]; simp [← hv, ← hv', ← h1, ← h2], hR⟩
theorem ret3 {t u x : Tmp} {v v' v'' : Value} (hf : fn.results = #[.tmp t, .tmp u, .tmp x]) (hv : T t = v) (hv' : T u = v') (hv'' : T x = v'') (hR : R (.tuple #[v, v', v'']) L) : retQ P h0 fn R .ret T L :=
  ⟨_, fun a w ab _ => by have h1 := ab.at_ t; have h2 := ab.at_ u; have h3 := ab.at_ x; simp only [results, hf]; simp [← hv, ← hv', ← hv'', ← h1, ← h2, ← h3], hR⟩
end
end Go.Hl
