/-
  How programs lie in memory: slices that are read.
-/
import Derived.Test.YtnijpdehchdinaaHlDraw
import Derived.Test.YtnijpdehchdinaaPm
set_option linter.unusedVariables false
set_option linter.unusedSimpArgs false
namespace Go.Hl

structure SlRd (h0 : Array Obj) (L : List Blk) (s : Nat) (p : Option Addr) (m c : Nat) (xs : List Value) : Prop where
  len : xs.length = m * s
  cap : m ≤ c
  cap63 : c ≤ 9223372036854775807
  rd : 0 < m → ∃ b o cs, p = some ⟨b, o, none⟩ ∧ Rd h0 L b cs ∧ ∀ j u, xs[j]? = some u → cs[o + j]? = some u

theorem SlRd.mono {h0 : Array Obj} {L L' : List Blk} {s : Nat} {p : Option Addr} {m c : Nat} {xs : List Value} (h : SlRd h0 L s p m c xs) (hm : ∀ b cs, Rd h0 L b cs → Rd h0 L' b cs) : SlRd h0 L' s p m c xs :=
  ⟨h.len, h.cap, h.cap63, fun hp => let ⟨b, o, cs, h1, h2, h3⟩ := h.rd hp; ⟨b, o, cs, h1, hm b cs h2, h3⟩⟩

theorem Vec.slRd {s : Nat} {e : TypeId} {p : Option Addr} {m c : Nat} {xs : List Value} {B : List Blk} (h : Vec s e p m c xs B) {h0 : Array Obj} {L : List Blk} (hB : ∀ q ∈ B, q ∈ L) : SlRd h0 L s p m c xs := by
  obtain ⟨h1, h2, h3⟩ := h.len
  refine ⟨h1, h2, h3, fun hp => ?_⟩
  cases h with
  | nil => omega
  | row b m c xs junk hl hj hmc hc =>
    refine ⟨b, 0, xs ++ junk, rfl, rd_mem (hB _ (List.mem_cons_self ..)), fun j u hu => ?_⟩
    rw [Nat.zero_add, List.getElem?_append_left (by have := List.getElem?_eq_some_iff.1 hu; exact this.1)]
    exact hu

def instrCells (l : List Pm.Instr) : List Value := l.flatMap fun i => [.int .i64 i.op, .int .i64 i.a, .int .i64 i.b]
/-- A function as it lies: its numbers, its code's slice. -/
structure FRow where
  f : Pm.Func
  ca : Option Addr
  cm : Nat
  cc : Nat
def FRow.cells (r : FRow) : List Value := [.int .i64 r.f.params, .int .i64 r.f.locals, .int .i64 r.f.refs, .slice r.ca r.cm r.cc]

structure ProgRd (h0 : Array Obj) (L : List Blk) (pa : Option Addr) (pm pc : Nat) (p : Pm.Prog) : Prop where
  ex : ∃ rows : List FRow, rows.map (·.f) = p ∧ SlRd h0 L 4 pa pm pc (rows.flatMap FRow.cells) ∧ ∀ r ∈ rows, SlRd h0 L 3 r.ca r.cm r.cc (instrCells r.f.code)

theorem ProgRd.mono {h0 : Array Obj} {L L' : List Blk} {pa : Option Addr} {pm pc : Nat} {p : Pm.Prog} (h : ProgRd h0 L pa pm pc p) (hm : ∀ b cs, Rd h0 L b cs → Rd h0 L' b cs) : ProgRd h0 L' pa pm pc p :=
  let ⟨rows, h1, h2, h3⟩ := h.ex
  ⟨rows, h1, h2.mono hm, fun r hr => (h3 r hr).mono hm⟩

theorem flatMap_at {α : Type} {s : Nat} (f : α → List Value) (hf : ∀ x, (f x).length = s) : ∀ (l : List α) (k j : Nat) (x : α) (v : Value), l[k]? = some x → (f x)[j]? = some v → (l.flatMap f)[k * s + j]? = some v
  | [], k, j, x, v, h, _ => by simp at h
  | y :: l, 0, j, x, v, h, hv => by
    simp only [List.getElem?_cons_zero, Option.some.injEq] at h
    subst h
    have hj := (List.getElem?_eq_some_iff.1 hv).1
    rw [List.flatMap_cons, Nat.zero_mul, Nat.zero_add, List.getElem?_append_left hj]
    exact hv
  | y :: l, k + 1, j, x, v, h, hv => by
    rw [List.flatMap_cons, List.getElem?_append_right (by rw [hf, Nat.add_mul]; omega)]
    have e : (k + 1) * s + j - (f y).length = k * s + j := by rw [hf, Nat.add_mul]; omega
    rw [e]
    exact flatMap_at f hf l k j x v (by simpa using h) hv
theorem flatMap_len {α : Type} {s : Nat} (f : α → List Value) (hf : ∀ x, (f x).length = s) (l : List α) : (l.flatMap f).length = l.length * s := by
  induction l with
  | nil => simp
  | cons x l ih => simp [List.flatMap_cons, hf, ih, Nat.add_mul, Nat.add_comm]
theorem length_instrCells (l : List Pm.Instr) : (instrCells l).length = l.length * 3 := flatMap_len (s := 3) _ (fun _ => rfl) l
theorem length_fcells (l : List FRow) : (l.flatMap FRow.cells).length = l.length * 4 := flatMap_len (s := 4) _ (fun _ => rfl) l

/-- The length. -/
theorem ProgRd.len {h0 : Array Obj} {L : List Blk} {pa : Option Addr} {pm pc : Nat} {p : Pm.Prog} (h : ProgRd h0 L pa pm pc p) : p.length = pm ∧ pm ≤ pc ∧ pc ≤ 9223372036854775807 := by
  obtain ⟨rows, rfl, h2, _⟩ := h.ex
  have := h2.len
  rw [length_fcells] at this
  exact ⟨by simp; omega, h2.cap, h2.cap63⟩

/-- Function number k. -/
theorem ProgRd.func {h0 : Array Obj} {L : List Blk} {pa : Option Addr} {pm pc : Nat} {p : Pm.Prog} (h : ProgRd h0 L pa pm pc p) (k : Nat) (hk : k < pm) :
    ∃ b o cs f ca cm cc, pa = some ⟨b, o, none⟩ ∧ Rd h0 L b cs ∧ p[k]? = some f ∧ f ∈ p ∧ SlRd h0 L 3 ca cm cc (instrCells f.code) ∧ f.code.length = cm ∧
      At cs (o + k * 4) (.int .i64 f.params) ∧ At cs (o + k * 4 + 1) (.int .i64 f.locals) ∧ At cs (o + k * 4 + 2) (.int .i64 f.refs) ∧ At cs (o + k * 4 + 3) (.slice ca cm cc) ∧
      Stretch cs (o + k * 4) 4 [.int .i64 f.params, .int .i64 f.locals, .int .i64 f.refs, .slice ca cm cc] := by
  obtain ⟨rows, rfl, h2, h3⟩ := h.ex
  have hlen := h2.len
  rw [length_fcells] at hlen
  have hkr : k < rows.length := by omega
  obtain ⟨b, o, cs, rfl, hrd, hat⟩ := h2.rd (by omega)
  have hr : rows[k]? = some rows[k] := List.getElem?_eq_getElem hkr
  have hmem : rows[k] ∈ rows := List.getElem_mem hkr
  have hs := h3 _ hmem
  have hcl := hs.len
  rw [length_instrCells] at hcl
  have key : ∀ j v, rows[k].cells[j]? = some v → cs[o + k * 4 + j]? = some v := fun j v hv => by
    have := hat _ _ (flatMap_at (s := 4) FRow.cells (fun _ => rfl) rows k j _ v hr hv)
    rw [← this]; congr 1; omega
  refine ⟨b, o, cs, rows[k].f, rows[k].ca, rows[k].cm, rows[k].cc, rfl, hrd, by simp [hr], List.mem_map.2 ⟨_, hmem, rfl⟩, hs, by omega, ⟨key 0 _ rfl⟩, ⟨key 1 _ rfl⟩, ⟨key 2 _ rfl⟩, ⟨key 3 _ rfl⟩, ⟨rfl, fun j v hv => key j v hv⟩⟩

/-- Instruction number k. -/
theorem SlRd.instr {h0 : Array Obj} {L : List Blk} {ca : Option Addr} {cm cc : Nat} {code : List Pm.Instr} (h : SlRd h0 L 3 ca cm cc (instrCells code)) (k : Nat) (hk : k < cm) :
    ∃ b o cs i, ca = some ⟨b, o, none⟩ ∧ Rd h0 L b cs ∧ code[k]? = some i ∧ i ∈ code ∧ At cs (o + k * 3) (.int .i64 i.op) ∧ At cs (o + k * 3 + 1) (.int .i64 i.a) ∧ At cs (o + k * 3 + 2) (.int .i64 i.b) ∧
      Stretch cs (o + k * 3) 3 [.int .i64 i.op, .int .i64 i.a, .int .i64 i.b] := by
  have hlen := h.len
  rw [length_instrCells] at hlen
  have hkr : k < code.length := by omega
  obtain ⟨b, o, cs, rfl, hrd, hat⟩ := h.rd (by omega)
  have hr : code[k]? = some code[k] := List.getElem?_eq_getElem hkr
  have key : ∀ j v, ([.int .i64 code[k].op, .int .i64 code[k].a, .int .i64 code[k].b] : List Value)[j]? = some v → cs[o + k * 3 + j]? = some v := fun j v hv => by
    have := hat _ _ (flatMap_at (s := 3) (fun i : Pm.Instr => [.int .i64 i.op, .int .i64 i.a, .int .i64 i.b]) (fun _ => rfl) code k j _ v hr hv)
    rw [← this]; congr 1; omega
  exact ⟨b, o, cs, code[k], rfl, hrd, hr, List.getElem_mem hkr, ⟨key 0 _ rfl⟩, ⟨key 1 _ rfl⟩, ⟨key 2 _ rfl⟩, ⟨rfl, fun j v hv => key j v hv⟩⟩

/-- A list of numbers of one kind. -/
def ints (k : IntKind) (l : List Int) : List Value := l.map (.int k)
theorem length_ints (k : IntKind) (l : List Int) : (ints k l).length = l.length := by simp [ints]
theorem SlRd.int {h0 : Array Obj} {L : List Blk} {ca : Option Addr} {cm cc : Nat} {k : IntKind} {l : List Int} (h : SlRd h0 L 1 ca cm cc (ints k l)) (i : Nat) (hi : i < cm) :
    ∃ b o cs, ca = some ⟨b, o, none⟩ ∧ Rd h0 L b cs ∧ At cs (o + i * 1) (.int k (l.getD i 0)) := by
  have hlen := h.len
  rw [length_ints] at hlen
  obtain ⟨b, o, cs, rfl, hrd, hat⟩ := h.rd (by omega)
  have hk : i < l.length := by omega
  refine ⟨b, o, cs, rfl, hrd, ⟨?_⟩⟩
  rw [Nat.mul_one]
  exact hat i _ (by simp [ints, List.getElem?_eq_getElem hk, List.getD_eq_getElem?_getD])
end Go.Hl
