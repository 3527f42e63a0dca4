/-
  Programs and what may be said of them, plainly: no memory and no Go in it.
-/
import Derived.KernelRfl
set_option linter.unusedVariables false
set_option linter.unusedSimpArgs false
namespace Go.Pm

structure Instr where
  op : Int
  a : Int
  b : Int
structure Func where
  params : Int
  locals : Int
  refs : Int
  code : List Instr
abbrev Prog := List Func

instance : Inhabited Instr := ⟨⟨0, 0, 0⟩⟩
instance : Inhabited Func := ⟨⟨0, 0, 0, []⟩⟩

/-- Function f, where there is one. -/
def fn (p : Prog) (f : Int) : Func := p.getD f.toNat default
def params (p : Prog) (f : Int) : Int := if 0 ≤ f ∧ f < p.length then max (fn p f).params 0 else 0
def pops (p : Prog) (i : Instr) : Int :=
  if i.op = 17 ∨ i.op = 19 then params p i.a
  else if i.op = 5 ∨ i.op = 6 ∨ i.op = 7 ∨ i.op = 8 ∨ i.op = 11 ∨ i.op = 12 ∨ i.op = 13 ∨ i.op = 14 then 2
  else if i.op = 4 ∨ i.op = 9 ∨ i.op = 10 ∨ i.op = 16 ∨ i.op = 18 ∨ i.op = 20 ∨ i.op = 22 ∨ i.op = 27 then 1
  else 0
def pushes (i : Instr) : Int :=
  if i.op = 21 then 2
  else if i.op = 1 ∨ i.op = 2 ∨ i.op = 3 ∨ i.op = 17 ∨ i.op = 5 ∨ i.op = 6 ∨ i.op = 7 ∨ i.op = 8 ∨ i.op = 11 ∨ i.op = 12 ∨ i.op = 13 ∨ i.op = 14 ∨ i.op = 9 ∨ i.op = 10 then 1
  else 0
def hasDefer (c : List Instr) : Bool := c.any fun i => i.op == 19
def size (f : Func) : Int := 15 + min (max f.locals 0) 8 + (if hasDefer f.code then 16 else 0)
def within (a n : Int) : Bool := decide (0 ≤ a ∧ a < n)
def sized (f : Func) : Bool :=
  decide (0 ≤ f.params ∧ f.params ≤ 3) && decide (f.params ≤ f.locals ∧ f.locals ≤ 8) && decide (0 ≤ f.refs ∧ f.refs ≤ f.locals - f.params) && decide (1 ≤ f.code.length ∧ f.code.length ≤ 64)
def shaped (p : Prog) (f : Func) (i : Instr) : Bool :=
  if i.op = 1 then decide (-2147483648 ≤ i.a ∧ i.a ≤ 2147483648 ∧ i.b = 0)
  else if i.op = 2 then within i.a 6 && decide (i.b = 0)
  else if i.op = 3 ∨ i.op = 4 then within i.a (f.locals - f.refs) && decide (i.b = 0)
  else if i.op = 15 ∨ i.op = 16 then within i.a f.code.length && decide (i.b = 0)
  else if i.op = 17 ∨ i.op = 19 then within i.a p.length && decide (i.b = 0)
  else if i.op = 23 ∨ i.op = 25 then within i.a f.refs && decide (i.b = 0)
  else if i.op = 24 then within i.a f.refs && within i.b f.refs
  else if 5 ≤ i.op ∧ i.op ≤ 27 then decide (i.a = 0 ∧ i.b = 0)
  else false
/-- The places that follow. -/
def next (at_ : Int) (i : Instr) : List Int :=
  if i.op = 18 ∨ i.op = 20 then [] else if i.op = 15 then [i.a] else if i.op = 16 then [i.a, at_ + 1] else [at_ + 1]
def behind (p : Prog) (d : Int) (i : Instr) : Int := d - pops p i + pushes i

/-- Depths that fit, at place k. -/
def FitsAt (p : Prog) (code : List Instr) (D : List Int) (k : Nat) : Prop :=
  ∀ i d, code[k]? = some i → D[k]? = some d → 0 ≤ d → pops p i ≤ d ∧ behind p d i ≤ 8 ∧ ∀ t ∈ next k i, t < code.length ∧ D[t.toNat]? = some (behind p d i)
/-- Depths that fit a whole code. -/
structure Fits (p : Prog) (code : List Instr) (D : List Int) : Prop where
  len : D.length = code.length
  zero : D[0]? = some 0
  lo : ∀ d ∈ D, -1 ≤ d
  at_ : ∀ k, k < code.length → FitsAt p code D k

/-- A program that is let through. -/
structure Valid (p : Prog) : Prop where
  some_ : 1 ≤ p.length
  few : p.length ≤ 8
  sized : ∀ f ∈ p, sized f = true
  shaped : ∀ f ∈ p, ∀ i ∈ f.code, shaped p f i = true
  fits : ∀ f ∈ p, ∃ D, Fits p f.code D

theorem params_le {p : Prog} (h : ∀ f ∈ p, Pm.sized f = true) (f : Int) : 0 ≤ params p f ∧ params p f ≤ 3 := by
  unfold params
  split
  · rename_i hf
    have hlt : f.toNat < p.length := by omega
    have hm : fn p f ∈ p := by unfold fn; rw [List.getD_eq_getElem?_getD, List.getElem?_eq_getElem hlt]; exact List.getElem_mem hlt
    have := h _ hm
    simp [Pm.sized] at this
    omega
  · omega
theorem pops_le {p : Prog} (h : ∀ f ∈ p, Pm.sized f = true) (i : Instr) : 0 ≤ pops p i ∧ pops p i ≤ 3 := by
  have := params_le h i.a
  unfold pops
  repeat' split
  all_goals omega
theorem pushes_le (i : Instr) : 0 ≤ pushes i ∧ pushes i ≤ 2 := by
  unfold pushes
  repeat' split
  all_goals omega
end Go.Pm
