/-
  The machine by lists, plainly; and how it lies in memory.
-/
import Derived.Test.YtnijpdehchdinaaHlW
import Derived.Test.YtnijpdehchdinaaFl
set_option linter.unusedVariables false
set_option linter.unusedSimpArgs false
namespace Go.Am
open Go.Pm

structure Dfr where
  f : Int
  args : List Int
structure Frm where
  f : Int
  pc : Int
  mode : Int
  deferred : Bool
  value : Int
  defers : List Dfr
  locals : List Int
  ops : List Int
/-- frames, defers: the top one first. -/
structure Mach where
  first : Int
  begun : Bool
  ended : Bool
  parked : Bool
  refs : Int
  frames : List Frm
  trace : List (Int × Int)

def new (f : Int) : Mach := ⟨f, false, false, false, 0, [], []⟩
def fill (n : Nat) (l : List Int) : List Int := l.take n ++ List.replicate (n - l.length) 0
abbrev enter (p : Prog) (m : Mach) (f : Int) (args : List Int) (d : Bool) : Mach := { m with frames := ⟨f, 0, 0, d, 0, [], fill (fn p f).locals.toNat args, []⟩ :: m.frames }
abbrev mark (m : Mach) (k w : Int) : Mach := { m with trace := m.trace ++ [(k, w)] }
def instr (p : Prog) (x : Frm) : Instr := (fn p x.f).code.getD x.pc.toNat default
/-- What the next instruction pops, from the first on. -/
def taken (p : Prog) (x : Frm) : List Int := x.ops.drop (x.ops.length - (pops p (instr p x)).toNat)
def left (p : Prog) (x : Frm) : Frm := { x with pc := x.pc + 1, ops := x.ops.take (x.ops.length - (pops p (instr p x)).toNat) }
def refAt (p : Prog) (x : Frm) (k : Int) : Nat := (x.locals.length - (fn p x.f).refs + k).toNat
def push (m : Mach) (l : List Int) : Mach := match m.frames with
  | x :: fs => { m with frames := { x with ops := x.ops ++ l } :: fs }
  | [] => m
def recover (m : Mach) : Mach × List Int := match m.frames with
  | x :: y :: fs => if x.deferred = true ∧ y.mode = 2 then
      (mark { m with frames := x :: { y with mode := 1, value := Fl.int 0 } :: fs } 2 y.value, [y.value, Fl.int 1])
    else (m, [Fl.int 0, Fl.int 0])
  | _ => (m, [Fl.int 0, Fl.int 0])
/-- What an instruction does: x is the top frame behind it, l what it took. -/
def act (p : Prog) (m : Mach) (x : Frm) (fs : List Frm) (i : Instr) (l : List Int) : Mach :=
  let l0 := l.getD 0 0
  let l1 := l.getD 1 0
  let put := fun (y : Frm) => { m with frames := y :: fs }
  let pu := fun (w : Int) => put { x with ops := x.ops ++ [w] }
  if i.op = 1 then pu (Fl.int i.a)
  else if i.op = 2 then pu (Fl.odd i.a)
  else if i.op = 3 then pu (x.locals.getD i.a.toNat 0)
  else if i.op = 4 then put { x with locals := x.locals.set i.a.toNat l0 }
  else if i.op = 9 then pu (Fl.neg l0)
  else if i.op = 10 then pu (Fl.floor l0)
  else if i.op = 15 then put { x with pc := i.a }
  else if i.op = 16 then put (if Fl.tru l0 then { x with pc := i.a } else x)
  else if i.op = 17 then enter p (put x) i.a l false
  else if i.op = 18 then put { x with value := l0, mode := 1 }
  else if i.op = 20 then put { x with value := l0, mode := 2 }
  else if i.op = 19 then (if x.defers.length = 4 then put { x with value := Fl.odd 1, mode := 2 } else put { x with defers := ⟨i.a, l⟩ :: x.defers })
  else if i.op = 21 then (let r := recover (put x); push r.1 r.2)
  else if i.op = 22 then mark (put x) 1 l0
  else if i.op = 23 then { put { x with locals := x.locals.set (refAt p x i.a) (IntKind.u64.wrap (m.refs + 1)) } with refs := IntKind.u64.wrap (m.refs + 1) }
  else if i.op = 24 then put { x with locals := x.locals.set (refAt p x i.a) (x.locals.getD (refAt p x i.b) 0) }
  else if i.op = 25 then put { x with locals := x.locals.set (refAt p x i.a) 0 }
  else if i.op = 26 then { put x with parked := true }
  else if i.op = 27 then put x
  else pu (Fl.two i.op l0 l1)
/-- One instruction of the top frame. -/
def run (p : Prog) (m : Mach) : Mach := match m.frames with
  | [] => m
  | x :: fs => act p m (left p x) fs (instr p x) (taken p x)
/-- A top frame that goes. -/
def leave (p : Prog) (m : Mach) : Mach := match m.frames with
  | [] => m
  | x :: fs => match x.defers with
    | d :: ds => enter p { m with frames := { x with defers := ds } :: fs } d.f d.args true
    | [] =>
      let m' := { m with frames := fs }
      match fs with
      | [] => mark { m' with ended := true } (if x.mode = 2 then 4 else 3) x.value
      | y :: r => if x.mode = 2 then { m' with frames := { y with mode := 2, value := x.value } :: r }
        else if x.deferred then m' else { m' with frames := { y with ops := y.ops ++ [x.value] } :: r }
/-- One act: the code, the machine behind it. -/
def step (p : Prog) (m : Mach) : Int × Mach :=
  if m.ended then (7, m) else if m.parked then (8, m)
  else if ¬ m.begun then (0, enter p { m with begun := true } m.first [] false)
  else match m.frames with
    | x :: _ => if x.mode = 0 then (0, run p m) else (0, leave p m)
    | [] => (0, m)
end Go.Am
namespace Go.Hl
open Go.Am

def markCells (l : List (Int × Int)) : List Value := l.flatMap fun m => [.int .i64 m.1, .int .u64 m.2]
theorem length_markCells (xs : List (Int × Int)) : (markCells xs).length = xs.length * 2 := flatMap_len (s := 2) _ (fun _ => rfl) xs

inductive DfRep : List Dfr → List Value → List Blk → Prop
  | nil : DfRep [] [] []
  | cons {d : Dfr} {ds : List Dfr} {cs : List Value} {B AB : List Blk} {aa : Option Addr} {am ac : Nat} (h : DfRep ds cs B) (ha : Vec 1 28 aa am ac (ints .u64 d.args) AB) : DfRep (d :: ds) (cs ++ [.int .i64 d.f, .slice aa am ac]) (AB ++ B)
/-- One frame: its cells, its blocks. -/
inductive FrRow : Frm → List Value → List Blk → Prop
  | mk {x : Frm} {da la oa : Option Addr} {dm dc lm lc om oc : Nat} {dcs : List Value} {DB AB LB OB : List Blk} (hd : Vec 2 85 da dm dc dcs DB) (ha : DfRep x.defers dcs AB) (hl : Vec 1 28 la lm lc (ints .u64 x.locals) LB)
    (ho : Vec 1 28 oa om oc (ints .u64 x.ops) OB) :
    FrRow x [.int .i64 x.f, .int .i64 x.pc, .int .i64 x.mode, .bool x.deferred, .int .u64 x.value, .slice da dm dc, .slice la lm lc, .slice oa om oc] (OB ++ (LB ++ (DB ++ AB)))
inductive FrRep : List Frm → List Value → List Blk → Prop
  | nil : FrRep [] [] []
  | cons {x : Frm} {fs : List Frm} {cs r : List Value} {B RB : List Blk} (h : FrRep fs cs B) (hx : FrRow x r RB) : FrRep (x :: fs) (cs ++ r) (RB ++ B)
theorem DfRep.len {ds : List Dfr} {cs : List Value} {B : List Blk} (h : DfRep ds cs B) : cs.length = ds.length * 2 := by
  induction h with
  | nil => rfl
  | cons h ha ih => simp [ih]; omega
theorem FrRow.len {x : Frm} {cs : List Value} {B : List Blk} (h : FrRow x cs B) : cs.length = 8 := by cases h; rfl
theorem FrRep.len {fs : List Frm} {cs : List Value} {B : List Blk} (h : FrRep fs cs B) : cs.length = fs.length * 8 := by
  induction h with
  | nil => rfl
  | cons h hx ih => simp [ih, hx.len]; omega

/-- The machine's own cells. -/
abbrev mCells (pa : Option Addr) (pm pc : Nat) (m : Mach) (fa : Option Addr) (fm fc : Nat) (ta : Option Addr) (tm tc : Nat) : List Value :=
  [.slice pa pm pc, .int .i64 m.first, .bool m.begun, .bool m.ended, .bool m.parked, .int .u64 m.refs, .slice fa fm fc, .slice ta tm tc]
/-- The machine in memory: its block, the frames' block, the frames' own blocks, the trace's. -/
structure MRep (mb : Nat) (pa : Option Addr) (pm pc : Nat) (m : Mach) (L : List Blk) : Prop where
  ex : ∃ fa fm fc ta tm tc cells FB RB TB, Vec 8 66 fa fm fc cells FB ∧ FrRep m.frames cells RB ∧ Vec 2 31 ta tm tc (markCells m.trace) TB ∧
    L = (mb, mCells pa pm pc m fa fm fc ta tm tc, 76) :: (FB ++ (TB ++ RB))
end Go.Hl
