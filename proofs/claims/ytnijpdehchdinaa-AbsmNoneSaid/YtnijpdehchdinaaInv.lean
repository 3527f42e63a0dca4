/-
  What holds of the machine by lists at any time, plainly.
-/
import Derived.Test.YtnijpdehchdinaaAm
set_option linter.unusedVariables false
set_option linter.unusedSimpArgs false
namespace Go.Am
open Go.Pm

/-- Depths of each function, that fit. -/
def Fam (p : Prog) (D : Nat → List Int) : Prop := ∀ k f, p[k]? = some f → Fits p f.code (D k)
theorem Valid.fam {p : Prog} (h : Valid p) : ∃ D, Fam p D := by
  have : ∀ k : Nat, ∃ l : List Int, ∀ f : Pm.Func, p[k]? = some f → Fits p f.code l := fun k => by
    cases hk : p[k]? with
    | none => exact ⟨[], fun f h => by cases h⟩
    | some f =>
      obtain ⟨l, hl⟩ := h.fits f (List.mem_of_getElem? hk)
      exact ⟨l, fun g hg => by cases hg; exact hl⟩
  exact ⟨fun k => (this k).choose, fun k f hf => (this k).choose_spec f hf⟩

theorem fn_at {p : Prog} {f : Int} (h0 : 0 ≤ f) (h : f < p.length) : p[f.toNat]? = some (fn p f) := by
  unfold fn
  rw [List.getD_eq_getElem?_getD, List.getElem?_eq_getElem (by omega)]
  rfl
theorem fn_mem {p : Prog} {f : Int} (h0 : 0 ≤ f) (h : f < p.length) : fn p f ∈ p := List.mem_of_getElem? (fn_at h0 h)

/-- A frame that may be. -/
structure FrOk (p : Prog) (x : Frm) : Prop where
  f0 : 0 ≤ x.f
  f1 : x.f < p.length
  mode : x.mode = 0 ∨ x.mode = 1 ∨ x.mode = 2
  pc0 : 0 ≤ x.pc
  pc1 : x.pc ≤ (fn p x.f).code.length
  loc : (x.locals.length : Int) = (fn p x.f).locals
  ops : x.ops.length ≤ 8
  dfr : x.defers.length ≤ 4
  has : x.defers ≠ [] → hasDefer (fn p x.f).code = true
  args : ∀ d ∈ x.defers, 0 ≤ d.f ∧ d.f < p.length ∧ (d.args.length : Int) = (fn p d.f).params
/-- It stands at an instruction, with so many operands fewer than its place tells. -/
def Stands (p : Prog) (D : Nat → List Int) (x : Frm) (k : Int) : Prop := x.pc < (fn p x.f).code.length ∧ (D x.f.toNat)[x.pc.toNat]? = some (x.ops.length + k)
def Chain (p : Prog) (D : Nat → List Int) : List Frm → Prop
  | [] => True
  | [x] => x.deferred = false
  | x :: y :: r => (if x.deferred then y.mode ≠ 0 else y.mode = 0 ∧ Stands p D y 1 ∧ y.ops.length ≤ 7) ∧ Chain p D (y :: r)
structure Inv (p : Prog) (D : Nat → List Int) (m : Mach) : Prop where
  valid : Valid p
  fam : Fam p D
  f0 : 0 ≤ m.first
  f1 : m.first < p.length
  fp : (fn p m.first).params = 0
  fresh : m.begun = false → m.frames = [] ∧ m.trace = [] ∧ m.ended = false ∧ m.parked = false
  over : m.ended = true → m.frames = [] ∧ m.parked = false
  live : m.begun = true → m.ended = false → m.frames ≠ []
  frs : ∀ x ∈ m.frames, FrOk p x
  chain : Chain p D m.frames
  top : ∀ x fs, m.frames = x :: fs → x.mode = 0 → Stands p D x 0

theorem Inv.new {p : Prog} {D : Nat → List Int} {f : Int} (h : Valid p) (hD : Fam p D) (h0 : 0 ≤ f) (h1 : f < p.length) (h2 : (fn p f).params = 0) : Inv p D (new f) :=
  ⟨h, hD, h0, h1, h2, fun _ => ⟨rfl, rfl, rfl, rfl⟩, nofun, nofun, (fun x hx => by cases hx), trivial, nofun⟩
theorem Inv.wake {p : Prog} {D : Nat → List Int} {m : Mach} (h : Inv p D m) : Inv p D { m with parked := false } :=
  ⟨h.valid, h.fam, h.f0, h.f1, h.fp, fun hb => ⟨(h.fresh hb).1, (h.fresh hb).2.1, (h.fresh hb).2.2.1, rfl⟩, fun hb => ⟨(h.over hb).1, rfl⟩, h.live, h.frs, h.chain, h.top⟩

theorem fill_length {n : Nat} {l : List Int} : (fill n l).length = n := by simp [fill]; omega

/-- A new frame on top. -/
theorem FrOk.fresh {p : Prog} (hv : Valid p) {f : Int} (h0 : 0 ≤ f) (h1 : f < p.length) (args : List Int) (d : Bool) : FrOk p ⟨f, 0, 0, d, 0, [], fill (fn p f).locals.toNat args, []⟩ := by
  have hs := hv.sized _ (fn_mem h0 h1)
  simp [Pm.sized] at hs
  refine ⟨h0, h1, .inl rfl, by simp, ?_, ?_, by simp, by simp, by simp, by simp⟩
  · simp
  · simp [fill_length]; omega
theorem Stands.fresh {p : Prog} {D : Nat → List Int} (hv : Valid p) (hD : Fam p D) {f : Int} (h0 : 0 ≤ f) (h1 : f < p.length) (args : List Int) (d : Bool) : Stands p D ⟨f, 0, 0, d, 0, [], fill (fn p f).locals.toNat args, []⟩ 0 := by
  have hs := hv.sized _ (fn_mem h0 h1)
  simp [Pm.sized] at hs
  exact ⟨by simp; omega, by simpa using (hD _ _ (fn_at h0 h1)).zero⟩

/-- What is known of a machine whose top frame acts. -/
structure Base (p : Prog) (D : Nat → List Int) (m : Mach) : Prop where
  valid : Valid p
  fam : Fam p D
  f0 : 0 ≤ m.first
  f1 : m.first < p.length
  fp : (fn p m.first).params = 0
  begun : m.begun = true
  live : m.ended = false
theorem Inv.base {p : Prog} {D : Nat → List Int} {m : Mach} (h : Inv p D m) (hb : m.begun = true) (he : m.ended = false) : Base p D m := ⟨h.valid, h.fam, h.f0, h.f1, h.fp, hb, he⟩
theorem Inv.mk' {p : Prog} {D : Nat → List Int} {m : Mach} (h : Base p D m) (hne : m.frames ≠ []) (hf : ∀ x ∈ m.frames, FrOk p x) (hc : Chain p D m.frames) (ht : ∀ x fs, m.frames = x :: fs → x.mode = 0 → Stands p D x 0) : Inv p D m :=
  ⟨h.valid, h.fam, h.f0, h.f1, h.fp, fun e => (by rw [h.begun] at e; cases e), fun e => (by rw [h.live] at e; cases e), fun _ _ => hne, hf, hc, ht⟩
theorem Chain.tail {p : Prog} {D : Nat → List Int} {x : Frm} {fs : List Frm} (h : Chain p D (x :: fs)) : Chain p D fs := by
  cases fs with
  | nil => trivial
  | cons y r => exact h.2
/-- The top frame turned, its being deferred kept. -/
theorem Chain.put {p : Prog} {D : Nat → List Int} {x x' : Frm} {fs : List Frm} (h : Chain p D (x :: fs)) (hd : x'.deferred = x.deferred) : Chain p D (x' :: fs) := by
  cases fs with
  | nil => rw [Chain, hd]; exact h
  | cons y r => rw [Chain, hd]; exact h

theorem Inv.put {p : Prog} {D : Nat → List Int} {m : Mach} {x x' : Frm} {fs : List Frm} (h : Base p D m) (hF : ∀ y ∈ x :: fs, FrOk p y) (hC : Chain p D (x :: fs)) {m' : Mach} (hf : m'.frames = x' :: fs) (hd : x'.deferred = x.deferred) (hx : FrOk p x') (ht : x'.mode = 0 → Stands p D x' 0)
    (e1 : m'.first = m.first) (e2 : m'.begun = m.begun) (e3 : m'.ended = m.ended) : Inv p D m' := by
  refine Inv.mk' ⟨h.valid, h.fam, by rw [e1]; exact h.f0, by rw [e1]; exact h.f1, by rw [e1]; exact h.fp, by rw [e2]; exact h.begun, by rw [e3]; exact h.live⟩ (by rw [hf]; simp) ?_ (by rw [hf]; exact hC.put hd) ?_
  · rw [hf]; intro y hy
    rcases List.mem_cons.1 hy with rfl | hy
    · exact hx
    · exact hF y (List.mem_cons_of_mem _ hy)
  · intro y r e; rw [hf] at e; cases e; exact ht

/-- Facts of the instruction that the top frame stands at. -/
structure Here (p : Prog) (D : Nat → List Int) (x : Frm) : Prop where
  ok : FrOk p x
  at_ : x.pc < (fn p x.f).code.length
  shaped : Pm.shaped p (fn p x.f) (instr p x) = true
  pops0 : 0 ≤ pops p (instr p x)
  pops1 : pops p (instr p x) ≤ x.ops.length
  room : behind p x.ops.length (instr p x) ≤ 8
  goes : ∀ t ∈ Pm.next x.pc (instr p x), t < (fn p x.f).code.length ∧ (D x.f.toNat)[t.toNat]? = some (behind p x.ops.length (instr p x))
  mem : instr p x ∈ (fn p x.f).code
theorem Here.of {p : Prog} {D : Nat → List Int} (hv : Valid p) (hD : Fam p D) {x : Frm} (hx : FrOk p x) (hs : Stands p D x 0) : Here p D x := by
  obtain ⟨h1, h2⟩ := hs
  have hm := fn_mem hx.f0 hx.f1
  have hpc := hx.pc0
  have hi : (fn p x.f).code[x.pc.toNat]? = some (instr p x) := by
    unfold instr
    rw [List.getD_eq_getElem?_getD, List.getElem?_eq_getElem (by omega)]; rfl
  have hmi := List.mem_of_getElem? hi
  have hfit := (hD _ _ (fn_at hx.f0 hx.f1)).at_ x.pc.toNat (by omega) _ _ hi h2 (by omega)
  rw [Int.add_zero] at hfit
  obtain ⟨g1, g2, g3⟩ := hfit
  refine ⟨hx, h1, hv.shaped _ hm _ hmi, (pops_le hv.sized _).1, g1, g2, ?_, hmi⟩
  intro t ht
  have e : ((x.pc.toNat : Nat) : Int) = x.pc := by omega
  rw [e] at g3
  exact g3 t ht

theorem within_iff {a n : Int} (h : within a n = true) : 0 ≤ a ∧ a < n := by simpa [within] using h

theorem left_ops {p : Prog} {D : Nat → List Int} {x : Frm} (h : Here p D x) : ((left p x).ops.length : Int) = x.ops.length - pops p (instr p x) := by
  have h0 := h.pops0
  have h1 := h.pops1
  simp [left]; omega
theorem taken_length {p : Prog} {D : Nat → List Int} {x : Frm} (h : Here p D x) : ((taken p x).length : Int) = pops p (instr p x) := by
  have h0 := h.pops0
  have h1 := h.pops1
  simp [taken]; omega
/-- Behind an instruction that goes on with the next one. -/
theorem Here.on {p : Prog} {D : Nat → List Int} {x : Frm} (h : Here p D x) (hn : Pm.next x.pc (instr p x) = [x.pc + 1]) : x.pc + 1 < (fn p x.f).code.length ∧ (D x.f.toNat)[(x.pc + 1).toNat]? = some (x.ops.length - pops p (instr p x) + pushes (instr p x)) :=
  h.goes (x.pc + 1) (by rw [hn]; simp)
theorem next_on {at_ : Int} {i : Instr} (h1 : i.op ≠ 18) (h2 : i.op ≠ 20) (h3 : i.op ≠ 15) (h4 : i.op ≠ 16) : Pm.next at_ i = [at_ + 1] := by
  unfold Pm.next; rw [if_neg (by omega), if_neg h3, if_neg h4]

/-- A frame behind an instruction: its operands counted. -/
theorem FrOk.turn {p : Prog} {x x' : Frm} (h : FrOk p x) (e1 : x'.f = x.f) (e2 : x'.locals.length = x.locals.length) (hp : 0 ≤ x'.pc ∧ x'.pc ≤ (fn p x.f).code.length) (ho : x'.ops.length ≤ 8) (hm : x'.mode = 0 ∨ x'.mode = 1 ∨ x'.mode = 2) (e3 : x'.defers = x.defers) : FrOk p x' :=
  ⟨by rw [e1]; exact h.f0, by rw [e1]; exact h.f1, hm, hp.1, by rw [e1]; exact hp.2, by rw [e1, e2]; exact h.loc, ho, by rw [e3]; exact h.dfr, by rw [e1, e3]; exact h.has, by rw [e3]; exact h.args⟩

theorem run_inv {p : Prog} {D : Nat → List Int} {m : Mach} (h : Inv p D m) {x : Frm} {fs : List Frm} (hf : m.frames = x :: fs) (hm : x.mode = 0) (hb : m.begun = true) (he : m.ended = false) : Inv p D (run p m) := by
  have hB := h.base hb he
  have hF : ∀ y ∈ x :: fs, FrOk p y := by rw [← hf]; exact h.frs
  have hC : Chain p D (x :: fs) := by rw [← hf]; exact h.chain
  have hx := hF x (List.mem_cons_self ..)
  have H := Here.of h.valid h.fam hx (h.top x fs hf hm)
  have hlo := left_ops H
  have htl := taken_length H
  have hroom := H.room
  have hsh := H.shaped
  have hpc0 := hx.pc0
  have hpcl := H.at_
  have hpp := H.pops0
  have hpl := H.pops1
  have hon := H.on
  have hgoes := H.goes
  have hmem := H.mem
  unfold run
  rw [hf]
  dsimp only
  have hpu := pushes_le (instr p x)
  unfold behind at hroom hgoes
  generalize hi : instr p x = i at *
  generalize htk : taken p x = l at *
  have hx1 : FrOk p (left p x) := hx.turn rfl rfl ⟨by simp [left]; omega, by simp [left]; omega⟩ (by have := hx.ops; omega) (.inl hm) rfl
  have hC1 : Chain p D (left p x :: fs) := hC.put rfl
  have hF1 : ∀ y ∈ left p x :: fs, FrOk p y := fun y hy => by
    rcases List.mem_cons.1 hy with rfl | hy
    · exact hx1
    · exact hF y (List.mem_cons_of_mem _ hy)
  have epc : (left p x).pc = x.pc + 1 := rfl
  have ef : (left p x).f = x.f := rfl
  have emo : (left p x).mode = 0 := hm
  have ede : (left p x).defers = x.defers := rfl
  generalize hx' : left p x = x1 at *
  -- an instruction that leaves so many operands, and goes on
  have go : ∀ (y : Frm) (m' : Mach), m'.frames = y :: fs → y.f = x1.f → y.locals.length = x1.locals.length → y.pc = x1.pc → y.deferred = x1.deferred → y.mode = 0 → y.defers = x1.defers → (y.ops.length : Int) = x1.ops.length + pushes i → i.op ≠ 18 → i.op ≠ 20 → i.op ≠ 15 → i.op ≠ 16 → m'.first = m.first → m'.begun = m.begun → m'.ended = m.ended → Inv p D m' := by
    intro y m' g12 g1 g2 g3 g4 g5 g6 g7 g8 g9 g10 g11 g13 g14 g15
    have ho := hon (next_on g8 g9 g10 g11)
    refine Inv.put (x := x1) hB hF1 hC1 g12 g4 (hx1.turn g1 g2 ⟨by omega, by rw [g3, ef, epc]; omega⟩ (by omega) (.inl g5) g6) (fun _ => ?_) g13 g14 g15
    exact ⟨by rw [g1, ef, g3, epc]; exact ho.1, by rw [g1, ef, g3, epc, ho.2]; congr 1; omega⟩
  have hps : ∀ n : Int, pushes i = n → pushes i = n := fun n h => h
  unfold act
  dsimp only
  by_cases h1 : i.op = 1
  · rw [if_pos h1]; exact go _ _ rfl rfl rfl rfl rfl emo rfl (by simp [pushes, h1]) (by omega) (by omega) (by omega) (by omega) rfl rfl rfl
  rw [if_neg h1]
  by_cases h2 : i.op = 2
  · rw [if_pos h2]; exact go _ _ rfl rfl rfl rfl rfl emo rfl (by simp [pushes, h2]) (by omega) (by omega) (by omega) (by omega) rfl rfl rfl
  rw [if_neg h2]
  by_cases h3 : i.op = 3
  · rw [if_pos h3]; exact go _ _ rfl rfl rfl rfl rfl emo rfl (by simp [pushes, h3]) (by omega) (by omega) (by omega) (by omega) rfl rfl rfl
  rw [if_neg h3]
  by_cases h4 : i.op = 4
  · rw [if_pos h4]; exact go _ _ rfl rfl (by simp) rfl rfl emo rfl (by simp [pushes, h4]) (by omega) (by omega) (by omega) (by omega) rfl rfl rfl
  rw [if_neg h4]
  by_cases h9 : i.op = 9
  · rw [if_pos h9]; exact go _ _ rfl rfl rfl rfl rfl emo rfl (by simp [pushes, h9]) (by omega) (by omega) (by omega) (by omega) rfl rfl rfl
  rw [if_neg h9]
  by_cases h10 : i.op = 10
  · rw [if_pos h10]; exact go _ _ rfl rfl rfl rfl rfl emo rfl (by simp [pushes, h10]) (by omega) (by omega) (by omega) (by omega) rfl rfl rfl
  rw [if_neg h10]
  have hpcs : i.op = 15 ∨ i.op = 16 → 0 ≤ i.a ∧ i.a < (fn p x.f).code.length := fun h => by
    unfold Pm.shaped at hsh
    rw [if_neg (by omega), if_neg (by omega), if_neg (by omega), if_pos (by omega), Bool.and_eq_true] at hsh
    exact within_iff hsh.1
  by_cases h15 : i.op = 15
  · rw [if_pos h15]
    have hg := hgoes i.a (by simp [Pm.next, h15])
    have ha := hpcs (by omega)
    have hpu0 : pushes i = 0 := by simp [pushes, h15]
    refine Inv.put (x := x1) hB hF1 hC1 rfl rfl (hx1.turn rfl rfl ⟨ha.1, by rw [ef]; exact Int.le_of_lt ha.2⟩ hx1.ops (.inl emo) rfl) (fun _ => ?_) rfl rfl rfl
    exact ⟨by rw [ef]; exact hg.1, by simp only [ef]; rw [hg.2]; congr 1; omega⟩
  rw [if_neg h15]
  by_cases h16 : i.op = 16
  · rw [if_pos h16]
    have hg := hgoes i.a (by simp [Pm.next, h16])
    have hg2 := hgoes (x.pc + 1) (by simp [Pm.next, h16])
    have ha := hpcs (by omega)
    have hpu0 : pushes i = 0 := by simp [pushes, h16]
    split
    · refine Inv.put (x := x1) hB hF1 hC1 rfl rfl (hx1.turn rfl rfl ⟨ha.1, by rw [ef]; exact Int.le_of_lt ha.2⟩ hx1.ops (.inl emo) rfl) (fun _ => ?_) rfl rfl rfl
      exact ⟨by rw [ef]; exact hg.1, by simp only [ef]; rw [hg.2]; congr 1; omega⟩
    · refine Inv.put (x := x1) hB hF1 hC1 rfl rfl hx1 (fun _ => ?_) rfl rfl rfl
      exact ⟨by rw [ef, epc]; exact hg2.1, by rw [ef, epc, hg2.2]; congr 1; omega⟩
  rw [if_neg h16]
  have hfun : i.op = 17 ∨ i.op = 19 → 0 ≤ i.a ∧ i.a < p.length := fun h => by
    unfold Pm.shaped at hsh
    rw [if_neg (by omega), if_neg (by omega), if_neg (by omega), if_neg (by omega), if_pos (by omega), Bool.and_eq_true] at hsh
    exact within_iff hsh.1
  by_cases h17 : i.op = 17
  · rw [if_pos h17]
    have ha := hfun (by omega)
    have ho := hon (next_on (by omega) (by omega) (by omega) (by omega))
    have hpu0 : pushes i = 1 := by simp [pushes, h17]
    refine Inv.mk' ⟨hB.valid, hB.fam, hB.f0, hB.f1, hB.fp, hB.begun, hB.live⟩ (by simp) ?_ ?_ ?_
    · intro y hy
      rcases List.mem_cons.1 hy with rfl | hy
      · exact FrOk.fresh hB.valid ha.1 ha.2 _ _
      · exact hF1 y hy
    · refine ⟨?_, hC1⟩
      simp only [Bool.false_eq_true, if_false]
      exact ⟨emo, ⟨by rw [ef, epc]; exact ho.1, by rw [ef, epc, ho.2]; congr 1; omega⟩, by omega⟩
    · intro y r e _; cases e
      exact Stands.fresh hB.valid hB.fam ha.1 ha.2 _ _
  rw [if_neg h17]
  by_cases h18 : i.op = 18
  · rw [if_pos h18]
    exact Inv.put (x := x1) hB hF1 hC1 rfl rfl (hx1.turn rfl rfl ⟨hx1.pc0, hx1.pc1⟩ hx1.ops (.inr (.inl rfl)) rfl) (fun h => by cases h) rfl rfl rfl
  rw [if_neg h18]
  by_cases h20 : i.op = 20
  · rw [if_pos h20]
    exact Inv.put (x := x1) hB hF1 hC1 rfl rfl (hx1.turn rfl rfl ⟨hx1.pc0, hx1.pc1⟩ hx1.ops (.inr (.inr rfl)) rfl) (fun h => by cases h) rfl rfl rfl
  rw [if_neg h20]
  by_cases h19 : i.op = 19
  · rw [if_pos h19]
    have ha := hfun (by omega)
    have ho := hon (next_on (by omega) (by omega) (by omega) (by omega))
    have hpu0 : pushes i = 0 := by simp [pushes, h19]
    have hsz := hB.valid.sized _ (fn_mem ha.1 ha.2)
    simp [Pm.sized] at hsz
    have hpo : pops p i = (fn p i.a).params := by unfold pops params; rw [if_pos (by omega), if_pos ha]; omega
    split
    · exact Inv.put (x := x1) hB hF1 hC1 rfl rfl (hx1.turn rfl rfl ⟨hx1.pc0, hx1.pc1⟩ hx1.ops (.inr (.inr rfl)) rfl) (fun h => by cases h) rfl rfl rfl
    · rename_i h4
      have hd4 := hx1.dfr
      refine Inv.put (x := x1) hB hF1 hC1 rfl rfl ⟨hx1.f0, hx1.f1, .inl emo, hx1.pc0, hx1.pc1, hx1.loc, hx1.ops, by simp; omega, fun _ => ?_, ?_⟩ (fun _ => ?_) rfl rfl rfl
      · rw [ef]
        exact List.any_eq_true.2 ⟨i, hmem, by simp [h19]⟩
      · intro d hd
        rcases List.mem_cons.1 hd with rfl | hd
        · exact ⟨ha.1, ha.2, by dsimp only; omega⟩
        · exact hx1.args d hd
      · exact ⟨by rw [ef, epc]; exact ho.1, by simp only [ef, epc]; rw [ho.2]; congr 1; omega⟩
  rw [if_neg h19]
  by_cases h21 : i.op = 21
  · rw [if_pos h21]
    have hpu2 : pushes i = 2 := by simp [pushes, h21]
    unfold recover
    cases fs with
    | nil => dsimp only; exact go _ _ rfl rfl rfl rfl rfl emo rfl (by simp; omega) (by omega) (by omega) (by omega) (by omega) rfl rfl rfl
    | cons y r =>
      dsimp only
      split
      · rename_i hr
        have ho := hon (next_on (by omega) (by omega) (by omega) (by omega))
        have hy := hF1 y (by simp)
        have hy' : FrOk p { y with mode := 1, value := Fl.int 0 } := hy.turn rfl rfl ⟨hy.pc0, hy.pc1⟩ hy.ops (.inr (.inl rfl)) rfl
        have hc2 := hC1.2
        refine Inv.mk' ⟨hB.valid, hB.fam, hB.f0, hB.f1, hB.fp, hB.begun, hB.live⟩ (by simp [push]) ?_ ?_ ?_
        · intro z hz
          simp only [push, mark, List.mem_cons] at hz
          rcases hz with rfl | rfl | hz
          · exact hx1.turn rfl rfl ⟨hx1.pc0, hx1.pc1⟩ (by simp; omega) (.inl emo) rfl
          · exact hy'
          · exact hF1 z (by simp [hz])
        · simp only [push, mark]
          refine ⟨by simp [hr.1], hc2.put rfl⟩
        · intro z q e _
          simp only [push, mark, List.cons.injEq] at e
          obtain ⟨rfl, -⟩ := e
          exact ⟨by rw [ef, epc]; exact ho.1, by simp only [ef, epc]; rw [ho.2]; congr 1; simp; omega⟩
      · exact go _ _ rfl rfl rfl rfl rfl emo rfl (by simp; omega) (by omega) (by omega) (by omega) (by omega) rfl rfl rfl
  rw [if_neg h21]
  by_cases h22 : i.op = 22
  · rw [if_pos h22]; exact go _ _ rfl rfl rfl rfl rfl emo rfl (by simp [pushes, h22]) (by omega) (by omega) (by omega) (by omega) rfl rfl rfl
  rw [if_neg h22]
  by_cases h23 : i.op = 23
  · rw [if_pos h23]; exact go _ _ rfl rfl (by simp) rfl rfl emo rfl (by simp [pushes, h23]) (by omega) (by omega) (by omega) (by omega) rfl rfl rfl
  rw [if_neg h23]
  by_cases h24 : i.op = 24
  · rw [if_pos h24]; exact go _ _ rfl rfl (by simp) rfl rfl emo rfl (by simp [pushes, h24]) (by omega) (by omega) (by omega) (by omega) rfl rfl rfl
  rw [if_neg h24]
  by_cases h25 : i.op = 25
  · rw [if_pos h25]; exact go _ _ rfl rfl (by simp) rfl rfl emo rfl (by simp [pushes, h25]) (by omega) (by omega) (by omega) (by omega) rfl rfl rfl
  rw [if_neg h25]
  by_cases h26 : i.op = 26
  · rw [if_pos h26]; exact go _ _ rfl rfl rfl rfl rfl emo rfl (by simp [pushes, h26]) (by omega) (by omega) (by omega) (by omega) rfl rfl rfl
  rw [if_neg h26]
  by_cases h27 : i.op = 27
  · rw [if_pos h27]; exact go _ _ rfl rfl rfl rfl rfl emo rfl (by simp [pushes, h27]) (by omega) (by omega) (by omega) (by omega) rfl rfl rfl
  rw [if_neg h27]
  have h : (5 ≤ i.op ∧ i.op ≤ 8) ∨ (11 ≤ i.op ∧ i.op ≤ 14) := by
    unfold Pm.shaped at hsh
    rw [if_neg (by omega), if_neg (by omega), if_neg (by omega), if_neg (by omega), if_neg (by omega), if_neg (by omega), if_neg (by omega)] at hsh
    split at hsh
    · omega
    · cases hsh
  have hpu1 : pushes i = 1 := by unfold pushes; rw [if_neg (by omega), if_pos (by omega)]
  exact go _ _ rfl rfl rfl rfl rfl emo rfl (by simp; omega) (by omega) (by omega) (by omega) (by omega) rfl rfl rfl

theorem leave_inv {p : Prog} {D : Nat → List Int} {m : Mach} (h : Inv p D m) {x : Frm} {fs : List Frm} (hf : m.frames = x :: fs) (hm : x.mode ≠ 0) (hb : m.begun = true) (he : m.ended = false) (hpk : m.parked = false) : Inv p D (leave p m) := by
  have hB := h.base hb he
  have hF : ∀ y ∈ x :: fs, FrOk p y := by rw [← hf]; exact h.frs
  have hC : Chain p D (x :: fs) := by rw [← hf]; exact h.chain
  have hx := hF x (List.mem_cons_self ..)
  unfold leave
  rw [hf]
  dsimp only
  cases hd : x.defers with
  | cons d ds =>
    dsimp only
    have ha := hx.args d (by rw [hd]; simp)
    have hx' : FrOk p { x with defers := ds } := ⟨hx.f0, hx.f1, hx.mode, hx.pc0, hx.pc1, hx.loc, hx.ops, by have := hx.dfr; rw [hd] at this; simp at this ⊢; omega, fun _ => hx.has (by rw [hd]; simp), fun e he => hx.args e (by rw [hd]; exact List.mem_cons_of_mem _ he)⟩
    refine Inv.mk' ⟨hB.valid, hB.fam, hB.f0, hB.f1, hB.fp, hB.begun, hB.live⟩ (by simp) ?_ ?_ ?_
    · intro y hy
      simp only [List.mem_cons] at hy
      rcases hy with rfl | rfl | hy
      · exact FrOk.fresh hB.valid ha.1 ha.2.1 _ _
      · exact hx'
      · exact hF y (by simp [hy])
    · exact ⟨by simp [hm], hC.put rfl⟩
    · intro y r e _; cases e
      exact Stands.fresh hB.valid hB.fam ha.1 ha.2.1 _ _
  | nil =>
    dsimp only
    cases fs with
    | nil =>
      dsimp only
      refine ⟨hB.valid, hB.fam, hB.f0, hB.f1, hB.fp, ?_, fun _ => ⟨rfl, hpk⟩, ?_, by simp [mark], trivial, ?_⟩
      · intro e; simp only [mark] at e; rw [hb] at e; cases e
      · intro _ e; cases e
      · intro y r e; cases e
    | cons y r =>
      dsimp only
      have hy := hF y (by simp)
      have hFr : ∀ z ∈ y :: r, FrOk p z := fun z hz => hF z (List.mem_cons_of_mem _ hz)
      have hCr := hC.tail
      split
      · refine Inv.put (m := m) (x := y) hB hFr hCr rfl rfl (hy.turn rfl rfl ⟨hy.pc0, hy.pc1⟩ hy.ops (.inr (.inr rfl)) rfl) (fun h => by cases h) rfl rfl rfl
      · have hlink := hC.1
        split
        · rename_i hdf
          rw [if_pos hdf] at hlink
          exact Inv.put (m := m) (x := y) hB hFr hCr rfl rfl hy (fun h => absurd h hlink) rfl rfl rfl
        · rename_i hdf
          rw [if_neg hdf] at hlink
          refine Inv.put (m := m) (x := y) hB hFr hCr rfl rfl (hy.turn rfl rfl ⟨hy.pc0, hy.pc1⟩ (by simp; omega) hy.mode rfl) (fun _ => ?_) rfl rfl rfl
          exact ⟨hlink.2.1.1, by dsimp only; rw [hlink.2.1.2]; congr 1; simp⟩

theorem step_inv {p : Prog} {D : Nat → List Int} {m : Mach} (h : Inv p D m) : Inv p D (step p m).2 := by
  unfold step
  split
  · exact h
  · rename_i he
    split
    · exact h
    · rename_i hpk
      split
      · rename_i hb
        have hb' : m.begun = false := by simpa using hb
        obtain ⟨g1, g2, g3, g4⟩ := h.fresh hb'
        refine Inv.mk' ⟨h.valid, h.fam, h.f0, h.f1, h.fp, rfl, g3⟩ (by simp) ?_ ?_ ?_
        · intro y hy
          simp only [g1, List.mem_singleton] at hy
          subst hy
          exact FrOk.fresh h.valid h.f0 h.f1 _ _
        · simp only [g1, Chain]
        · intro y r e _; cases e
          exact Stands.fresh h.valid h.fam h.f0 h.f1 _ _
      · rename_i hb
        have hb' : m.begun = true := by simpa using hb
        have he' : m.ended = false := by simpa using he
        have hpk' : m.parked = false := by simpa using hpk
        split
        · rename_i x fs hf
          split
          · exact run_inv h hf (by assumption) hb' he'
          · exact leave_inv h hf (by assumption) hb' he' hpk'
        · exact h
end Go.Am
