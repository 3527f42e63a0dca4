/-
  Programs that are made by numbers, plainly: what the maker keeps, and that what it makes is right.
-/
import Derived.Test.YtnijpdehchdinaaPm
set_option linter.unusedVariables false
set_option linter.unusedSimpArgs false
namespace Go.Pm

/-- A program without its codes. -/
def shape (p : Prog) : Prog := p.map fun f => { f with code := [] }
theorem shape_params (p : Prog) (f : Int) : params (shape p) f = params p f := by
  unfold params fn shape
  simp only [List.length_map]
  split
  · rename_i h
    have hlt : f.toNat < p.length := by omega
    simp [List.getD_eq_getElem?_getD, List.getElem?_map, List.getElem?_eq_getElem hlt]
  · rfl
theorem shape_pops (p : Prog) (i : Instr) : pops (shape p) i = pops p i := by unfold pops; rw [shape_params]
theorem shape_behind (p : Prog) (d : Int) (i : Instr) : behind (shape p) d i = behind p d i := by unfold behind; rw [shape_pops]

/-- An instruction's fields, its target's end left open. -/
def shapedM (n : Nat) (f : Func) (i : Instr) : Prop :=
  (i.op = 1 ∧ -2147483648 ≤ i.a ∧ i.a ≤ 2147483648 ∧ i.b = 0) ∨ (i.op = 2 ∧ 0 ≤ i.a ∧ i.a < 6 ∧ i.b = 0) ∨ ((i.op = 3 ∨ i.op = 4) ∧ 0 ≤ i.a ∧ i.a < f.locals - f.refs ∧ i.b = 0) ∨ ((i.op = 15 ∨ i.op = 16) ∧ 0 ≤ i.a ∧ i.b = 0) ∨
  ((i.op = 17 ∨ i.op = 19) ∧ 0 ≤ i.a ∧ i.a < n ∧ i.b = 0) ∨ ((i.op = 23 ∨ i.op = 25) ∧ 0 ≤ i.a ∧ i.a < f.refs ∧ i.b = 0) ∨ (i.op = 24 ∧ 0 ≤ i.a ∧ i.a < f.refs ∧ 0 ≤ i.b ∧ i.b < f.refs) ∨
  ((i.op = 5 ∨ i.op = 6 ∨ i.op = 7 ∨ i.op = 8 ∨ i.op = 9 ∨ i.op = 10 ∨ i.op = 11 ∨ i.op = 12 ∨ i.op = 13 ∨ i.op = 14 ∨ i.op = 18 ∨ i.op = 20 ∨ i.op = 21 ∨ i.op = 22 ∨ i.op = 26 ∨ i.op = 27) ∧ i.a = 0 ∧ i.b = 0)
theorem shapedM_shaped {p : Prog} {f : Func} {i : Instr} (h : shapedM p.length f i) (ht : i.op = 15 ∨ i.op = 16 → i.a < f.code.length) : shaped p f i = true := by
  unfold shapedM at h
  unfold shaped
  rcases h with h | h | h | h | h | h | h | h
  · rw [if_pos h.1]; simp; omega
  · rw [if_neg (by omega), if_pos h.1]; simp [within]; omega
  · rw [if_neg (by omega), if_neg (by omega), if_pos h.1]; simp [within]; omega
  · rw [if_neg (by omega), if_neg (by omega), if_neg (by omega), if_pos h.1]; have := ht h.1; simp [within]; omega
  · rw [if_neg (by omega), if_neg (by omega), if_neg (by omega), if_neg (by omega), if_pos h.1]; simp [within]; omega
  · rw [if_neg (by omega), if_neg (by omega), if_neg (by omega), if_neg (by omega), if_neg (by omega), if_pos h.1]; simp [within]; omega
  · rw [if_neg (by omega), if_neg (by omega), if_neg (by omega), if_neg (by omega), if_neg (by omega), if_neg (by omega), if_pos h.1]; simp [within]; omega
  · rw [if_neg (by omega), if_neg (by omega), if_neg (by omega), if_neg (by omega), if_neg (by omega), if_neg (by omega), if_neg (by omega), if_pos (by omega)]; simp; omega

/-- A code in the making: P a program of its shape, f its function's numbers, d the depths, at_ the depth now. -/
structure Going (P : Prog) (f : Func) (c : List Instr) (d : List Int) (at_ : Int) : Prop where
  len : d.length = c.length
  zero : (d ++ [at_])[0]? = some 0
  lo : 0 ≤ at_
  hi : at_ ≤ 8
  each : ∀ (k : Nat) (i : Instr) (e : Int), c[k]? = some i → d[k]? = some e → shapedM P.length f i ∧ 0 ≤ e ∧ pops P i ≤ e ∧ behind P e i ≤ 8 ∧ ∀ t ∈ next k i, 0 ≤ t ∧ (t < c.length ∧ d[t.toNat]? = some (behind P e i) ∨ t = c.length ∧ behind P e i = at_)
theorem Going.nil (P : Prog) (f : Func) : Going P f [] [] 0 := ⟨rfl, rfl, by omega, by omega, fun k i e h => by simp at h⟩

/-- Some instructions more. -/
theorem Going.app {P : Prog} {f : Func} {c : List Instr} {d : List Int} {at_ : Int} (h : Going P f c d at_) (l : List Instr) (e : List Int) (at' : Int) (hl : e.length = l.length) (h0 : (e ++ [at'])[0]? = some at_) (hlo : 0 ≤ at') (hhi : at' ≤ 8)
    (hs : ∀ (j : Nat) (i : Instr) (x : Int), l[j]? = some i → e[j]? = some x → shapedM P.length f i ∧ 0 ≤ x ∧ pops P i ≤ x ∧ behind P x i ≤ 8 ∧ ∀ t ∈ next ((c.length + j : Nat) : Int) i, 0 ≤ t ∧ (t < c.length ∧ d[t.toNat]? = some (behind P x i) ∨ c.length ≤ t ∧ t < c.length + l.length ∧ e[t.toNat - c.length]? = some (behind P x i) ∨ t = c.length + l.length ∧ behind P x i = at')) :
    Going P f (c ++ l) (d ++ e) at' := by
  have hdl := h.len
  have key : (d ++ e ++ [at'])[d.length]? = some at_ := by
    rw [List.append_assoc, List.getElem?_append_right (Nat.le_refl _), Nat.sub_self]; exact h0
  refine ⟨by simp [hl, hdl], ?_, hlo, hhi, fun k i x hk hx => ?_⟩
  · have hz := h.zero
    cases hd : d with
    | nil => rw [hd] at hz; simp at hz; subst hz; simpa using h0
    | cons y r => rw [hd] at hz; simpa using hz
  · by_cases hlt : k < c.length
    · rw [List.getElem?_append_left hlt] at hk
      rw [List.getElem?_append_left (by omega)] at hx
      obtain ⟨g1, g2, g3, g4, g5⟩ := h.each k i x hk hx
      refine ⟨g1, g2, g3, g4, fun t ht => ?_⟩
      obtain ⟨t0, g6⟩ := g5 t ht
      refine ⟨t0, ?_⟩
      rcases g6 with ⟨ta, tb⟩ | ⟨ta, tb⟩
      · exact .inl ⟨by rw [List.length_append]; omega, by rw [List.getElem?_append_left (by omega)]; exact tb⟩
      · cases l with
        | nil =>
          have : e = [] := List.eq_nil_of_length_eq_zero (by simpa using hl)
          subst this
          simp at h0
          exact .inr ⟨by simpa using ta, by rw [tb, h0]⟩
        | cons a r =>
          refine .inl ⟨by rw [List.length_append, List.length_cons]; omega, ?_⟩
          rw [tb, ta, show ((c.length : Int)).toNat = d.length by omega]
          have : d.length < (d ++ e).length := by rw [List.length_append, hl]; simp
          rw [← key, List.getElem?_append_left this]
    · rw [List.getElem?_append_right (by omega)] at hk
      rw [List.getElem?_append_right (by omega), hdl] at hx
      obtain ⟨g1, g2, g3, g4, g5⟩ := hs _ i x hk hx
      rw [show c.length + (k - c.length) = k by omega] at g5
      refine ⟨g1, g2, g3, g4, fun t ht => ?_⟩
      obtain ⟨t0, g6⟩ := g5 t ht
      refine ⟨t0, ?_⟩
      rcases g6 with ⟨ta, tb⟩ | ⟨ta, tb, tc⟩ | ⟨ta, tb⟩
      · exact .inl ⟨by rw [List.length_append]; omega, by rw [List.getElem?_append_left (by omega)]; exact tb⟩
      · exact .inl ⟨by rw [List.length_append]; omega, by rw [List.getElem?_append_right (by omega), hdl]; exact tc⟩
      · exact .inr ⟨by rw [List.length_append]; omega, tb⟩
/-- One that goes on. -/
theorem Going.one {P : Prog} {f : Func} {c : List Instr} {d : List Int} {at_ : Int} (h : Going P f c d at_) (i : Instr) (hs : shapedM P.length f i) (h1 : i.op ≠ 18) (h2 : i.op ≠ 20) (h3 : i.op ≠ 15) (h4 : i.op ≠ 16) (hp : pops P i ≤ at_) (hb : behind P at_ i ≤ 8) : Going P f (c ++ [i]) (d ++ [at_]) (behind P at_ i) := by
  have hpu := pushes_le i
  refine h.app [i] [at_] _ rfl rfl (by unfold behind; omega) hb fun j i' x hj hx => ?_
  cases j with
  | succ j => simp at hj
  | zero =>
    simp at hj hx
    subst hj; subst hx
    refine ⟨hs, h.lo, hp, hb, fun t ht => ?_⟩
    rw [next, if_neg (by omega), if_neg h3, if_neg h4] at ht
    obtain rfl := List.mem_singleton.1 ht
    exact ⟨by omega, .inr (.inr ⟨by simp, rfl⟩)⟩
/-- A jump to where it goes on. -/
theorem Going.jump {P : Prog} {f : Func} {c : List Instr} {d : List Int} {at_ : Int} (h : Going P f c d at_) : Going P f (c ++ [⟨15, c.length + 1, 0⟩]) (d ++ [at_]) at_ := by
  have hb : behind P at_ ⟨15, c.length + 1, 0⟩ = at_ := by simp [behind, pops, pushes]
  refine h.app [_] [at_] _ rfl rfl h.lo h.hi fun j i' x hj hx => ?_
  cases j with
  | succ j => simp at hj
  | zero =>
    simp at hj hx
    subst hj; subst hx
    refine ⟨.inr (.inr (.inr (.inl ⟨.inl rfl, by show (0 : Int) ≤ c.length + 1; omega, rfl⟩))), h.lo, by simp [pops]; exact h.lo, by rw [hb]; exact h.hi, fun t ht => ?_⟩
    simp [next] at ht
    exact ⟨by omega, .inr (.inr ⟨by simp; omega, hb⟩)⟩
/-- A branch back. -/
theorem Going.back {P : Prog} {f : Func} {c : List Instr} {d : List Int} {at_ : Int} (h : Going P f c d at_) (j : Nat) (hj : d[j]? = some (at_ - 1)) (h1 : 1 ≤ at_) : Going P f (c ++ [⟨16, j, 0⟩]) (d ++ [at_]) (at_ - 1) := by
  have hjl := (List.getElem?_eq_some_iff.1 hj).1
  have hb : behind P at_ ⟨16, j, 0⟩ = at_ - 1 := by simp [behind, pops, pushes]
  have hlen := h.len
  have hhi := h.hi
  refine h.app [_] [at_] _ rfl rfl (by omega) (by omega) fun k i' x hk hx => ?_
  cases k with
  | succ k => simp at hk
  | zero =>
    simp at hk hx
    subst hk; subst hx
    refine ⟨.inr (.inr (.inr (.inl ⟨.inr rfl, by show (0 : Int) ≤ j; omega, rfl⟩))), h.lo, by simp [pops]; omega, by rw [hb]; omega, fun t ht => ?_⟩
    simp [next] at ht
    rcases ht with rfl | rfl
    · exact ⟨by omega, .inl ⟨by omega, by rw [hb]; simpa using hj⟩⟩
    · exact ⟨by omega, .inr (.inr ⟨by simp, hb⟩)⟩
/-- A way that leaves, and one that goes on. -/
theorem Going.leaves {P : Prog} {f : Func} {c : List Instr} {d : List Int} {at_ : Int} (h : Going P f c d at_) (i1 : Instr) (hs : shapedM P.length f i1) (hp1 : pops P i1 = 0) (hu1 : pushes i1 = 1) (ho : i1.op ≠ 18 ∧ i1.op ≠ 20 ∧ i1.op ≠ 15 ∧ i1.op ≠ 16) (y op : Int) (hy : -2147483648 ≤ y ∧ y ≤ 2147483648) (hop : op = 18 ∨ op = 20) (h8 : at_ < 8) :
    Going P f (c ++ [i1, ⟨16, c.length + 4, 0⟩, ⟨1, y, 0⟩, ⟨op, 0, 0⟩]) (d ++ [at_, at_ + 1, at_, at_ + 1]) at_ := by
  have hb1 : behind P at_ i1 = at_ + 1 := by unfold behind; omega
  have hb2 : behind P (at_ + 1) ⟨16, c.length + 4, 0⟩ = at_ := by simp [behind, pops, pushes]
  have hb3 : behind P at_ ⟨1, y, 0⟩ = at_ + 1 := by simp [behind, pops, pushes]
  have hp4 : pops P ⟨op, 0, 0⟩ = 1 := by rcases hop with rfl | rfl <;> simp [pops]
  have hb4 : behind P (at_ + 1) ⟨op, 0, 0⟩ = at_ := by unfold behind; rw [hp4]; rcases hop with rfl | rfl <;> simp [pushes]
  have hlo := h.lo
  have hhi := h.hi
  refine h.app _ _ at_ rfl rfl hlo hhi fun k i' x hk hx => ?_
  match k, hk, hx with
  | 0, hk, hx =>
    simp at hk hx; subst hk; subst hx
    refine ⟨hs, hlo, by omega, by omega, fun t ht => ?_⟩
    rw [next, if_neg (by omega), if_neg ho.2.2.1, if_neg ho.2.2.2] at ht
    obtain rfl := List.mem_singleton.1 ht
    refine ⟨by omega, .inr (.inl ⟨by omega, by simp, ?_⟩)⟩
    rw [hb1, show (((c.length + 0 : Nat) : Int) + 1).toNat - c.length = 1 by omega]; rfl
  | 1, hk, hx =>
    simp at hk hx; subst hk; subst hx
    refine ⟨.inr (.inr (.inr (.inl ⟨.inr rfl, by show (0 : Int) ≤ c.length + 4; omega, rfl⟩))), by omega, by simp [pops]; omega, by omega, fun t ht => ?_⟩
    simp [next] at ht
    rcases ht with rfl | rfl
    · exact ⟨by omega, .inr (.inr ⟨by simp, hb2⟩)⟩
    · refine ⟨by omega, .inr (.inl ⟨by omega, by simp; omega, ?_⟩)⟩
      rw [hb2, show ((c.length : Int) + 1 + 1).toNat - c.length = 2 by omega]; rfl
  | 2, hk, hx =>
    simp at hk hx; subst hk; subst hx
    refine ⟨.inl ⟨rfl, hy.1, hy.2, rfl⟩, by omega, by simp [pops]; omega, by omega, fun t ht => ?_⟩
    simp [next] at ht
    subst ht
    refine ⟨by omega, .inr (.inl ⟨by omega, by simp; omega, ?_⟩)⟩
    rw [hb3, show ((c.length : Int) + 2 + 1).toNat - c.length = 3 by omega]; rfl
  | 3, hk, hx =>
    simp at hk hx; subst hk; subst hx
    refine ⟨by refine .inr (.inr (.inr (.inr (.inr (.inr (.inr ⟨?_, rfl, rfl⟩)))))); dsimp only; omega, by omega, by omega, by omega, fun t ht => ?_⟩
    rcases hop with rfl | rfl <;> simp [next] at ht
  | k + 4, hk, hx => simp at hk

/-- A function that is whole. -/
structure Whole (P : Prog) (f : Func) : Prop where
  sized : sized f = true
  shaped : ∀ i ∈ f.code, shapedM P.length f i ∧ (i.op = 15 ∨ i.op = 16 → i.a < f.code.length)
  fits : ∃ D, Fits P f.code D
theorem Going.ends {P : Prog} {f : Func} {d : List Int} {at_ : Int} {c : List Instr} (h : Going P f c d at_) (h1 : 1 ≤ at_) (hf : f.code = c ++ [⟨18, 0, 0⟩]) (hz : Pm.sized f = true) : Whole P f := by
  have hlen := h.len
  have hhi := h.hi
  have h2 : Going P f (c ++ [⟨18, 0, 0⟩]) (d ++ [at_]) (at_ - 1) := by
    refine h.app [_] [at_] _ rfl rfl (by omega) (by omega) fun k i' x hk hx => ?_
    cases k with
    | succ k => simp at hk
    | zero =>
      simp at hk hx
      subst hk; subst hx
      refine ⟨.inr (.inr (.inr (.inr (.inr (.inr (.inr ⟨by simp, rfl, rfl⟩)))))), h.lo, by simp [pops]; omega, by simp [behind, pops, pushes]; omega, fun t ht => ?_⟩
      simp [next] at ht
  -- no target lies behind the code
  have tgt : ∀ (k : Nat) (i : Instr) (e : Int), (c ++ [(⟨18, 0, 0⟩ : Instr)])[k]? = some i → (d ++ [at_])[k]? = some e → ∀ t ∈ next k i, 0 ≤ t ∧ t < (c ++ [(⟨18, 0, 0⟩ : Instr)]).length ∧ (d ++ [at_])[t.toNat]? = some (behind P e i) := by
    intro k i e hk he t ht
    by_cases hlt : k < c.length
    · rw [List.getElem?_append_left hlt] at hk
      rw [List.getElem?_append_left (by omega)] at he
      obtain ⟨t0, g⟩ := (h.each k i e hk he).2.2.2.2 t ht
      refine ⟨t0, ?_⟩
      rcases g with ⟨ta, tb⟩ | ⟨ta, tb⟩
      · exact ⟨by rw [List.length_append]; simp; omega, by rw [List.getElem?_append_left (by omega)]; exact tb⟩
      · refine ⟨by rw [List.length_append]; simp; omega, ?_⟩
        rw [tb, ta, show ((c.length : Int)).toNat = d.length by omega]; simp
    · have hk' := (List.getElem?_eq_some_iff.1 hk).1
      rw [List.length_append, List.length_singleton] at hk'
      obtain rfl : k = c.length := by omega
      simp at hk
      subst hk
      simp [next] at ht
  refine ⟨hz, fun i hi => ?_, d ++ [at_], ?_⟩
  · rw [hf] at hi ⊢
    obtain ⟨k, hk⟩ := List.getElem?_of_mem hi
    have hkl := (List.getElem?_eq_some_iff.1 hk).1
    obtain ⟨e, he⟩ : ∃ e, (d ++ [at_])[k]? = some e := ⟨_, List.getElem?_eq_getElem (by rw [List.length_append] at hkl ⊢; simp at hkl ⊢; omega)⟩
    refine ⟨(h2.each k i e hk he).1, fun ho => ?_⟩
    refine (tgt k i e hk he i.a ?_).2.1
    rcases ho with ho | ho <;> simp [next, ho]
  · rw [hf]
    refine ⟨h2.len, ?_, fun x hx => ?_, fun k hk i e hi he _ => ?_⟩
    · have := h2.zero
      rwa [List.getElem?_append_left (by simp)] at this
    · obtain ⟨k, hk⟩ := List.getElem?_of_mem hx
      have hkl := (List.getElem?_eq_some_iff.1 hk).1
      obtain ⟨i, hi⟩ : ∃ i, (c ++ [(⟨18, 0, 0⟩ : Instr)])[k]? = some i := ⟨_, List.getElem?_eq_getElem (by rw [List.length_append] at hkl ⊢; simp at hkl ⊢; omega)⟩
      have := (h2.each k i x hi hk).2.1
      omega
    · obtain ⟨g1, g2, g3, g4, g5⟩ := h2.each k i e hi he
      exact ⟨g3, g4, fun t ht => ⟨(tgt k i e hi he t ht).2.1, (tgt k i e hi he t ht).2.2⟩⟩
/-- A program of whole functions is right. -/
theorem valid_of_whole {p : Prog} (h1 : 1 ≤ p.length) (h8 : p.length ≤ 8) (h : ∀ f ∈ p, Whole (shape p) f) : Valid p := by
  have hl : (shape p).length = p.length := by simp [shape]
  refine ⟨h1, h8, fun f hf => (h f hf).sized, fun f hf i hi => ?_, fun f hf => ?_⟩
  · obtain ⟨g1, g2⟩ := (h f hf).shaped i hi
    rw [hl] at g1
    exact shapedM_shaped g1 g2
  · obtain ⟨D, hD⟩ := (h f hf).fits
    refine ⟨D, hD.len, hD.zero, hD.lo, fun k hk i d hi hd h0 => ?_⟩
    have := hD.at_ k hk i d hi hd h0
    simp only [shape_pops, shape_behind] at this
    exact this
end Go.Pm
