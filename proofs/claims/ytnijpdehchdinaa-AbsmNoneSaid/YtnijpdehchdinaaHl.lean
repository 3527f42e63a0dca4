/-
  A logic for calls over a heap that is told block by block: what a call does to its own blocks, whatever else lies in memory. No program in sight.
-/
import Derived.Tactics
import Derived.Scope
import Derived.Deep.LoopGhost
import Derived.Deep.Quiet
import Derived.Laws.OwnMore
import Derived.Laws.MakeOwn
import Derived.Below
set_option linter.unusedVariables false
set_option linter.unusedSimpArgs false
set_option linter.unusedSectionVars false
namespace Go.Hl

/-- A block: its number, its cells, its elements' type. -/
abbrev Blk := Nat × List Value × TypeId

def keys (L : List Blk) : List Nat := L.map (·.1)

/-- The world holds the old heap as it was, and the blocks of L. -/
structure Has (h0 : Array Obj) (L : List Blk) (w : World) : Prop where
  low : h0.size ≤ w.heap.size
  base : ∀ b, b < h0.size → w.heap[b]? = h0[b]?
  nodup : (keys L).Nodup
  old : ∀ b ∈ keys L, h0.size ≤ b
  at_ : ∀ p ∈ L, w.heap[p.1]? = some (.cells p.2.1.toArray p.2.2 (0, 0))

structure Step (h0 : Array Obj) (L L' : List Blk) (w w' : World) : Prop where
  os : w'.os = w.os
  tape : w'.tape = w.tape
  output : w'.output = w.output
  size : w.heap.size ≤ w'.heap.size
  keep : ∀ b, b < w.heap.size → b ∉ keys L → w'.heap[b]? = w.heap[b]?
  has : Has h0 L' w'
  new : ∀ b ∈ keys L', b ∈ keys L ∨ w.heap.size ≤ b

theorem mem_keys {L : List Blk} {p : Blk} (h : p ∈ L) : p.1 ∈ keys L := List.mem_map.2 ⟨p, h, rfl⟩

theorem Has.lt {h0 : Array Obj} {L : List Blk} {w : World} (h : Has h0 L w) {b : Nat} (hb : b ∈ keys L) : b < w.heap.size := by
  obtain ⟨p, hp, rfl⟩ := List.mem_map.1 hb
  exact (Array.getElem?_eq_some_iff.1 (h.at_ p hp)).1

theorem Step.refl {h0 : Array Obj} {L : List Blk} {w : World} (h : Has h0 L w) : Step h0 L L w w :=
  ⟨rfl, rfl, rfl, Nat.le_refl _, fun _ _ _ => rfl, h, fun _ hb => .inl hb⟩

theorem Step.trans {h0 : Array Obj} {L L1 L2 : List Blk} {w w1 w2 : World} (h : Step h0 L L1 w w1) (k : Step h0 L1 L2 w1 w2) : Step h0 L L2 w w2 where
  os := k.os.trans h.os
  tape := k.tape.trans h.tape
  output := k.output.trans h.output
  size := Nat.le_trans h.size k.size
  keep b hb hn := by
    refine (k.keep b (Nat.lt_of_lt_of_le hb h.size) fun hk => ?_).trans (h.keep b hb hn)
    rcases h.new b hk with h1 | h1
    · exact hn h1
    · omega
  has := k.has
  new b hb := by
    rcases k.new b hb with h1 | h1
    · exact h.new b h1
    · exact .inr (Nat.le_trans h.size h1)

/-- A step of a part is one of the whole. -/
theorem Has.sub {h0 : Array Obj} {L L' : List Blk} {w : World} (h : Has h0 L w) (hs : ∀ p ∈ L', p ∈ L) (hn : (keys L').Nodup) : Has h0 L' w where
  low := h.low
  base := h.base
  nodup := hn
  old b hb := by
    obtain ⟨p, hp, rfl⟩ := List.mem_map.1 hb
    exact h.old _ (mem_keys (hs p hp))
  at_ p hp := h.at_ p (hs p hp)

theorem Has.perm {h0 : Array Obj} {L L' : List Blk} {w : World} (h : Has h0 L w) (hp : L.Perm L') : Has h0 L' w :=
  h.sub (fun p q => hp.mem_iff.2 q) ((hp.map _).nodup_iff.1 h.nodup)

theorem keys_append (A B : List Blk) : keys (A ++ B) = keys A ++ keys B := by simp [keys]
@[simp] theorem keys_cons (a : Blk) (B : List Blk) : keys (a :: B) = a.1 :: keys B := rfl
@[simp] theorem keys_nil : keys [] = [] := rfl

theorem Has.left {h0 : Array Obj} {A B : List Blk} {w : World} (h : Has h0 (A ++ B) w) : Has h0 A w :=
  h.sub (fun p q => List.mem_append_left _ q) (by have := h.nodup; rw [keys_append] at this; exact (List.nodup_append.1 this).1)

theorem Step.frame {h0 : Array Obj} {L0 L0' Lr : List Blk} {w w' : World} (h : Has h0 (L0 ++ Lr) w) (k : Step h0 L0 L0' w w') : Step h0 (L0 ++ Lr) (L0' ++ Lr) w w' := by
  have hnd := h.nodup
  rw [keys_append] at hnd
  have hdis := (List.nodup_append.1 hnd).2.2
  have hsep : ∀ a ∈ keys L0', ∀ b ∈ keys Lr, a ≠ b := by
    intro a ha b hb e
    subst e
    rcases k.new a ha with h1 | h1
    · exact hdis a h1 a hb rfl
    · have := h.lt (b := a) (by rw [keys_append]; exact List.mem_append_right _ hb)
      omega
  refine ⟨k.os, k.tape, k.output, k.size, ?_, ⟨k.has.low, k.has.base, ?_, ?_, ?_⟩, ?_⟩
  · intro b hb hn
    rw [keys_append, List.mem_append] at hn
    exact k.keep b hb fun hk => hn (.inl hk)
  · rw [keys_append]
    exact List.nodup_append.2 ⟨k.has.nodup, (List.nodup_append.1 hnd).2.1, hsep⟩
  · intro b hb
    rw [keys_append, List.mem_append] at hb
    rcases hb with hb | hb
    · exact k.has.old b hb
    · exact h.old b (by rw [keys_append]; exact List.mem_append_right _ hb)
  · intro p hp
    rcases List.mem_append.1 hp with hp | hp
    · exact k.has.at_ p hp
    · have hpk := mem_keys hp
      have hlt := h.lt (b := p.1) (by rw [keys_append]; exact List.mem_append_right _ hpk)
      rw [k.keep p.1 hlt fun hk => hdis _ hk _ hpk rfl]
      exact h.at_ p (List.mem_append_right _ hp)
  · intro b hb
    rw [keys_append, List.mem_append] at hb
    rcases hb with hb | hb
    · rcases k.new b hb with h1 | h1
      · exact .inl (by rw [keys_append]; exact List.mem_append_left _ h1)
      · exact .inr h1
    · exact .inl (by rw [keys_append]; exact List.mem_append_right _ hb)

/-- What was stated of fewer blocks, or of the blocks in another order. -/
theorem Step.weaken {h0 : Array Obj} {L L1 L2 L2' : List Blk} {w w' : World} (h : ∀ b ∈ keys L1, b ∈ keys L) (k : Step h0 L1 L2 w w') (hs : ∀ p ∈ L2', p ∈ L2) (hn : (keys L2').Nodup) : Step h0 L L2' w w' where
  os := k.os
  tape := k.tape
  output := k.output
  size := k.size
  keep b hb hn := k.keep b hb fun hk => hn (h b hk)
  has := k.has.sub hs hn
  new b hb := by
    obtain ⟨p, hp, rfl⟩ := List.mem_map.1 hb
    rcases k.new _ (mem_keys (hs p hp)) with h1 | h1
    · exact .inl (h _ h1)
    · exact .inr h1

/-! ### Calls -/
def Ct (P : Program) (h0 : Array Obj) (f : FuncId) (args : List Value) (L : List Blk) (R : Value → List Blk → Prop) : Prop :=
  ∀ w, Has h0 L w → Calls P f args.toArray w fun e w' => ∃ v L', e = .returned v ∧ R v L' ∧ Step h0 L L' w w'

theorem Ct.mono {P : Program} {h0 : Array Obj} {f : FuncId} {args : List Value} {L : List Blk} {R R' : Value → List Blk → Prop} (h : Ct P h0 f args L R) (hr : ∀ v L', R v L' → R' v L') : Ct P h0 f args L R' :=
  fun w hw => (h w hw).mono fun _ _ ⟨v, L', he, hR, hs⟩ => ⟨v, L', he, hr _ _ hR, hs⟩

theorem Ct.frame {P : Program} {h0 : Array Obj} {f : FuncId} {args : List Value} {L0 Lr : List Blk} {R : Value → List Blk → Prop} (h : Ct P h0 f args L0 R) :
    Ct P h0 f args (L0 ++ Lr) fun v L => ∃ L', R v L' ∧ L = L' ++ Lr :=
  fun w hw => (h w hw.left).mono fun _ _ ⟨v, L', he, hR, hs⟩ => ⟨v, L' ++ Lr, he, ⟨L', hR, rfl⟩, hs.frame hw⟩

theorem Ct.perm {P : Program} {h0 : Array Obj} {f : FuncId} {args : List Value} {L L0 : List Blk} {R : Value → List Blk → Prop} (hp : L.Perm L0) (h : Ct P h0 f args L0 R) : Ct P h0 f args L R :=
  fun w hw => (h w (hw.perm hp)).mono fun _ _ ⟨v, L', he, hR, hs⟩ => ⟨v, L', he, hR, hs.weaken (fun b hb => ((hp.map _).mem_iff).2 hb) (fun _ h => h) hs.has.nodup⟩

/-- Fewer blocks behind the call. -/
theorem Ct.drop {P : Program} {h0 : Array Obj} {f : FuncId} {args : List Value} {L : List Blk} {R R' : Value → List Blk → Prop} (h : Ct P h0 f args L R)
    (hr : ∀ v L', R v L' → (keys L').Nodup → ∃ L'', R' v L'' ∧ (keys L'').Nodup ∧ ∀ p ∈ L'', p ∈ L') : Ct P h0 f args L R' :=
  fun w hw => (h w hw).mono fun _ _ ⟨v, L', he, hR, hs⟩ =>
    let ⟨L'', h1, h2, h3⟩ := hr v L' hR hs.has.nodup
    ⟨v, L'', he, h1, hs.weaken (fun _ h => h) h3 h2⟩

/-! ### Slots -/
abbrev Slots := Nat → Value
def upd (T : Slots) (d : Nat) (v : Value) : Slots := fun t => cond (Nat.beq t d) v (T t)
def putD (T : Slots) : Option Tmp → Value → Slots
  | some d, v => upd T d v
  | none, _ => T
def ev (T : Slots) : Operand → Value
  | .tmp t => T t
  | .const v => v
  | .global g => .pointer (some ⟨g, 0, none⟩)
  | .func f => .func (.func f) #[] #[]
def yl (ops : Array Oper) (T : Slots) (j : Nat) : Option Bool :=
  match (ops[j]?).bind (·.dst) with
  | some d => match T d with | .bool b => some b | _ => none
  | none => none
def dstOk (n : Nat) : Option Tmp → Bool
  | some d => Nat.blt d n
  | none => true

structure Ab (n : Nat) (T : Slots) (a : Act) : Prop where
  size : a.tmps.size = n
  at_ : ∀ t, a.tmps.getD t undef = T t
  dfr : a.defers = []

theorem Ab.eval {n : Nat} {T : Slots} {a : Act} (h : Ab n T a) : a.eval = ev T := by
  funext x
  cases x with
  | tmp t => exact h.at_ t
  | _ => rfl

theorem Ab.yl {n : Nat} {T : Slots} {a : Act} (h : Ab n T a) (ops : Array Oper) : yielded ops a.tmps = yl ops T := by
  funext j
  unfold yielded Hl.yl
  cases hd : (ops[j]?).bind (·.dst) with
  | none => rfl
  | some d =>
    have h1 := h.at_ d
    simp only [Array.getD_eq_getD_getElem?] at h1
    simp only [Option.bind_some]
    cases ht : a.tmps[d]? with
    | none =>
      rw [ht] at h1
      simp only [Option.getD_none] at h1
      rw [← h1]
      rfl
    | some v =>
      rw [ht] at h1
      simp only [Option.getD_some] at h1
      rw [← h1]
      cases v <;> rfl

theorem Ab.put {n : Nat} {T : Slots} {a : Act} (h : Ab n T a) {d : Option Tmp} (hd : dstOk n d = true) (v : Value) : Ab n (putD T d v) (a.put d v) := by
  cases d with
  | none => exact h
  | some d =>
    have hd' : d < n := by simpa [dstOk, Nat.blt_eq] using hd
    refine ⟨by simp [Act.put, h.size], fun t => ?_, h.dfr⟩
    simp only [Act.put, putD, upd, Array.getD_eq_getD_getElem?, Array.getElem?_setIfInBounds]
    have h1 := h.at_ t
    simp only [Array.getD_eq_getD_getElem?] at h1
    by_cases e : t = d
    · subst e
      simp [h.size, hd']
    · have e' : ¬ d = t := fun x => e x.symm
      have e2 : Nat.beq t d = false := by
        cases hb : Nat.beq t d with
        | false => rfl
        | true => exact absurd (Nat.eq_of_beq_eq_true hb) e
      simp [e', e2, h1]

/-! ### Code -/
def Post (h0 : Array Obj) (n : Nat) (L : List Blk) (w : World) (Q : Exit → Slots → List Blk → Prop) : Exit → Act → World → Prop :=
  fun e a' w' => ∃ T' L', Q e T' L' ∧ Ab n T' a' ∧ Step h0 L L' w w'

def CW (P : Program) (h0 : Array Obj) (n : Nat) (c : Code) (T : Slots) (L : List Blk) (Q : Exit → Slots → List Blk → Prop) : Prop :=
  ∀ a w, Ab n T a → Has h0 L w → c.wp P (Post h0 n L w Q) a w

def OW (P : Program) (h0 : Array Obj) (n : Nat) (ops : Array Oper) (l : List Oper) (T : Slots) (L : List Blk) (Q : Exit → Slots → List Blk → Prop) : Prop :=
  ∀ a w, Ab n T a → Has h0 L w → wpList P ops (Post h0 n L w Q) l a w

def thenQ (K : Slots → List Blk → Prop) (Q : Exit → Slots → List Blk → Prop) : Exit → Slots → List Blk → Prop
  | .normal, T, L => K T L
  | e, T, L => Q e T L

def inBlockQ (id : Nat) (Q : Exit → Slots → List Blk → Prop) : Exit → Slots → List Blk → Prop
  | .exit id', T, L => if id' = id then Q .normal T L else Q (.exit id') T L
  | e, T, L => Q e T L

def noGotoQ (Q : Exit → Slots → List Blk → Prop) : Exit → Slots → List Blk → Prop
  | .goto _, _, _ => False
  | e, T, L => Q e T L

theorem Oper.upon_mono {P : Program} {o : Oper} {a : Act} {K K' : Act → World → Prop} {Q Q' : Exit → Act → World → Prop} (h : ∀ a w, K a w → K' a w) (hq : ∀ e a w, Q e a w → Q' e a w)
    {r : Result Next} (hh : o.upon P a K Q r) : o.upon P a K' Q' r := by
  cases r with
  | ok m w' =>
    cases m <;> simp only [Oper.upon] at hh ⊢ <;>
      first
        | exact h _ _ hh
        | exact Calls.mono hh (fun e w'' he => by
            cases e with
            | returned v => exact h _ _ he
            | panicked c => exact hq _ _ _ he
            | outgrown => exact (let ⟨a, w, q⟩ := he; ⟨a, w, hq _ _ _ q⟩))
        | exact Rows.mono hh (fun _ _ he => h _ _ he)
  | halt x w' => cases x <;> simp only [Oper.upon] at hh ⊢ <;> first | exact hq _ _ _ hh | exact hh

theorem wpList_mono {P : Program} {ops : Array Oper} {Q Q' : Exit → Act → World → Prop} (hq : ∀ e a w, Q e a w → Q' e a w) :
    ∀ (l : List Oper) (a : Act) (w : World), wpList P ops Q l a w → wpList P ops Q' l a w
  | [], _, _, h => hq _ _ _ h
  | o :: l, a, w, h => by
    unfold wpList at h ⊢
    split
    · rename_i hw
      rw [if_pos hw] at h
      rcases h with h | ⟨h1, a', w', h2⟩
      · exact .inl (Oper.upon_mono (wpList_mono hq l) hq h)
      · exact .inr ⟨h1, a', w', hq _ _ _ h2⟩
    · rename_i hw
      rw [if_neg hw] at h
      exact wpList_mono hq l _ _ h

theorem Post.step {h0 : Array Obj} {n : Nat} {L L1 : List Blk} {w w1 : World} {Q : Exit → Slots → List Blk → Prop} (hs : Step h0 L L1 w w1) {e : Exit} {a : Act} {w' : World}
    (h : Post h0 n L1 w1 Q e a w') : Post h0 n L w Q e a w' :=
  let ⟨T', L', q, ab, s⟩ := h
  ⟨T', L', q, ab, hs.trans s⟩

section rules
variable {P : Program} {h0 : Array Obj} {n : Nat} {T : Slots} {L : List Blk} {Q : Exit → Slots → List Blk → Prop}

theorem cw_mono' {c : Code} {Q' : Exit → Slots → List Blk → Prop} (h : CW P h0 n c T L Q) (hq : ∀ e T L, Q e T L → Q' e T L) : CW P h0 n c T L Q' :=
  fun a w ha hw => wp_mono (h a w ha hw) fun _ _ _ ⟨T', L', q, ab, s⟩ => ⟨T', L', hq _ _ _ q, ab, s⟩
theorem cw_seq {x y : Code} (h : ∀ K : Slots → List Blk → Prop, (∀ T L, CW P h0 n y T L Q → K T L) → CW P h0 n x T L (thenQ K Q)) : CW P h0 n (.seq x y) T L Q := by
  intro a w ha hw
  refine wp_seq (wp_mono (h _ (fun _ _ h => h) a w ha hw) ?_)
  rintro e a1 w1 ⟨T1, L1, q, ab, s⟩
  cases e with
  | normal => exact wp_mono (q a1 w1 ab s.has) fun _ _ _ p => Post.step s p
  | _ => exact ⟨T1, L1, q, ab, s⟩

theorem cw_cond {c : Operand} {x y : Code} {t : Bool} (hc : ev T c = .bool t) (ht : t = true → CW P h0 n x T L Q) (hf : t = false → CW P h0 n y T L Q) : CW P h0 n (.cond c x y) T L Q := by
  intro a w ha hw
  exact wp_cond_split (t := t) (by rw [ha.eval]; exact hc) (fun h => ht h a w ha hw) (fun h => hf h a w ha hw)

theorem cw_then {x y : Code} (h : CW P h0 n x T L (thenQ (fun T L => CW P h0 n y T L Q) Q)) : CW P h0 n (.seq x y) T L Q := cw_seq fun K hK => cw_mono' h fun e T L q => by cases e <;> first | exact hK _ _ q | exact q
theorem cw_ite {t : Tmp} {x y : Code} {b : Bool} (hc : T t = .bool b) (ht : b = true → CW P h0 n x (upd T t (.bool true)) L Q) (hf : b = false → CW P h0 n y (upd T t (.bool false)) L Q) : CW P h0 n (.cond (.tmp t) x y) T L Q := by
  have key : upd T t (.bool b) = T := by
    funext u
    unfold upd
    cases hu : Nat.beq u t with
    | false => rfl
    | true => rw [Nat.eq_of_beq_eq_true hu, hc]; rfl
  refine cw_cond (t := b) hc (fun hb => ?_) (fun hb => ?_)
  · subst hb; have := ht rfl; rwa [key] at this
  · subst hb; have := hf rfl; rwa [key] at this
theorem cw_ite_dec {t : Tmp} {x y : Code} {p : Prop} [Decidable p] (hc : T t = .bool (decide p)) (ht : p → CW P h0 n x (upd T t (.bool true)) L Q) (hf : ¬p → CW P h0 n y (upd T t (.bool false)) L Q) : CW P h0 n (.cond (.tmp t) x y) T L Q :=
  cw_ite hc (fun h => ht (of_decide_eq_true h)) (fun h => hf (of_decide_eq_false h))
theorem cw_ite_beq {t : Tmp} {x y : Code} {p q : Int} (hc : T t = .bool (p == q)) (ht : p = q → CW P h0 n x (upd T t (.bool true)) L Q) (hf : p ≠ q → CW P h0 n y (upd T t (.bool false)) L Q) : CW P h0 n (.cond (.tmp t) x y) T L Q :=
  cw_ite hc (fun h => ht (by simpa using h)) (fun h => hf (by simpa using h))
theorem cw_ite_bne {t : Tmp} {x y : Code} {p q : Int} (hc : T t = .bool (p != q)) (ht : p ≠ q → CW P h0 n x (upd T t (.bool true)) L Q) (hf : p = q → CW P h0 n y (upd T t (.bool false)) L Q) : CW P h0 n (.cond (.tmp t) x y) T L Q :=
  cw_ite hc (fun h => ht (by simpa using h)) (fun h => hf (by simpa using h))
theorem cw_ite_not {t : Tmp} {x y : Code} {b : Bool} (hc : T t = .bool (!b)) (ht : b = false → CW P h0 n x (upd T t (.bool true)) L Q) (hf : b = true → CW P h0 n y (upd T t (.bool false)) L Q) : CW P h0 n (.cond (.tmp t) x y) T L Q :=
  cw_ite hc (fun h => ht (by simpa using h)) (fun h => hf (by simpa using h))
theorem cw_true {c : Operand} {x y : Code} (hc : ev T c = .bool true) (ht : CW P h0 n x T L Q) : CW P h0 n (.cond c x y) T L Q := cw_cond hc (fun _ => ht) (fun h => by cases h)
theorem cw_false {c : Operand} {x y : Code} (hc : ev T c = .bool false) (hf : CW P h0 n y T L Q) : CW P h0 n (.cond c x y) T L Q := cw_cond hc (fun h => by cases h) (fun _ => hf)

theorem cw_block {id : Nat} {c : Code} (h : CW P h0 n c T L (inBlockQ id Q)) : CW P h0 n (.block id c) T L Q := by
  intro a w ha hw
  refine wp_block (wp_mono (h a w ha hw) ?_)
  rintro e a1 w1 ⟨T1, L1, q, ab, s⟩
  cases e with
  | exit id' =>
    simp only [inBlockQ] at q
    simp only [Exit.inBlock]
    split
    · rename_i hid; rw [if_pos hid] at q; exact ⟨T1, L1, q, ab, s⟩
    · rename_i hid; rw [if_neg hid] at q; exact ⟨T1, L1, q, ab, s⟩
  | _ => exact ⟨T1, L1, q, ab, s⟩

theorem cw_exit {id : Nat} (h : Q (.exit id) T L) : CW P h0 n (.exit id) T L Q := fun a w ha hw => wp_exit ⟨T, L, h, ha, Step.refl hw⟩
theorem cw_ret (h : Q .ret T L) : CW P h0 n .ret T L Q := fun a w ha hw => wp_ret ⟨T, L, h, ha, Step.refl hw⟩
theorem cw_skip (h : Q .normal T L) : CW P h0 n .skip T L Q := fun a w ha hw => wp_skip ⟨T, L, h, ha, Step.refl hw⟩
theorem cw_label {l : Nat} (h : Q .normal T L) : CW P h0 n (.label l) T L Q := fun a w ha hw => wp_label ⟨T, L, h, ha, Step.refl hw⟩
theorem cw_scope {c : Code} (h : CW P h0 n c T L (noGotoQ Q)) : CW P h0 n (.scope c) T L Q := by
  intro a w ha hw
  refine wp_scope_straight (wp_mono (h a w ha hw) ?_)
  rintro e a1 w1 ⟨T1, L1, q, ab, s⟩
  cases e with
  | goto l => exact q.elim
  | _ => exact ⟨T1, L1, q, ab, s⟩

theorem cw_mono {c : Code} {Q' : Exit → Slots → List Blk → Prop} (h : CW P h0 n c T L Q) (hq : ∀ e T L, Q e T L → Q' e T L) : CW P h0 n c T L Q' :=
  fun a w ha hw => wp_mono (h a w ha hw) fun _ _ _ ⟨T', L', q, ab, s⟩ => ⟨T', L', hq _ _ _ q, ab, s⟩

/-- A loop: a relation with a number that every round lowers. -/
theorem cw_loop {c : Code} (I : Nat → Slots → List Blk → Prop) (k0 : Nat) (hI : I k0 T L)
    (round : ∀ k T L, I k T L → ∀ K : Slots → List Blk → Prop, (∀ k' T L, k' < k → I k' T L → K T L) → CW P h0 n c T L (thenQ K Q)) : CW P h0 n (.loop c) T L Q := by
  intro a w ha hw
  refine wp_loop_ghost (fun k a' w' => ∃ T1 L1, I k T1 L1 ∧ Ab n T1 a' ∧ Step h0 L L1 w w') k0 ⟨T, L, hI, ha, Step.refl hw⟩ ?_
  rintro k a1 w1 ⟨T1, L1, h1, ab, s⟩
  refine wp_mono (round k T1 L1 h1 (fun T' L' => ∃ k', k' < k ∧ I k' T' L') (fun k' _ _ hk h => ⟨k', hk, h⟩) a1 w1 ab s.has) ?_
  rintro e a2 w2 ⟨T2, L2, q, ab2, s2⟩
  cases e with
  | normal => obtain ⟨k', hk, hi⟩ := q; exact ⟨k', hk, T2, L2, hi, ab2, s.trans s2⟩
  | _ => exact ⟨T2, L2, q, ab2, s.trans s2⟩

theorem cw_loop' {c : Code} (I : Nat → Slots → List Blk → Prop) (k0 : Nat) (hI : I k0 T L)
    (round : ∀ k T L, I k T L → CW P h0 n c T L (thenQ (fun T L => ∃ k', k' < k ∧ I k' T L) Q)) : CW P h0 n (.loop c) T L Q :=
  cw_loop I k0 hI fun k T L h K hK => cw_mono' (round k T L h) fun e T L q => by cases e <;> first | exact (let ⟨k', h1, h2⟩ := q; hK k' T L h1 h2) | exact q
theorem cw_weaken {c : Code} {L1 : List Blk} (hp : L.Perm L1) (h : CW P h0 n c T L1 Q) : CW P h0 n c T L Q :=
  fun a w ha hw => wp_mono (h a w ha (hw.perm hp)) fun _ _ _ ⟨T', L', q, ab, s⟩ => ⟨T', L', q, ab, s.weaken (fun b hb => ((hp.map _).mem_iff).2 hb) (fun _ h => h) s.has.nodup⟩
theorem cw_sub {c : Code} {L1 : List Blk} (hp : L1.Sublist L) (h : CW P h0 n c T L1 Q) : CW P h0 n c T L Q :=
  fun a w ha hw => wp_mono (h a w ha (hw.sub (fun _ q => hp.subset q) ((hp.map _).nodup hw.nodup))) fun _ _ _ ⟨T', L', q, ab, s⟩ =>
    ⟨T', L', q, ab, s.weaken (fun b hb => (hp.map _).subset hb) (fun _ h => h) s.has.nodup⟩
theorem cw_nodup {c : Code} (h : (keys L).Nodup → CW P h0 n c T L Q) : CW P h0 n c T L Q := fun a w ha hw => h hw.nodup a w ha hw
theorem cw_old {c : Code} (h : (∀ b ∈ keys L, h0.size ≤ b) → CW P h0 n c T L Q) : CW P h0 n c T L Q := fun a w ha hw => h hw.old a w ha hw

theorem cw_region {id : Nat} {l : List Oper} (h : OW P h0 n l.toArray l T L Q) : CW P h0 n (.region id l.toArray false) T L Q :=
  fun a w ha hw => wp_region_lit (h a w ha hw)

theorem ow_nil {ops : Array Oper} (h : Q .normal T L) : OW P h0 n ops [] T L Q := fun a w ha hw => wpList_nil ⟨T, L, h, ha, Step.refl hw⟩
theorem ow_weaken {ops : Array Oper} {l : List Oper} {L1 : List Blk} (hp : L.Perm L1) (h : OW P h0 n ops l T L1 Q) : OW P h0 n ops l T L Q :=
  fun a w ha hw => wpList_mono (fun _ _ _ ⟨T', L', q, ab, s⟩ => ⟨T', L', q, ab, s.weaken (fun b hb => ((hp.map _).mem_iff).2 hb) (fun _ h => h) s.has.nodup⟩) _ _ _ (h a w ha (hw.perm hp))
theorem ow_nodup {ops : Array Oper} {l : List Oper} (h : (keys L).Nodup → OW P h0 n ops l T L Q) : OW P h0 n ops l T L Q := fun a w ha hw => h hw.nodup a w ha hw

/-- One operation, of whatever kind, that yields a value. -/
theorem ow_run {ops : Array Oper} {o : Oper} {rest : List Oper} (hg : Region.wanted o (yl ops T) = true) (hd : dstOk n o.dst = true)
    (h : ∀ w, Has h0 L w → ∃ v w1 L1, (execOp (ev T) o).run P w = .ok (.value v) w1 ∧ Step h0 L L1 w w1 ∧ OW P h0 n ops rest (putD T o.dst v) L1 Q) : OW P h0 n ops (o :: rest) T L Q := by
  intro a w ha hw
  obtain ⟨v, w1, L1, hr, hs, hk⟩ := h w hw
  unfold wpList
  rw [if_pos (by rw [ha.yl]; exact hg)]
  refine .inl ?_
  unfold Oper.wp
  rw [ha.eval, hr, Oper.upon_value]
  exact wpList_mono (fun _ _ _ p => Post.step hs p) _ _ _ (hk _ w1 (ha.put hd v) hs.has)

/-- One that yields nothing. -/
theorem ow_run_skip {ops : Array Oper} {o : Oper} {rest : List Oper} (hg : Region.wanted o (yl ops T) = true) (hd : dstOk n o.dst = true)
    (h : ∀ w, Has h0 L w → ∃ w1 L1, (execOp (ev T) o).run P w = .ok .skip w1 ∧ Step h0 L L1 w w1 ∧ OW P h0 n ops rest (putD T o.dst undef) L1 Q) : OW P h0 n ops (o :: rest) T L Q := by
  intro a w ha hw
  obtain ⟨w1, L1, hr, hs, hk⟩ := h w hw
  unfold wpList
  rw [if_pos (by rw [ha.yl]; exact hg)]
  refine .inl ?_
  unfold Oper.wp
  rw [ha.eval, hr, Oper.upon_skip]
  exact wpList_mono (fun _ _ _ p => Post.step hs p) _ _ _ (hk _ w1 (ha.put hd undef) hs.has)

/-- One whose guard says no. -/
theorem ow_guarded {ops : Array Oper} {o : Oper} {rest : List Oper} (hg : Region.wanted o (yl ops T) = false) (hd : dstOk n o.dst = true)
    (h : OW P h0 n ops rest (putD T o.dst undef) L Q) : OW P h0 n ops (o :: rest) T L Q := by
  intro a w ha hw
  unfold wpList
  rw [if_neg (by rw [ha.yl, hg]; exact Bool.false_ne_true)]
  exact h _ w (ha.put hd undef) hw

/-- One that reads nothing. -/
theorem ow_pure {ops : Array Oper} {o : Oper} {rest : List Oper} {v : Value} (hr : ∀ w, (execOp (ev T) o).run P w = .ok (.value v) w) (hg : Region.wanted o (yl ops T) = true) (hd : dstOk n o.dst = true)
    (h : OW P h0 n ops rest (putD T o.dst v) L Q) : OW P h0 n ops (o :: rest) T L Q :=
  ow_run hg hd fun w hw => ⟨v, w, L, hr w, Step.refl hw, h⟩

/-- One that only reads. -/
theorem ow_read {ops : Array Oper} {o : Oper} {rest : List Oper} {v : Value} (hr : ∀ w, Has h0 L w → (execOp (ev T) o).run P w = .ok (.value v) w) (hg : Region.wanted o (yl ops T) = true) (hd : dstOk n o.dst = true)
    (h : OW P h0 n ops rest (putD T o.dst v) L Q) : OW P h0 n ops (o :: rest) T L Q :=
  ow_run hg hd fun w hw => ⟨v, w, L, hr w hw, Step.refl hw, h⟩

/-- A call by its contract. -/
theorem ow_call_raw {ops : Array Oper} {o : Oper} {rest : List Oper} {f : FuncId} {A : List Value} {R : Value → List Blk → Prop} (hr : ∀ w, (execOp (ev T) o).run P w = .ok (.enter f A.toArray) w)
    (hF : Ct P h0 f A L R) (hg : Region.wanted o (yl ops T) = true) (hd : dstOk n o.dst = true)
    (h : ∀ v L', R v L' → OW P h0 n ops rest (putD T o.dst v) L' Q) : OW P h0 n ops (o :: rest) T L Q := by
  intro a w ha hw
  unfold wpList
  rw [if_pos (by rw [ha.yl]; exact hg)]
  refine .inl ?_
  unfold Oper.wp
  rw [ha.eval, hr w, Oper.upon_enter]
  refine (hF w hw).mono ?_
  rintro e w1 ⟨v, L', rfl, hR, hs⟩
  exact wpList_mono (fun _ _ _ p => Post.step hs p) _ _ _ (h v L' hR _ w1 (ha.put hd v) hs.has)
end rules

/-! ### A function's body -/
def argT (args : List Value) : Slots := fun t => args.getD t undef
def retQ (P : Program) (h0 : Array Obj) (fn : Func) (R : Value → List Blk → Prop) : Exit → Slots → List Blk → Prop
  | .normal, T, L | .ret, T, L => ∃ v, (∀ a w, Ab fn.ntmps T a → Has h0 L w → (results fn a.tmps).run P w = .ok v w) ∧ R v L
  | _, _, _ => False

theorem fn_of_cw {P : Program} {h0 : Array Obj} {f : FuncId} {fn : Func} {c : Code} {args : List Value} {L : List Blk} {R : Value → List Blk → Prop}
    (hf : P.funcs[f]? = some fn) (hb : fn.body = some c) (hnb : Nat.ble args.length fn.ntmps = true) (h : CW P h0 fn.ntmps c (argT args) L (retQ P h0 fn R)) : Ct P h0 f args L R := by
  intro w hw
  have hn : args.length ≤ fn.ntmps := Nat.le_of_ble_eq_true hnb
  refine calls_of_wp hf hb (wp_mono (h _ w ?_ hw) ?_)
  · refine ⟨by simp; omega, fun t => ?_, rfl⟩
    simp only [argT, Array.getD_eq_getD_getElem?, Array.getElem?_append, List.size_toArray, List.getElem?_toArray, List.getD_eq_getElem?_getD]
    by_cases ht : t < args.length
    · simp [ht]
    · simp only [ht, if_false]
      rw [List.getElem?_eq_none (by omega)]
      simp only [Array.getElem?_replicate, Option.getD_none]
      split <;> rfl
  · rintro e a1 w1 ⟨T1, L1, q, ab, s⟩
    cases e with
    | normal => obtain ⟨v, hr, hR⟩ := q; exact ⟨ab.dfr, v, hr _ _ ab s.has, v, L1, rfl, hR, s⟩
    | ret => obtain ⟨v, hr, hR⟩ := q; exact ⟨ab.dfr, v, hr _ _ ab s.has, v, L1, rfl, hR, s⟩
    | _ => exact q.elim

section
variable {P : Program} {h0 : Array Obj} {n : Nat} {T : Slots} {L : List Blk} {Q : Exit → Slots → List Blk → Prop}
theorem OW.out {ops : Array Oper} {l : List Oper} (h : OW P h0 n ops l T L Q) : ∀ a w, Ab n T a → Has h0 L w → wpList P ops (Post h0 n L w Q) l a w := h
theorem OW.into {ops : Array Oper} {l : List Oper} (h : ∀ a w, Ab n T a → Has h0 L w → wpList P ops (Post h0 n L w Q) l a w) : OW P h0 n ops l T L Q := h
theorem CW.into {c : Code} (h : ∀ a w, Ab n T a → Has h0 L w → c.wp P (Post h0 n L w Q) a w) : CW P h0 n c T L Q := h
theorem CW.out {c : Code} (h : CW P h0 n c T L Q) : ∀ a w, Ab n T a → Has h0 L w → c.wp P (Post h0 n L w Q) a w := h
theorem Ct.out {f : FuncId} {args : List Value} {R : Value → List Blk → Prop} (h : Ct P h0 f args L R) : ∀ w, Has h0 L w → Calls P f args.toArray w fun e w' => ∃ v L', e = .returned v ∧ R v L' ∧ Step h0 L L' w w' := h
theorem Ct.into {f : FuncId} {args : List Value} {R : Value → List Blk → Prop} (h : ∀ w, Has h0 L w → Calls P f args.toArray w fun e w' => ∃ v L', e = .returned v ∧ R v L' ∧ Step h0 L L' w w') : Ct P h0 f args L R := h
end
/-! ### Ends, one layer at a time -/
section
variable {P : Program} {h0 : Array Obj} {n : Nat} {T : Slots} {L : List Blk} {Q : Exit → Slots → List Blk → Prop} {K : Slots → List Blk → Prop} {i j : Nat}
theorem thenQ_n (h : K T L) : thenQ K Q .normal T L := h
theorem thenQ_e (h : Q (.exit i) T L) : thenQ K Q (.exit i) T L := h
theorem thenQ_r (h : Q .ret T L) : thenQ K Q .ret T L := h
theorem inB_n (h : Q .normal T L) : inBlockQ i Q .normal T L := h
theorem inB_r (h : Q .ret T L) : inBlockQ i Q .ret T L := h
theorem inB_same (h : Q .normal T L) : inBlockQ i Q (.exit i) T L := by simpa [inBlockQ] using h
theorem inB_other (hne : Nat.beq j i = false) (h : Q (.exit j) T L) : inBlockQ i Q (.exit j) T L := by
  have hne' : ¬ j = i := fun e => by subst e; simp at hne
  simpa [inBlockQ, hne'] using h
theorem noG_n (h : Q .normal T L) : noGotoQ Q .normal T L := h
theorem noG_r (h : Q .ret T L) : noGotoQ Q .ret T L := h
theorem noG_e (h : Q (.exit i) T L) : noGotoQ Q (.exit i) T L := h
end
attribute [irreducible] OW CW Ct
end Go.Hl
