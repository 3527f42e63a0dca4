/-
  Regions whose order the language leaves open, over the logic of XHl: what only reads blocks that stay may come first; where one operation alone can come, it comes.
-/
import Derived.Test.YtnijpdehchdinaaHlMem
import Derived.OrdersHeld
import Derived.RegionTactic
set_option linter.unusedVariables false
set_option linter.unusedSimpArgs false
set_option linter.unusedSectionVars false
namespace Go.Hl

class NoPanic (Q : Exit → Slots → List Blk → Prop) : Prop where
  no : ∀ c T L, ¬ Q (.panic c) T L
instance {K : Slots → List Blk → Prop} {Q : Exit → Slots → List Blk → Prop} [k : NoPanic Q] : NoPanic (thenQ K Q) := ⟨fun c T L h => k.no c T L h⟩
instance {id : Nat} {Q : Exit → Slots → List Blk → Prop} [k : NoPanic Q] : NoPanic (inBlockQ id Q) := ⟨fun c T L h => k.no c T L h⟩
instance {Q : Exit → Slots → List Blk → Prop} [k : NoPanic Q] : NoPanic (noGotoQ Q) := ⟨fun c T L h => k.no c T L h⟩
instance {P : Program} {h0 : Array Obj} {fn : Func} {R : Value → List Blk → Prop} : NoPanic (retQ P h0 fn R) := ⟨fun c T L h => h⟩

theorem wpOp_mono2 {P : Program} {ops : Array Oper} {Q Q' : Exit → Act → World → Prop} {i : Nat} {a : Act} {w : World} {K K' : Act → World → Prop} (h : ∀ a w, K a w → K' a w) (hq : ∀ e a w, Q e a w → Q' e a w)
    (hh : wpOp P ops Q i K a w) : wpOp P ops Q' i K' a w := by
  unfold wpOp at *
  split
  · exact h _ _ (by simpa [*] using hh)
  · rename_i o ho
    simp only [ho] at hh
    split
    · rename_i hw
      simp only [hw, if_true] at hh
      rcases hh with hh | ⟨h1, a', w', h2⟩
      · exact .inl (Oper.upon_mono h hq hh)
      · exact .inr ⟨h1, a', w', hq _ _ _ h2⟩
    · rename_i hw; simp only [hw] at hh; exact h _ _ hh

theorem wpAnyH_mono {P : Program} {md : Region.Mode} {ops : Array Oper} {Q Q' : Exit → Act → World → Prop} {S : World → Prop} (hq : ∀ e a w, Q e a w → Q' e a w) :
    ∀ (fuel : Nat) (listed : Array Bool) (a : Act) (w : World), wpAnyH P md ops Q S fuel listed a w → wpAnyH P md ops Q' S fuel listed a w
  | 0, _, _, _, h => ⟨h.1, hq _ _ _ h.2⟩
  | fuel + 1, _, _, _, h => ⟨fun e => hq _ _ _ (h.1 e), fun i hi => wpOp_mono2 (fun a' w' h' => ⟨h'.1, wpAnyH_mono hq fuel _ a' w' h'.2⟩) hq (h.2 i hi)⟩

def HW (P : Program) (h0 : Array Obj) (n : Nat) (ops : Array Oper) (Lq : List Blk) (fuel : Nat) (listed : Array Bool) (T : Slots) (L : List Blk) (Q : Exit → Slots → List Blk → Prop) : Prop :=
  ∀ a w, Ab n T a → Has h0 L w → Has h0 Lq w → wpAnyH P .any ops (Post h0 n L w Q) (Has h0 Lq) fuel listed a w

section
variable {P : Program} {h0 : Array Obj} {n : Nat} {T : Slots} {L Lq Lr : List Blk} {Q : Exit → Slots → List Blk → Prop} {ops : Array Oper} {fuel : Nat} {listed : Array Bool}

theorem Has.split {w : World} (h : Has h0 L w) (k : Split L Lq Lr) : Has h0 Lq w := (h.perm k.perm).left

/-- The beginning: the blocks Lq stay as they are. -/
theorem cw_draw {id : Nat} (Lq : List Blk) {Lr : List Blk} [k : Split L Lq Lr] (hm : P.follows .mixedOrders = true) (h : HW P h0 n ops Lq ops.size (Array.replicate ops.size false) T L Q) : CW P h0 n (.region id ops true) T L Q := by
  refine CW.into fun a w ha hw => ?_
  have hd : Step h0 L L w { w with drawn := w.drawn + 1 } := Step.drew hw
  exact wp_region_held hm (wpAnyH_mono (fun _ _ _ p => Post.step hd p) _ _ _ _ (h a _ ha hd.has (hd.has.split k)))

theorem hw_take (i : Nat) {o : Oper} {v : Value} [NoPanic Q] (hi : ops[i]? = some o) (hy : Yl P h0 Lq T o v) (h : HW P h0 n ops Lq fuel (listed.setIfInBounds i true) (putD T o.dst v) L Q)
    (hs : Region.noSelect ops = true := by kernel_rfl) (hf : Region.free .any ops listed i = true := by kernel_rfl) (hr : (Region.ready .any ops listed).contains i = true := by kernel_rfl)
    (hg : Region.wanted o (yl ops T) = true := by rfl) (hd : dstOk n o.dst = true := by rfl) : HW P h0 n ops Lq (fuel + 1) listed T L Q := by
  intro a w ha hw hq
  refine wpAnyH_take hi hs hf hr (fun c a' w' ⟨T', L', q, _⟩ => absurd q (NoPanic.no c T' L')) (.inl ⟨by rw [ha.yl]; exact hg, fun w' hw' => by rw [ha.eval]; exact hy.run w' hw'⟩) hq (h _ w (ha.put hd v) hw hq)

theorem hw_skip (i : Nat) {o : Oper} [NoPanic Q] (hi : ops[i]? = some o) (h : HW P h0 n ops Lq fuel (listed.setIfInBounds i true) (putD T o.dst undef) L Q)
    (hs : Region.noSelect ops = true := by kernel_rfl) (hf : Region.free .any ops listed i = true := by kernel_rfl) (hr : (Region.ready .any ops listed).contains i = true := by kernel_rfl)
    (hg : Region.wanted o (yl ops T) = false := by rfl) (hd : dstOk n o.dst = true := by rfl) : HW P h0 n ops Lq (fuel + 1) listed T L Q := by
  intro a w ha hw hq
  exact wpAnyH_take hi hs hf hr (fun c a' w' ⟨T', L', q, _⟩ => absurd q (NoPanic.no c T' L')) (.inr ⟨by rw [ha.yl]; exact hg, rfl⟩) hq (h _ w (ha.put hd undef) hw hq)

/-- One alone may come. -/
theorem hw_one (i : Nat) {o : Oper} (hi : ops[i]? = some o) (h : OW P h0 n ops [o] T L (thenQ (fun T' L' => (∃ Lr, Split L' Lq Lr) ∧ HW P h0 n ops Lq fuel (listed.setIfInBounds i true) T' L' Q) Q))
    (hr : Region.ready .any ops listed = [i] := by kernel_rfl) : HW P h0 n ops Lq (fuel + 1) listed T L Q := by
  intro a w ha hw hq
  refine wpAnyH_all hr (by simp) fun j hj => ?_
  obtain rfl := List.mem_singleton.1 hj
  have h1 := h.out a w ha hw
  unfold wpList at h1
  unfold wpOp
  simp only [hi]
  have key : ∀ a' w', wpList P ops (Post h0 n L w (thenQ (fun T' L' => (∃ Lr, Split L' Lq Lr) ∧ HW P h0 n ops Lq fuel (listed.setIfInBounds j true) T' L' Q) Q)) [] a' w' →
      Has h0 Lq w' ∧ wpAnyH P .any ops (Post h0 n L w Q) (Has h0 Lq) fuel (listed.setIfInBounds j true) a' w' := by
    rintro a' w' ⟨T', L', ⟨⟨Lr, hsp⟩, hk⟩, ab, s⟩
    have hq' := s.has.split hsp
    exact ⟨hq', wpAnyH_mono (fun _ _ _ p => Post.step s p) _ _ _ _ (hk a' w' ab s.has hq')⟩
  have hfail : ∀ e a' w', e ≠ .normal → Post h0 n L w (thenQ (fun T' L' => (∃ Lr, Split L' Lq Lr) ∧ HW P h0 n ops Lq fuel (listed.setIfInBounds j true) T' L' Q) Q) e a' w' → Post h0 n L w Q e a' w' := by
    rintro e a' w' he ⟨T', L', q, r⟩
    cases e <;> first | exact absurd rfl he | exact ⟨T', L', q, r⟩
  split
  · rename_i hwt
    rw [if_pos hwt] at h1
    rcases h1 with h1 | ⟨h2, a', w', h3⟩
    · refine .inl ?_
      unfold Oper.wp at h1 ⊢
      revert h1
      generalize (execOp a.eval o).run P w = r
      intro h1
      cases r with
      | ok m w' =>
        cases m <;> simp only [Oper.upon] at h1 ⊢ <;>
          first
            | exact key _ _ h1
            | exact Calls.mono h1 (fun e w'' he => by
                cases e with
                | returned v => exact key _ _ he
                | panicked c => exact hfail _ _ _ (by simp) he
                | outgrown => exact (let ⟨a, w, q⟩ := he; ⟨a, w, hfail _ _ _ (by simp) q⟩))
            | exact Rows.mono h1 (fun _ _ he => key _ _ he)
            | exact h1
      | halt x w' => cases x <;> simp only [Oper.upon] at h1 ⊢ <;> first | exact hfail _ _ _ (by simp) h1 | exact h1
    · exact .inr ⟨h2, a', w', hfail _ _ _ (by simp) h3⟩
  · rename_i hwt
    rw [if_neg hwt] at h1
    exact key _ _ h1

theorem hw_keep {T' : Slots} {L' Lq' Lr' : List Blk} {X : Prop} [k : Split L' Lq' Lr'] (h : X) : (∃ Lr, Split L' Lq' Lr) ∧ X := ⟨⟨_, k⟩, h⟩

/-- Forms in which the value comes of its proof. -/
theorem ow_ylx {o : Oper} {rest : List Oper} (h : ∃ v, Yl P h0 L T o v ∧ OW P h0 n ops rest (putD T o.dst v) L Q) (hg : Region.wanted o (yl ops T) = true := by rfl) (hd : dstOk n o.dst = true := by rfl) : OW P h0 n ops (o :: rest) T L Q :=
  let ⟨_, h1, h2⟩ := h
  ow_yl h1 h2 hg hd
/-- The number of the first operation that has not come. -/
def nx (listed : Array Bool) : Nat := listed.toList.findIdx (!·)
theorem hw_next {o : Oper} [NoPanic Q] (hi : ops[nx listed]? = some o) (h : ∃ v, Yl P h0 Lq T o v ∧ HW P h0 n ops Lq fuel (listed.setIfInBounds (nx listed) true) (putD T o.dst v) L Q)
    (hs : Region.noSelect ops = true := by kernel_rfl) (hf : Region.free .any ops listed (nx listed) = true := by kernel_rfl) (hr : (Region.ready .any ops listed).contains (nx listed) = true := by kernel_rfl)
    (hg : Region.wanted o (yl ops T) = true := by rfl) (hd : dstOk n o.dst = true := by rfl) : HW P h0 n ops Lq (fuel + 1) listed T L Q :=
  let ⟨_, h1, h2⟩ := h
  hw_take (nx listed) hi h1 h2 hs hf hr hg hd
theorem hw_nskip {o : Oper} [NoPanic Q] (hi : ops[nx listed]? = some o) (h : HW P h0 n ops Lq fuel (listed.setIfInBounds (nx listed) true) (putD T o.dst undef) L Q)
    (hs : Region.noSelect ops = true := by kernel_rfl) (hf : Region.free .any ops listed (nx listed) = true := by kernel_rfl) (hr : (Region.ready .any ops listed).contains (nx listed) = true := by kernel_rfl)
    (hg : Region.wanted o (yl ops T) = false := by rfl) (hd : dstOk n o.dst = true := by rfl) : HW P h0 n ops Lq (fuel + 1) listed T L Q :=
  hw_skip (nx listed) hi h hs hf hr hg hd
/-- A given one first. -/
theorem hw_takex (i : Nat) {o : Oper} [NoPanic Q] (hi : ops[i]? = some o) (h : ∃ v, Yl P h0 Lq T o v ∧ HW P h0 n ops Lq fuel (listed.setIfInBounds i true) (putD T o.dst v) L Q)
    (hs : Region.noSelect ops = true := by kernel_rfl) (hf : Region.free .any ops listed i = true := by kernel_rfl) (hr : (Region.ready .any ops listed).contains i = true := by kernel_rfl)
    (hg : Region.wanted o (yl ops T) = true := by rfl) (hd : dstOk n o.dst = true := by rfl) : HW P h0 n ops Lq (fuel + 1) listed T L Q :=
  let ⟨_, h1, h2⟩ := h
  hw_take i hi h1 h2 hs hf hr hg hd

/-- All have come. -/
theorem hw_done (h : Q .normal T L) (hr : Region.ready .any ops listed = [] := by kernel_rfl) : HW P h0 n ops Lq fuel listed T L Q :=
  fun a w ha hw _ => wpAnyH_done hr ⟨T, L, h, ha, Step.refl hw⟩ fuel

/-- A slot's Bool, both ways. -/
theorem hw_case (t : Nat) {b : Bool} (hb : T t = .bool b) (ht : b = true → HW P h0 n ops Lq fuel listed (upd T t (.bool true)) L Q) (hf : b = false → HW P h0 n ops Lq fuel listed (upd T t (.bool false)) L Q) : HW P h0 n ops Lq fuel listed T L Q := by
  have key : upd T t (.bool b) = T := by
    funext u
    unfold upd
    cases hu : Nat.beq u t with
    | false => rfl
    | true => rw [Nat.eq_of_beq_eq_true hu, hb]; rfl
  cases b with
  | true => have := ht rfl; rwa [key] at this
  | false => have := hf rfl; rwa [key] at this
end

attribute [irreducible] HW

/-! ### Slots that are known -/
def Sl (T : Slots) : List (Nat × Value) → Prop
  | [] => True
  | (d, v) :: r => T d = v ∧ Sl T r
def ov (T : Slots) : List (Nat × Value) → Slots
  | [] => T
  | (d, v) :: r => upd (ov T r) d v
theorem ov_eq {T : Slots} : ∀ {l : List (Nat × Value)}, Sl T l → T = ov T l
  | [], _ => rfl
  | (d, v) :: r, ⟨h1, h2⟩ => by
    funext u
    simp only [ov, upd]
    cases hu : Nat.beq u d with
    | false => exact congrFun (ov_eq h2) u
    | true => rw [Nat.eq_of_beq_eq_true hu, h1]; rfl
theorem sl_ov {T : Slots} {l : List (Nat × Value)} (h : Sl T l) : ∃ T0, T = ov T0 l := ⟨T, ov_eq h⟩
end Go.Hl
