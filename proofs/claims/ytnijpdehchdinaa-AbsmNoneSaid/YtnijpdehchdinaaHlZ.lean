/-
  Regions whose order is open, and whose last stores wait for all that is read: what is read may come first, of blocks that those stores turn, too.
-/
import Derived.Test.YtnijpdehchdinaaTac
set_option linter.unusedVariables false
set_option linter.unusedSimpArgs false
namespace Go.Hl
section
variable {P : Program} {ops : Array Oper} {Q : Exit → Act → World → Prop} {S : World → Prop} {Z : List Nat}

/-- Whatever order is picked; S holds behind each operation that is none of Z. -/
def wpAnyZ (P : Program) (ops : Array Oper) (Q : Exit → Act → World → Prop) (S : World → Prop) (Z : List Nat) : Nat → Array Bool → Act → World → Prop
  | 0, listed, a, w => Region.ready .any ops listed = [] ∧ Q .normal a w
  | fuel + 1, listed, a, w =>
    (Region.ready .any ops listed = [] → Q .normal a w) ∧
    ∀ i ∈ Region.ready .any ops listed, wpOp P ops Q i (fun a' w' => (Z.contains i = false → S w') ∧ wpAnyZ P ops Q S Z fuel (listed.setIfInBounds i true) a' w') a w

theorem wpAny_of_z : ∀ (fuel : Nat) (listed : Array Bool) (a : Act) (w : World), wpAnyZ P ops Q S Z fuel listed a w → wpAny P .any ops Q fuel listed a w
  | 0, _, _, _, h => h
  | fuel + 1, _, _, _, h => ⟨h.1, fun i hi => wpOp_mono (fun a' w' h' => wpAny_of_z fuel _ a' w' h'.2) (h.2 i hi)⟩

/-- Each of Z that has not come waits for number i. -/
def zWaits (ops : Array Oper) (Z : List Nat) (listed : Array Bool) (i : Nat) : Bool :=
  Z.all fun z => listed.getD z true || ((ops[z]?).map (·.after.any fun e => Region.binds .any e && e.on == i)).getD false

theorem wpAnyZ_first {i : Nat} {oi : Oper} {v : Value} (hi : ops[i]? = some oi) (hsel : ∀ (j : Nat) (o : Oper) cs b, ops[j]? = some o → o.op ≠ .select cs b)
    (hQ : ∀ c a w, Q (.panic c) (a.put oi.dst v) w → Q (.panic c) a w) :
    ∀ (fuel : Nat) (listed : Array Bool) (a : Act) (w : World),
      (∀ j oj, ops[j]? = some oj → j ≠ i → listed.getD j true = false → (∀ e ∈ oj.after, Region.binds .any e = true → e.on ≠ i) → oi.apart ops oj = true) →
      zWaits ops Z listed i = true → i ∈ Region.ready .any ops listed → YieldsIf P ops S oi v a → S w →
      wpAnyZ P ops Q S Z fuel (listed.setIfInBounds i true) (a.put oi.dst v) w → wpAnyZ P ops Q S Z (fuel + 1) listed a w := by
  intro fuel
  induction fuel with
  | zero =>
    intro listed a w _ hz hr hy hS H
    refine ⟨fun h => (by rw [h] at hr; cases hr), fun j hj => ?_⟩
    by_cases hji : j = i
    · subst hji; exact hy.wpOp hi hS ⟨fun _ => hS, H⟩
    · have := ready_mono hj hji
      rw [H.1] at this
      cases this
  | succ fuel ih =>
    intro listed a w hfree hz hr hy hS H
    refine ⟨fun h => (by rw [h] at hr; cases hr), fun j hj => ?_⟩
    by_cases hji : j = i
    · subst hji; exact hy.wpOp hi hS ⟨fun _ => hS, H⟩
    · have h1 := H.2 j (ready_mono hj hji)
      obtain ⟨hjun, oj, hoj, hall⟩ := mem_ready.1 hj
      have hi0 := (mem_ready.1 hr).1
      have hnot : ∀ e ∈ oj.after, Region.binds .any e = true → e.on ≠ i := fun e he hb heq => by
        have h1 := hall e he hb
        rw [heq] at h1
        rcases Nat.lt_or_ge i listed.size with h' | h'
        · simp [h'] at hi0 h1; rw [hi0] at h1; cases h1
        · simp [Array.getElem?_eq_none h'] at h1
      have hjz : Z.contains j = false := by
        cases hc : Z.contains j with
        | false => rfl
        | true =>
          have hm : j ∈ Z := by simpa using hc
          have h2 := List.all_eq_true.1 hz j hm
          rw [hjun, hoj] at h2
          simp only [Bool.false_or, Option.map_some, Option.getD_some] at h2
          obtain ⟨e, he, h3⟩ := Array.any_eq_true'.1 h2
          simp only [Bool.and_eq_true, beq_iff_eq] at h3
          exact absurd h3.2 (hnot e he h3.1)
      have h2 := wpOp_putIf hoj (hfree j oj hoj hji hjun hnot) (fun cs b => hsel i oi cs b hi) (fun cs b => hsel j oj cs b hoj) hQ hy h1
      have hfree' : ∀ k ok, ops[k]? = some ok → k ≠ i → (listed.setIfInBounds j true).getD k true = false →
          (∀ e ∈ ok.after, Region.binds .any e = true → e.on ≠ i) → oi.apart ops ok = true := fun k ok hk hki hun hno => by
        refine hfree k ok hk hki ?_ hno
        by_cases hjk : j = k
        · subst hjk; exact hjun
        · rw [getD_set_ne true hjk] at hun; exact hun
      have hz' : zWaits ops Z (listed.setIfInBounds j true) i = true := by
        refine List.all_eq_true.2 fun z hz0 => ?_
        have h3 := List.all_eq_true.1 hz z hz0
        by_cases hjz : j = z
        · subst hjz
          rw [hjun] at h3
          simp only [Bool.false_or] at h3
          simp [h3]
        · rw [getD_set_ne true hjz]; exact h3
      refine wpOp_mono (fun a' w' h3 => ⟨fun _ => h3.2.1 hjz, ih (listed.setIfInBounds j true) a' w' hfree' hz' (ready_mono hr (Ne.symm hji)) h3.1 (h3.2.1 hjz) ?_⟩) h2
      rw [Array.setIfInBounds_comm _ _ hji]
      exact h3.2.2

theorem wpAnyZ_take {i : Nat} {oi : Oper} {v : Value} {fuel : Nat} {listed : Array Bool} {a : Act} {w : World} (hi : ops[i]? = some oi)
    (hs : Region.noSelect ops = true) (hf : Region.free .any ops listed i = true) (hz : zWaits ops Z listed i = true) (hr : (Region.ready .any ops listed).contains i = true)
    (hQ : ∀ c a w, Q (.panic c) (a.put oi.dst v) w → Q (.panic c) a w) (hy : YieldsIf P ops S oi v a) (hS : S w)
    (h : wpAnyZ P ops Q S Z fuel (listed.setIfInBounds i true) (a.put oi.dst v) w) : wpAnyZ P ops Q S Z (fuel + 1) listed a w :=
  wpAnyZ_first hi (Region.noSelect_spec hs) hQ fuel listed a w (Region.free_spec hi hf) hz (by simpa using hr) hy hS h
theorem wpAnyZ_done {listed : Array Bool} {a : Act} {w : World} (hr : Region.ready .any ops listed = []) (h : Q .normal a w) : ∀ fuel, wpAnyZ P ops Q S Z fuel listed a w
  | 0 => ⟨hr, h⟩
  | _ + 1 => ⟨fun _ => h, by rw [hr]; simp⟩
theorem wpAnyZ_mono {Q' : Exit → Act → World → Prop} (hq : ∀ e a w, Q e a w → Q' e a w) :
    ∀ (fuel : Nat) (listed : Array Bool) (a : Act) (w : World), wpAnyZ P ops Q S Z fuel listed a w → wpAnyZ P ops Q' S Z fuel listed a w
  | 0, _, _, _, h => ⟨h.1, hq _ _ _ h.2⟩
  | fuel + 1, _, _, _, h => ⟨fun e => hq _ _ _ (h.1 e), fun i hi => wpOp_mono2 (fun a' w' h' => ⟨h'.1, wpAnyZ_mono hq fuel _ a' w' h'.2⟩) hq (h.2 i hi)⟩
end

/-- None of Z has come. -/
def zOpen (Z : List Nat) (listed : Array Bool) : Bool := Z.all fun z => !(listed.getD z false)

def HZ (P : Program) (h0 : Array Obj) (n : Nat) (ops : Array Oper) (Lq : List Blk) (Z : List Nat) (fuel : Nat) (listed : Array Bool) (T : Slots) (L : List Blk) (Q : Exit → Slots → List Blk → Prop) : Prop :=
  ∀ a w, Ab n T a → Has h0 L w → (zOpen Z listed = true → Has h0 Lq w) → wpAnyZ P ops (Post h0 n L w Q) (Has h0 Lq) Z fuel listed a w

section
variable {P : Program} {h0 : Array Obj} {n : Nat} {T : Slots} {L Lq Lr : List Blk} {Z : List Nat} {Q : Exit → Slots → List Blk → Prop} {ops : Array Oper} {fuel : Nat} {listed : Array Bool} {o : Oper} {v : Value}

/-- One operation, out of its list. -/
theorem op_of_ow {J : Slots → List Blk → Prop} {KK : Act → World → Prop} {j : Nat} {w0 : World} (hi : ops[j]? = some o) (h : OW P h0 n ops [o] T L (thenQ J Q)) {a : Act} {w : World} (ha : Ab n T a) (hw : Has h0 L w)
    (hJ : ∀ T' L' a' w', J T' L' → Ab n T' a' → Step h0 L L' w w' → KK a' w') : wpOp P ops (Post h0 n L w Q) j KK a w := by
  have h1 := h.out a w ha hw
  unfold wpList at h1
  unfold wpOp
  simp only [hi]
  have key : ∀ a' w', wpList P ops (Post h0 n L w (thenQ J Q)) [] a' w' → KK a' w' := by
    rintro a' w' ⟨T', L', q, ab, s⟩
    exact hJ T' L' a' w' q ab s
  have hfail : ∀ e a' w', e ≠ .normal → Post h0 n L w (thenQ J Q) e a' w' → Post h0 n L w Q e a' w' := by
    rintro e a' w' he ⟨T', L', q, r⟩
    cases e <;> first | exact absurd rfl he | exact ⟨T', L', q, r⟩
  split
  · rename_i hwt
    rw [if_pos hwt] at h1
    rcases h1 with h1 | ⟨h2, a', w', h3⟩
    · refine .inl ?_
      unfold Oper.wp at h1 ⊢
      revert h1
      generalize (execOp a.eval o).run P w = r
      intro h1
      cases r with
      | ok m w' =>
        cases m <;> simp only [Oper.upon] at h1 ⊢ <;>
          first
            | exact key _ _ h1
            | exact Calls.mono h1 (fun e w'' he => by
                cases e with
                | returned v => exact key _ _ he
                | panicked c => exact hfail _ _ _ (by simp) he
                | outgrown => exact (let ⟨a, w, q⟩ := he; ⟨a, w, hfail _ _ _ (by simp) q⟩))
            | exact Rows.mono h1 (fun _ _ he => key _ _ he)
            | exact h1
      | halt x w' => cases x <;> simp only [Oper.upon] at h1 ⊢ <;> first | exact hfail _ _ _ (by simp) h1 | exact h1
    · exact .inr ⟨h2, a', w', hfail _ _ _ (by simp) h3⟩
  · rename_i hwt
    rw [if_neg hwt] at h1
    exact key _ _ h1

/-- The beginning: the blocks Lq stay as they are, till one of Z comes. -/
theorem zB (m : Nat) (Z : List Nat) (Lq : List Blk) {id : Nat} {Lr : List Blk} [k : Split L Lq Lr] (h : HZ P h0 n ops Lq Z m (Array.replicate m false) T L Q) (hs : ops.size = m := by rfl) (hm : P.follows .mixedOrders = true := by rfl) : CW P h0 n (.region id ops true) T L Q := by
  subst hs
  refine CW.into fun a w ha hw => ?_
  have hd : Step h0 L L w { w with drawn := w.drawn + 1 } := Step.drew hw
  exact wp_region_any hm (wpAny_of_z _ _ _ _ (wpAnyZ_mono (fun _ _ _ p => Post.step hd p) _ _ _ _ (h a _ ha hd.has (fun _ => hd.has.split k))))
theorem z_take (i : Nat) [NoPanic Q] (hi : ops[i]? = some o) (hy : Yl P h0 Lq T o v) (h : HZ P h0 n ops Lq Z fuel (listed.setIfInBounds i true) (putD T o.dst v) L Q)
    (ho : zOpen Z listed = true) (ho' : zOpen Z (listed.setIfInBounds i true) = true) (hs : Region.noSelect ops = true) (hf : Region.free .any ops listed i = true) (hz : zWaits ops Z listed i = true) (hr : (Region.ready .any ops listed).contains i = true)
    (hg : Region.wanted o (yl ops T) = true) (hd : dstOk n o.dst = true) : HZ P h0 n ops Lq Z (fuel + 1) listed T L Q := by
  intro a w ha hw hq
  refine wpAnyZ_take hi hs hf hz hr (fun c a' w' ⟨T', L', q, _⟩ => absurd q (NoPanic.no c T' L')) (.inl ⟨by rw [ha.yl]; exact hg, fun w' hw' => by rw [ha.eval]; exact hy.run w' hw'⟩) (hq ho) (h _ w (ha.put hd v) hw (fun _ => hq ho))
theorem z_skip (i : Nat) [NoPanic Q] (hi : ops[i]? = some o) (h : HZ P h0 n ops Lq Z fuel (listed.setIfInBounds i true) (putD T o.dst undef) L Q)
    (ho : zOpen Z listed = true) (hs : Region.noSelect ops = true) (hf : Region.free .any ops listed i = true) (hz : zWaits ops Z listed i = true) (hr : (Region.ready .any ops listed).contains i = true)
    (hg : Region.wanted o (yl ops T) = false) (hd : dstOk n o.dst = true) : HZ P h0 n ops Lq Z (fuel + 1) listed T L Q := by
  intro a w ha hw hq
  exact wpAnyZ_take hi hs hf hz hr (fun c a' w' ⟨T', L', q, _⟩ => absurd q (NoPanic.no c T' L')) (.inr ⟨by rw [ha.yl]; exact hg, rfl⟩) (hq ho) (h _ w (ha.put hd undef) hw (fun _ => hq ho))
theorem zN {i : Nat} [NoPanic Q] (h : HZ P h0 n ops Lq Z fuel (listed.setIfInBounds i true) (putD T o.dst v) L Q)
    (hi0 : nx listed = i := by with_unfolding_all exact rfl) (hi : ops.toList[i]? = some o := by with_unfolding_all exact rfl) (ho : zOpen Z listed = true := by kernel_rfl) (ho' : zOpen Z (listed.setIfInBounds i true) = true := by kernel_rfl)
    (hs : Region.noSelect ops = true := by kernel_rfl) (hf : Region.free .any ops listed i = true := by kernel_rfl) (hz : zWaits ops Z listed i = true := by decide +kernel) (hr : (Region.ready .any ops listed).contains i = true := by kernel_rfl)
    (hg : Region.wanted o (yl ops T) = true := by with_unfolding_all exact rfl) (hd : dstOk n o.dst = true := by with_unfolding_all exact rfl)
    (hy : Yl P h0 Lq T o v := by first | ((with_reducible apply yl_move_v); (first | exact (rfl : _ = Value.int _ _) | exact (rfl : _ = Value.pointer (some ⟨_, _, none⟩)) | exact (rfl : _ = Value.slice _ _ _) | exact (rfl : _ = Value.bool _) | exact (rfl : _ = Value.string _) | exact (rfl : _ = Value.agg _) | exact (rfl : _ = Value.pointer _) | exact (rfl : _ = Value.func _ _ _) | exact (rfl : _ = Value.float _ _) | exact (rfl : _ = Value.tuple _))) | ((with_reducible apply yl_assign_v); (first | exact (rfl : _ = Value.int _ _) | exact (rfl : _ = Value.pointer (some ⟨_, _, none⟩)) | exact (rfl : _ = Value.slice _ _ _) | exact (rfl : _ = Value.bool _) | exact (rfl : _ = Value.string _) | exact (rfl : _ = Value.agg _) | exact (rfl : _ = Value.pointer _) | exact (rfl : _ = Value.func _ _ _) | exact (rfl : _ = Value.float _ _) | exact (rfl : _ = Value.tuple _))) | (with_reducible refine yl_nilCheck (by with_unfolding_all exact rfl)) | (with_reducible refine yl_field_z (by with_unfolding_all exact rfl)) | (with_reducible refine yl_field_0 (by with_unfolding_all exact rfl)) | (with_reducible refine yl_field (by with_unfolding_all exact rfl)) | (with_reducible refine yl_load (by with_unfolding_all exact rfl)) | (with_reducible refine yl_load_agg' (by with_unfolding_all exact rfl)) | (with_reducible refine yl_len (by with_unfolding_all exact rfl)) | (with_reducible refine yl_len_str (by with_unfolding_all exact rfl)) | (with_reducible refine yl_add64 (by with_unfolding_all exact rfl) (by with_unfolding_all exact rfl) (by omega)) | (with_reducible refine yl_sub64 (by with_unfolding_all exact rfl) (by with_unfolding_all exact rfl) (by omega)) | (with_reducible refine yl_cmp (by with_unfolding_all exact rfl) (by with_unfolding_all exact rfl) (by with_unfolding_all exact rfl)) | (with_reducible refine yl_extract (by with_unfolding_all exact rfl) (by with_unfolding_all exact rfl)) | (with_reducible refine yl_part (by with_unfolding_all exact rfl) (by with_unfolding_all exact rfl)) | (with_reducible refine yl_not (by with_unfolding_all exact rfl)) | (with_reducible refine yl_max (by with_unfolding_all exact rfl) (by with_unfolding_all exact rfl)) | (with_reducible refine yl_min (by with_unfolding_all exact rfl) (by with_unfolding_all exact rfl)) | (with_reducible refine yl_pick_t (by with_unfolding_all exact rfl) (by with_unfolding_all exact rfl)) | (with_reducible refine yl_pick_f (by with_unfolding_all exact rfl) (by with_unfolding_all exact rfl)) | (with_reducible refine yl_conv_int (by with_unfolding_all exact rfl)) | (with_reducible refine yl_nilCheck_func (by with_unfolding_all exact rfl)) | (with_reducible exact yl_makeFunc) | (with_reducible refine yl_indexAddr_nat (by with_unfolding_all exact rfl) (by with_unfolding_all exact rfl) (by omega)) | (with_reducible refine yl_indexAddr (by with_unfolding_all exact rfl) (by with_unfolding_all exact rfl) (by omega)) | (with_reducible refine yl_slice_hi (by with_unfolding_all exact rfl) (by with_unfolding_all exact rfl) (by omega)) | (with_reducible refine yl_eq_nil_t (by with_unfolding_all exact rfl) (by with_unfolding_all exact rfl)) | (with_reducible refine yl_eq_nil_f (by with_unfolding_all exact rfl) (by with_unfolding_all exact rfl)) | (with_reducible refine yl_eq_nilp_t (by with_unfolding_all exact rfl) (by with_unfolding_all exact rfl)) | (with_reducible refine yl_eq_nilp_f (by with_unfolding_all exact rfl) (by with_unfolding_all exact rfl)) | (with_reducible refine yl_ne_nilp_t (by with_unfolding_all exact rfl) (by with_unfolding_all exact rfl)) | (with_reducible refine yl_ne_nilp_f (by with_unfolding_all exact rfl) (by with_unfolding_all exact rfl))) : HZ P h0 n ops Lq Z (fuel + 1) listed T L Q := z_take i (toList_at hi) hy h ho ho' hs hf hz hr hg hd
theorem zT (i : Nat) [NoPanic Q] (h : HZ P h0 n ops Lq Z fuel (listed.setIfInBounds i true) (putD T o.dst v) L Q)
    (hi : ops.toList[i]? = some o := by with_unfolding_all exact rfl) (ho : zOpen Z listed = true := by kernel_rfl) (ho' : zOpen Z (listed.setIfInBounds i true) = true := by kernel_rfl)
    (hs : Region.noSelect ops = true := by kernel_rfl) (hf : Region.free .any ops listed i = true := by kernel_rfl) (hz : zWaits ops Z listed i = true := by decide +kernel) (hr : (Region.ready .any ops listed).contains i = true := by kernel_rfl)
    (hg : Region.wanted o (yl ops T) = true := by with_unfolding_all exact rfl) (hd : dstOk n o.dst = true := by with_unfolding_all exact rfl)
    (hy : Yl P h0 Lq T o v := by first | ((with_reducible apply yl_move_v); (first | exact (rfl : _ = Value.int _ _) | exact (rfl : _ = Value.pointer (some ⟨_, _, none⟩)) | exact (rfl : _ = Value.slice _ _ _) | exact (rfl : _ = Value.bool _) | exact (rfl : _ = Value.string _) | exact (rfl : _ = Value.agg _) | exact (rfl : _ = Value.pointer _) | exact (rfl : _ = Value.func _ _ _) | exact (rfl : _ = Value.float _ _) | exact (rfl : _ = Value.tuple _))) | ((with_reducible apply yl_assign_v); (first | exact (rfl : _ = Value.int _ _) | exact (rfl : _ = Value.pointer (some ⟨_, _, none⟩)) | exact (rfl : _ = Value.slice _ _ _) | exact (rfl : _ = Value.bool _) | exact (rfl : _ = Value.string _) | exact (rfl : _ = Value.agg _) | exact (rfl : _ = Value.pointer _) | exact (rfl : _ = Value.func _ _ _) | exact (rfl : _ = Value.float _ _) | exact (rfl : _ = Value.tuple _))) | (with_reducible refine yl_nilCheck (by with_unfolding_all exact rfl)) | (with_reducible refine yl_field_z (by with_unfolding_all exact rfl)) | (with_reducible refine yl_field_0 (by with_unfolding_all exact rfl)) | (with_reducible refine yl_field (by with_unfolding_all exact rfl)) | (with_reducible refine yl_load (by with_unfolding_all exact rfl)) | (with_reducible refine yl_load_agg' (by with_unfolding_all exact rfl)) | (with_reducible refine yl_len (by with_unfolding_all exact rfl)) | (with_reducible refine yl_len_str (by with_unfolding_all exact rfl)) | (with_reducible refine yl_add64 (by with_unfolding_all exact rfl) (by with_unfolding_all exact rfl) (by omega)) | (with_reducible refine yl_sub64 (by with_unfolding_all exact rfl) (by with_unfolding_all exact rfl) (by omega)) | (with_reducible refine yl_cmp (by with_unfolding_all exact rfl) (by with_unfolding_all exact rfl) (by with_unfolding_all exact rfl)) | (with_reducible refine yl_extract (by with_unfolding_all exact rfl) (by with_unfolding_all exact rfl)) | (with_reducible refine yl_part (by with_unfolding_all exact rfl) (by with_unfolding_all exact rfl)) | (with_reducible refine yl_not (by with_unfolding_all exact rfl)) | (with_reducible refine yl_max (by with_unfolding_all exact rfl) (by with_unfolding_all exact rfl)) | (with_reducible refine yl_min (by with_unfolding_all exact rfl) (by with_unfolding_all exact rfl)) | (with_reducible refine yl_pick_t (by with_unfolding_all exact rfl) (by with_unfolding_all exact rfl)) | (with_reducible refine yl_pick_f (by with_unfolding_all exact rfl) (by with_unfolding_all exact rfl)) | (with_reducible refine yl_conv_int (by with_unfolding_all exact rfl)) | (with_reducible refine yl_nilCheck_func (by with_unfolding_all exact rfl)) | (with_reducible exact yl_makeFunc) | (with_reducible refine yl_indexAddr_nat (by with_unfolding_all exact rfl) (by with_unfolding_all exact rfl) (by omega)) | (with_reducible refine yl_indexAddr (by with_unfolding_all exact rfl) (by with_unfolding_all exact rfl) (by omega)) | (with_reducible refine yl_slice_hi (by with_unfolding_all exact rfl) (by with_unfolding_all exact rfl) (by omega)) | (with_reducible refine yl_eq_nil_t (by with_unfolding_all exact rfl) (by with_unfolding_all exact rfl)) | (with_reducible refine yl_eq_nil_f (by with_unfolding_all exact rfl) (by with_unfolding_all exact rfl)) | (with_reducible refine yl_eq_nilp_t (by with_unfolding_all exact rfl) (by with_unfolding_all exact rfl)) | (with_reducible refine yl_eq_nilp_f (by with_unfolding_all exact rfl) (by with_unfolding_all exact rfl)) | (with_reducible refine yl_ne_nilp_t (by with_unfolding_all exact rfl) (by with_unfolding_all exact rfl)) | (with_reducible refine yl_ne_nilp_f (by with_unfolding_all exact rfl) (by with_unfolding_all exact rfl))) : HZ P h0 n ops Lq Z (fuel + 1) listed T L Q := z_take i (toList_at hi) hy h ho ho' hs hf hz hr hg hd
theorem zV (i : Nat) [NoPanic Q] (hi : ops.toList[i]? = some o) (hy : Yl P h0 Lq T o v) (h : HZ P h0 n ops Lq Z fuel (listed.setIfInBounds i true) (putD T o.dst v) L Q)
    (ho : zOpen Z listed = true := by kernel_rfl) (ho' : zOpen Z (listed.setIfInBounds i true) = true := by kernel_rfl)
    (hs : Region.noSelect ops = true := by kernel_rfl) (hf : Region.free .any ops listed i = true := by kernel_rfl) (hz : zWaits ops Z listed i = true := by decide +kernel) (hr : (Region.ready .any ops listed).contains i = true := by kernel_rfl)
    (hg : Region.wanted o (yl ops T) = true := by with_unfolding_all exact rfl) (hd : dstOk n o.dst = true := by with_unfolding_all exact rfl) : HZ P h0 n ops Lq Z (fuel + 1) listed T L Q := z_take i (toList_at hi) hy h ho ho' hs hf hz hr hg hd
theorem zK {i : Nat} [NoPanic Q] (h : HZ P h0 n ops Lq Z fuel (listed.setIfInBounds i true) (putD T o.dst undef) L Q)
    (hi0 : nx listed = i := by with_unfolding_all exact rfl) (hi : ops.toList[i]? = some o := by with_unfolding_all exact rfl) (ho : zOpen Z listed = true := by kernel_rfl)
    (hs : Region.noSelect ops = true := by kernel_rfl) (hf : Region.free .any ops listed i = true := by kernel_rfl) (hz : zWaits ops Z listed i = true := by decide +kernel) (hr : (Region.ready .any ops listed).contains i = true := by kernel_rfl)
    (hg : Region.wanted o (yl ops T) = false := by with_unfolding_all exact rfl) (hd : dstOk n o.dst = true := by with_unfolding_all exact rfl) : HZ P h0 n ops Lq Z (fuel + 1) listed T L Q := z_skip i (toList_at hi) h ho hs hf hz hr hg hd
/-- One alone may come: it turns none of the blocks that stay. -/
theorem zO (i : Nat) (h : OW P h0 n ops [o] T L (thenQ (fun T' L' => (∃ Lr, Split L' Lq Lr) ∧ HZ P h0 n ops Lq Z fuel (listed.setIfInBounds i true) T' L' Q) Q))
    (hi : ops.toList[i]? = some o := by with_unfolding_all exact rfl) (hr : Region.ready .any ops listed = [i] := by kernel_rfl) : HZ P h0 n ops Lq Z (fuel + 1) listed T L Q := by
  intro a w ha hw hq
  refine ⟨fun e => (by rw [hr] at e; cases e), fun j hj => ?_⟩
  rw [hr] at hj
  obtain rfl := List.mem_singleton.1 hj
  refine op_of_ow (w0 := w) (toList_at hi) h ha hw fun T' L' a' w' ⟨⟨Lr, hsp⟩, hk⟩ ab s => ?_
  have hq' := s.has.split hsp
  exact ⟨fun _ => hq', wpAnyZ_mono (fun _ _ _ p => Post.step s p) _ _ _ _ (hk a' w' ab s.has (fun _ => hq'))⟩
/-- One of Z alone may come. -/
theorem zE (i : Nat) (h : OW P h0 n ops [o] T L (thenQ (fun T' L' => HZ P h0 n ops Lq Z fuel (listed.setIfInBounds i true) T' L' Q) Q))
    (hi : ops.toList[i]? = some o := by with_unfolding_all exact rfl) (hr : Region.ready .any ops listed = [i] := by kernel_rfl) (hc : Z.contains i = true := by kernel_rfl) (ho : zOpen Z (listed.setIfInBounds i true) = false := by kernel_rfl) : HZ P h0 n ops Lq Z (fuel + 1) listed T L Q := by
  intro a w ha hw hq
  refine ⟨fun e => (by rw [hr] at e; cases e), fun j hj => ?_⟩
  rw [hr] at hj
  obtain rfl := List.mem_singleton.1 hj
  refine op_of_ow (w0 := w) (toList_at hi) h ha hw fun T' L' a' w' hk ab s => ?_
  exact ⟨fun e => (by rw [hc] at e; cases e), wpAnyZ_mono (fun _ _ _ p => Post.step s p) _ _ _ _ (hk a' w' ab s.has (fun e => (by rw [ho] at e; cases e)))⟩
/-- One that reads, alone. -/
theorem zA {i : Nat} [k : Split L Lq Lr] (h : HZ P h0 n ops Lq Z fuel (listed.setIfInBounds i true) (putD T o.dst v) L Q)
    (hi0 : nx listed = i := by with_unfolding_all exact rfl) (hi : ops.toList[i]? = some o := by with_unfolding_all exact rfl) (hr : Region.ready .any ops listed = [i] := by decide +kernel)
    (hg : Region.wanted o (yl ops T) = true := by with_unfolding_all exact rfl) (hd : dstOk n o.dst = true := by with_unfolding_all exact rfl)
    (hy : Yl P h0 L T o v := by first | ((with_reducible apply yl_move_v); (first | exact (rfl : _ = Value.int _ _) | exact (rfl : _ = Value.pointer (some ⟨_, _, none⟩)) | exact (rfl : _ = Value.slice _ _ _) | exact (rfl : _ = Value.bool _) | exact (rfl : _ = Value.string _) | exact (rfl : _ = Value.agg _) | exact (rfl : _ = Value.pointer _) | exact (rfl : _ = Value.func _ _ _) | exact (rfl : _ = Value.float _ _) | exact (rfl : _ = Value.tuple _))) | ((with_reducible apply yl_assign_v); (first | exact (rfl : _ = Value.int _ _) | exact (rfl : _ = Value.pointer (some ⟨_, _, none⟩)) | exact (rfl : _ = Value.slice _ _ _) | exact (rfl : _ = Value.bool _) | exact (rfl : _ = Value.string _) | exact (rfl : _ = Value.agg _) | exact (rfl : _ = Value.pointer _) | exact (rfl : _ = Value.func _ _ _) | exact (rfl : _ = Value.float _ _) | exact (rfl : _ = Value.tuple _))) | (with_reducible refine yl_nilCheck (by with_unfolding_all exact rfl)) | (with_reducible refine yl_field_z (by with_unfolding_all exact rfl)) | (with_reducible refine yl_field_0 (by with_unfolding_all exact rfl)) | (with_reducible refine yl_field (by with_unfolding_all exact rfl)) | (with_reducible refine yl_load (by with_unfolding_all exact rfl)) | (with_reducible refine yl_load_agg' (by with_unfolding_all exact rfl)) | (with_reducible refine yl_len (by with_unfolding_all exact rfl)) | (with_reducible refine yl_len_str (by with_unfolding_all exact rfl)) | (with_reducible refine yl_add64 (by with_unfolding_all exact rfl) (by with_unfolding_all exact rfl) (by omega)) | (with_reducible refine yl_sub64 (by with_unfolding_all exact rfl) (by with_unfolding_all exact rfl) (by omega)) | (with_reducible refine yl_cmp (by with_unfolding_all exact rfl) (by with_unfolding_all exact rfl) (by with_unfolding_all exact rfl)) | (with_reducible refine yl_extract (by with_unfolding_all exact rfl) (by with_unfolding_all exact rfl)) | (with_reducible refine yl_part (by with_unfolding_all exact rfl) (by with_unfolding_all exact rfl)) | (with_reducible refine yl_not (by with_unfolding_all exact rfl)) | (with_reducible refine yl_max (by with_unfolding_all exact rfl) (by with_unfolding_all exact rfl)) | (with_reducible refine yl_min (by with_unfolding_all exact rfl) (by with_unfolding_all exact rfl)) | (with_reducible refine yl_pick_t (by with_unfolding_all exact rfl) (by with_unfolding_all exact rfl)) | (with_reducible refine yl_pick_f (by with_unfolding_all exact rfl) (by with_unfolding_all exact rfl)) | (with_reducible refine yl_conv_int (by with_unfolding_all exact rfl)) | (with_reducible refine yl_nilCheck_func (by with_unfolding_all exact rfl)) | (with_reducible exact yl_makeFunc) | (with_reducible refine yl_indexAddr_nat (by with_unfolding_all exact rfl) (by with_unfolding_all exact rfl) (by omega)) | (with_reducible refine yl_indexAddr (by with_unfolding_all exact rfl) (by with_unfolding_all exact rfl) (by omega)) | (with_reducible refine yl_slice_hi (by with_unfolding_all exact rfl) (by with_unfolding_all exact rfl) (by omega)) | (with_reducible refine yl_eq_nil_t (by with_unfolding_all exact rfl) (by with_unfolding_all exact rfl)) | (with_reducible refine yl_eq_nil_f (by with_unfolding_all exact rfl) (by with_unfolding_all exact rfl)) | (with_reducible refine yl_eq_nilp_t (by with_unfolding_all exact rfl) (by with_unfolding_all exact rfl)) | (with_reducible refine yl_eq_nilp_f (by with_unfolding_all exact rfl) (by with_unfolding_all exact rfl)) | (with_reducible refine yl_ne_nilp_t (by with_unfolding_all exact rfl) (by with_unfolding_all exact rfl)) | (with_reducible refine yl_ne_nilp_f (by with_unfolding_all exact rfl) (by with_unfolding_all exact rfl))) : HZ P h0 n ops Lq Z (fuel + 1) listed T L Q := zO i (ow_yl hy (ow_nil (thenQ_n ⟨⟨_, k⟩, h⟩)) hg hd) hi hr
theorem zP {L' Lr' : List Blk} {T' : Slots} [k : Split L' Lq Lr'] (h : HZ P h0 n ops Lq Z fuel listed T' L' Q) : OW P h0 n ops [] T' L' (thenQ (fun T' L' => (∃ Lr, Split L' Lq Lr) ∧ HZ P h0 n ops Lq Z fuel listed T' L' Q) Q) := ow_nil (thenQ_n ⟨⟨_, k⟩, h⟩)
theorem zQ {L' : List Blk} {T' : Slots} (h : HZ P h0 n ops Lq Z fuel listed T' L' Q) : OW P h0 n ops [] T' L' (thenQ (fun T' L' => HZ P h0 n ops Lq Z fuel listed T' L' Q) Q) := ow_nil (thenQ_n h)
theorem zZ (h : Q .normal T L) (hr : Region.ready .any ops listed = [] := by kernel_rfl) : HZ P h0 n ops Lq Z fuel listed T L Q :=
  fun a w ha hw _ => wpAnyZ_done hr ⟨T, L, h, ha, Step.refl hw⟩ fuel
theorem z_case (t : Nat) {b : Bool} (hb : T t = .bool b) (ht : b = true → HZ P h0 n ops Lq Z fuel listed (upd T t (.bool true)) L Q) (hf : b = false → HZ P h0 n ops Lq Z fuel listed (upd T t (.bool false)) L Q) : HZ P h0 n ops Lq Z fuel listed T L Q := by
  have key : upd T t (.bool b) = T := by
    funext u
    unfold upd
    cases hu : Nat.beq u t with
    | false => rfl
    | true => rw [Nat.eq_of_beq_eq_true hu, hb]; rfl
  cases b with
  | true => have := ht rfl; rwa [key] at this
  | false => have := hf rfl; rwa [key] at this
end
attribute [irreducible] HZ
end Go.Hl
