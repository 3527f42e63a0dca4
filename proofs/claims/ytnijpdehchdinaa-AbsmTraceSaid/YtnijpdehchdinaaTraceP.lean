/-
  What a trace keeps, plainly.
-/
import Derived.Test.YtnijpdehchdinaaPlain
set_option linter.unusedVariables false
set_option linter.unusedSimpArgs false
namespace Go.Am
open Go.Pm
/-- The trace goes on by marks of a machine that goes on. -/
def TrOn (m r : Mach) : Prop := ∃ l, r.trace = m.trace ++ l ∧ r.ended = m.ended ∧ ∀ e ∈ l, e.1 = 1 ∨ e.1 = 2
theorem TrOn.ite {m : Mach} {c : Prop} [Decidable c] {a b : Mach} (h1 : TrOn m a) (h2 : TrOn m b) : TrOn m (if c then a else b) := by split <;> assumption
theorem TrOn.same {m r : Mach} (h1 : r.trace = m.trace) (h2 : r.ended = m.ended) : TrOn m r := ⟨[], by simp [h1], h2, by simp⟩
theorem TrOn.one {m r : Mach} {k w : Int} (h1 : r.trace = m.trace ++ [(k, w)]) (h2 : r.ended = m.ended) (h3 : k = 1 ∨ k = 2) : TrOn m r := ⟨[(k, w)], h1, h2, by simpa using h3⟩
theorem act_tr (p : Prog) (m : Mach) (x : Frm) (fs : List Frm) (i : Instr) (l : List Int) : TrOn m (act p m x fs i l) := by
  have hrec : TrOn m (push (recover { m with frames := x :: fs }).1 (recover { m with frames := x :: fs }).2) := by
    unfold recover
    cases fs with
    | nil => exact TrOn.same rfl rfl
    | cons y r =>
      dsimp only
      split
      · exact TrOn.one rfl rfl (.inr rfl)
      · exact TrOn.same rfl rfl
  unfold act
  dsimp only
  repeat' (refine TrOn.ite ?_ ?_)
  all_goals first | exact hrec | exact TrOn.same rfl rfl | exact TrOn.one rfl rfl (.inl rfl)
theorem run_tr (p : Prog) (m : Mach) : TrOn m (run p m) := by
  unfold run
  split
  · exact TrOn.same rfl rfl
  · exact act_tr p m _ _ _ _
theorem leave_tr (p : Prog) (m : Mach) : TrOn m (leave p m) ∨ ∃ k w, (leave p m).trace = m.trace ++ [(k, w)] ∧ (k = 3 ∨ k = 4) ∧ (leave p m).ended = true := by
  unfold leave
  split
  · exact .inl (TrOn.same rfl rfl)
  · split
    · exact .inl (TrOn.same rfl rfl)
    · dsimp only
      split
      · exact .inr ⟨_, _, rfl, by split <;> simp, rfl⟩
      · refine .inl ?_
        repeat' (refine TrOn.ite ?_ ?_)
        all_goals exact TrOn.same rfl rfl
theorem step_tr (p : Prog) (m : Mach) : TrOn m (step p m).2 ∨ (m.ended = false ∧ ∃ k w, (step p m).2.trace = m.trace ++ [(k, w)] ∧ (k = 3 ∨ k = 4) ∧ (step p m).2.ended = true) := by
  unfold step
  split
  · exact .inl (TrOn.same rfl rfl)
  · rename_i he
    split
    · exact .inl (TrOn.same rfl rfl)
    · split
      · exact .inl (TrOn.same rfl rfl)
      · split
        · split
          · exact .inl (run_tr p m)
          · rcases leave_tr p m with h | h
            · exact .inl h
            · exact .inr ⟨by simpa using he, h⟩
        · exact .inl (TrOn.same rfl rfl)
theorem step_pre (p : Prog) (m : Mach) : m.trace <+: (step p m).2.trace := by
  rcases step_tr p m with ⟨l, h, _⟩ | ⟨_, k, w, h, _⟩ <;> rw [h] <;> exact List.prefix_append ..
theorem playN_pre (p : Prog) : ∀ (n : Nat) (m : Mach), m.trace <+: (playN p n m).trace
  | 0, _ => List.prefix_refl _
  | n + 1, m => (step_pre p { m with parked := false }).trans (playN_pre p n _)
/-- The marks of a trace: the last one tells the end. -/
structure TrOk (m : Mach) : Prop where
  on : m.ended = false → ∀ e ∈ m.trace, e.1 = 1 ∨ e.1 = 2
  off : m.ended = true → ∃ l k w, m.trace = l ++ [(k, w)] ∧ (k = 3 ∨ k = 4) ∧ ∀ e ∈ l, e.1 = 1 ∨ e.1 = 2
theorem TrOk.new (f : Int) : TrOk (new f) := ⟨fun _ e he => (by cases he), nofun⟩
theorem TrOk.wake {m : Mach} (h : TrOk m) : TrOk { m with parked := false } := ⟨h.on, h.off⟩
theorem step_dead {p : Prog} {m : Mach} (h : m.ended = true) : step p m = (7, m) := by unfold step; rw [if_pos h]
theorem TrOk.step {p : Prog} {m : Mach} (h : TrOk m) : TrOk (step p m).2 := by
  cases he : m.ended with
  | true => rw [step_dead he]; exact h
  | false =>
    rcases step_tr p m with ⟨l, h1, h2, h3⟩ | ⟨_, k, w, h1, h2, h3⟩
    · refine ⟨fun _ e hm => ?_, fun h4 => ?_⟩
      · rw [h1] at hm
        rcases List.mem_append.1 hm with hm | hm
        · exact h.on he e hm
        · exact h3 e hm
      · rw [h2, he] at h4; cases h4
    · refine ⟨fun h4 => ?_, fun _ => ⟨_, k, w, h1, h2, h.on he⟩⟩
      rw [h3] at h4; cases h4
theorem playN_trok {p : Prog} : ∀ (n : Nat) {m : Mach}, TrOk m → TrOk (playN p n m)
  | 0, _, h => h
  | n + 1, _, h => playN_trok n h.wake.step
theorem wake_dead {p : Prog} {D : Nat → List Int} {m : Mach} (h : Inv p D m) (he : m.ended = true) : { m with parked := false } = m := by
  have := (h.over he).2
  cases m; simp_all
theorem playN_dead {p : Prog} {D : Nat → List Int} {m : Mach} (h : Inv p D m) (he : m.ended = true) : ∀ n, playN p n m = m
  | 0 => rfl
  | n + 1 => by rw [playN, wake_dead h he, step_dead he]; exact playN_dead h he n
/-- What is asked of mark number i. -/
theorem TrOk.at_ {m : Mach} (h : TrOk m) {i : Nat} {e : Int × Int} (hi : m.trace[i]? = some e) : 1 ≤ e.1 ∧ e.1 ≤ 4 ∧ (decide (e.1 = 3 ∨ e.1 = 4) = (m.ended && decide ((i : Int) = (m.trace.length : Int) - 1))) := by
  have hlt := (List.getElem?_eq_some_iff.1 hi).1
  cases he : m.ended with
  | false =>
    have := h.on he e (List.mem_of_getElem? hi)
    refine ⟨by omega, by omega, ?_⟩
    rw [Bool.false_and]; exact decide_eq_false (by omega)
  | true =>
    obtain ⟨l, k, w, h1, h2, h3⟩ := h.off he
    rw [h1] at hi hlt ⊢
    rw [Bool.true_and]
    simp only [List.length_append, List.length_singleton] at hlt ⊢
    by_cases hl : i < l.length
    · rw [List.getElem?_append_left hl] at hi
      have := h3 e (List.mem_of_getElem? hi)
      refine ⟨by omega, by omega, ?_⟩
      rw [decide_eq_decide]; omega
    · obtain rfl : i = l.length := by omega
      simp at hi
      subst hi
      refine ⟨by dsimp only; omega, by dsimp only; omega, ?_⟩
      rw [decide_eq_decide]
      constructor
      · intro _; omega
      · intro _; exact h2
end Go.Am
