/-
  Plain facts of programs without jumps, and of machines that are played.
-/
import Derived.Test.YtnijpdehchdinaaInv
set_option linter.unusedVariables false
set_option linter.unusedSimpArgs false
namespace Go.Pm
/-- A code without jumps, from a depth on. -/
def goesOn (p : Prog) : Int → List Instr → Prop
  | _, [] => False
  | d, [i] => (i.op = 18 ∨ i.op = 20) ∧ pops p i ≤ d ∧ behind p d i ≤ 8
  | d, i :: r => (i.op ≠ 15 ∧ i.op ≠ 16 ∧ i.op ≠ 18 ∧ i.op ≠ 20) ∧ pops p i ≤ d ∧ behind p d i ≤ 8 ∧ goesOn p (behind p d i) r
def depthsOn (p : Prog) : Int → List Instr → List Int
  | _, [] => []
  | d, i :: r => d :: depthsOn p (behind p d i) r
theorem depthsOn_length (p : Prog) : ∀ (d : Int) (c : List Instr), (depthsOn p d c).length = c.length
  | _, [] => rfl
  | d, i :: r => by simp [depthsOn, depthsOn_length p _ r]
theorem depthsOn_zero (p : Prog) (d : Int) {c : List Instr} (h : c ≠ []) : (depthsOn p d c)[0]? = some d := by
  cases c with
  | nil => exact absurd rfl h
  | cons i r => rfl
theorem goesOn_fits (p : Prog) : ∀ (d : Int) (c : List Instr), 0 ≤ d → goesOn p d c → (∀ e ∈ depthsOn p d c, -1 ≤ e) ∧
    ∀ k i e, c[k]? = some i → (depthsOn p d c)[k]? = some e → pops p i ≤ e ∧ behind p e i ≤ 8 ∧ (i.op = 18 ∨ i.op = 20 ∨ (i.op ≠ 15 ∧ i.op ≠ 16 ∧ i.op ≠ 18 ∧ i.op ≠ 20 ∧ k + 1 < c.length ∧ (depthsOn p d c)[k + 1]? = some (behind p e i)))
  | _, [], _, h => h.elim
  | d, [i], h0, h => by
    obtain ⟨h1, h2, h3⟩ := h
    refine ⟨by simp [depthsOn]; omega, fun k j e hj he => ?_⟩
    cases k with
    | zero =>
      simp [depthsOn] at hj he
      subst hj; subst he
      exact ⟨h2, h3, by omega⟩
    | succ k => simp at hj
  | d, i :: j :: r, h0, h => by
    obtain ⟨h1, h2, h3, h4⟩ := h
    have hp := pushes_le i
    have ih := goesOn_fits p (behind p d i) (j :: r) (by unfold behind; omega) h4
    refine ⟨fun e he => ?_, fun k x e hx he => ?_⟩
    · rw [depthsOn] at he
      rcases List.mem_cons.1 he with rfl | he
      · omega
      · exact ih.1 e he
    · cases k with
      | zero =>
        simp [depthsOn] at hx he
        subst hx; subst he
        exact ⟨h2, h3, .inr (.inr ⟨h1.1, h1.2.1, h1.2.2.1, h1.2.2.2, by simp, by simp [depthsOn]⟩)⟩
      | succ k =>
        rw [List.getElem?_cons_succ] at hx
        rw [depthsOn, List.getElem?_cons_succ] at he
        obtain ⟨g1, g2, g3⟩ := ih.2 k x e hx he
        refine ⟨g1, g2, ?_⟩
        rcases g3 with g | g | ⟨a1, a2, a3, a4, a5, a6⟩
        · exact .inl g
        · exact .inr (.inl g)
        · exact .inr (.inr ⟨a1, a2, a3, a4, by simpa using a5, by rw [depthsOn, List.getElem?_cons_succ]; exact a6⟩)
theorem fits_on {p : Prog} {c : List Instr} (h : goesOn p 0 c) : Fits p c (depthsOn p 0 c) := by
  have hne : c ≠ [] := by intro e; rw [e] at h; exact h
  obtain ⟨h1, h2⟩ := goesOn_fits p 0 c (Int.le_refl _) h
  refine ⟨depthsOn_length _ _ _, depthsOn_zero _ _ hne, h1, fun k hk i d hi hd _ => ?_⟩
  obtain ⟨g1, g2, g3⟩ := h2 k i d hi hd
  refine ⟨g1, g2, fun t ht => ?_⟩
  rcases g3 with g | g | ⟨a1, a2, a3, a4, a5, a6⟩
  · simp [next, g] at ht
  · simp [next, g] at ht
  · rw [next, if_neg (by omega), if_neg a1, if_neg a2] at ht
    obtain rfl := List.mem_singleton.1 ht
    refine ⟨by omega, ?_⟩
    rw [← a6]; congr 1
end Go.Pm
namespace Go.Am
open Go.Pm
/-- So many acts, woken ahead of each. -/
def playN (p : Prog) : Nat → Mach → Mach
  | 0, m => m
  | n + 1, m => playN p n (step p { m with parked := false }).2
theorem playN_succ (p : Prog) : ∀ (n : Nat) (m : Mach), playN p (n + 1) m = (step p { playN p n m with parked := false }).2
  | 0, _ => rfl
  | n + 1, m => playN_succ p n _
theorem playN_add (p : Prog) (a : Nat) : ∀ (b : Nat) (m : Mach), playN p (b + a) m = playN p a (playN p b m)
  | 0, m => by rw [Nat.zero_add]; rfl
  | b + 1, m => by rw [Nat.add_right_comm]; exact playN_add p a b _
def LenOk (m : Mach) (fs : List Frm) (r : Mach) : Prop := r.trace.length ≤ m.trace.length + 1 ∧ r.frames.length ≤ fs.length + 2
theorem LenOk.ite {m : Mach} {fs : List Frm} {c : Prop} [Decidable c] {a b : Mach} (h1 : LenOk m fs a) (h2 : LenOk m fs b) : LenOk m fs (if c then a else b) := by split <;> assumption
theorem act_len (p : Prog) (m : Mach) (x : Frm) (fs : List Frm) (i : Instr) (l : List Int) : LenOk m fs (act p m x fs i l) := by
  have hrec : LenOk m fs (push (recover { m with frames := x :: fs }).1 (recover { m with frames := x :: fs }).2) := by
    unfold recover LenOk
    cases fs with
    | nil => simp [push]
    | cons y r =>
      dsimp only
      split <;> simp [push, mark]
  unfold act
  dsimp only
  repeat' (refine LenOk.ite ?_ ?_)
  all_goals first | exact hrec | (unfold LenOk; simp [mark] <;> omega) | (unfold LenOk; simp [mark])
theorem run_len (p : Prog) (m : Mach) : (run p m).trace.length ≤ m.trace.length + 1 ∧ (run p m).frames.length ≤ m.frames.length + 1 := by
  unfold run
  split
  · rename_i h; omega
  · rename_i x fs h
    have := act_len p m (left p x) fs (instr p x) (taken p x)
    unfold LenOk at this
    rw [h]; simp; omega
theorem leave_len (p : Prog) (m : Mach) : (leave p m).trace.length ≤ m.trace.length + 1 ∧ (leave p m).frames.length ≤ m.frames.length + 1 := by
  unfold leave
  split
  · omega
  · rename_i x fs h
    rw [h]
    split
    · simp
    · dsimp only
      repeat' split
      all_goals simp [mark] <;> omega
theorem step_len (p : Prog) (m : Mach) : (step p m).2.trace.length ≤ m.trace.length + 1 ∧ (step p m).2.frames.length ≤ m.frames.length + 1 := by
  unfold step
  have h1 := run_len p m
  have h2 := leave_len p m
  repeat' split
  all_goals first | exact h1 | exact h2 | simp
theorem playN_len (p : Prog) : ∀ (n : Nat) (m : Mach), (playN p n m).trace.length ≤ m.trace.length + n ∧ (playN p n m).frames.length ≤ m.frames.length + n
  | 0, m => by simp [playN]
  | n + 1, m => by
    have h1 := step_len p { m with parked := false }
    have h2 := playN_len p n (step p { m with parked := false }).2
    rw [playN]
    simp only at h1
    omega
theorem playN_inv {p : Prog} {D : Nat → List Int} : ∀ (n : Nat) {m : Mach}, Inv p D m → Inv p D (playN p n m)
  | 0, _, h => h
  | n + 1, _, h => playN_inv n (step_inv h.wake)
end Go.Am
