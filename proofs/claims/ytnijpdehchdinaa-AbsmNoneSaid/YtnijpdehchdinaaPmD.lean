/-
  Depths, plainly: what a pass over a code keeps, and what it comes to.
-/
import Derived.Test.YtnijpdehchdinaaPm
set_option linter.unusedVariables false
set_option linter.unusedSimpArgs false
namespace Go.Pm

/-- What is told is told by whatever fits. -/
def Snd (p : Prog) (code : List Instr) (D : List Int) : Prop := ∀ D', Fits p code D' → ∀ k d : Nat, D[k]? = some (d : Int) → D'[k]? = some (d : Int)
def unk (D : List Int) : Nat := D.countP (fun d => decide (d < 0))

structure DI (p : Prog) (code : List Instr) (D : List Int) : Prop where
  len : D.length = code.length
  zero : D[0]? = some 0
  lo : ∀ d ∈ D, -1 ≤ d ∧ d ≤ 8
  snd : Snd p code D

theorem unk_set {D : List Int} {k : Nat} {d v : Int} (h : D[k]? = some d) (hd : d < 0) (hv : 0 ≤ v) : unk (D.set k v) < unk D := by
  unfold unk
  induction D generalizing k with
  | nil => simp at h
  | cons x l ih =>
    cases k with
    | zero =>
      simp only [List.getElem?_cons_zero, Option.some.injEq] at h
      subst h
      have h1 : ¬ v < 0 := by omega
      simp [List.countP_cons, hd, h1]
    | succ k =>
      simp only [List.getElem?_cons_succ] at h
      simp only [List.set_cons_succ, List.countP_cons]
      have := ih h
      omega

/-- Beginning. -/
theorem DI.init {p : Prog} {code : List Instr} {D : List Int} (hl : D.length = code.length) (h0 : D[0]? = some 0) (h1 : ∀ k, 1 ≤ k → k < code.length → D[k]? = some (-1)) : DI p code D := by
  refine ⟨hl, h0, ?_, ?_⟩
  · intro d hd
    obtain ⟨k, hk⟩ := List.getElem?_of_mem hd
    have hkl := (List.getElem?_eq_some_iff.1 hk).1
    rcases Nat.eq_zero_or_pos k with rfl | hp
    · rw [h0] at hk; cases hk; omega
    · rw [h1 k hp (by omega)] at hk; cases hk; omega
  · intro D' hf k d hk
    have hkl := (List.getElem?_eq_some_iff.1 hk).1
    rcases Nat.eq_zero_or_pos k with rfl | hp
    · rw [h0] at hk; rw [← hk]; exact hf.zero
    · rw [h1 k hp (by omega)] at hk; cases hk

theorem behind_lo {p : Prog} {d : Int} {i : Instr} (h : pops p i ≤ d) : 0 ≤ behind p d i := by
  have := pushes_le i
  unfold behind; omega

/-- A place more. -/
theorem DI.put {p : Prog} {code : List Instr} {D : List Int} (h : DI p code D) {at_ : Nat} {i : Instr} {d : Nat} (hi : code[at_]? = some i) (hd : D[at_]? = some (d : Int)) (hpo : pops p i ≤ d) (hb : behind p d i ≤ 8)
    {t : Int} (ht : t ∈ next at_ i) {u : Int} (hu : D[t.toNat]? = some u) (hu0 : u < 0) : DI p code (D.set t.toNat (behind p d i)) := by
  have hlo := behind_lo hpo
  refine ⟨by simp [h.len], ?_, ?_, ?_⟩
  · rcases Nat.eq_zero_or_pos t.toNat with h0 | hp
    · rw [h0, h.zero] at hu; cases hu; omega
    · rw [List.getElem?_set_ne (by omega)]; exact h.zero
  · intro x hx
    rcases List.mem_or_eq_of_mem_set hx with hx | rfl
    · exact h.lo x hx
    · omega
  · intro D' hf k e hk
    by_cases hkt : t.toNat = k
    · subst hkt
      have hlt := (List.getElem?_eq_some_iff.1 hu).1
      rw [List.getElem?_set_self hlt] at hk
      simp only [Option.some.injEq] at hk
      have hlt2 := (List.getElem?_eq_some_iff.1 hi).1
      have := hf.at_ at_ hlt2 i d hi (h.snd D' hf at_ d hd) (by omega)
      rw [← hk]
      exact (this.2.2 t ht).2
    · rw [List.getElem?_set_ne hkt] at hk
      exact h.snd D' hf k e hk

/-- All places have been seen, nothing fresh. -/
theorem DI.fits {p : Prog} {code : List Instr} {D : List Int} (h : DI p code D) (ha : ∀ k, k < code.length → FitsAt p code D k) : Fits p code D := ⟨h.len, h.zero, fun d hd => (h.lo d hd).1, ha⟩
/-- Where nothing can fit. -/
theorem DI.bad {p : Prog} {code : List Instr} {D : List Int} (h : DI p code D) {at_ : Nat} {i : Instr} {d : Nat} (hi : code[at_]? = some i) (hd : D[at_]? = some (d : Int)) (hb : d < pops p i ∨ 8 < behind p d i) : ¬ ∃ D', Fits p code D' := by
  rintro ⟨D', hf⟩
  have := hf.at_ at_ (List.getElem?_eq_some_iff.1 hi).1 i d hi (h.snd D' hf at_ d hd) (by omega)
  omega
theorem DI.bad_to {p : Prog} {code : List Instr} {D : List Int} (h : DI p code D) {at_ : Nat} {i : Instr} {d : Nat} (hi : code[at_]? = some i) (hd : D[at_]? = some (d : Int)) {t : Int} (ht : t ∈ next at_ i)
    (hb : (code.length : Int) ≤ t ∨ ∃ u : Int, D[t.toNat]? = some u ∧ 0 ≤ u ∧ u ≠ behind p d i) : ¬ ∃ D', Fits p code D' := by
  rintro ⟨D', hf⟩
  have := (hf.at_ at_ (List.getElem?_eq_some_iff.1 hi).1 i d hi (h.snd D' hf at_ d hd) (by omega)).2.2 t ht
  rcases hb with hb | ⟨u, hu, hu0, hne⟩
  · omega
  · obtain ⟨v, rfl⟩ := Int.eq_ofNat_of_zero_le hu0
    have h2 := h.snd D' hf t.toNat v hu
    rw [this.2] at h2
    simp only [Option.some.injEq] at h2
    exact hne h2.symm
/-- What is told at a place is told by all that fits. -/
theorem Fits.same {p : Prog} {code : List Instr} {D D' : List Int} (h : Snd p code D) (hf : Fits p code D') {k : Nat} {d : Int} (hk : D[k]? = some d) (hd : 0 ≤ d) : D'[k]? = some d := by
  obtain ⟨v, rfl⟩ := Int.eq_ofNat_of_zero_le hd
  exact h D' hf k v hk
theorem next_lo {at_ : Nat} {i : Instr} (h : i.op = 15 ∨ i.op = 16 → 0 ≤ i.a) : ∀ t ∈ next at_ i, 0 ≤ t := by
  intro t ht
  unfold next at ht
  split at ht
  · simp at ht
  split at ht
  · simp at ht; subst ht; exact h (.inl (by assumption))
  split at ht
  · simp at ht; rcases ht with rfl | rfl
    · exact h (.inr (by assumption))
    · omega
  · simp at ht; omega
theorem next_len (at_ : Int) (i : Instr) : (next at_ i).length ≤ 2 := by
  unfold next; repeat' split
  all_goals simp
theorem next_hi {at_ : Int} {i : Instr} (h : at_ < 1000) (ha : i.a < 1000) : ∀ t ∈ next at_ i, t ≤ 1000 := by
  intro t ht
  unfold next at ht
  split at ht
  · simp at ht
  split at ht
  · simp at ht; omega
  split at ht
  · simp at ht; omega
  · simp at ht; omega
end Go.Pm
