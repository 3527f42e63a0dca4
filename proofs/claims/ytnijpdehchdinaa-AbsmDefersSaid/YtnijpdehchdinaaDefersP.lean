/-
  What the program of AbsmDefers does, plainly.
-/
import Derived.Test.YtnijpdehchdinaaPlain
set_option linter.unusedVariables false
set_option linter.unusedSimpArgs false
namespace Go.Am
open Go.Pm
def dfPre (xs : List Int) : List Instr := xs.flatMap fun a => [⟨1, a, 0⟩, ⟨19, 1, 0⟩]
theorem dfPre_length (xs : List Int) : (dfPre xs).length = 2 * xs.length := by
  induction xs with
  | nil => rfl
  | cons a l ih => unfold dfPre at *; rw [List.flatMap_cons, List.length_append, ih]; simp; omega
def dfCode (xs : List Int) (v : Int) (falls : Bool) : List Instr := dfPre xs ++ [⟨1, v, 0⟩, ⟨if falls then 20 else 18, 0, 0⟩]
def dfOut : Pm.Func := ⟨1, 1, 0, [⟨3, 0, 0⟩, ⟨22, 0, 0⟩, ⟨3, 0, 0⟩, ⟨18, 0, 0⟩]⟩
def dfProg (xs : List Int) (v : Int) (falls : Bool) : Prog := [⟨0, 0, 0, dfCode xs v falls⟩, dfOut]
def dfWant (xs : List Int) (v : Int) (falls : Bool) : List (Int × Int) := (xs.take 4).reverse.map (fun a => (1, Fl.int a)) ++ [if xs.length = 5 then (4, Fl.odd 1) else (if falls then 4 else 3, Fl.int v)]

theorem df_end (xs : List Int) (v : Int) (falls : Bool) (h : xs.length ≤ 5) : (playN (dfProg xs v falls) 100 (new 0)).ended = true ∧ (playN (dfProg xs v falls) 100 (new 0)).trace = dfWant xs v falls := by
  match xs, falls, h with
  | [], true, _ => exact ⟨by kernel_rfl, by kernel_rfl⟩
  | [], false, _ => exact ⟨by kernel_rfl, by kernel_rfl⟩
  | [a], true, _ => exact ⟨by kernel_rfl, by kernel_rfl⟩
  | [a], false, _ => exact ⟨by kernel_rfl, by kernel_rfl⟩
  | [a, b], true, _ => exact ⟨by kernel_rfl, by kernel_rfl⟩
  | [a, b], false, _ => exact ⟨by kernel_rfl, by kernel_rfl⟩
  | [a, b, c], true, _ => exact ⟨by kernel_rfl, by kernel_rfl⟩
  | [a, b, c], false, _ => exact ⟨by kernel_rfl, by kernel_rfl⟩
  | [a, b, c, d], true, _ => exact ⟨by kernel_rfl, by kernel_rfl⟩
  | [a, b, c, d], false, _ => exact ⟨by kernel_rfl, by kernel_rfl⟩
  | [a, b, c, d, e], true, _ => exact ⟨by kernel_rfl, by kernel_rfl⟩
  | [a, b, c, d, e], false, _ => exact ⟨by kernel_rfl, by kernel_rfl⟩
  | _ :: _ :: _ :: _ :: _ :: _ :: _, _, h => simp at h

theorem div_nought : Fl.ar .quo (Fl.int 1) (Fl.int 0) = Fl.odd 1 := by kernel_rfl
theorem df_goes (xs : List Int) (v : Int) (falls : Bool) : goesOn (dfProg xs v falls) 0 (dfCode xs v falls) := by
  have hp : ∀ a b : Int, pops (dfProg xs v falls) ⟨1, a, b⟩ = 0 := fun a b => rfl
  have hd : pops (dfProg xs v falls) ⟨19, 1, 0⟩ = 1 := rfl
  have key : ∀ ys : List Int, goesOn (dfProg xs v falls) 0 (dfCode ys v falls) := by
    intro ys
    induction ys with
    | nil => cases falls <;> simp [dfCode, dfPre, goesOn, behind, pops, pushes]
    | cons a ys ih =>
      have hne : ∃ i r, dfCode ys v falls = i :: r := by
        cases h : dfCode ys v falls with
        | nil => simp [dfCode] at h
        | cons i r => exact ⟨i, r, rfl⟩
      obtain ⟨i, r, hir⟩ := hne
      have e : dfCode (a :: ys) v falls = ⟨1, a, 0⟩ :: ⟨19, 1, 0⟩ :: i :: r := by rw [← hir]; rfl
      rw [e]
      rw [hir] at ih
      refine ⟨by simp, by rw [hp]; omega, by unfold behind; rw [hp]; simp [pushes], ?_⟩
      have eb : behind (dfProg xs v falls) 0 ⟨1, a, 0⟩ = 1 := by unfold behind; rw [hp]; simp [pushes]
      rw [eb]
      have eb2 : behind (dfProg xs v falls) 1 ⟨19, 1, 0⟩ = 0 := by unfold behind; rw [hd]; simp [pushes]
      exact ⟨by simp, by rw [hd]; omega, by rw [eb2]; omega, by rw [eb2]; exact ih⟩
  exact key xs
theorem dfCode_length (xs : List Int) (v : Int) (falls : Bool) : (dfCode xs v falls).length = 2 * xs.length + 2 := by
  unfold dfCode
  rw [List.length_append, dfPre_length]
  simp
theorem df_valid (xs : List Int) (v : Int) (falls : Bool) (h : xs.length ≤ 5) (hx : ∀ a ∈ xs, -2147483648 ≤ a ∧ a ≤ 2147483648) (hv : -2147483648 ≤ v ∧ v ≤ 2147483648) : Valid (dfProg xs v falls) := by
  have hl := dfCode_length xs v falls
  refine ⟨by simp [dfProg], by simp [dfProg], ?_, ?_, ?_⟩
  · intro f hf
    simp only [dfProg, List.mem_cons, List.not_mem_nil, or_false] at hf
    rcases hf with rfl | rfl
    · simp [sized, hl]; omega
    · decide
  · intro f hf i hi
    simp only [dfProg, List.mem_cons, List.not_mem_nil, or_false] at hf
    rcases hf with rfl | rfl
    · simp only [dfCode, dfPre, List.mem_append, List.mem_flatMap, List.mem_cons, List.not_mem_nil, or_false] at hi
      rcases hi with ⟨a, ha, rfl | rfl⟩ | rfl | rfl
      · have := hx a ha; simp [shaped]; omega
      · simp [shaped, within, dfProg]
      · simp [shaped]; omega
      · cases falls <;> simp [shaped]
    · simp [dfOut] at hi
      rcases hi with rfl | rfl | rfl | rfl <;> simp [shaped, within, dfOut]
  · intro f hf
    simp only [dfProg, List.mem_cons, List.not_mem_nil, or_false] at hf
    rcases hf with rfl | rfl
    · exact ⟨_, fits_on (df_goes xs v falls)⟩
    · exact ⟨_, fits_on (by simp [dfOut, goesOn, behind, pops, pushes])⟩
end Go.Am
