/-
  Words as numbers, plainly: what package flt makes of them.
-/
import Derived.Laws.FloatArith
import Derived.Laws.Externs
set_option linter.unusedVariables false
set_option linter.unusedSimpArgs false
namespace Go.Fl

def nan : Int := 9221120237041090560
def word (b : Nat) : Int := if Ieee.double.order b b != some .eq then nan else b
def int (n : Int) : Int := word (FloatKind.f64.nearest n)
def res (op : BinOp) (a b r : Nat) : Prop := floatBits op .f64 a b = some r ∨ (floatBits op .f64 a b = none ∧ Ieee.double.order r r = none)
def ar (op : BinOp) (a b : Int) : Int := match floatBits op .f64 a.toNat b.toNat with | some r => word r | none => nan
theorem word_res {op : BinOp} {a b : Int} {r : Nat} (h : res op a.toNat b.toNat r) : word r = ar op a b := by
  unfold ar
  rcases h with h | ⟨h, h2⟩
  · rw [h]
  · rw [h, word, h2]; rfl
def neg (a : Int) : Int := word (Op.negFloat .f64 a.toNat)
def flo (a r : Nat) : Prop := match FloatKind.f64.decode a with
  | .nan .. => Ieee.double.order r r = none
  | d => r = FloatKind.f64.encode (d.integral .down)
def floor (a : Int) : Int := match FloatKind.f64.decode a.toNat with | .nan .. => nan | d => word (FloatKind.f64.encode (d.integral .down))
theorem word_flo {a : Int} {r : Nat} (h : flo a.toNat r) : word r = floor a := by
  unfold flo at h; unfold floor
  split at h
  · rw [word, h]; rfl
  · subst h; rfl
def pick (neg : Bool) (win : Ordering) (x y : Nat) : Nat :=
  let a := FloatKind.f64.decode x
  let b := FloatKind.f64.decode y
  if a == .infinity neg || b == .infinity neg then FloatKind.f64.encode (.infinity neg)
  else if a.isNaN || b.isNaN then 0x7FF8000000000001
  else if a.isZero && b.isZero then (if a.neg == neg then x else y)
  else if a.order b == some win then x else y
def isNaN (b : Nat) : Bool := Ieee.double.order b b != some .eq
def ext (neg : Bool) (win : Ordering) (a b : Int) : Int := if isNaN a.toNat || isNaN b.toNat then nan else word (pick neg win a.toNat b.toNat)
def less (a b : Int) : Bool := Ieee.double.order a.toNat b.toNat == some .lt
def equal (a b : Int) : Bool := Ieee.double.order a.toNat b.toNat == some .eq
def tru (a : Int) : Bool := Ieee.double.order a.toNat 0 != some .eq
def truth (b : Bool) : Int := if b then int 1 else int 0
def two (op a b : Int) : Int :=
  if op = 5 then ar .add a b else if op = 6 then ar .sub a b else if op = 7 then ar .mul a b else if op = 8 then ar .quo a b else if op = 11 then ext true .lt a b else if op = 12 then ext false .gt a b
  else if op = 13 then truth (less a b) else truth (equal a b)
def odd (n : Int) : Int := word ([9221120237041090561, 9218868437227405312, 18442240474082181120, 9223372036854775808, 9218868437227405311, 1].getD n.toNat 0)

/-- The bits that are no number. -/
theorem order_nan (t : Nat) : Ieee.double.order ((t % 2) * 2 ^ 63 + 0x7ff0000000000000 + 1 + (t / 2) % (2 ^ 52 - 1)) ((t % 2) * 2 ^ 63 + 0x7ff0000000000000 + 1 + (t / 2) % (2 ^ 52 - 1)) = none := by
  generalize hr : (t % 2) * 2 ^ 63 + 0x7ff0000000000000 + 1 + (t / 2) % (2 ^ 52 - 1) = r
  have h1 : ∃ s u, Ieee.double.read r = .nan s u := by
    have e1 : Ieee.double.signWeight = 9223372036854775808 := by decide
    have e2 : Ieee.double.infRung = 9218868437227405312 := by decide
    have e3 : Ieee.double.binade = 4503599627370496 := by decide
    unfold Ieee.Format.read
    rw [e1, e2, e3]
    have h2 : t % 2 < 2 := Nat.mod_lt _ (by decide)
    have h3 : t / 2 % (2 ^ 52 - 1) < 2 ^ 52 - 1 := Nat.mod_lt _ (by decide)
    have h4 : 9218868437227405312 < r % 9223372036854775808 := by
      simp only [show (2:Nat) ^ 63 = 9223372036854775808 by decide, show (2:Nat) ^ 52 - 1 = 4503599627370495 by decide] at hr h3
      generalize t / 2 % 4503599627370495 = u at hr h3
      omega
    dsimp only
    rw [if_neg (by omega), if_neg (by omega), if_neg (by omega)]
    exact ⟨_, _, rfl⟩
  obtain ⟨s, u, h1⟩ := h1
  unfold Ieee.Format.order
  rw [h1]; rfl
theorem order_nan_of {r : Nat} {s : Bool} {u : Nat} (h : Ieee.double.read r = .nan s u) : Ieee.double.order r r = none := by unfold Ieee.Format.order; rw [h]; rfl
theorem order_quiet (s : Bool) (t : Nat) : Ieee.double.order (FloatKind.f64.encode (.nan s (FloatKind.f64.format.quiet t))) (FloatKind.f64.encode (.nan s (FloatKind.f64.format.quiet t))) = none := by
  have e1 : Ieee.double.signWeight = 9223372036854775808 := by decide
  have e2 : Ieee.double.infRung = 9218868437227405312 := by decide
  have e3 : Ieee.double.binade = 4503599627370496 := by decide
  have hq : (FloatKind.f64.format.quiet t) % 4503599627370496 ≠ 0 := by
    intro h0
    have h1 : ((FloatKind.f64.format.quiet t) % 2 ^ 52).testBit 51 = true := by
      rw [Nat.testBit_mod_two_pow]
      have : FloatKind.f64.format.quiet t = t ||| 2 ^ 51 := rfl
      rw [this, Nat.testBit_or, Nat.testBit_two_pow_self]; simp
    rw [show (2 : Nat) ^ 52 = 4503599627370496 by decide, h0] at h1
    simp at h1
  have h : ∃ s' u, Ieee.double.read (FloatKind.f64.encode (.nan s (FloatKind.f64.format.quiet t))) = .nan s' u := by
    generalize FloatKind.f64.format.quiet t = q at hq
    have h3 : q % 4503599627370496 < 4503599627370496 := Nat.mod_lt _ (by decide)
    have hw : FloatKind.f64.encode (.nan s q) = (if s then 9223372036854775808 + (9218868437227405312 + q % 4503599627370496) else 9218868437227405312 + q % 4503599627370496) := by
      show Ieee.double.word s (Ieee.double.infRung + q % Ieee.double.binade) = _
      rw [Ieee.Format.word, e1, e2, e3]
    rw [hw]
    generalize q % 4503599627370496 = u at hq h3
    unfold Ieee.Format.read
    rw [e1, e2, e3]
    dsimp only
    have h4 : (if s then 9223372036854775808 + (9218868437227405312 + u) else 9218868437227405312 + u) % 9223372036854775808 = 9218868437227405312 + u := by split <;> omega
    rw [h4, if_neg (by omega), if_neg (by omega), if_neg (by omega)]
    exact ⟨_, _, rfl⟩
  obtain ⟨s', u, h⟩ := h
  exact order_nan_of h
end Go.Fl
