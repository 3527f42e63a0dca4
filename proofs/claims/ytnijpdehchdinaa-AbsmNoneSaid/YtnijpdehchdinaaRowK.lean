/-
  Rows of a block, by their number.
-/
import Derived.Test.YtnijpdehchdinaaPgF
set_option linter.unusedVariables false
set_option linter.unusedSimpArgs false
namespace Go.Hl
/-- So many cells. -/
class LenIs (A : List Value) (n : Nat) : Prop where
  len : A.length = n
variable {A M M' : List Value} {i s j : Nat} {v : Value}
instance rowAt [h : LenIs A (i * s)] [k : At M j v] : At (A ++ M) (0 + i * s + j) v := at_row h.len k.at_
instance rowAt0 [h : LenIs A (i * s)] [k : At M 0 v] : At (A ++ M) (0 + i * s) v := at_row (j := 0) h.len k.at_
instance rowSet [h : LenIs A (i * s)] [k : SetAt M j v M'] : SetAt (A ++ M) (0 + i * s + j) v (A ++ M') := set_row h.len k
instance rowSet0 [h : LenIs A (i * s)] [k : SetAt M 0 v M'] : SetAt (A ++ M) (0 + i * s) v (A ++ M') := set_row (j := 0) h.len k
instance rowStretch {n : Nat} {vs : List Value} [h : LenIs A (i * s)] [k : Stretch M 0 n vs] : Stretch (A ++ M) (0 + i * s) n vs := ⟨k.len, fun u w hw => by
  have := k.at_ u w hw
  rw [Nat.zero_add] at this
  exact (at_row (j := u) h.len this).at_⟩
instance (priority := low) stLeft {b : Nat} {cs : List Value} {e : TypeId} {A L : List Blk} {mk : List Value → List Blk} [k : St A b cs e mk] : St (A ++ L) b cs e (fun cs' => mk cs' ++ L) := ⟨by
  obtain ⟨X, Y, h1, h2⟩ := k.eq
  exact ⟨X, Y ++ L, by rw [h1]; simp, fun cs' => by rw [h2]; simp⟩⟩
theorem at_row2 {R : List Value} (hA : (A ++ R).length = i * s) (h : M[j]? = some v) : At (A ++ (R ++ M)) (0 + i * s + j) v := by rw [← List.append_assoc]; exact at_row hA h

end Go.Hl
