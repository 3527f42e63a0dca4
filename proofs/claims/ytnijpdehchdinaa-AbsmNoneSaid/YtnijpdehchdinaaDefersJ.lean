/-
  Ways that meet again.
-/
import Derived.Test.YtnijpdehchdinaaTac
set_option linter.unusedVariables false
namespace Go.Hl
/-- Ways that meet again. -/
theorem cw_join {P : Program} {h0 : Array Obj} {n : Nat} {T : Slots} {L : List Blk} {Q : Exit → Slots → List Blk → Prop} {x y : Code} (J : Slots → List Blk → Prop) (h1 : CW P h0 n x T L (thenQ J Q)) (h2 : ∀ T L, J T L → CW P h0 n y T L Q) : CW P h0 n (.seq x y) T L Q :=
  cw_then (cw_mono' h1 fun e T L q => by cases e <;> first | exact h2 _ _ q | exact q)
end Go.Hl
