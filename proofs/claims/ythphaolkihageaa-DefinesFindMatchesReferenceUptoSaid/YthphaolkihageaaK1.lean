/- What all laws of this seat share: the program's facts, the count of the rows. -/
import Derived.Test.YthphaolkihageaaRows
import Derived.Test.YthphaolkihageaaB3
import Derived.WalkKit
import Derived.ProofKit
import Derived.OpenShut
import Derived.JoinedCond
namespace Go.Proofs.Ythphaolkihageaa.law
open Go.ChangeShapes Go.WideShapes Go.ChangeAt Go.RowKit Go.AL

theorem own : ownKnob Try.prog.godebug = none := by kernel_rfl
theorem mixed : Try.prog.follows .mixedOrders = true := by kernel_rfl
theorem bulk {H : Type} : BK (H := H) Rows.uptoBulk Rows.uptoBulkAll where
  slice e s := by simp only [Rows.uptoBulk]; omega
  str s := by simp [Rows.uptoBulk]
  agg ps := by simp only [Rows.uptoBulk]; omega
  nil := by simp [Rows.uptoBulkAll]
  cons d r := by simp [Rows.uptoBulkAll]
  one d := by
    cases d with
    | lit l => cases l <;> simp [Rows.uptoBulk]
    | _ => simp [Rows.uptoBulk]
theorem small {H : Type} {l : List (DataW H)} (hk : Rows.uptoSmall H l = true) : Rows.uptoBulkAll l ≤ 1048576 := of_decide_eq_true hk
end Go.Proofs.Ythphaolkihageaa.law
