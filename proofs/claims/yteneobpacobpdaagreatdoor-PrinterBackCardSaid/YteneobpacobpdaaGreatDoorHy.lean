/-
  A short name for hiding a fact.
-/
import Derived.Lib.Hide
namespace Go.Proofs.YteneobpacobpdaaGreatDoor
open Go.RowKit
theorem h_ {p : Prop} (h : p) : Hid p := Lib.hid h
end Go.Proofs.YteneobpacobpdaaGreatDoor
