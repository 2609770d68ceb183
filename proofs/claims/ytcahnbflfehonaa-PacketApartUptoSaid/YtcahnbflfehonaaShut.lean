/-
  Facts on the whole program that every row asks.
-/
import Derived.Test.YtcahnbflfehonaaBase
namespace Go.Proofs.Ytcahnbflfehonaa
open Go Go.RowKit

theorem band {a b : Bool} (h1 : a = true) (h2 : b = true) : (a && b) = true := by rw [h1, h2]; rfl
theorem maps_rowed : mapsRowed Try.prog = true := by kernel_rfl
theorem may_enter : Try.prog.mayEnter = true := by kernel_rfl
end Go.Proofs.Ytcahnbflfehonaa
