/-
  Facts on the whole program that every row asks.
-/
import Derived.Test.YtchhhjlpnecjkaaGreatBase
namespace Go.Proofs.YtchhhjlpnecjkaaGreat
open Go Go.RowKit

theorem band {a b : Bool} (h1 : a = true) (h2 : b = true) : (a && b) = true := by rw [h1, h2]; rfl
theorem maps_rowed : mapsRowed Tryz.prog = true := by kernel_rfl
theorem may_enter : Tryz.prog.mayEnter = true := by kernel_rfl
end Go.Proofs.YtchhhjlpnecjkaaGreat
