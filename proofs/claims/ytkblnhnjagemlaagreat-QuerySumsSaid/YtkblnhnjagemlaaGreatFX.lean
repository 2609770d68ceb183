/-
  Shallow forms of Go functions, printed by a program of this session (wip/gen.py), each equal to the denotation of its code, by the kernel.
-/
import Derived.Test.YtkblnhnjagemlaaGreatK
import Derived.Test.YtkblnhnjagemlaaGreatF
set_option linter.unusedVariables false
namespace Go.Proofs.YtkblnhnjagemlaaGreat
open Go Go.Proofs.YtkblnhnjagemlaaGreat.Den


/-! 183 slices.Sorted[byte] -/
def F_slices_Sorted_byte (seq0 : Value) : W (Sl) :=
  callW Tryz.prog k_slices_Collect_byte [seq0] [.sc .sl] fun (x_1 : Sl) =>
  callW Tryz.prog k_slices_Sort_byte [.slice x_1.a x_1.n x_1.c] [] fun (x_2 : Unit) =>
  retW x_1
def H_slices_Sorted_byte : Hints := {}
theorem E_slices_Sorted_byte (seq0 : Value) : denF Tryz.prog H_slices_Sorted_byte Tryz.f183 [.sc .sl] [seq0] = F_slices_Sorted_byte seq0 := by kernel_rfl
theorem C_slices_Sorted_byte {R : Type} (seq0 : Value) (K : Res [.sc .sl] → W R) (Q : R → World → Prop) (w : World) (h : F_slices_Sorted_byte seq0 (fun r w => K r Q w) w) : callW Tryz.prog k_slices_Sorted_byte [seq0] [.sc .sl] K Q w :=
  den_calls mix Tryz.func183 H_slices_Sorted_byte (ts := [.sc .sl]) trivial (by rw [Tryz.ntmps183]; simp) (by rw [E_slices_Sorted_byte]; exact h)

/-! 207 slices.Collect[byte] -/
def F_slices_Collect_byte (seq0 : Value) : W (Sl) :=
  callW Tryz.prog k_slices_AppendSeq_byte [.slice none 0 0, seq0] [.sc .sl] fun (x_1 : Sl) =>
  retW x_1
def H_slices_Collect_byte : Hints := {}
theorem E_slices_Collect_byte (seq0 : Value) : denF Tryz.prog H_slices_Collect_byte Tryz.f207 [.sc .sl] [seq0] = F_slices_Collect_byte seq0 := by kernel_rfl
theorem C_slices_Collect_byte {R : Type} (seq0 : Value) (K : Res [.sc .sl] → W R) (Q : R → World → Prop) (w : World) (h : F_slices_Collect_byte seq0 (fun r w => K r Q w) w) : callW Tryz.prog k_slices_Collect_byte [seq0] [.sc .sl] K Q w :=
  den_calls mix Tryz.func207 H_slices_Collect_byte (ts := [.sc .sl]) trivial (by rw [Tryz.ntmps207]; simp) (by rw [E_slices_Collect_byte]; exact h)

end Go.Proofs.YtkblnhnjagemlaaGreat
