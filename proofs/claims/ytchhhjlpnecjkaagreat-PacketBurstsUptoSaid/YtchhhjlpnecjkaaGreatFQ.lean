/-
  Shallow forms of Go functions, printed by a program of this session (wip/gen.py), each equal to the denotation of its code, by the kernel.
-/
import Derived.Test.YtchhhjlpnecjkaaGreatK
import Derived.Test.YtchhhjlpnecjkaaGreatF2
set_option linter.unusedVariables false
namespace Go.Proofs.YtchhhjlpnecjkaaGreat
open Go Go.Proofs.YtchhhjlpnecjkaaGreat.Den


/-! 122 cmp.Compare[pinnace/api.ID] -/
def F_cmp_Compare_ID (x0 : Int) (y1 : Int) : W (Int) :=
  callW Tryz.prog k_cmp_isNaN_ID [.int .u32 x0] [.sc .bool] fun (x_1 : Bool) =>
  callW Tryz.prog k_cmp_isNaN_ID [.int .u32 y1] [.sc .bool] fun (x_2 : Bool) =>
  cond x_1
    (cond x_2
      (retW 0)
      (retW (-1)))
    (cond x_2
    (retW 1)
    (cond (decide (x0 < y1))
    (retW (-1))
    (cond (decide (x0 > y1))
    (retW 1)
    (retW 0))))
def H_cmp_Compare_ID : Hints := {}
theorem E_cmp_Compare_ID (x0 : Int) (y1 : Int) : denF Tryz.prog H_cmp_Compare_ID Tryz.f122 [.sc (.int .i64)] [.int .u32 x0, .int .u32 y1] = F_cmp_Compare_ID x0 y1 := by kernel_rfl
theorem C_cmp_Compare_ID {R : Type} (x0 : Int) (y1 : Int) (K : Res [.sc (.int .i64)] → W R) (Q : R → World → Prop) (w : World) (h : F_cmp_Compare_ID x0 y1 (fun r w => K r Q w) w) : callW Tryz.prog k_cmp_Compare_ID [.int .u32 x0, .int .u32 y1] [.sc (.int .i64)] K Q w :=
  den_calls mix Tryz.func122 H_cmp_Compare_ID (ts := [.sc (.int .i64)]) trivial (by rw [Tryz.ntmps122]; simp) (by rw [E_cmp_Compare_ID]; exact h)

/-! 151 cmp.Compare[byte] -/
def F_cmp_Compare_byte (x0 : Int) (y1 : Int) : W (Int) :=
  callW Tryz.prog k_cmp_isNaN_byte [.int .u8 x0] [.sc .bool] fun (x_1 : Bool) =>
  callW Tryz.prog k_cmp_isNaN_byte [.int .u8 y1] [.sc .bool] fun (x_2 : Bool) =>
  cond x_1
    (cond x_2
      (retW 0)
      (retW (-1)))
    (cond x_2
    (retW 1)
    (cond (decide (x0 < y1))
    (retW (-1))
    (cond (decide (x0 > y1))
    (retW 1)
    (retW 0))))
def H_cmp_Compare_byte : Hints := {}
theorem E_cmp_Compare_byte (x0 : Int) (y1 : Int) : denF Tryz.prog H_cmp_Compare_byte Tryz.f151 [.sc (.int .i64)] [.int .u8 x0, .int .u8 y1] = F_cmp_Compare_byte x0 y1 := by kernel_rfl
theorem C_cmp_Compare_byte {R : Type} (x0 : Int) (y1 : Int) (K : Res [.sc (.int .i64)] → W R) (Q : R → World → Prop) (w : World) (h : F_cmp_Compare_byte x0 y1 (fun r w => K r Q w) w) : callW Tryz.prog k_cmp_Compare_byte [.int .u8 x0, .int .u8 y1] [.sc (.int .i64)] K Q w :=
  den_calls mix Tryz.func151 H_cmp_Compare_byte (ts := [.sc (.int .i64)]) trivial (by rw [Tryz.ntmps151]; simp) (by rw [E_cmp_Compare_byte]; exact h)

/-! 153 cmp.isNaN[pinnace/api.ID] -/
def F_cmp_isNaN_ID (x0 : Int) : W (Bool) :=
  retW (x0 != x0)
def H_cmp_isNaN_ID : Hints := {}
theorem E_cmp_isNaN_ID (x0 : Int) : denF Tryz.prog H_cmp_isNaN_ID Tryz.f153 [.sc .bool] [.int .u32 x0] = F_cmp_isNaN_ID x0 := by kernel_rfl
theorem C_cmp_isNaN_ID {R : Type} (x0 : Int) (K : Res [.sc .bool] → W R) (Q : R → World → Prop) (w : World) (h : F_cmp_isNaN_ID x0 (fun r w => K r Q w) w) : callW Tryz.prog k_cmp_isNaN_ID [.int .u32 x0] [.sc .bool] K Q w :=
  den_calls mix Tryz.func153 H_cmp_isNaN_ID (ts := [.sc .bool]) trivial (by rw [Tryz.ntmps153]; simp) (by rw [E_cmp_isNaN_ID]; exact h)

end Go.Proofs.YtchhhjlpnecjkaaGreat
