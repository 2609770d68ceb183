/-
  Shallow forms of Go functions, printed by a program of this session (wip/gen.py), each equal to the denotation of its code, by the kernel.
-/
import Derived.Test.YtchhhjlpnecjkaaGreatK
import Derived.Test.YtchhhjlpnecjkaaGreatF2
set_option linter.unusedVariables false
namespace Go.Proofs.YtchhhjlpnecjkaaGreat
open Go Go.Proofs.YtchhhjlpnecjkaaGreat.Den


/-! 7 pinnace/pinnacelaw20.PacketBursts -/
def F_pinnacelaw20_PacketBursts (d0 : (Int × Int × Int × Int × Int)) (o1 : Sl) (p2 : Sl) (p3 : Int) (p4 : Int) : W (Bool) :=
  newW 30 [.int .u8 d0.1, .int .u8 d0.2.1, .int .u32 d0.2.2.1, .int .u32 d0.2.2.2.1, .int .u32 d0.2.2.2.2] fun x_1 =>
  callW Tryz.prog k_pinnacelaw20_awake [] [.sc .bool] fun (x_2 : Bool) =>
  cond (!x_2)
    (retW false)
    (callW Tryz.prog k_pinnacelaw20_few [.slice o1.a o1.n o1.c, .slice p2.a p2.n p2.c] [.sc .bool] fun (x_3 : Bool) =>
  cond (!x_3)
    (retW true)
    (ld (.agg [.int .u8, .int .u8, .int .u32, .int .u32, .int .u32]) x_1 fun (x_4 : (Int × Int × Int × Int × Int)) =>
  callW Tryz.prog k_pinnaceref20_Seal [.agg ⟨[.int .u8 x_4.1, .int .u8 x_4.2.1, .int .u32 x_4.2.2.1, .int .u32 x_4.2.2.2.1, .int .u32 x_4.2.2.2.2]⟩, .slice o1.a o1.n o1.c, .slice p2.a p2.n p2.c] [.sc .sl, .sc (.int .i64)] fun (x_5 : Sl × Int) =>
  cond (x_5.2 != 0)
    (retW true)
    (chkW ((IntKind.wrap .i64 (8 * (x_5.1.n : Int))) ≠ 0) <|
  callW Tryz.prog k_pinnaceref03_Turn [.slice x_5.1.a x_5.1.n x_5.1.c, .int .i64 (Int.tmod (IntKind.wrap .i64 p3) (IntKind.wrap .i64 (8 * (x_5.1.n : Int)))), .int .u32 (bOr .u32 p4 1)] [.sc .sl] fun (x_6 : Sl) =>
  callW Tryz.prog k_packet_Peek [.slice x_6.a x_6.n x_6.c] [.agg [.int .u8, .int .u8, .int .u32, .int .u32, .int .u32], .sc (.int .i64)] fun (x_7 : (Int × Int × Int × Int × Int) × Int) =>
  newW 30 [.int .u8 0, .int .u8 0, .int .u32 0, .int .u32 0, .int .u32 0] fun x_8 =>
  stoL x_8 [.int .u8 x_7.1.1, .int .u8 x_7.1.2.1, .int .u32 x_7.1.2.2.1, .int .u32 x_7.1.2.2.2.1, .int .u32 x_7.1.2.2.2.2] 0 <|
  callW Tryz.prog k_pinnaceref10_Twins [.slice o1.a o1.n o1.c] [.sc .sl] fun (x_9 : Sl) =>
  callW Tryz.prog k_packet_Open [.slice x_6.a x_6.n x_6.c, .slice x_9.a x_9.n x_9.c] [.agg [.int .u8, .int .u8, .int .u32, .int .u32, .int .u32], .sc .sl, .sc (.int .i64)] fun (x_10 : (Int × Int × Int × Int × Int) × Sl × Int) =>
  newW 30 [.int .u8 0, .int .u8 0, .int .u32 0, .int .u32 0, .int .u32 0] fun x_11 =>
  stoL x_11 [.int .u8 x_10.1.1, .int .u8 x_10.1.2.1, .int .u32 x_10.1.2.2.1, .int .u32 x_10.1.2.2.2.1, .int .u32 x_10.1.2.2.2.2] 0 <|
  joinW (σ := Bool) (fun J_12 =>
    cond (x_7.2 == 6)
      (cond (x_10.2.2 == 6)
          (ld (.agg [.int .u8, .int .u8, .int .u32, .int .u32, .int .u32]) x_8 fun (x_13 : (Int × Int × Int × Int × Int)) =>
          rawQ Tryz.prog (do Go.eqGuard .eql 30 (.tmp 64) (.tmp 65) (.agg ⟨[.int .u8 x_13.1, .int .u8 x_13.2.1, .int .u32 x_13.2.2.1, .int .u32 x_13.2.2.2.1, .int .u32 x_13.2.2.2.2]⟩) (.agg ⟨[.int .u8 0, .int .u8 0, .int .u32 0, .int .u32 0, .int .u32 0]⟩); Go.binOp .eql 30 (.agg ⟨[.int .u8 x_13.1, .int .u8 x_13.2.1, .int .u32 x_13.2.2.1, .int .u32 x_13.2.2.2.1, .int .u32 x_13.2.2.2.2]⟩) (.agg ⟨[.int .u8 0, .int .u8 0, .int .u32 0, .int .u32 0, .int .u32 0]⟩)) [.sc .bool] fun (x_14 : Bool) =>
              cond x_14
                (ld (.agg [.int .u8, .int .u8, .int .u32, .int .u32, .int .u32]) x_11 fun (x_15 : (Int × Int × Int × Int × Int)) =>
                rawQ Tryz.prog (do Go.eqGuard .eql 30 (.tmp 69) (.tmp 70) (.agg ⟨[.int .u8 x_15.1, .int .u8 x_15.2.1, .int .u32 x_15.2.2.1, .int .u32 x_15.2.2.2.1, .int .u32 x_15.2.2.2.2]⟩) (.agg ⟨[.int .u8 0, .int .u8 0, .int .u32 0, .int .u32 0, .int .u32 0]⟩); Go.binOp .eql 30 (.agg ⟨[.int .u8 x_15.1, .int .u8 x_15.2.1, .int .u32 x_15.2.2.1, .int .u32 x_15.2.2.2.1, .int .u32 x_15.2.2.2.2]⟩) (.agg ⟨[.int .u8 0, .int .u8 0, .int .u32 0, .int .u32 0, .int .u32 0]⟩)) [.sc .bool] fun (x_16 : Bool) =>
                    cond x_16
                      (J_12 ((x_10.2.1.n : Int) == 0))
                      (J_12 false))
                (J_12 false))
          (J_12 false))
      (J_12 false))
  <| fun s_17 =>
  retW s_17)))
def H_pinnacelaw20_PacketBursts : Hints := { reg := [(11, [(10, .sc .bool)])] }
theorem E_pinnacelaw20_PacketBursts (d0 : (Int × Int × Int × Int × Int)) (o1 : Sl) (p2 : Sl) (p3 : Int) (p4 : Int) : denF Tryz.prog H_pinnacelaw20_PacketBursts Tryz.f7 [.sc .bool] [.agg ⟨[.int .u8 d0.1, .int .u8 d0.2.1, .int .u32 d0.2.2.1, .int .u32 d0.2.2.2.1, .int .u32 d0.2.2.2.2]⟩, .slice o1.a o1.n o1.c, .slice p2.a p2.n p2.c, .int .u16 p3, .int .u32 p4] = F_pinnacelaw20_PacketBursts d0 o1 p2 p3 p4 := by kernel_rfl
theorem C_pinnacelaw20_PacketBursts {R : Type} (d0 : (Int × Int × Int × Int × Int)) (o1 : Sl) (p2 : Sl) (p3 : Int) (p4 : Int) (K : Res [.sc .bool] → W R) (Q : R → World → Prop) (w : World) (h : F_pinnacelaw20_PacketBursts d0 o1 p2 p3 p4 (fun r w => K r Q w) w) : callW Tryz.prog k_pinnacelaw20_PacketBursts [.agg ⟨[.int .u8 d0.1, .int .u8 d0.2.1, .int .u32 d0.2.2.1, .int .u32 d0.2.2.2.1, .int .u32 d0.2.2.2.2]⟩, .slice o1.a o1.n o1.c, .slice p2.a p2.n p2.c, .int .u16 p3, .int .u32 p4] [.sc .bool] K Q w :=
  den_calls mix Tryz.func7 H_pinnacelaw20_PacketBursts (ts := [.sc .bool]) trivial (by rw [Tryz.ntmps7]; simp) (by rw [E_pinnacelaw20_PacketBursts]; exact h)

/-! 8 pinnace/pinnacelaw20.awake -/
def F_pinnacelaw20_awake  : W (Bool) :=
  callW Tryz.prog k_packet_Seal [.agg ⟨[.int .u8 3, .int .u8 2, .int .u32 1, .int .u32 5, .int .u32 0]⟩, .slice none 0 0, .slice none 0 0] [.sc .sl, .sc (.int .i64)] fun (x_1 : Sl × Int) =>
  callW Tryz.prog k_pinnaceref03_Open [.slice x_1.1.a x_1.1.n x_1.1.c] [.sc .sl, .sc (.int .i64)] fun (x_2 : Sl × Int) =>
  joinW (σ := Bool) (fun J_3 =>
    cond (x_1.2 == 0)
      (cond (x_2.2 == 0)
          (newW 5 [.int .u8 146, .int .u8 80, .int .u8 0, .int .u8 0, .int .u8 0, .int .u8 0] fun x_4 =>
            callW Tryz.prog k_pinnaceref01_Same [.slice x_2.1.a x_2.1.n x_2.1.c, .slice (some x_4) 6 6] [.sc .bool] fun (x_5 : Bool) =>
              J_3 x_5)
          (J_3 false))
      (J_3 false))
  <| fun s_6 =>
  retW s_6
def H_pinnacelaw20_awake : Hints := { reg := [(3, [(0, .sc .bool)])] }
theorem E_pinnacelaw20_awake  : denF Tryz.prog H_pinnacelaw20_awake Tryz.f8 [.sc .bool] [] = F_pinnacelaw20_awake := by kernel_rfl
theorem C_pinnacelaw20_awake {R : Type}  (K : Res [.sc .bool] → W R) (Q : R → World → Prop) (w : World) (h : F_pinnacelaw20_awake (fun r w => K r Q w) w) : callW Tryz.prog k_pinnacelaw20_awake [] [.sc .bool] K Q w :=
  den_calls mix Tryz.func8 H_pinnacelaw20_awake (ts := [.sc .bool]) trivial (by rw [Tryz.ntmps8]; simp) (by rw [E_pinnacelaw20_awake]; exact h)

/-! 17 pinnace/pinnacelaw20.few -/
def F_pinnacelaw20_few (a0 : Sl) (b1 : Sl) : W (Bool) :=
  joinW (σ := Bool) (fun J_1 =>
    callW Tryz.prog k_pinnaceref18_Few [.slice a0.a a0.n a0.c] [.sc .bool] fun (x_2 : Bool) =>
    cond x_2
      (callW Tryz.prog k_pinnaceref18_Few [.slice b1.a b1.n b1.c] [.sc .bool] fun (x_3 : Bool) =>
        J_1 x_3)
      (J_1 false))
  <| fun s_4 =>
  retW s_4
def H_pinnacelaw20_few : Hints := { reg := [(1, [(4, .sc .bool)])] }
theorem E_pinnacelaw20_few (a0 : Sl) (b1 : Sl) : denF Tryz.prog H_pinnacelaw20_few Tryz.f17 [.sc .bool] [.slice a0.a a0.n a0.c, .slice b1.a b1.n b1.c] = F_pinnacelaw20_few a0 b1 := by kernel_rfl
theorem C_pinnacelaw20_few {R : Type} (a0 : Sl) (b1 : Sl) (K : Res [.sc .bool] → W R) (Q : R → World → Prop) (w : World) (h : F_pinnacelaw20_few a0 b1 (fun r w => K r Q w) w) : callW Tryz.prog k_pinnacelaw20_few [.slice a0.a a0.n a0.c, .slice b1.a b1.n b1.c] [.sc .bool] K Q w :=
  den_calls mix Tryz.func17 H_pinnacelaw20_few (ts := [.sc .bool]) trivial (by rw [Tryz.ntmps17]; simp) (by rw [E_pinnacelaw20_few]; exact h)

end Go.Proofs.YtchhhjlpnecjkaaGreat
