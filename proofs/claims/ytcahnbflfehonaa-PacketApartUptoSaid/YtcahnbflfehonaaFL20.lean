/-
  Shallow forms of Go functions, printed by a program of this session (wip/gen.py), each equal to the denotation of its code, by the kernel.
-/
import Derived.Test.YtcahnbflfehonaaK
import Derived.Test.YtcahnbflfehonaaF2
set_option linter.unusedVariables false
namespace Go.Proofs.Ytcahnbflfehonaa
open Go Go.Proofs.Ytcahnbflfehonaa.Den


/-! 3 pinnace/pinnacelaw20.PacketShort -/
def F_pinnacelaw20_PacketShort (was0 : Sl) (tick1 : Int) : W (Bool) :=
  callW Try.prog k_pinnacelaw20_awake [] [.sc .bool] fun (x_1 : Bool) =>
  cond (!x_1)
    (retW false)
    (joinW (σ := Bool) (fun J_2 =>
    callW Try.prog k_pinnaceref18_Few [.slice was0.a was0.n was0.c] [.sc .bool] fun (x_3 : Bool) =>
    cond (!x_3)
      (J_2 true)
      (callW Try.prog k_pinnaceref18_Form [.slice was0.a was0.n was0.c] [.sc (.int .i64)] fun (x_4 : Int) =>
        cond (x_4 != 0)
            (J_2 true)
            (J_2 (tick1 == 0))))
  <| fun s_5 =>
  cond s_5
    (retW true)
    (newW 28 [.int .u8 0, .int .u8 0, .int .u32 0, .int .u32 0, .int .u32 0] fun h_6 =>
  stoL h_6 [.int .u8 2, .int .u8 0, .int .u32 1, .int .u32 tick1, .int .u32 (IntKind.wrap .u32 (tick1 - 1))] 0 <|
  drawW <|
  ld (.agg [.int .u8, .int .u8, .int .u32, .int .u32, .int .u32]) h_6 fun (x_7 : (Int × Int × Int × Int × Int)) =>
  callW Try.prog k_pinnaceref10_Twins [.slice was0.a was0.n was0.c] [.sc .sl] fun (x_8 : Sl) =>
  andW (fun w => Rd w h_6 (.agg [.int .u8, .int .u8, .int .u32, .int .u32, .int .u32]) x_7) <|
  callW Try.prog k_pinnaceref10_Twins [.slice was0.a was0.n was0.c] [.sc .sl] fun (x_9 : Sl) =>
  andW (fun w => Rd w h_6 (.agg [.int .u8, .int .u8, .int .u32, .int .u32, .int .u32]) x_7) <|
  callW Try.prog k_packet_Seal [.agg ⟨[.int .u8 x_7.1, .int .u8 x_7.2.1, .int .u32 x_7.2.2.1, .int .u32 x_7.2.2.2.1, .int .u32 x_7.2.2.2.2]⟩, .slice x_8.a x_8.n x_8.c, .slice x_9.a x_9.n x_9.c] [.sc .sl, .sc (.int .i64)] fun (x_10 : Sl × Int) =>
  ld (.agg [.int .u8, .int .u8, .int .u32, .int .u32, .int .u32]) h_6 fun (x_11 : (Int × Int × Int × Int × Int)) =>
  callW Try.prog k_packet_Seal [.agg ⟨[.int .u8 x_11.1, .int .u8 x_11.2.1, .int .u32 x_11.2.2.1, .int .u32 x_11.2.2.2.1, .int .u32 x_11.2.2.2.2]⟩, .slice none 0 0, .slice none 0 0] [.sc .sl, .sc (.int .i64)] fun (x_12 : Sl × Int) =>
  joinW (σ := Bool) (fun J_13 =>
    cond (x_10.2 == 0)
      (cond (x_12.2 == 0)
          (callW Try.prog k_pinnaceref01_Same [.slice x_10.1.a x_10.1.n x_10.1.c, .slice x_12.1.a x_12.1.n x_12.1.c] [.sc .bool] fun (x_14 : Bool) =>
              cond x_14
                (J_13 (decide ((x_10.1.n : Int) ≤ 16)))
                (J_13 false))
          (J_13 false))
      (J_13 false))
  <| fun s_15 =>
  retW s_15))
def H_pinnacelaw20_PacketShort : Hints := { reg := [(3, [(23, .sc .bool)]), (8, [(4, .sc .bool)])], dr := [(6, ([], [[(0, []), (1, []), (3, []), (2, [0]), (4, [0]), (5, []), (6, []), (7, []), (8, []), (9, []), (10, [])]]))] }
theorem E_pinnacelaw20_PacketShort (was0 : Sl) (tick1 : Int) : denF Try.prog H_pinnacelaw20_PacketShort Try.f3 [.sc .bool] [.slice was0.a was0.n was0.c, .int .u32 tick1] = F_pinnacelaw20_PacketShort was0 tick1 := by kernel_rfl
theorem C_pinnacelaw20_PacketShort {R : Type} (was0 : Sl) (tick1 : Int) (K : Res [.sc .bool] → W R) (Q : R → World → Prop) (w : World) (h : F_pinnacelaw20_PacketShort was0 tick1 (fun r w => K r Q w) w) : callW Try.prog k_pinnacelaw20_PacketShort [.slice was0.a was0.n was0.c, .int .u32 tick1] [.sc .bool] K Q w :=
  den_calls mix Try.func3 H_pinnacelaw20_PacketShort (ts := [.sc .bool]) trivial (by rw [Try.ntmps3]; simp) (by rw [E_pinnacelaw20_PacketShort]; exact h)

/-! 4 pinnace/pinnacelaw20.PacketApart -/
def F_pinnacelaw20_PacketApart (a0 : (Int × Int × Int × Int × Int)) (b1 : (Int × Int × Int × Int × Int)) (was2 : Sl) (x3 : Sl) (y4 : Sl) : W (Bool) :=
  newW 28 [.int .u8 a0.1, .int .u8 a0.2.1, .int .u32 a0.2.2.1, .int .u32 a0.2.2.2.1, .int .u32 a0.2.2.2.2] fun a_1 =>
  newW 28 [.int .u8 b1.1, .int .u8 b1.2.1, .int .u32 b1.2.2.1, .int .u32 b1.2.2.2.1, .int .u32 b1.2.2.2.2] fun b_2 =>
  callW Try.prog k_pinnacelaw20_awake [] [.sc .bool] fun (x_3 : Bool) =>
  cond (!x_3)
    (retW false)
    (joinW (σ := Bool) (fun J_4 =>
    callW Try.prog k_pinnacelaw20_few [.slice x3.a x3.n x3.c, .slice y4.a y4.n y4.c] [.sc .bool] fun (x_5 : Bool) =>
    cond (!x_5)
      (J_4 true)
      (callW Try.prog k_pinnaceref18_Few [.slice was2.a was2.n was2.c] [.sc .bool] fun (x_6 : Bool) =>
        J_4 (!x_6)))
  <| fun s_7 =>
  cond s_7
    (retW true)
    (drawW <|
  ld (.agg [.int .u8, .int .u8, .int .u32, .int .u32, .int .u32]) a_1 fun (x_8 : (Int × Int × Int × Int × Int)) =>
  callW Try.prog k_pinnaceref10_Twins [.slice was2.a was2.n was2.c] [.sc .sl] fun (x_9 : Sl) =>
  andW (fun w => Rd w a_1 (.agg [.int .u8, .int .u8, .int .u32, .int .u32, .int .u32]) x_8) <|
  callW Try.prog k_pinnaceref10_Twins [.slice x3.a x3.n x3.c] [.sc .sl] fun (x_10 : Sl) =>
  andW (fun w => Rd w a_1 (.agg [.int .u8, .int .u8, .int .u32, .int .u32, .int .u32]) x_8) <|
  callW Try.prog k_packet_Seal [.agg ⟨[.int .u8 x_8.1, .int .u8 x_8.2.1, .int .u32 x_8.2.2.1, .int .u32 x_8.2.2.2.1, .int .u32 x_8.2.2.2.2]⟩, .slice x_9.a x_9.n x_9.c, .slice x_10.a x_10.n x_10.c] [.sc .sl, .sc (.int .i64)] fun (x_11 : Sl × Int) =>
  drawW <|
  ld (.agg [.int .u8, .int .u8, .int .u32, .int .u32, .int .u32]) b_2 fun (x_12 : (Int × Int × Int × Int × Int)) =>
  callW Try.prog k_pinnaceref10_Twins [.slice was2.a was2.n was2.c] [.sc .sl] fun (x_13 : Sl) =>
  andW (fun w => Rd w b_2 (.agg [.int .u8, .int .u8, .int .u32, .int .u32, .int .u32]) x_12) <|
  callW Try.prog k_pinnaceref10_Twins [.slice y4.a y4.n y4.c] [.sc .sl] fun (x_14 : Sl) =>
  andW (fun w => Rd w b_2 (.agg [.int .u8, .int .u8, .int .u32, .int .u32, .int .u32]) x_12) <|
  callW Try.prog k_packet_Seal [.agg ⟨[.int .u8 x_12.1, .int .u8 x_12.2.1, .int .u32 x_12.2.2.1, .int .u32 x_12.2.2.2.1, .int .u32 x_12.2.2.2.2]⟩, .slice x_13.a x_13.n x_13.c, .slice x_14.a x_14.n x_14.c] [.sc .sl, .sc (.int .i64)] fun (x_15 : Sl × Int) =>
  joinW (σ := Bool) (fun J_16 =>
    cond (x_11.2 != 0)
      (J_16 true)
      (J_16 (x_15.2 != 0)))
  <| fun s_17 =>
  cond s_17
    (retW true)
    (joinW (σ := Bool) (fun J_18 =>
    drawW <|
    bothW
      (ld (.agg [.int .u8, .int .u8, .int .u32, .int .u32, .int .u32]) a_1 fun (x_19 : (Int × Int × Int × Int × Int)) =>
      ld (.agg [.int .u8, .int .u8, .int .u32, .int .u32, .int .u32]) b_2 fun (x_20 : (Int × Int × Int × Int × Int)) =>
      callW Try.prog k_pinnaceref01_Same [.slice x_11.1.a x_11.1.n x_11.1.c, .slice x_15.1.a x_15.1.n x_15.1.c] [.sc .bool] fun (x_21 : Bool) =>
      andW (fun w => Rd w b_2 (.agg [.int .u8, .int .u8, .int .u32, .int .u32, .int .u32]) x_20) <|
      andW (fun w => Rd w a_1 (.agg [.int .u8, .int .u8, .int .u32, .int .u32, .int .u32]) x_19) <|
      rawQ Try.prog (do Go.eqGuard .eql 28 (.tmp 53) (.tmp 54) (.agg ⟨[.int .u8 x_19.1, .int .u8 x_19.2.1, .int .u32 x_19.2.2.1, .int .u32 x_19.2.2.2.1, .int .u32 x_19.2.2.2.2]⟩) (.agg ⟨[.int .u8 x_20.1, .int .u8 x_20.2.1, .int .u32 x_20.2.2.1, .int .u32 x_20.2.2.2.1, .int .u32 x_20.2.2.2.2]⟩); Go.binOp .eql 28 (.agg ⟨[.int .u8 x_19.1, .int .u8 x_19.2.1, .int .u32 x_19.2.2.1, .int .u32 x_19.2.2.2.1, .int .u32 x_19.2.2.2.2]⟩) (.agg ⟨[.int .u8 x_20.1, .int .u8 x_20.2.1, .int .u32 x_20.2.2.1, .int .u32 x_20.2.2.2.1, .int .u32 x_20.2.2.2.2]⟩)) [.sc .bool] fun (x_22 : Bool) =>
      cond x_22
        (callW Try.prog k_pinnaceref10_SameEnts [.slice x3.a x3.n x3.c, .slice y4.a y4.n y4.c] [.sc .bool] fun (x_23 : Bool) =>
            J_18 (x_21 == x_23))
        (J_18 (x_21 == false)))
      (ld (.agg [.int .u8, .int .u8, .int .u32, .int .u32, .int .u32]) a_1 fun (x_24 : (Int × Int × Int × Int × Int)) =>
      ld (.agg [.int .u8, .int .u8, .int .u32, .int .u32, .int .u32]) b_2 fun (x_25 : (Int × Int × Int × Int × Int)) =>
      rawQ Try.prog (do Go.eqGuard .eql 28 (.tmp 53) (.tmp 54) (.agg ⟨[.int .u8 x_24.1, .int .u8 x_24.2.1, .int .u32 x_24.2.2.1, .int .u32 x_24.2.2.2.1, .int .u32 x_24.2.2.2.2]⟩) (.agg ⟨[.int .u8 x_25.1, .int .u8 x_25.2.1, .int .u32 x_25.2.2.1, .int .u32 x_25.2.2.2.1, .int .u32 x_25.2.2.2.2]⟩); Go.binOp .eql 28 (.agg ⟨[.int .u8 x_24.1, .int .u8 x_24.2.1, .int .u32 x_24.2.2.1, .int .u32 x_24.2.2.2.1, .int .u32 x_24.2.2.2.2]⟩) (.agg ⟨[.int .u8 x_25.1, .int .u8 x_25.2.1, .int .u32 x_25.2.2.1, .int .u32 x_25.2.2.2.1, .int .u32 x_25.2.2.2.2]⟩)) [.sc .bool] fun (x_26 : Bool) =>
      callW Try.prog k_pinnaceref01_Same [.slice x_11.1.a x_11.1.n x_11.1.c, .slice x_15.1.a x_15.1.n x_15.1.c] [.sc .bool] fun (x_27 : Bool) =>
      andW (fun w => Rd w b_2 (.agg [.int .u8, .int .u8, .int .u32, .int .u32, .int .u32]) x_25) <|
      andW (fun w => Rd w a_1 (.agg [.int .u8, .int .u8, .int .u32, .int .u32, .int .u32]) x_24) <|
      cond x_26
        (callW Try.prog k_pinnaceref10_SameEnts [.slice x3.a x3.n x3.c, .slice y4.a y4.n y4.c] [.sc .bool] fun (x_28 : Bool) =>
            J_18 (x_27 == x_28))
        (J_18 (x_27 == false))))
  <| fun s_29 =>
  retW s_29)))
def H_pinnacelaw20_PacketApart : Hints := { reg := [(3, [(25, .sc .bool)]), (7, [(49, .sc .bool)]), (9, [(10, .sc .bool)])], dr := [(5, ([], [[(0, []), (1, []), (3, []), (2, [0]), (4, [0]), (5, []), (6, []), (7, []), (8, []), (9, []), (10, [])]])), (6, ([], [[(0, []), (1, []), (3, []), (2, [0]), (4, [0]), (5, []), (6, []), (7, []), (8, []), (9, []), (10, [])]])), (9, ([(2, 5)], [[(0, []), (1, []), (3, []), (4, []), (2, [3, 4]), (5, []), (6, []), (7, []), (8, []), (9, []), (10, []), (11, []), (12, [])], [(0, []), (1, []), (3, []), (4, []), (5, []), (2, [3, 4]), (6, []), (7, []), (8, []), (9, []), (10, []), (11, []), (12, [])]]))] }
set_option maxRecDepth 100000 in
theorem E_pinnacelaw20_PacketApart (a0 : (Int × Int × Int × Int × Int)) (b1 : (Int × Int × Int × Int × Int)) (was2 : Sl) (x3 : Sl) (y4 : Sl) : denF Try.prog H_pinnacelaw20_PacketApart Try.f4 [.sc .bool] [.agg ⟨[.int .u8 a0.1, .int .u8 a0.2.1, .int .u32 a0.2.2.1, .int .u32 a0.2.2.2.1, .int .u32 a0.2.2.2.2]⟩, .agg ⟨[.int .u8 b1.1, .int .u8 b1.2.1, .int .u32 b1.2.2.1, .int .u32 b1.2.2.2.1, .int .u32 b1.2.2.2.2]⟩, .slice was2.a was2.n was2.c, .slice x3.a x3.n x3.c, .slice y4.a y4.n y4.c] = F_pinnacelaw20_PacketApart a0 b1 was2 x3 y4 := by kernel_rfl
theorem C_pinnacelaw20_PacketApart {R : Type} (a0 : (Int × Int × Int × Int × Int)) (b1 : (Int × Int × Int × Int × Int)) (was2 : Sl) (x3 : Sl) (y4 : Sl) (K : Res [.sc .bool] → W R) (Q : R → World → Prop) (w : World) (h : F_pinnacelaw20_PacketApart a0 b1 was2 x3 y4 (fun r w => K r Q w) w) : callW Try.prog k_pinnacelaw20_PacketApart [.agg ⟨[.int .u8 a0.1, .int .u8 a0.2.1, .int .u32 a0.2.2.1, .int .u32 a0.2.2.2.1, .int .u32 a0.2.2.2.2]⟩, .agg ⟨[.int .u8 b1.1, .int .u8 b1.2.1, .int .u32 b1.2.2.1, .int .u32 b1.2.2.2.1, .int .u32 b1.2.2.2.2]⟩, .slice was2.a was2.n was2.c, .slice x3.a x3.n x3.c, .slice y4.a y4.n y4.c] [.sc .bool] K Q w :=
  den_calls mix Try.func4 H_pinnacelaw20_PacketApart (ts := [.sc .bool]) trivial (by rw [Try.ntmps4]; simp) (by rw [E_pinnacelaw20_PacketApart]; exact h)

/-! 5 pinnace/pinnacelaw20.awake -/
def F_pinnacelaw20_awake  : W (Bool) :=
  callW Try.prog k_packet_Seal [.agg ⟨[.int .u8 3, .int .u8 2, .int .u32 1, .int .u32 5, .int .u32 0]⟩, .slice none 0 0, .slice none 0 0] [.sc .sl, .sc (.int .i64)] fun (x_1 : Sl × Int) =>
  callW Try.prog k_pinnaceref03_Open [.slice x_1.1.a x_1.1.n x_1.1.c] [.sc .sl, .sc (.int .i64)] fun (x_2 : Sl × Int) =>
  joinW (σ := Bool) (fun J_3 =>
    cond (x_1.2 == 0)
      (cond (x_2.2 == 0)
          (newW 5 [.int .u8 146, .int .u8 80, .int .u8 0, .int .u8 0, .int .u8 0, .int .u8 0] fun x_4 =>
            callW Try.prog k_pinnaceref01_Same [.slice x_2.1.a x_2.1.n x_2.1.c, .slice (some x_4) 6 6] [.sc .bool] fun (x_5 : Bool) =>
              J_3 x_5)
          (J_3 false))
      (J_3 false))
  <| fun s_6 =>
  retW s_6
def H_pinnacelaw20_awake : Hints := { reg := [(3, [(0, .sc .bool)])] }
theorem E_pinnacelaw20_awake  : denF Try.prog H_pinnacelaw20_awake Try.f5 [.sc .bool] [] = F_pinnacelaw20_awake := by kernel_rfl
theorem C_pinnacelaw20_awake {R : Type}  (K : Res [.sc .bool] → W R) (Q : R → World → Prop) (w : World) (h : F_pinnacelaw20_awake (fun r w => K r Q w) w) : callW Try.prog k_pinnacelaw20_awake [] [.sc .bool] K Q w :=
  den_calls mix Try.func5 H_pinnacelaw20_awake (ts := [.sc .bool]) trivial (by rw [Try.ntmps5]; simp) (by rw [E_pinnacelaw20_awake]; exact h)

/-! 11 pinnace/pinnacelaw20.few -/
def F_pinnacelaw20_few (a0 : Sl) (b1 : Sl) : W (Bool) :=
  joinW (σ := Bool) (fun J_1 =>
    callW Try.prog k_pinnaceref18_Few [.slice a0.a a0.n a0.c] [.sc .bool] fun (x_2 : Bool) =>
    cond x_2
      (callW Try.prog k_pinnaceref18_Few [.slice b1.a b1.n b1.c] [.sc .bool] fun (x_3 : Bool) =>
        J_1 x_3)
      (J_1 false))
  <| fun s_4 =>
  retW s_4
def H_pinnacelaw20_few : Hints := { reg := [(1, [(4, .sc .bool)])] }
theorem E_pinnacelaw20_few (a0 : Sl) (b1 : Sl) : denF Try.prog H_pinnacelaw20_few Try.f11 [.sc .bool] [.slice a0.a a0.n a0.c, .slice b1.a b1.n b1.c] = F_pinnacelaw20_few a0 b1 := by kernel_rfl
theorem C_pinnacelaw20_few {R : Type} (a0 : Sl) (b1 : Sl) (K : Res [.sc .bool] → W R) (Q : R → World → Prop) (w : World) (h : F_pinnacelaw20_few a0 b1 (fun r w => K r Q w) w) : callW Try.prog k_pinnacelaw20_few [.slice a0.a a0.n a0.c, .slice b1.a b1.n b1.c] [.sc .bool] K Q w :=
  den_calls mix Try.func11 H_pinnacelaw20_few (ts := [.sc .bool]) trivial (by rw [Try.ntmps11]; simp) (by rw [E_pinnacelaw20_few]; exact h)

end Go.Proofs.Ytcahnbflfehonaa
