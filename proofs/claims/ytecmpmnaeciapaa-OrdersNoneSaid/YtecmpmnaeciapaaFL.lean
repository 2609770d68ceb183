/-
  Shallow forms of Go functions, printed by a program of this session (wip/gen.py), each equal to the denotation of its code, by the kernel.
-/
import Derived.Test.YtecmpmnaeciapaaK
import Derived.Test.YtecmpmnaeciapaaF2
set_option linter.unusedVariables false
namespace Go.Proofs.Ytecmpmnaeciapaa
open Go Go.Proofs.Ytecmpmnaeciapaa.Den


/-! 3 pinnace/pinnacelaw20.PacketShort -/
def F_pinnacelaw20_PacketShort (was0 : Sl) (tick1 : Int) : W (Bool) :=
  callW Try.prog k_pinnacelaw20_awake [] [.sc .bool] fun (x_1 : Bool) =>
  cond (!x_1)
    (retW false)
    (joinW (σ := Bool) (fun J_2 =>
    callW Try.prog k_pinnaceref18_Few [.slice was0.a was0.n was0.c] [.sc .bool] fun (x_3 : Bool) =>
    cond (!x_3)
      (J_2 true)
      (callW Try.prog k_pinnaceref18_Form [.slice was0.a was0.n was0.c] [.sc (.int .i64)] fun (x_4 : Int) =>
        cond (x_4 != 0)
            (J_2 true)
            (J_2 (tick1 == 0))))
  <| fun s_5 =>
  cond s_5
    (retW true)
    (newW 28 [.int .u8 0, .int .u8 0, .int .u32 0, .int .u32 0, .int .u32 0] fun h_6 =>
  stoL h_6 [.int .u8 2, .int .u8 0, .int .u32 1, .int .u32 tick1, .int .u32 (IntKind.wrap .u32 (tick1 - 1))] 0 <|
  drawW <|
  ld (.agg [.int .u8, .int .u8, .int .u32, .int .u32, .int .u32]) h_6 fun (x_7 : (Int × Int × Int × Int × Int)) =>
  callW Try.prog k_pinnaceref10_Twins [.slice was0.a was0.n was0.c] [.sc .sl] fun (x_8 : Sl) =>
  andW (fun w => Rd w h_6 (.agg [.int .u8, .int .u8, .int .u32, .int .u32, .int .u32]) x_7) <|
  callW Try.prog k_pinnaceref10_Twins [.slice was0.a was0.n was0.c] [.sc .sl] fun (x_9 : Sl) =>
  andW (fun w => Rd w h_6 (.agg [.int .u8, .int .u8, .int .u32, .int .u32, .int .u32]) x_7) <|
  callW Try.prog k_packet_Seal [.agg ⟨[.int .u8 x_7.1, .int .u8 x_7.2.1, .int .u32 x_7.2.2.1, .int .u32 x_7.2.2.2.1, .int .u32 x_7.2.2.2.2]⟩, .slice x_8.a x_8.n x_8.c, .slice x_9.a x_9.n x_9.c] [.sc .sl, .sc (.int .i64)] fun (x_10 : Sl × Int) =>
  ld (.agg [.int .u8, .int .u8, .int .u32, .int .u32, .int .u32]) h_6 fun (x_11 : (Int × Int × Int × Int × Int)) =>
  callW Try.prog k_packet_Seal [.agg ⟨[.int .u8 x_11.1, .int .u8 x_11.2.1, .int .u32 x_11.2.2.1, .int .u32 x_11.2.2.2.1, .int .u32 x_11.2.2.2.2]⟩, .slice none 0 0, .slice none 0 0] [.sc .sl, .sc (.int .i64)] fun (x_12 : Sl × Int) =>
  joinW (σ := Bool) (fun J_13 =>
    cond (x_10.2 == 0)
      (cond (x_12.2 == 0)
          (callW Try.prog k_pinnaceref01_Same [.slice x_10.1.a x_10.1.n x_10.1.c, .slice x_12.1.a x_12.1.n x_12.1.c] [.sc .bool] fun (x_14 : Bool) =>
              cond x_14
                (J_13 (decide ((x_10.1.n : Int) ≤ 16)))
                (J_13 false))
          (J_13 false))
      (J_13 false))
  <| fun s_15 =>
  retW s_15))
def H_pinnacelaw20_PacketShort : Hints := { reg := [(3, [(23, .sc .bool)]), (8, [(4, .sc .bool)])], dr := [(6, ([], [[(0, []), (1, []), (3, []), (2, [0]), (4, [0]), (5, []), (6, []), (7, []), (8, []), (9, []), (10, [])]]))] }
theorem E_pinnacelaw20_PacketShort (was0 : Sl) (tick1 : Int) : denF Try.prog H_pinnacelaw20_PacketShort Try.f3 [.sc .bool] [.slice was0.a was0.n was0.c, .int .u32 tick1] = F_pinnacelaw20_PacketShort was0 tick1 := by kernel_rfl
theorem C_pinnacelaw20_PacketShort {R : Type} (was0 : Sl) (tick1 : Int) (K : Res [.sc .bool] → W R) (Q : R → World → Prop) (w : World) (h : F_pinnacelaw20_PacketShort was0 tick1 (fun r w => K r Q w) w) : callW Try.prog k_pinnacelaw20_PacketShort [.slice was0.a was0.n was0.c, .int .u32 tick1] [.sc .bool] K Q w :=
  den_calls mix Try.func3 H_pinnacelaw20_PacketShort (ts := [.sc .bool]) trivial (by rw [Try.ntmps3]; simp) (by rw [E_pinnacelaw20_PacketShort]; exact h)

/-! 4 pinnace/pinnacelaw20.PacketApart -/
def F_pinnacelaw20_PacketApart (a0 : (Int × Int × Int × Int × Int)) (b1 : (Int × Int × Int × Int × Int)) (was2 : Sl) (x3 : Sl) (y4 : Sl) : W (Bool) :=
  newW 28 [.int .u8 a0.1, .int .u8 a0.2.1, .int .u32 a0.2.2.1, .int .u32 a0.2.2.2.1, .int .u32 a0.2.2.2.2] fun a_1 =>
  newW 28 [.int .u8 b1.1, .int .u8 b1.2.1, .int .u32 b1.2.2.1, .int .u32 b1.2.2.2.1, .int .u32 b1.2.2.2.2] fun b_2 =>
  callW Try.prog k_pinnacelaw20_awake [] [.sc .bool] fun (x_3 : Bool) =>
  cond (!x_3)
    (retW false)
    (joinW (σ := Bool) (fun J_4 =>
    callW Try.prog k_pinnacelaw20_few [.slice x3.a x3.n x3.c, .slice y4.a y4.n y4.c] [.sc .bool] fun (x_5 : Bool) =>
    cond (!x_5)
      (J_4 true)
      (callW Try.prog k_pinnaceref18_Few [.slice was2.a was2.n was2.c] [.sc .bool] fun (x_6 : Bool) =>
        J_4 (!x_6)))
  <| fun s_7 =>
  cond s_7
    (retW true)
    (drawW <|
  ld (.agg [.int .u8, .int .u8, .int .u32, .int .u32, .int .u32]) a_1 fun (x_8 : (Int × Int × Int × Int × Int)) =>
  callW Try.prog k_pinnaceref10_Twins [.slice was2.a was2.n was2.c] [.sc .sl] fun (x_9 : Sl) =>
  andW (fun w => Rd w a_1 (.agg [.int .u8, .int .u8, .int .u32, .int .u32, .int .u32]) x_8) <|
  callW Try.prog k_pinnaceref10_Twins [.slice x3.a x3.n x3.c] [.sc .sl] fun (x_10 : Sl) =>
  andW (fun w => Rd w a_1 (.agg [.int .u8, .int .u8, .int .u32, .int .u32, .int .u32]) x_8) <|
  callW Try.prog k_packet_Seal [.agg ⟨[.int .u8 x_8.1, .int .u8 x_8.2.1, .int .u32 x_8.2.2.1, .int .u32 x_8.2.2.2.1, .int .u32 x_8.2.2.2.2]⟩, .slice x_9.a x_9.n x_9.c, .slice x_10.a x_10.n x_10.c] [.sc .sl, .sc (.int .i64)] fun (x_11 : Sl × Int) =>
  drawW <|
  ld (.agg [.int .u8, .int .u8, .int .u32, .int .u32, .int .u32]) b_2 fun (x_12 : (Int × Int × Int × Int × Int)) =>
  callW Try.prog k_pinnaceref10_Twins [.slice was2.a was2.n was2.c] [.sc .sl] fun (x_13 : Sl) =>
  andW (fun w => Rd w b_2 (.agg [.int .u8, .int .u8, .int .u32, .int .u32, .int .u32]) x_12) <|
  callW Try.prog k_pinnaceref10_Twins [.slice y4.a y4.n y4.c] [.sc .sl] fun (x_14 : Sl) =>
  andW (fun w => Rd w b_2 (.agg [.int .u8, .int .u8, .int .u32, .int .u32, .int .u32]) x_12) <|
  callW Try.prog k_packet_Seal [.agg ⟨[.int .u8 x_12.1, .int .u8 x_12.2.1, .int .u32 x_12.2.2.1, .int .u32 x_12.2.2.2.1, .int .u32 x_12.2.2.2.2]⟩, .slice x_13.a x_13.n x_13.c, .slice x_14.a x_14.n x_14.c] [.sc .sl, .sc (.int .i64)] fun (x_15 : Sl × Int) =>
  joinW (σ := Bool) (fun J_16 =>
    cond (x_11.2 != 0)
      (J_16 true)
      (J_16 (x_15.2 != 0)))
  <| fun s_17 =>
  cond s_17
    (retW true)
    (joinW (σ := Bool) (fun J_18 =>
    drawW <|
    bothW
      (ld (.agg [.int .u8, .int .u8, .int .u32, .int .u32, .int .u32]) a_1 fun (x_19 : (Int × Int × Int × Int × Int)) =>
      ld (.agg [.int .u8, .int .u8, .int .u32, .int .u32, .int .u32]) b_2 fun (x_20 : (Int × Int × Int × Int × Int)) =>
      callW Try.prog k_pinnaceref01_Same [.slice x_11.1.a x_11.1.n x_11.1.c, .slice x_15.1.a x_15.1.n x_15.1.c] [.sc .bool] fun (x_21 : Bool) =>
      andW (fun w => Rd w b_2 (.agg [.int .u8, .int .u8, .int .u32, .int .u32, .int .u32]) x_20) <|
      andW (fun w => Rd w a_1 (.agg [.int .u8, .int .u8, .int .u32, .int .u32, .int .u32]) x_19) <|
      rawQ Try.prog (do Go.eqGuard .eql 28 (.tmp 53) (.tmp 54) (.agg ⟨[.int .u8 x_19.1, .int .u8 x_19.2.1, .int .u32 x_19.2.2.1, .int .u32 x_19.2.2.2.1, .int .u32 x_19.2.2.2.2]⟩) (.agg ⟨[.int .u8 x_20.1, .int .u8 x_20.2.1, .int .u32 x_20.2.2.1, .int .u32 x_20.2.2.2.1, .int .u32 x_20.2.2.2.2]⟩); Go.binOp .eql 28 (.agg ⟨[.int .u8 x_19.1, .int .u8 x_19.2.1, .int .u32 x_19.2.2.1, .int .u32 x_19.2.2.2.1, .int .u32 x_19.2.2.2.2]⟩) (.agg ⟨[.int .u8 x_20.1, .int .u8 x_20.2.1, .int .u32 x_20.2.2.1, .int .u32 x_20.2.2.2.1, .int .u32 x_20.2.2.2.2]⟩)) [.sc .bool] fun (x_22 : Bool) =>
      cond x_22
        (callW Try.prog k_pinnaceref10_SameEnts [.slice x3.a x3.n x3.c, .slice y4.a y4.n y4.c] [.sc .bool] fun (x_23 : Bool) =>
            J_18 (x_21 == x_23))
        (J_18 (x_21 == false)))
      (ld (.agg [.int .u8, .int .u8, .int .u32, .int .u32, .int .u32]) a_1 fun (x_24 : (Int × Int × Int × Int × Int)) =>
      ld (.agg [.int .u8, .int .u8, .int .u32, .int .u32, .int .u32]) b_2 fun (x_25 : (Int × Int × Int × Int × Int)) =>
      rawQ Try.prog (do Go.eqGuard .eql 28 (.tmp 53) (.tmp 54) (.agg ⟨[.int .u8 x_24.1, .int .u8 x_24.2.1, .int .u32 x_24.2.2.1, .int .u32 x_24.2.2.2.1, .int .u32 x_24.2.2.2.2]⟩) (.agg ⟨[.int .u8 x_25.1, .int .u8 x_25.2.1, .int .u32 x_25.2.2.1, .int .u32 x_25.2.2.2.1, .int .u32 x_25.2.2.2.2]⟩); Go.binOp .eql 28 (.agg ⟨[.int .u8 x_24.1, .int .u8 x_24.2.1, .int .u32 x_24.2.2.1, .int .u32 x_24.2.2.2.1, .int .u32 x_24.2.2.2.2]⟩) (.agg ⟨[.int .u8 x_25.1, .int .u8 x_25.2.1, .int .u32 x_25.2.2.1, .int .u32 x_25.2.2.2.1, .int .u32 x_25.2.2.2.2]⟩)) [.sc .bool] fun (x_26 : Bool) =>
      callW Try.prog k_pinnaceref01_Same [.slice x_11.1.a x_11.1.n x_11.1.c, .slice x_15.1.a x_15.1.n x_15.1.c] [.sc .bool] fun (x_27 : Bool) =>
      andW (fun w => Rd w b_2 (.agg [.int .u8, .int .u8, .int .u32, .int .u32, .int .u32]) x_25) <|
      andW (fun w => Rd w a_1 (.agg [.int .u8, .int .u8, .int .u32, .int .u32, .int .u32]) x_24) <|
      cond x_26
        (callW Try.prog k_pinnaceref10_SameEnts [.slice x3.a x3.n x3.c, .slice y4.a y4.n y4.c] [.sc .bool] fun (x_28 : Bool) =>
            J_18 (x_27 == x_28))
        (J_18 (x_27 == false))))
  <| fun s_29 =>
  retW s_29)))
def H_pinnacelaw20_PacketApart : Hints := { reg := [(3, [(25, .sc .bool)]), (7, [(49, .sc .bool)]), (9, [(10, .sc .bool)])], dr := [(5, ([], [[(0, []), (1, []), (3, []), (2, [0]), (4, [0]), (5, []), (6, []), (7, []), (8, []), (9, []), (10, [])]])), (6, ([], [[(0, []), (1, []), (3, []), (2, [0]), (4, [0]), (5, []), (6, []), (7, []), (8, []), (9, []), (10, [])]])), (9, ([(2, 5)], [[(0, []), (1, []), (3, []), (4, []), (2, [3, 4]), (5, []), (6, []), (7, []), (8, []), (9, []), (10, []), (11, []), (12, [])], [(0, []), (1, []), (3, []), (4, []), (5, []), (2, [3, 4]), (6, []), (7, []), (8, []), (9, []), (10, []), (11, []), (12, [])]]))] }
set_option maxRecDepth 100000 in
theorem E_pinnacelaw20_PacketApart (a0 : (Int × Int × Int × Int × Int)) (b1 : (Int × Int × Int × Int × Int)) (was2 : Sl) (x3 : Sl) (y4 : Sl) : denF Try.prog H_pinnacelaw20_PacketApart Try.f4 [.sc .bool] [.agg ⟨[.int .u8 a0.1, .int .u8 a0.2.1, .int .u32 a0.2.2.1, .int .u32 a0.2.2.2.1, .int .u32 a0.2.2.2.2]⟩, .agg ⟨[.int .u8 b1.1, .int .u8 b1.2.1, .int .u32 b1.2.2.1, .int .u32 b1.2.2.2.1, .int .u32 b1.2.2.2.2]⟩, .slice was2.a was2.n was2.c, .slice x3.a x3.n x3.c, .slice y4.a y4.n y4.c] = F_pinnacelaw20_PacketApart a0 b1 was2 x3 y4 := by kernel_rfl
theorem C_pinnacelaw20_PacketApart {R : Type} (a0 : (Int × Int × Int × Int × Int)) (b1 : (Int × Int × Int × Int × Int)) (was2 : Sl) (x3 : Sl) (y4 : Sl) (K : Res [.sc .bool] → W R) (Q : R → World → Prop) (w : World) (h : F_pinnacelaw20_PacketApart a0 b1 was2 x3 y4 (fun r w => K r Q w) w) : callW Try.prog k_pinnacelaw20_PacketApart [.agg ⟨[.int .u8 a0.1, .int .u8 a0.2.1, .int .u32 a0.2.2.1, .int .u32 a0.2.2.2.1, .int .u32 a0.2.2.2.2]⟩, .agg ⟨[.int .u8 b1.1, .int .u8 b1.2.1, .int .u32 b1.2.2.1, .int .u32 b1.2.2.2.1, .int .u32 b1.2.2.2.2]⟩, .slice was2.a was2.n was2.c, .slice x3.a x3.n x3.c, .slice y4.a y4.n y4.c] [.sc .bool] K Q w :=
  den_calls mix Try.func4 H_pinnacelaw20_PacketApart (ts := [.sc .bool]) trivial (by rw [Try.ntmps4]; simp) (by rw [E_pinnacelaw20_PacketApart]; exact h)

/-! 5 pinnace/pinnacelaw13.OrdersNone -/
def F_pinnacelaw13_OrdersNone (o0 : (Int × Int × Int × Sl)) : W (Bool) :=
  newW 41 [.int .u8 o0.1, .int .u32 o0.2.1, .int .u8 o0.2.2.1, .slice o0.2.2.2.a o0.2.2.2.n o0.2.2.2.c] fun o_1 =>
  callW Try.prog k_pinnacelaw13_awake [] [.sc .bool] fun (x_2 : Bool) =>
  cond (!x_2)
    (retW false)
    (ld (.sc .sl) (Addr.add o_1 3) fun (x_3 : Sl) =>
  ld (.sc .sl) (Addr.add o_1 3) fun (x_4 : Sl) =>
  slcW x_3.a x_3.n x_3.c 4 none (some (if 20 < (x_4.n : Int) then 20 else (x_4.n : Int))) fun x_5 =>
  stoL (Addr.add o_1 3) [.slice x_5.a x_5.n x_5.c] 0 <|
  ld (.agg [.int .u8, .int .u32, .int .u8, .sl]) o_1 fun (x_6 : (Int × Int × Int × Sl)) =>
  callW Try.prog k_orders_Do [.pointer none, .agg ⟨[.int .u8 x_6.1, .int .u32 x_6.2.1, .int .u8 x_6.2.2.1, .slice x_6.2.2.2.a x_6.2.2.2.n x_6.2.2.2.c]⟩] [.agg [.int .i64, .int .u32]] fun (x_7 : (Int × Int)) =>
  newW 43 [.int .i64 0, .int .u32 0] fun r_8 =>
  stoL r_8 [.int .i64 x_7.1, .int .u32 x_7.2] 0 <|
  ld (.agg [.int .u8, .int .u32, .int .u8, .sl]) o_1 fun (x_9 : (Int × Int × Int × Sl)) =>
  callW Try.prog k_pinnaceref13_Check [.agg ⟨[.int .u8 x_9.1, .int .u32 x_9.2.1, .int .u8 x_9.2.2.1, .slice x_9.2.2.2.a x_9.2.2.2.n x_9.2.2.2.c]⟩] [.sc (.int .i64)] fun (x_10 : Int) =>
  joinW (σ := Bool) (fun J_11 =>
    ld (.sc (.int .u32)) (Addr.add r_8 1) fun (x_12 : Int) =>
    cond (x_12 == 0)
      (cond (x_10 != 0)
            (ld (.sc (.int .i64)) (Addr.add r_8 0) fun (x_13 : Int) =>
              cond (x_13 == x_10)
                        (J_11 true)
                        (cond (x_10 == 0)
                              (ld (.sc (.int .i64)) (Addr.add r_8 0) fun (x_14 : Int) =>
                                J_11 (x_14 == 10))
                              (J_11 false)))
            (cond (x_10 == 0)
                              (ld (.sc (.int .i64)) (Addr.add r_8 0) fun (x_15 : Int) =>
                                J_11 (x_15 == 10))
                              (J_11 false)))
      (J_11 false))
  <| fun s_16 =>
  retW s_16)
def H_pinnacelaw13_OrdersNone : Hints := { reg := [(6, [(2, .sc .bool)])] }
theorem E_pinnacelaw13_OrdersNone (o0 : (Int × Int × Int × Sl)) : denF Try.prog H_pinnacelaw13_OrdersNone Try.f5 [.sc .bool] [.agg ⟨[.int .u8 o0.1, .int .u32 o0.2.1, .int .u8 o0.2.2.1, .slice o0.2.2.2.a o0.2.2.2.n o0.2.2.2.c]⟩] = F_pinnacelaw13_OrdersNone o0 := by kernel_rfl
theorem C_pinnacelaw13_OrdersNone {R : Type} (o0 : (Int × Int × Int × Sl)) (K : Res [.sc .bool] → W R) (Q : R → World → Prop) (w : World) (h : F_pinnacelaw13_OrdersNone o0 (fun r w => K r Q w) w) : callW Try.prog k_pinnacelaw13_OrdersNone [.agg ⟨[.int .u8 o0.1, .int .u32 o0.2.1, .int .u8 o0.2.2.1, .slice o0.2.2.2.a o0.2.2.2.n o0.2.2.2.c]⟩] [.sc .bool] K Q w :=
  den_calls mix Try.func5 H_pinnacelaw13_OrdersNone (ts := [.sc .bool]) trivial (by rw [Try.ntmps5]; simp) (by rw [E_pinnacelaw13_OrdersNone]; exact h)

/-! 6 pinnace/pinnacelaw13.OrdersChecks -/
def F_pinnacelaw13_OrdersChecks (d0 : Sl) : W (Bool) :=
  callW Try.prog k_pinnacelaw13_awake [] [.sc .bool] fun (x_1 : Bool) =>
  cond (!x_1)
    (retW false)
    (callW Try.prog k_pinnaceref13_Few [.slice d0.a d0.n d0.c, .int .i64 60] [.sc .sl] fun (x_2 : Sl) =>
  callW Try.prog k_orders_New [] [.sc .ptr] fun (x_3 : (Option Addr)) =>
  callW Try.prog k_pinnaceref13_Twins [.slice x_2.a x_2.n x_2.c] [.sc .sl] fun (x_4 : Sl) =>
  loopW (σ := Sl × Int) (fun K_5 s_6 =>
    cond (decide (s_6.2 < (x_4.n : Int)))
      (idxW x_4.a x_4.n 4 s_6.2 fun x_7 =>
    ld (.agg [.int .u8, .int .u32, .int .u8, .sl]) x_7 fun (x_8 : (Int × Int × Int × Sl)) =>
    newW 41 [.int .u8 0, .int .u32 0, .int .u8 0, .slice none 0 0] fun x_9 =>
    stoL x_9 [.int .u8 x_8.1, .int .u32 x_8.2.1, .int .u8 x_8.2.2.1, .slice x_8.2.2.2.a x_8.2.2.2.n x_8.2.2.2.c] 0 <|
    idxW x_2.a x_2.n 4 s_6.2 fun x_10 =>
    ld (.agg [.int .u8, .int .u32, .int .u8, .sl]) x_10 fun (x_11 : (Int × Int × Int × Sl)) =>
    callW Try.prog k_pinnaceref13_Check [.agg ⟨[.int .u8 x_11.1, .int .u32 x_11.2.1, .int .u8 x_11.2.2.1, .slice x_11.2.2.2.a x_11.2.2.2.n x_11.2.2.2.c]⟩] [.sc (.int .i64)] fun (x_12 : Int) =>
    joinW (σ := Bool) (fun J_13 =>
      ld (.agg [.int .u8, .int .u32, .int .u8, .sl]) x_9 fun (x_14 : (Int × Int × Int × Sl)) =>
      callW Try.prog k_orders_Check [.agg ⟨[.int .u8 x_14.1, .int .u32 x_14.2.1, .int .u8 x_14.2.2.1, .slice x_14.2.2.2.a x_14.2.2.2.n x_14.2.2.2.c]⟩] [.sc (.int .i64)] fun (x_15 : Int) =>
      cond (x_15 != x_12)
        (J_13 true)
        (ld (.agg [.int .u8, .int .u32, .int .u8, .sl]) x_9 fun (x_16 : (Int × Int × Int × Sl)) =>
          callW Try.prog k_orders_Buffer_Push [.pointer x_3, .agg ⟨[.int .u8 x_16.1, .int .u32 x_16.2.1, .int .u8 x_16.2.2.1, .slice x_16.2.2.2.a x_16.2.2.2.n x_16.2.2.2.c]⟩] [.sc (.int .i64)] fun (x_17 : Int) =>
            cond (x_17 != x_12)
                  (J_13 true)
                  (ld (.agg [.int .u8, .int .u32, .int .u8, .sl]) x_9 fun (x_18 : (Int × Int × Int × Sl)) =>
                    callW Try.prog k_orders_Buffer_Push [.pointer none, .agg ⟨[.int .u8 x_18.1, .int .u32 x_18.2.1, .int .u8 x_18.2.2.1, .slice x_18.2.2.2.a x_18.2.2.2.n x_18.2.2.2.c]⟩] [.sc (.int .i64)] fun (x_19 : Int) =>
                      J_13 (x_19 != 10))))
    <| fun s_20 =>
    cond s_20
      (retW false)
      (joinW (σ := Sl) (fun J_21 =>
      cond (x_12 == 0)
        (idxW x_2.a x_2.n 4 s_6.2 fun x_22 =>
        ld (.agg [.int .u8, .int .u32, .int .u8, .sl]) x_22 fun (x_23 : (Int × Int × Int × Sl)) =>
        newW 41 [.int .u8 x_23.1, .int .u32 x_23.2.1, .int .u8 x_23.2.2.1, .slice x_23.2.2.2.a x_23.2.2.2.n x_23.2.2.2.c] fun x_24 =>
        rawW Try.prog (Builtin.append_ #[47, 47] 47 #[.slice s_6.1.a s_6.1.n s_6.1.c, .slice (some x_24) 1 1]) [.sc .sl] fun (x_25 : Sl) =>
        J_21 x_25)
        (J_21 s_6.1))
    <| fun s_26 =>
    ld (.sc .sl) (Addr.add x_9 3) fun (x_27 : Sl) =>
    loopW (σ := Int) (fun K_28 s_29 =>
      cond (decide (s_29 < (x_27.n : Int)))
        (drawW <|
      ld (.sc .sl) (Addr.add x_9 3) fun (x_30 : Sl) =>
      idxW x_30.a x_30.n 4 s_29 fun x_31 =>
      idxW (some (Addr.add x_31 1)) 3 1 0 fun x_32 =>
      ld (.sc (.int .i32)) x_32 fun (x_33 : Int) =>
      idxW x_30.a x_30.n 4 s_29 fun x_34 =>
      idxW (some (Addr.add x_34 1)) 3 1 0 fun x_35 =>
      stoL x_35 [.int .i32 (bXor .i32 x_33 1)] 0 <|
      K_28 (IntKind.wrap .i64 (s_29 + 1)))
        (callW Try.prog k_orders_Buffer_Len [.pointer x_3] [.sc (.int .i64)] fun (x_36 : Int) =>
    cond (x_36 != (s_26.n : Int))
      (retW false)
      (K_5 (s_26, IntKind.wrap .i64 (s_6.2 + 1)))))
      0))
      (callW Try.prog k_orders_Buffer_Take [.pointer x_3] [.sc .sl] fun (x_37 : Sl) =>
  joinW (σ := Bool) (fun J_38 =>
    cond ((x_37.n : Int) != (s_6.1.n : Int))
      (J_38 true)
      (callW Try.prog k_orders_Buffer_Len [.pointer x_3] [.sc (.int .i64)] fun (x_39 : Int) =>
        cond (x_39 != 0)
            (J_38 true)
            (callW Try.prog k_orders_Buffer_Take [.pointer x_3] [.sc .sl] fun (x_40 : Sl) =>
              cond ((x_40.n : Int) != 0)
                    (J_38 true)
                    (callW Try.prog k_orders_Buffer_Take [.pointer none] [.sc .sl] fun (x_41 : Sl) =>
                      cond ((x_41.n : Int) != 0)
                            (J_38 true)
                            (callW Try.prog k_orders_Buffer_Len [.pointer none] [.sc (.int .i64)] fun (x_42 : Int) =>
                              J_38 (x_42 != 0))))))
  <| fun s_43 =>
  cond s_43
    (retW false)
    (loopW (σ := Int) (fun K_44 s_45 =>
    cond (decide (s_45 < (x_37.n : Int)))
      (drawW <|
    idxW x_37.a x_37.n 4 s_45 fun x_46 =>
    ld (.agg [.int .u8, .int .u32, .int .u8, .sl]) x_46 fun (x_47 : (Int × Int × Int × Sl)) =>
    idxW s_6.1.a s_6.1.n 4 s_45 fun x_48 =>
    ld (.agg [.int .u8, .int .u32, .int .u8, .sl]) x_48 fun (x_49 : (Int × Int × Int × Sl)) =>
    callW Try.prog k_pinnaceref13_SameOrder [.agg ⟨[.int .u8 x_47.1, .int .u32 x_47.2.1, .int .u8 x_47.2.2.1, .slice x_47.2.2.2.a x_47.2.2.2.n x_47.2.2.2.c]⟩, .agg ⟨[.int .u8 x_49.1, .int .u32 x_49.2.1, .int .u8 x_49.2.2.1, .slice x_49.2.2.2.a x_49.2.2.2.n x_49.2.2.2.c]⟩] [.sc .bool] fun (x_50 : Bool) =>
    cond (!x_50)
      (retW false)
      (K_44 (IntKind.wrap .i64 (s_45 + 1))))
      (retW true))
    0)))
    ((⟨none, 0, 0⟩ : Sl), 0))
def H_pinnacelaw13_OrdersChecks : Hints := { reg := [(12, [(48, .sc .bool)]), (25, [(110, .sc .bool)])], con := [(16050, [(6, .sc .sl)])], lop := [(0, [(6, .sc .sl), (22, .sc (.int .i64))]), (2, [(61, .sc (.int .i64))]), (4, [(113, .sc (.int .i64))])], dr := [(19, ([], [[(0, []), (1, []), (2, []), (3, []), (4, []), (5, []), (6, []), (7, []), (8, []), (9, []), (10, []), (11, [])]])), (30, ([], [[(0, []), (1, []), (2, []), (3, []), (4, []), (5, []), (6, []), (7, []), (8, []), (9, [])]]))] }
set_option maxRecDepth 100000 in
theorem E_pinnacelaw13_OrdersChecks (d0 : Sl) : denF Try.prog H_pinnacelaw13_OrdersChecks Try.f6 [.sc .bool] [.slice d0.a d0.n d0.c] = F_pinnacelaw13_OrdersChecks d0 := by kernel_rfl
theorem C_pinnacelaw13_OrdersChecks {R : Type} (d0 : Sl) (K : Res [.sc .bool] → W R) (Q : R → World → Prop) (w : World) (h : F_pinnacelaw13_OrdersChecks d0 (fun r w => K r Q w) w) : callW Try.prog k_pinnacelaw13_OrdersChecks [.slice d0.a d0.n d0.c] [.sc .bool] K Q w :=
  den_calls mix Try.func6 H_pinnacelaw13_OrdersChecks (ts := [.sc .bool]) trivial (by rw [Try.ntmps6]; simp) (by rw [E_pinnacelaw13_OrdersChecks]; exact h)

/-! 7 pinnace/pinnacelaw13.OrdersFull -/
def F_pinnacelaw13_OrdersFull (more0 : Int) : W (Bool) :=
  callW Try.prog k_pinnacelaw13_awake [] [.sc .bool] fun (x_1 : Bool) =>
  cond (!x_1)
    (retW false)
    (callW Try.prog k_orders_New [] [.sc .ptr] fun (x_2 : (Option Addr)) =>
  loopW (σ := Int) (fun K_3 s_4 =>
    cond (decide (s_4 < 256))
      (callW Try.prog k_orders_Buffer_Push [.pointer x_2, .agg ⟨[.int .u8 1, .int .u32 0, .int .u8 0, .slice none 0 0]⟩] [.sc (.int .i64)] fun (x_5 : Int) =>
    cond (x_5 != 0)
      (retW false)
      (K_3 (IntKind.wrap .i64 (s_4 + 1))))
      (loopW (σ := Int) (fun K_6 s_7 =>
    cond (decide (s_7 < (IntKind.wrap .u8 (1 + (Int.tmod more0 5)))))
      (joinW (σ := Bool) (fun J_8 =>
      callW Try.prog k_orders_Buffer_Push [.pointer x_2, .agg ⟨[.int .u8 1, .int .u32 0, .int .u8 0, .slice none 0 0]⟩] [.sc (.int .i64)] fun (x_9 : Int) =>
      cond (x_9 != 8)
        (J_8 true)
        (callW Try.prog k_orders_Buffer_Len [.pointer x_2] [.sc (.int .i64)] fun (x_10 : Int) =>
          J_8 (x_10 != 256)))
    <| fun s_11 =>
    cond s_11
      (retW false)
      (K_6 (IntKind.wrap .u8 (s_7 + 1))))
      (joinW (σ := Bool) (fun J_12 =>
    callW Try.prog k_orders_Buffer_Take [.pointer x_2] [.sc .sl] fun (x_13 : Sl) =>
    cond ((x_13.n : Int) == 256)
      (callW Try.prog k_orders_Buffer_Push [.pointer x_2, .agg ⟨[.int .u8 1, .int .u32 0, .int .u8 0, .slice none 0 0]⟩] [.sc (.int .i64)] fun (x_14 : Int) =>
          J_12 (x_14 == 0))
      (J_12 false))
  <| fun s_15 =>
  retW s_15))
    0))
    0)
def H_pinnacelaw13_OrdersFull : Hints := { reg := [(11, [(27, .sc .bool)]), (14, [(2, .sc .bool)])], lop := [(0, [(7, .sc (.int .i64))]), (2, [(17, .sc (.int .u8))])] }
theorem E_pinnacelaw13_OrdersFull (more0 : Int) : denF Try.prog H_pinnacelaw13_OrdersFull Try.f7 [.sc .bool] [.int .u8 more0] = F_pinnacelaw13_OrdersFull more0 := by kernel_rfl
theorem C_pinnacelaw13_OrdersFull {R : Type} (more0 : Int) (K : Res [.sc .bool] → W R) (Q : R → World → Prop) (w : World) (h : F_pinnacelaw13_OrdersFull more0 (fun r w => K r Q w) w) : callW Try.prog k_pinnacelaw13_OrdersFull [.int .u8 more0] [.sc .bool] K Q w :=
  den_calls mix Try.func7 H_pinnacelaw13_OrdersFull (ts := [.sc .bool]) trivial (by rw [Try.ntmps7]; simp) (by rw [E_pinnacelaw13_OrdersFull]; exact h)

/-! 8 pinnace/pinnacelaw13.OrdersParts -/
def F_pinnacelaw13_OrdersParts (d0 : Sl) (o1 : Int) : W (Bool) :=
  callW Try.prog k_pinnacelaw13_awake [] [.sc .bool] fun (x_1 : Bool) =>
  cond (!x_1)
    (retW false)
    (callW Try.prog k_pinnaceref13_Few [.slice d0.a d0.n d0.c, .int .i64 40] [.sc .sl] fun (x_2 : Sl) =>
  chkW ((IntKind.wrap .i64 ((x_2.n : Int) + 1)) ≠ 0) <|
  callW Try.prog k_store_New [.int .i64 8, .int .i64 1] [.sc .ptr, .sc (.int .i64)] fun (x_3 : (Option Addr) × Int) =>
  callW Try.prog k_store_New [.int .i64 8, .int .i64 1] [.sc .ptr, .sc (.int .i64)] fun (x_4 : (Option Addr) × Int) =>
  callW Try.prog k_pinnaceref13_Twins [.slice x_2.a x_2.n x_2.c] [.sc .sl] fun (x_5 : Sl) =>
  callW Try.prog k_orders_All [.pointer x_3.1, .slice x_5.a x_5.n x_5.c] [.sc .sl] fun (x_6 : Sl) =>
  drawW <|
  slcW x_2.a x_2.n x_2.c 4 none (some (Int.tmod (IntKind.wrap .i64 o1) (IntKind.wrap .i64 ((x_2.n : Int) + 1)))) fun x_7 =>
  slcW x_2.a x_2.n x_2.c 4 (some (Int.tmod (IntKind.wrap .i64 o1) (IntKind.wrap .i64 ((x_2.n : Int) + 1)))) none fun x_8 =>
  callW Try.prog k_pinnaceref13_Twins [.slice x_7.a x_7.n x_7.c] [.sc .sl] fun (x_9 : Sl) =>
  callW Try.prog k_orders_All [.pointer x_4.1, .slice x_9.a x_9.n x_9.c] [.sc .sl] fun (x_10 : Sl) =>
  callW Try.prog k_pinnaceref13_Twins [.slice x_8.a x_8.n x_8.c] [.sc .sl] fun (x_11 : Sl) =>
  callW Try.prog k_orders_All [.pointer x_4.1, .slice x_11.a x_11.n x_11.c] [.sc .sl] fun (x_12 : Sl) =>
  rawW Try.prog (Builtin.append_ #[64, 64] 64 #[.slice x_10.a x_10.n x_10.c, .slice x_12.a x_12.n x_12.c]) [.sc .sl] fun (x_13 : Sl) =>
  joinW (σ := Bool) (fun J_14 =>
    callW Try.prog k_pinnaceref13_SameResults [.slice x_6.a x_6.n x_6.c, .slice x_13.a x_13.n x_13.c] [.sc .bool] fun (x_15 : Bool) =>
    cond (!x_15)
      (J_14 true)
      (callW Try.prog k_store_Store_Len [.pointer x_3.1] [.sc (.int .i64)] fun (x_16 : Int) =>
        callW Try.prog k_store_Store_Len [.pointer x_4.1] [.sc (.int .i64)] fun (x_17 : Int) =>
            J_14 (x_16 != x_17)))
  <| fun s_18 =>
  cond s_18
    (retW false)
    (callW Try.prog k_store_Store_List [.pointer x_3.1] [.sc .sl] fun (x_19 : Sl) =>
  loopW (σ := Int) (fun K_20 s_21 =>
    cond (decide (s_21 < (x_19.n : Int)))
      (idxW x_19.a x_19.n 1 s_21 fun x_22 =>
    ld (.sc (.int .u32)) x_22 fun (x_23 : Int) =>
    callW Try.prog k_store_Store_Ent [.pointer x_3.1, .int .u32 x_23] [.agg [.int .u32, .sl], .sc (.int .i64)] fun (x_24 : (Int × Sl) × Int) =>
    newW 70 [.int .u32 0, .slice none 0 0] fun x_25 =>
    stoL x_25 [.int .u32 x_24.1.1, .slice x_24.1.2.a x_24.1.2.n x_24.1.2.c] 0 <|
    callW Try.prog k_store_Store_Ent [.pointer x_4.1, .int .u32 x_23] [.agg [.int .u32, .sl], .sc (.int .i64)] fun (x_26 : (Int × Sl) × Int) =>
    newW 70 [.int .u32 0, .slice none 0 0] fun x_27 =>
    stoL x_27 [.int .u32 x_26.1.1, .slice x_26.1.2.a x_26.1.2.n x_26.1.2.c] 0 <|
    ld (.agg [.int .u32, .sl]) x_25 fun (x_28 : (Int × Sl)) =>
    ld (.agg [.int .u32, .sl]) x_27 fun (x_29 : (Int × Sl)) =>
    callW Try.prog k_pinnaceref10_SameEnt [.agg ⟨[.int .u32 x_28.1, .slice x_28.2.a x_28.2.n x_28.2.c]⟩, .agg ⟨[.int .u32 x_29.1, .slice x_29.2.a x_29.2.n x_29.2.c]⟩] [.sc .bool] fun (x_30 : Bool) =>
    cond (!x_30)
      (retW false)
      (K_20 (IntKind.wrap .i64 (s_21 + 1))))
      (retW true))
    0))
def H_pinnacelaw13_OrdersParts : Hints := { reg := [(9, [(63, .sc .bool)])], lop := [(0, [(67, .sc (.int .i64))])], dr := [(8, ([], [[(0, []), (1, []), (2, []), (3, []), (6, []), (7, []), (8, []), (9, []), (4, []), (5, []), (10, []), (11, []), (12, []), (13, [])]]))] }
theorem E_pinnacelaw13_OrdersParts (d0 : Sl) (o1 : Int) : denF Try.prog H_pinnacelaw13_OrdersParts Try.f8 [.sc .bool] [.slice d0.a d0.n d0.c, .int .u8 o1] = F_pinnacelaw13_OrdersParts d0 o1 := by kernel_rfl
theorem C_pinnacelaw13_OrdersParts {R : Type} (d0 : Sl) (o1 : Int) (K : Res [.sc .bool] → W R) (Q : R → World → Prop) (w : World) (h : F_pinnacelaw13_OrdersParts d0 o1 (fun r w => K r Q w) w) : callW Try.prog k_pinnacelaw13_OrdersParts [.slice d0.a d0.n d0.c, .int .u8 o1] [.sc .bool] K Q w :=
  den_calls mix Try.func8 H_pinnacelaw13_OrdersParts (ts := [.sc .bool]) trivial (by rw [Try.ntmps8]; simp) (by rw [E_pinnacelaw13_OrdersParts]; exact h)

/-! 9 pinnace/pinnacelaw11.StoreFull -/
def F_pinnacelaw11_StoreFull (d0 : Int) (o1 : Sl) : W (Bool) :=
  callW Try.prog k_pinnacelaw11_awake [] [.sc .bool] fun (x_1 : Bool) =>
  cond (!x_1)
    (retW false)
    (callW Try.prog k_store_New [.int .i64 (IntKind.wrap .i64 (1 + (IntKind.wrap .i64 (Int.tmod d0 30)))), .int .i64 1] [.sc .ptr, .sc (.int .i64)] fun (x_2 : (Option Addr) × Int) =>
  joinW (σ := Bool) (fun J_3 =>
    cond (x_2.2 != 0)
      (J_3 true)
      (callW Try.prog k_pinnaceref05_List [.slice o1.a o1.n o1.c] [.sc (.int .i64)] fun (x_4 : Int) =>
        J_3 (x_4 != 0)))
  <| fun s_5 =>
  cond s_5
    (retW (x_2.2 == 0))
    (loopW (σ := Sl × Int) (fun K_6 s_7 =>
    cond (decide (s_7.2 < (IntKind.wrap .i64 (1 + (IntKind.wrap .i64 (Int.tmod d0 30))))))
      (callW Try.prog k_pinnaceref05_Twin [.slice o1.a o1.n o1.c] [.sc .sl] fun (x_8 : Sl) =>
    callW Try.prog k_store_Store_Spawn [.pointer x_2.1, .slice x_8.a x_8.n x_8.c] [.sc (.int .u32), .sc (.int .i64)] fun (x_9 : Int × Int) =>
    cond (x_9.2 != 0)
      (retW false)
      (newW 38 [.int .u32 x_9.1] fun x_10 =>
    rawW Try.prog (Builtin.append_ #[67, 67] 67 #[.slice s_7.1.a s_7.1.n s_7.1.c, .slice (some x_10) 1 1]) [.sc .sl] fun (x_11 : Sl) =>
    K_6 (x_11, IntKind.wrap .i64 (s_7.2 + 1))))
      (callW Try.prog k_pinnaceref05_Twin [.slice o1.a o1.n o1.c] [.sc .sl] fun (x_12 : Sl) =>
  callW Try.prog k_store_Store_Spawn [.pointer x_2.1, .slice x_12.a x_12.n x_12.c] [.sc (.int .u32), .sc (.int .i64)] fun (x_13 : Int × Int) =>
  joinW (σ := Bool) (fun J_14 =>
    cond (x_13.2 != 8)
      (J_14 true)
      (cond (x_13.1 != 0)
          (J_14 true)
          (callW Try.prog k_store_Store_Len [.pointer x_2.1] [.sc (.int .i64)] fun (x_15 : Int) =>
            cond (x_15 != (IntKind.wrap .i64 (1 + (IntKind.wrap .i64 (Int.tmod d0 30)))))
                  (J_14 true)
                  (callW Try.prog k_store_Store_Room [.pointer x_2.1] [.sc (.int .i64)] fun (x_16 : Int) =>
                    cond (x_16 != 0)
                        (J_14 true)
                        (idxW s_7.1.a s_7.1.n 1 (IntKind.wrap .i64 (Int.tdiv (IntKind.wrap .i64 (1 + (IntKind.wrap .i64 (Int.tmod d0 30)))) 2)) fun x_17 =>
                                ld (.sc (.int .u32)) x_17 fun (x_18 : Int) =>
                                  callW Try.prog k_store_Store_Despawn [.pointer x_2.1, .int .u32 x_18] [.sc (.int .i64)] fun (x_19 : Int) =>
                                    J_14 (x_19 != 0))))))
  <| fun s_20 =>
  cond s_20
    (retW false)
    (callW Try.prog k_pinnaceref05_Twin [.slice o1.a o1.n o1.c] [.sc .sl] fun (x_21 : Sl) =>
  callW Try.prog k_store_Store_Spawn [.pointer x_2.1, .slice x_21.a x_21.n x_21.c] [.sc (.int .u32), .sc (.int .i64)] fun (x_22 : Int × Int) =>
  joinW (σ := Bool) (fun J_23 =>
    drawW <|
    cond (x_22.2 == 0)
      (idxW s_7.1.a s_7.1.n 1 (IntKind.wrap .i64 (Int.tdiv (IntKind.wrap .i64 (1 + (IntKind.wrap .i64 (Int.tmod d0 30)))) 2)) fun x_24 =>
              ld (.sc (.int .u32)) x_24 fun (x_25 : Int) =>
                cond (x_22.1 != x_25)
                    (idxW s_7.1.a s_7.1.n 1 (IntKind.wrap .i64 (Int.tdiv (IntKind.wrap .i64 (1 + (IntKind.wrap .i64 (Int.tmod d0 30)))) 2)) fun x_26 =>
                            ld (.sc (.int .u32)) x_26 fun (x_27 : Int) =>
                              callW Try.prog k_pinnaceref07_Slot [.int .u32 x_22.1] [.sc (.int .i64)] fun (x_28 : Int) =>
                                andW (fun w => Rd w x_26 (.sc (.int .u32)) x_27) <|
                                callW Try.prog k_pinnaceref07_Slot [.int .u32 x_27] [.sc (.int .i64)] fun (x_29 : Int) =>
                                  cond (x_28 == x_29)
                                      (idxW s_7.1.a s_7.1.n 1 (IntKind.wrap .i64 (Int.tdiv (IntKind.wrap .i64 (1 + (IntKind.wrap .i64 (Int.tmod d0 30)))) 2)) fun x_30 =>
                                              ld (.sc (.int .u32)) x_30 fun (x_31 : Int) =>
                                                callW Try.prog k_store_Store_Live [.pointer x_2.1, .int .u32 x_31] [.sc .bool] fun (x_32 : Bool) =>
                                                  cond (!x_32)
                                                      (callW Try.prog k_store_Store_Live [.pointer x_2.1, .int .u32 x_22.1] [.sc .bool] fun (x_33 : Bool) =>
                                                          J_23 x_33)
                                                      (J_23 false))
                                      (J_23 false))
                    (J_23 false))
      (J_23 false))
  <| fun s_34 =>
  retW s_34)))
    ((⟨none, 0, 0⟩ : Sl), 0)))
def H_pinnacelaw11_StoreFull : Hints := { reg := [(5, [(32, .sc .bool)]), (16, [(85, .sc .bool)]), (19, [(4, .sc .bool)])], lop := [(0, [(8, .sc .sl), (36, .sc (.int .i64))])], dr := [(19, ([], [[(0, []), (1, []), (2, []), (3, []), (4, []), (5, []), (6, []), (7, []), (8, []), (9, []), (10, []), (11, []), (12, []), (14, []), (15, []), (16, []), (17, []), (18, []), (13, [18]), (19, []), (20, []), (21, []), (22, []), (23, []), (24, []), (25, []), (26, []), (27, []), (28, []), (29, []), (30, []), (31, []), (32, []), (33, []), (34, []), (35, []), (36, []), (37, [])]]))] }
theorem E_pinnacelaw11_StoreFull (d0 : Int) (o1 : Sl) : denF Try.prog H_pinnacelaw11_StoreFull Try.f9 [.sc .bool] [.int .u8 d0, .slice o1.a o1.n o1.c] = F_pinnacelaw11_StoreFull d0 o1 := by kernel_rfl
theorem C_pinnacelaw11_StoreFull {R : Type} (d0 : Int) (o1 : Sl) (K : Res [.sc .bool] → W R) (Q : R → World → Prop) (w : World) (h : F_pinnacelaw11_StoreFull d0 o1 (fun r w => K r Q w) w) : callW Try.prog k_pinnacelaw11_StoreFull [.int .u8 d0, .slice o1.a o1.n o1.c] [.sc .bool] K Q w :=
  den_calls mix Try.func9 H_pinnacelaw11_StoreFull (ts := [.sc .bool]) trivial (by rw [Try.ntmps9]; simp) (by rw [E_pinnacelaw11_StoreFull]; exact h)

/-! 10 pinnace/pinnacelaw11.StoreMoves -/
def F_pinnacelaw11_StoreMoves (d0 : Sl) (o1 : (Int × Int × Int × Int)) (p2 : Int) : W (Bool) :=
  newW 55 [.int .u8 o1.1, .int .i32 o1.2.1, .int .i32 o1.2.2.1, .int .i32 o1.2.2.2] fun x_1 =>
  callW Try.prog k_pinnacelaw11_awake [] [.sc .bool] fun (x_2 : Bool) =>
  cond (!x_2)
    (retW false)
    (callW Try.prog k_store_New [.int .i64 20, .int .i64 1] [.sc .ptr, .sc (.int .i64)] fun (x_3 : (Option Addr) × Int) =>
  joinW (σ := Bool) (fun J_4 =>
    cond (x_3.2 != 0)
      (J_4 true)
      (callW Try.prog k_pinnaceref05_List [.slice d0.a d0.n d0.c] [.sc (.int .i64)] fun (x_5 : Int) =>
        cond (x_5 != 0)
            (J_4 true)
            (ld (.agg [.int .u8, .int .i32, .int .i32, .int .i32]) x_1 fun (x_6 : (Int × Int × Int × Int)) =>
            callW Try.prog k_pinnaceref05_Check [.agg ⟨[.int .u8 x_6.1, .int .i32 x_6.2.1, .int .i32 x_6.2.2.1, .int .i32 x_6.2.2.2]⟩] [.sc (.int .i64)] fun (x_7 : Int) =>
              J_4 (x_7 != 0))))
  <| fun s_8 =>
  cond s_8
    (retW (x_3.2 == 0))
    (loopW (σ := Sl × Int) (fun K_9 s_10 =>
    cond (decide (s_10.2 < (IntKind.wrap .i64 (1 + (IntKind.wrap .i64 (Int.tmod p2 10))))))
      (callW Try.prog k_pinnaceref05_Twin [.slice d0.a d0.n d0.c] [.sc .sl] fun (x_11 : Sl) =>
    callW Try.prog k_store_Store_Spawn [.pointer x_3.1, .slice x_11.a x_11.n x_11.c] [.sc (.int .u32), .sc (.int .i64)] fun (x_12 : Int × Int) =>
    cond (x_12.2 != 0)
      (retW false)
      (newW 38 [.int .u32 x_12.1] fun x_13 =>
    rawW Try.prog (Builtin.append_ #[67, 67] 67 #[.slice s_10.1.a s_10.1.n s_10.1.c, .slice (some x_13) 1 1]) [.sc .sl] fun (x_14 : Sl) =>
    K_9 (x_14, IntKind.wrap .i64 (s_10.2 + 1))))
      (ld (.sc (.int .u8)) (Addr.add x_1 0) fun (x_15 : Int) =>
  callW Try.prog k_pinnaceref05_Find [.slice d0.a d0.n d0.c, .int .u8 x_15] [.sc (.int .i64)] fun (x_16 : Int) =>
  cond (decide (x_16 ≥ 0))
    (drawW <|
    idxW s_10.1.a s_10.1.n 1 0 fun x_17 =>
    ld (.sc (.int .u32)) x_17 fun (x_18 : Int) =>
    ld (.agg [.int .u8, .int .i32, .int .i32, .int .i32]) x_1 fun (x_19 : (Int × Int × Int × Int)) =>
    callW Try.prog k_store_Store_Add [.pointer x_3.1, .int .u32 x_18, .agg ⟨[.int .u8 x_19.1, .int .i32 x_19.2.1, .int .i32 x_19.2.2.1, .int .i32 x_19.2.2.2]⟩] [.sc (.int .i64)] fun (x_20 : Int) =>
    retW (x_20 == 9))
    (joinW (σ := Bool) (fun J_21 =>
    drawW <|
    idxW s_10.1.a s_10.1.n 1 0 fun x_22 =>
    ld (.sc (.int .u32)) x_22 fun (x_23 : Int) =>
    ld (.agg [.int .u8, .int .i32, .int .i32, .int .i32]) x_1 fun (x_24 : (Int × Int × Int × Int)) =>
    callW Try.prog k_store_Store_Add [.pointer x_3.1, .int .u32 x_23, .agg ⟨[.int .u8 x_24.1, .int .i32 x_24.2.1, .int .i32 x_24.2.2.1, .int .i32 x_24.2.2.2]⟩] [.sc (.int .i64)] fun (x_25 : Int) =>
    cond (x_25 != 0)
      (J_21 true)
      (idxW s_10.1.a s_10.1.n 1 0 fun x_26 =>
          ld (.sc (.int .u32)) x_26 fun (x_27 : Int) =>
            ld (.sc (.int .u8)) (Addr.add x_1 0) fun (x_28 : Int) =>
                callW Try.prog k_store_Store_Remove [.pointer x_3.1, .int .u32 x_27, .int .u8 x_28] [.sc (.int .i64)] fun (x_29 : Int) =>
                  J_21 (x_29 != 0)))
  <| fun s_30 =>
  cond s_30
    (retW false)
    (idxW s_10.1.a s_10.1.n 1 0 fun x_31 =>
  ld (.sc (.int .u32)) x_31 fun (x_32 : Int) =>
  callW Try.prog k_store_Store_Ent [.pointer x_3.1, .int .u32 x_32] [.agg [.int .u32, .sl], .sc (.int .i64)] fun (x_33 : (Int × Sl) × Int) =>
  newW 70 [.int .u32 0, .slice none 0 0] fun x_34 =>
  stoL x_34 [.int .u32 x_33.1.1, .slice x_33.1.2.a x_33.1.2.n x_33.1.2.c] 0 <|
  callW Try.prog k_store_Store_Groups [.pointer x_3.1] [.sc .sl] fun (x_35 : Sl) =>
  joinW (σ := Bool) (fun J_36 =>
    drawW <|
    cond (x_33.2 == 0)
      (ld (.agg [.int .u32, .sl]) x_34 fun (x_37 : (Int × Sl)) =>
      idxW s_10.1.a s_10.1.n 1 0 fun x_38 =>
          ld (.sc (.int .u32)) x_38 fun (x_39 : Int) =>
            callW Try.prog k_pinnaceref10_SameEnt [.agg ⟨[.int .u32 x_37.1, .slice x_37.2.a x_37.2.n x_37.2.c]⟩, .agg ⟨[.int .u32 x_39, .slice d0.a d0.n d0.c]⟩] [.sc .bool] fun (x_40 : Bool) =>
                  cond x_40
                    (cond ((x_35.n : Int) == 1)
                          (idxW x_35.a x_35.n 2 0 fun x_41 =>
                            ld (.sc .sl) (Addr.add x_41 1) fun (x_42 : Sl) =>
                                cond ((x_42.n : Int) == (s_10.1.n : Int))
                                          (idxW x_35.a x_35.n 2 0 fun x_43 =>
                                            ld (.sc .sl) (Addr.add x_43 1) fun (x_44 : Sl) =>
                                                idxW x_44.a x_44.n 1 (IntKind.wrap .i64 ((s_10.1.n : Int) - 1)) fun x_45 =>
                                                        ld (.sc (.int .u32)) x_45 fun (x_46 : Int) =>
                                                          idxW s_10.1.a s_10.1.n 1 0 fun x_47 =>
                                                              ld (.sc (.int .u32)) x_47 fun (x_48 : Int) =>
                                                                cond (x_46 == x_48)
                                                                    (callW Try.prog k_store_Store_List [.pointer x_3.1] [.sc .sl] fun (x_49 : Sl) =>
                                                                        callW Try.prog k_pinnaceref07_Same [.slice x_49.a x_49.n x_49.c, .slice s_10.1.a s_10.1.n s_10.1.c] [.sc .bool] fun (x_50 : Bool) =>
                                                                          J_36 x_50)
                                                                    (J_36 false))
                                          (J_36 false))
                          (J_36 false))
                    (J_36 false))
      (J_36 false))
  <| fun s_51 =>
  retW s_51))))
    ((⟨none, 0, 0⟩ : Sl), 0)))
def H_pinnacelaw11_StoreMoves : Hints := { reg := [(4, [(32, .sc .bool)]), (16, [(83, .sc .bool)]), (20, [(6, .sc .bool)])], lop := [(0, [(9, .sc .sl), (39, .sc (.int .i64))])], dr := [(15, ([], [[(0, []), (1, []), (2, []), (3, []), (4, []), (5, []), (6, []), (7, [])]])), (16, ([], [[(0, []), (1, []), (2, []), (3, []), (4, []), (5, []), (6, []), (7, []), (8, []), (9, []), (10, []), (11, []), (12, []), (13, []), (14, []), (15, []), (16, [])]])), (20, ([], [[(0, []), (1, []), (2, []), (3, []), (4, []), (5, []), (6, []), (7, []), (8, []), (9, []), (10, []), (11, []), (12, []), (13, []), (14, []), (15, []), (16, []), (17, []), (18, []), (19, []), (20, []), (21, []), (22, []), (23, []), (24, []), (25, []), (26, []), (27, []), (28, []), (29, []), (30, []), (31, []), (32, []), (33, []), (34, []), (35, []), (36, []), (37, []), (38, []), (39, []), (40, []), (41, []), (42, []), (44, []), (43, []), (45, []), (46, []), (47, [])]]))] }
set_option maxRecDepth 100000 in
theorem E_pinnacelaw11_StoreMoves (d0 : Sl) (o1 : (Int × Int × Int × Int)) (p2 : Int) : denF Try.prog H_pinnacelaw11_StoreMoves Try.f10 [.sc .bool] [.slice d0.a d0.n d0.c, .agg ⟨[.int .u8 o1.1, .int .i32 o1.2.1, .int .i32 o1.2.2.1, .int .i32 o1.2.2.2]⟩, .int .u8 p2] = F_pinnacelaw11_StoreMoves d0 o1 p2 := by kernel_rfl
theorem C_pinnacelaw11_StoreMoves {R : Type} (d0 : Sl) (o1 : (Int × Int × Int × Int)) (p2 : Int) (K : Res [.sc .bool] → W R) (Q : R → World → Prop) (w : World) (h : F_pinnacelaw11_StoreMoves d0 o1 p2 (fun r w => K r Q w) w) : callW Try.prog k_pinnacelaw11_StoreMoves [.slice d0.a d0.n d0.c, .agg ⟨[.int .u8 o1.1, .int .i32 o1.2.1, .int .i32 o1.2.2.1, .int .i32 o1.2.2.2]⟩, .int .u8 p2] [.sc .bool] K Q w :=
  den_calls mix Try.func10 H_pinnacelaw11_StoreMoves (ts := [.sc .bool]) trivial (by rw [Try.ntmps10]; simp) (by rw [E_pinnacelaw11_StoreMoves]; exact h)

/-! 11 pinnace/pinnacelaw11.StoreApart -/
def F_pinnacelaw11_StoreApart (d0 : Sl) (o1 : (Int × Int × Sl)) : W (Bool) :=
  newW 95 [.int .u8 o1.1, .int .i64 o1.2.1, .slice o1.2.2.a o1.2.2.n o1.2.2.c] fun x_1 =>
  callW Try.prog k_pinnacelaw11_awake [] [.sc .bool] fun (x_2 : Bool) =>
  cond (!x_2)
    (retW false)
    (callW Try.prog k_store_New [.int .i64 20, .int .i64 1] [.sc .ptr, .sc (.int .i64)] fun (x_3 : (Option Addr) × Int) =>
  cond (x_3.2 != 0)
    (retW false)
    (loopW (σ := Int) (fun K_4 s_5 =>
    cond (decide (s_5 < (d0.n : Int)))
      (idxW d0.a d0.n 1 s_5 fun x_6 =>
    ld (.sc .sl) x_6 fun (x_7 : Sl) =>
    joinW (σ := Unit) (fun J_8 =>
      cond (decide (s_5 < 15))
        (slcW x_7.a x_7.n x_7.c 4 none (some (if 20 < (x_7.n : Int) then 20 else (x_7.n : Int))) fun x_9 =>
        callW Try.prog k_pinnaceref05_Twin [.slice x_9.a x_9.n x_9.c] [.sc .sl] fun (x_10 : Sl) =>
        callW Try.prog k_store_Store_Spawn [.pointer x_3.1, .slice x_10.a x_10.n x_10.c] [.sc (.int .u32), .sc (.int .i64)] fun (x_11 : Int × Int) =>
        J_8 ())
        (J_8 ()))
    <| fun s_12 =>
    K_4 (IntKind.wrap .i64 (s_5 + 1)))
      (callW Try.prog k_store_Store_List [.pointer x_3.1] [.sc .sl] fun (x_13 : Sl) =>
  cond ((x_13.n : Int) == 0)
    (retW true)
    (ld (.sc (.int .i64)) (Addr.add x_1 1) fun (x_14 : Int) =>
  chkW ((IntKind.wrap .u64 (x_13.n : Int)) ≠ 0) <|
  idxW x_13.a x_13.n 1 (IntKind.wrap .i64 (Int.tmod (IntKind.wrap .u64 x_14) (IntKind.wrap .u64 (x_13.n : Int)))) fun x_15 =>
  ld (.sc (.int .u32)) x_15 fun (x_16 : Int) =>
  rawW Try.prog (Instr.makeMap 97 none) [.sc .map] fun (x_17 : Option Nat) =>
  loopW (σ := Int) (fun K_18 s_19 =>
    cond (decide (s_19 < (x_13.n : Int)))
      (idxW x_13.a x_13.n 1 s_19 fun x_20 =>
    ld (.sc (.int .u32)) x_20 fun (x_21 : Int) =>
    callW Try.prog k_store_Store_Ent [.pointer x_3.1, .int .u32 x_21] [.agg [.int .u32, .sl], .sc (.int .i64)] fun (x_22 : (Int × Sl) × Int) =>
    rawU Try.prog (Instr.mapUpdate 97 (.map x_17) (.int .u32 x_21) (.agg ⟨[.int .u32 x_22.1.1, .slice x_22.1.2.a x_22.1.2.n x_22.1.2.c]⟩)) <|
    K_18 (IntKind.wrap .i64 (s_19 + 1)))
      (ld (.sc .sl) (Addr.add x_1 2) fun (x_23 : Sl) =>
  callW Try.prog k_pinnacelaw11_first [.slice x_23.a x_23.n x_23.c] [.agg [.int .u8, .int .i32, .int .i32, .int .i32]] fun (x_24 : (Int × Int × Int × Int)) =>
  newW 55 [.int .u8 0, .int .i32 0, .int .i32 0, .int .i32 0] fun x_25 =>
  stoL x_25 [.int .u8 x_24.1, .int .i32 x_24.2.1, .int .i32 x_24.2.2.1, .int .i32 x_24.2.2.2] 0 <|
  ld (.sc (.int .u8)) (Addr.add x_1 0) fun (x_26 : Int) =>
  joinW (σ := Unit) (fun J_27 =>
    cond ((Int.tmod x_26 4) == 0)
      (callW Try.prog k_store_Store_Despawn [.pointer x_3.1, .int .u32 x_16] [.sc (.int .i64)] fun (x_28 : Int) =>
      J_27 ())
      (joinW (σ := Unit) (fun J_29 =>
        cond ((Int.tmod x_26 4) == 1)
          (ld (.agg [.int .u8, .int .i32, .int .i32, .int .i32]) x_25 fun (x_30 : (Int × Int × Int × Int)) =>
          callW Try.prog k_store_Store_Set [.pointer x_3.1, .int .u32 x_16, .agg ⟨[.int .u8 x_30.1, .int .i32 x_30.2.1, .int .i32 x_30.2.2.1, .int .i32 x_30.2.2.2]⟩] [.sc (.int .i64)] fun (x_31 : Int) =>
          J_29 ())
          (joinW (σ := Unit) (fun J_32 =>
            cond ((Int.tmod x_26 4) == 2)
              (ld (.agg [.int .u8, .int .i32, .int .i32, .int .i32]) x_25 fun (x_33 : (Int × Int × Int × Int)) =>
              callW Try.prog k_store_Store_Add [.pointer x_3.1, .int .u32 x_16, .agg ⟨[.int .u8 x_33.1, .int .i32 x_33.2.1, .int .i32 x_33.2.2.1, .int .i32 x_33.2.2.2]⟩] [.sc (.int .i64)] fun (x_34 : Int) =>
              J_32 ())
              (ld (.sc (.int .u8)) (Addr.add x_25 0) fun (x_35 : Int) =>
              callW Try.prog k_store_Store_Remove [.pointer x_3.1, .int .u32 x_16, .int .u8 x_35] [.sc (.int .i64)] fun (x_36 : Int) =>
              J_32 ()))
          <| fun s_37 =>
          J_29 ()))
      <| fun s_38 =>
      J_27 ()))
  <| fun s_39 =>
  loopW (σ := Int) (fun K_40 s_41 =>
    cond (decide (s_41 < (x_13.n : Int)))
      (idxW x_13.a x_13.n 1 s_41 fun x_42 =>
    ld (.sc (.int .u32)) x_42 fun (x_43 : Int) =>
    callW Try.prog k_store_Store_Ent [.pointer x_3.1, .int .u32 x_43] [.agg [.int .u32, .sl], .sc (.int .i64)] fun (x_44 : (Int × Sl) × Int) =>
    newW 70 [.int .u32 0, .slice none 0 0] fun x_45 =>
    stoL x_45 [.int .u32 x_44.1.1, .slice x_44.1.2.a x_44.1.2.n x_44.1.2.c] 0 <|
    joinW (σ := Bool) (fun J_46 =>
      cond (x_43 != x_16)
        (cond (x_44.2 != 0)
              (J_46 true)
              (ld (.agg [.int .u32, .sl]) x_45 fun (x_47 : (Int × Sl)) =>
              rawQ Try.prog (Instr.lookup 97 (.map x_17) (.int .u32 x_43) false) [.agg [.int .u32, .sl]] fun (x_48 : (Int × Sl)) =>
                    callW Try.prog k_pinnaceref10_SameEnt [.agg ⟨[.int .u32 x_47.1, .slice x_47.2.a x_47.2.n x_47.2.c]⟩, .agg ⟨[.int .u32 x_48.1, .slice x_48.2.a x_48.2.n x_48.2.c]⟩] [.sc .bool] fun (x_49 : Bool) =>
                      J_46 (!x_49)))
        (J_46 false))
    <| fun s_50 =>
    cond s_50
      (retW false)
      (K_40 (IntKind.wrap .i64 (s_41 + 1))))
      (retW true))
    0))
    0)))
    0))
def H_pinnacelaw11_StoreApart : Hints := { reg := [(35, [(131, .sc .bool)])], con := [(11035, []), (31099, []), (29093, []), (27088, [])], lop := [(0, [(29, .sc (.int .i64))]), (2, [(64, .sc (.int .i64))]), (5, [(107, .sc (.int .i64))])] }
set_option maxRecDepth 100000 in
theorem E_pinnacelaw11_StoreApart (d0 : Sl) (o1 : (Int × Int × Sl)) : denF Try.prog H_pinnacelaw11_StoreApart Try.f11 [.sc .bool] [.slice d0.a d0.n d0.c, .agg ⟨[.int .u8 o1.1, .int .i64 o1.2.1, .slice o1.2.2.a o1.2.2.n o1.2.2.c]⟩] = F_pinnacelaw11_StoreApart d0 o1 := by kernel_rfl
theorem C_pinnacelaw11_StoreApart {R : Type} (d0 : Sl) (o1 : (Int × Int × Sl)) (K : Res [.sc .bool] → W R) (Q : R → World → Prop) (w : World) (h : F_pinnacelaw11_StoreApart d0 o1 (fun r w => K r Q w) w) : callW Try.prog k_pinnacelaw11_StoreApart [.slice d0.a d0.n d0.c, .agg ⟨[.int .u8 o1.1, .int .i64 o1.2.1, .slice o1.2.2.a o1.2.2.n o1.2.2.c]⟩] [.sc .bool] K Q w :=
  den_calls mix Try.func11 H_pinnacelaw11_StoreApart (ts := [.sc .bool]) trivial (by rw [Try.ntmps11]; simp) (by rw [E_pinnacelaw11_StoreApart]; exact h)

/-! 12 pinnace/pinnacelaw20.awake -/
def F_pinnacelaw20_awake  : W (Bool) :=
  callW Try.prog k_packet_Seal [.agg ⟨[.int .u8 3, .int .u8 2, .int .u32 1, .int .u32 5, .int .u32 0]⟩, .slice none 0 0, .slice none 0 0] [.sc .sl, .sc (.int .i64)] fun (x_1 : Sl × Int) =>
  callW Try.prog k_pinnaceref03_Open [.slice x_1.1.a x_1.1.n x_1.1.c] [.sc .sl, .sc (.int .i64)] fun (x_2 : Sl × Int) =>
  joinW (σ := Bool) (fun J_3 =>
    cond (x_1.2 == 0)
      (cond (x_2.2 == 0)
          (newW 5 [.int .u8 146, .int .u8 80, .int .u8 0, .int .u8 0, .int .u8 0, .int .u8 0] fun x_4 =>
            callW Try.prog k_pinnaceref01_Same [.slice x_2.1.a x_2.1.n x_2.1.c, .slice (some x_4) 6 6] [.sc .bool] fun (x_5 : Bool) =>
              J_3 x_5)
          (J_3 false))
      (J_3 false))
  <| fun s_6 =>
  retW s_6
def H_pinnacelaw20_awake : Hints := { reg := [(3, [(0, .sc .bool)])] }
theorem E_pinnacelaw20_awake  : denF Try.prog H_pinnacelaw20_awake Try.f12 [.sc .bool] [] = F_pinnacelaw20_awake := by kernel_rfl
theorem C_pinnacelaw20_awake {R : Type}  (K : Res [.sc .bool] → W R) (Q : R → World → Prop) (w : World) (h : F_pinnacelaw20_awake (fun r w => K r Q w) w) : callW Try.prog k_pinnacelaw20_awake [] [.sc .bool] K Q w :=
  den_calls mix Try.func12 H_pinnacelaw20_awake (ts := [.sc .bool]) trivial (by rw [Try.ntmps12]; simp) (by rw [E_pinnacelaw20_awake]; exact h)

/-! 18 pinnace/pinnacelaw20.few -/
def F_pinnacelaw20_few (a0 : Sl) (b1 : Sl) : W (Bool) :=
  joinW (σ := Bool) (fun J_1 =>
    callW Try.prog k_pinnaceref18_Few [.slice a0.a a0.n a0.c] [.sc .bool] fun (x_2 : Bool) =>
    cond x_2
      (callW Try.prog k_pinnaceref18_Few [.slice b1.a b1.n b1.c] [.sc .bool] fun (x_3 : Bool) =>
        J_1 x_3)
      (J_1 false))
  <| fun s_4 =>
  retW s_4
def H_pinnacelaw20_few : Hints := { reg := [(1, [(4, .sc .bool)])] }
theorem E_pinnacelaw20_few (a0 : Sl) (b1 : Sl) : denF Try.prog H_pinnacelaw20_few Try.f18 [.sc .bool] [.slice a0.a a0.n a0.c, .slice b1.a b1.n b1.c] = F_pinnacelaw20_few a0 b1 := by kernel_rfl
theorem C_pinnacelaw20_few {R : Type} (a0 : Sl) (b1 : Sl) (K : Res [.sc .bool] → W R) (Q : R → World → Prop) (w : World) (h : F_pinnacelaw20_few a0 b1 (fun r w => K r Q w) w) : callW Try.prog k_pinnacelaw20_few [.slice a0.a a0.n a0.c, .slice b1.a b1.n b1.c] [.sc .bool] K Q w :=
  den_calls mix Try.func18 H_pinnacelaw20_few (ts := [.sc .bool]) trivial (by rw [Try.ntmps18]; simp) (by rw [E_pinnacelaw20_few]; exact h)

/-! 20 pinnace/pinnacelaw13.awake -/
def F_pinnacelaw13_awake  : W (Bool) :=
  callW Try.prog k_store_New [.int .i64 3, .int .i64 1] [.sc .ptr, .sc (.int .i64)] fun (x_1 : (Option Addr) × Int) =>
  newW 41 [.int .u8 1, .int .u32 0, .int .u8 0, .slice none 0 0, .int .u8 2, .int .u32 1024, .int .u8 0, .slice none 0 0, .int .u8 2, .int .u32 1024, .int .u8 0, .slice none 0 0] fun x_2 =>
  callW Try.prog k_orders_All [.pointer x_1.1, .slice (some x_2) 3 3] [.sc .sl] fun (x_3 : Sl) =>
  joinW (σ := Bool) (fun J_4 =>
    newW 43 [.int .i64 0, .int .u32 1024, .int .i64 0, .int .u32 1024, .int .i64 7, .int .u32 0] fun x_5 =>
    callW Try.prog k_pinnaceref13_SameResults [.slice x_3.a x_3.n x_3.c, .slice (some x_5) 3 3] [.sc .bool] fun (x_6 : Bool) =>
    cond x_6
      (callW Try.prog k_orders_New [] [.sc .ptr] fun (x_7 : (Option Addr)) =>
      callW Try.prog k_orders_Buffer_Push [.pointer x_7, .agg ⟨[.int .u8 3, .int .u32 0, .int .u8 0, .slice none 0 0]⟩] [.sc (.int .i64)] fun (x_8 : Int) =>
          J_4 (x_8 == 4))
      (J_4 false))
  <| fun s_9 =>
  retW s_9
def H_pinnacelaw13_awake : Hints := { reg := [(3, [(0, .sc .bool)])] }
theorem E_pinnacelaw13_awake  : denF Try.prog H_pinnacelaw13_awake Try.f20 [.sc .bool] [] = F_pinnacelaw13_awake := by kernel_rfl
theorem C_pinnacelaw13_awake {R : Type}  (K : Res [.sc .bool] → W R) (Q : R → World → Prop) (w : World) (h : F_pinnacelaw13_awake (fun r w => K r Q w) w) : callW Try.prog k_pinnacelaw13_awake [] [.sc .bool] K Q w :=
  den_calls mix Try.func20 H_pinnacelaw13_awake (ts := [.sc .bool]) trivial (by rw [Try.ntmps20]; simp) (by rw [E_pinnacelaw13_awake]; exact h)

/-! 38 pinnace/pinnacelaw11.awake -/
def F_pinnacelaw11_awake  : W (Bool) :=
  callW Try.prog k_store_New [.int .i64 5, .int .i64 1] [.sc .ptr, .sc (.int .i64)] fun (x_1 : (Option Addr) × Int) =>
  joinW (σ := Bool) (fun J_2 =>
    cond (x_1.2 != 0)
      (J_2 true)
      (J_2 (Option.isNone x_1.1)))
  <| fun s_3 =>
  cond s_3
    (retW false)
    (newW 55 [.int .u8 0, .int .i32 0, .int .i32 0, .int .i32 0] fun x_4 =>
  callW Try.prog k_store_Store_Spawn [.pointer x_1.1, .slice (some x_4) 1 1] [.sc (.int .u32), .sc (.int .i64)] fun (x_5 : Int × Int) =>
  callW Try.prog k_store_Store_Spawn [.pointer x_1.1, .slice (some x_4) 1 1] [.sc (.int .u32), .sc (.int .i64)] fun (x_6 : Int × Int) =>
  callW Try.prog k_store_Store_Spawn [.pointer x_1.1, .slice (some x_4) 1 1] [.sc (.int .u32), .sc (.int .i64)] fun (x_7 : Int × Int) =>
  callW Try.prog k_store_Store_Add [.pointer x_1.1, .int .u32 x_5.1, .agg ⟨[.int .u8 2, .int .i32 0, .int .i32 0, .int .i32 0]⟩] [.sc (.int .i64)] fun (x_8 : Int) =>
  cond (x_8 != 0)
    (retW false)
    (callW Try.prog k_store_Store_Groups [.pointer x_1.1] [.sc .sl] fun (x_9 : Sl) =>
  joinW (σ := Bool) (fun J_10 =>
    cond ((x_9.n : Int) == 2)
      (idxW x_9.a x_9.n 2 0 fun x_11 =>
        ld (.sc (.int .u8)) (Addr.add x_11 0) fun (x_12 : Int) =>
            cond (x_12 == 1)
                (idxW x_9.a x_9.n 2 0 fun x_13 =>
                  ld (.sc .sl) (Addr.add x_13 1) fun (x_14 : Sl) =>
                      newW 38 [.int .u32 x_7.1, .int .u32 x_6.1] fun x_15 =>
                            callW Try.prog k_pinnaceref07_Same [.slice x_14.a x_14.n x_14.c, .slice (some x_15) 2 2] [.sc .bool] fun (x_16 : Bool) =>
                              cond x_16
                                (idxW x_9.a x_9.n 2 1 fun x_17 =>
                                  ld (.sc .sl) (Addr.add x_17 1) fun (x_18 : Sl) =>
                                      newW 38 [.int .u32 x_5.1] fun x_19 =>
                                          callW Try.prog k_pinnaceref07_Same [.slice x_18.a x_18.n x_18.c, .slice (some x_19) 1 1] [.sc .bool] fun (x_20 : Bool) =>
                                            J_10 x_20)
                                (J_10 false))
                (J_10 false))
      (J_10 false))
  <| fun s_21 =>
  retW s_21))
def H_pinnacelaw11_awake : Hints := { reg := [(2, [(20, .sc .bool)]), (11, [(0, .sc .bool)])] }
theorem E_pinnacelaw11_awake  : denF Try.prog H_pinnacelaw11_awake Try.f38 [.sc .bool] [] = F_pinnacelaw11_awake := by kernel_rfl
theorem C_pinnacelaw11_awake {R : Type}  (K : Res [.sc .bool] → W R) (Q : R → World → Prop) (w : World) (h : F_pinnacelaw11_awake (fun r w => K r Q w) w) : callW Try.prog k_pinnacelaw11_awake [] [.sc .bool] K Q w :=
  den_calls mix Try.func38 H_pinnacelaw11_awake (ts := [.sc .bool]) trivial (by rw [Try.ntmps38]; simp) (by rw [E_pinnacelaw11_awake]; exact h)

/-! 52 pinnace/pinnacelaw11.first -/
def F_pinnacelaw11_first (l0 : Sl) : W ((Int × Int × Int × Int)) :=
  newW 55 [.int .u8 0, .int .i32 0, .int .i32 0, .int .i32 0] fun x_1 =>
  cond ((l0.n : Int) == 0)
    (stoL x_1 [.int .u8 0, .int .i32 0, .int .i32 0, .int .i32 0] 0 <|
    ld (.agg [.int .u8, .int .i32, .int .i32, .int .i32]) x_1 fun (x_2 : (Int × Int × Int × Int)) =>
    retW x_2)
    (idxW l0.a l0.n 4 0 fun x_3 =>
  ld (.agg [.int .u8, .int .i32, .int .i32, .int .i32]) x_3 fun (x_4 : (Int × Int × Int × Int)) =>
  stoL x_1 [.int .u8 x_4.1, .int .i32 x_4.2.1, .int .i32 x_4.2.2.1, .int .i32 x_4.2.2.2] 0 <|
  ld (.agg [.int .u8, .int .i32, .int .i32, .int .i32]) x_1 fun (x_5 : (Int × Int × Int × Int)) =>
  retW x_5)
def H_pinnacelaw11_first : Hints := {}
theorem E_pinnacelaw11_first (l0 : Sl) : denF Try.prog H_pinnacelaw11_first Try.f52 [.agg [.int .u8, .int .i32, .int .i32, .int .i32]] [.slice l0.a l0.n l0.c] = F_pinnacelaw11_first l0 := by kernel_rfl
theorem C_pinnacelaw11_first {R : Type} (l0 : Sl) (K : Res [.agg [.int .u8, .int .i32, .int .i32, .int .i32]] → W R) (Q : R → World → Prop) (w : World) (h : F_pinnacelaw11_first l0 (fun r w => K r Q w) w) : callW Try.prog k_pinnacelaw11_first [.slice l0.a l0.n l0.c] [.agg [.int .u8, .int .i32, .int .i32, .int .i32]] K Q w :=
  den_calls mix Try.func52 H_pinnacelaw11_first (ts := [.agg [.int .u8, .int .i32, .int .i32, .int .i32]]) ⟨by kernel_rfl, trivial⟩ (by rw [Try.ntmps52]; simp) (by rw [E_pinnacelaw11_first]; exact h)

end Go.Proofs.Ytecmpmnaeciapaa
