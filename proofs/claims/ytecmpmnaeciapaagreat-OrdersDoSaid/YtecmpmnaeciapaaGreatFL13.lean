/-
  Shallow forms of Go functions, printed by a program of this session (wip/gen.py), each equal to the denotation of its code, by the kernel.
-/
import Derived.Test.YtecmpmnaeciapaaGreatK
import Derived.Test.YtecmpmnaeciapaaGreatF
set_option linter.unusedVariables false
namespace Go.Proofs.YtecmpmnaeciapaaGreat
open Go Go.Proofs.YtecmpmnaeciapaaGreat.Den


/-! 3 pinnace/pinnacelaw13.OrdersDo -/
def F_pinnacelaw13_OrdersDo (n0 : Int) (l1 : Sl) : W (Bool) :=
  callW Tryz.prog k_pinnacelaw13_awake [] [.sc .bool] fun (x_1 : Bool) =>
  cond (!x_1)
    (retW false)
    (callW Tryz.prog k_pinnaceref13_Few [.slice l1.a l1.n l1.c, .int .i64 60] [.sc .sl] fun (x_2 : Sl) =>
  callW Tryz.prog k_store_New [.int .i64 (IntKind.wrap .i64 (1 + (IntKind.wrap .i64 (Int.tmod n0 12)))), .int .i64 1] [.sc .ptr, .sc (.int .i64)] fun (x_3 : (Option Addr) × Int) =>
  callW Tryz.prog k_pinnaceref11_New [.int .i64 (IntKind.wrap .i64 (1 + (IntKind.wrap .i64 (Int.tmod n0 12)))), .int .i64 1] [.sc .ptr, .sc (.int .i64)] fun (x_4 : (Option Addr) × Int) =>
  callW Tryz.prog k_pinnaceref13_Twins [.slice x_2.a x_2.n x_2.c] [.sc .sl] fun (x_5 : Sl) =>
  callW Tryz.prog k_orders_All [.pointer x_3.1, .slice x_5.a x_5.n x_5.c] [.sc .sl] fun (x_6 : Sl) =>
  loopW (σ := Int) (fun K_7 s_8 =>
    cond (decide (s_8 < (x_2.n : Int)))
      (drawW <|
    idxW x_5.a x_5.n 4 s_8 fun x_9 =>
    ld (.agg [.int .u8, .int .u32, .int .u8, .sl]) x_9 fun (x_10 : (Int × Int × Int × Sl)) =>
    idxW x_2.a x_2.n 4 s_8 fun x_11 =>
    ld (.agg [.int .u8, .int .u32, .int .u8, .sl]) x_11 fun (x_12 : (Int × Int × Int × Sl)) =>
    callW Tryz.prog k_pinnaceref13_SameOrder [.agg ⟨[.int .u8 x_10.1, .int .u32 x_10.2.1, .int .u8 x_10.2.2.1, .slice x_10.2.2.2.a x_10.2.2.2.n x_10.2.2.2.c]⟩, .agg ⟨[.int .u8 x_12.1, .int .u32 x_12.2.1, .int .u8 x_12.2.2.1, .slice x_12.2.2.2.a x_12.2.2.2.n x_12.2.2.2.c]⟩] [.sc .bool] fun (x_13 : Bool) =>
    cond (!x_13)
      (retW false)
      (K_7 (IntKind.wrap .i64 (s_8 + 1))))
      (joinW (σ := Bool) (fun J_14 =>
    callW Tryz.prog k_pinnaceref13_All [.pointer x_4.1, .slice x_2.a x_2.n x_2.c] [.sc .sl] fun (x_15 : Sl) =>
    callW Tryz.prog k_pinnaceref13_SameResults [.slice x_6.a x_6.n x_6.c, .slice x_15.a x_15.n x_15.c] [.sc .bool] fun (x_16 : Bool) =>
    cond x_16
      (callW Tryz.prog k_pinnacelaw13_alike [.pointer x_3.1, .pointer x_4.1] [.sc .bool] fun (x_17 : Bool) =>
          J_14 x_17)
      (J_14 false))
  <| fun s_18 =>
  retW s_18))
    0)
def H_pinnacelaw13_OrdersDo : Hints := { reg := [(15, [(4, .sc .bool)])], lop := [(0, [(38, .sc (.int .i64))])], dr := [(12, ([], [[(0, []), (1, []), (2, []), (3, []), (4, []), (5, []), (6, []), (7, []), (8, []), (9, [])]]))] }
theorem E_pinnacelaw13_OrdersDo (n0 : Int) (l1 : Sl) : denF Tryz.prog H_pinnacelaw13_OrdersDo Tryz.f3 [.sc .bool] [.int .u8 n0, .slice l1.a l1.n l1.c] = F_pinnacelaw13_OrdersDo n0 l1 := by kernel_rfl
theorem C_pinnacelaw13_OrdersDo {R : Type} (n0 : Int) (l1 : Sl) (K : Res [.sc .bool] → W R) (Q : R → World → Prop) (w : World) (h : F_pinnacelaw13_OrdersDo n0 l1 (fun r w => K r Q w) w) : callW Tryz.prog k_pinnacelaw13_OrdersDo [.int .u8 n0, .slice l1.a l1.n l1.c] [.sc .bool] K Q w :=
  den_calls mix Tryz.func3 H_pinnacelaw13_OrdersDo (ts := [.sc .bool]) trivial (by rw [Tryz.ntmps3]; simp) (by rw [E_pinnacelaw13_OrdersDo]; exact h)

/-! 5 pinnace/pinnacelaw13.awake -/
def F_pinnacelaw13_awake  : W (Bool) :=
  callW Tryz.prog k_store_New [.int .i64 3, .int .i64 1] [.sc .ptr, .sc (.int .i64)] fun (x_1 : (Option Addr) × Int) =>
  newW 40 [.int .u8 1, .int .u32 0, .int .u8 0, .slice none 0 0, .int .u8 2, .int .u32 1024, .int .u8 0, .slice none 0 0, .int .u8 2, .int .u32 1024, .int .u8 0, .slice none 0 0] fun x_2 =>
  callW Tryz.prog k_orders_All [.pointer x_1.1, .slice (some x_2) 3 3] [.sc .sl] fun (x_3 : Sl) =>
  joinW (σ := Bool) (fun J_4 =>
    newW 72 [.int .i64 0, .int .u32 1024, .int .i64 0, .int .u32 1024, .int .i64 7, .int .u32 0] fun x_5 =>
    callW Tryz.prog k_pinnaceref13_SameResults [.slice x_3.a x_3.n x_3.c, .slice (some x_5) 3 3] [.sc .bool] fun (x_6 : Bool) =>
    cond x_6
      (callW Tryz.prog k_orders_New [] [.sc .ptr] fun (x_7 : (Option Addr)) =>
      callW Tryz.prog k_orders_Buffer_Push [.pointer x_7, .agg ⟨[.int .u8 3, .int .u32 0, .int .u8 0, .slice none 0 0]⟩] [.sc (.int .i64)] fun (x_8 : Int) =>
          J_4 (x_8 == 4))
      (J_4 false))
  <| fun s_9 =>
  retW s_9
def H_pinnacelaw13_awake : Hints := { reg := [(3, [(0, .sc .bool)])] }
theorem E_pinnacelaw13_awake  : denF Tryz.prog H_pinnacelaw13_awake Tryz.f5 [.sc .bool] [] = F_pinnacelaw13_awake := by kernel_rfl
theorem C_pinnacelaw13_awake {R : Type}  (K : Res [.sc .bool] → W R) (Q : R → World → Prop) (w : World) (h : F_pinnacelaw13_awake (fun r w => K r Q w) w) : callW Tryz.prog k_pinnacelaw13_awake [] [.sc .bool] K Q w :=
  den_calls mix Tryz.func5 H_pinnacelaw13_awake (ts := [.sc .bool]) trivial (by rw [Tryz.ntmps5]; simp) (by rw [E_pinnacelaw13_awake]; exact h)

/-! 14 pinnace/pinnacelaw13.alike -/
def F_pinnacelaw13_alike (s0 : Option Addr) (x1 : Option Addr) : W (Bool) :=
  callW Tryz.prog k_pinnaceref11_List [.pointer x1] [.sc .sl] fun (x_1 : Sl) =>
  callW Tryz.prog k_store_Store_Len [.pointer s0] [.sc (.int .i64)] fun (x_2 : Int) =>
  cond (x_2 != (x_1.n : Int))
    (retW false)
    (loopW (σ := Int) (fun K_3 s_4 =>
    cond (decide (s_4 < (x_1.n : Int)))
      (idxW x_1.a x_1.n 2 s_4 fun x_5 =>
    ld (.agg [.int .u32, .sl]) x_5 fun (x_6 : (Int × Sl)) =>
    newW 97 [.int .u32 0, .slice none 0 0] fun e_7 =>
    stoL e_7 [.int .u32 x_6.1, .slice x_6.2.a x_6.2.n x_6.2.c] 0 <|
    ld (.sc (.int .u32)) (Addr.add e_7 0) fun (x_8 : Int) =>
    callW Tryz.prog k_store_Store_Ent [.pointer s0, .int .u32 x_8] [.agg [.int .u32, .sl], .sc (.int .i64)] fun (x_9 : (Int × Sl) × Int) =>
    newW 97 [.int .u32 0, .slice none 0 0] fun got_10 =>
    stoL got_10 [.int .u32 x_9.1.1, .slice x_9.1.2.a x_9.1.2.n x_9.1.2.c] 0 <|
    joinW (σ := Bool) (fun J_11 =>
      drawW <|
      cond (x_9.2 != 0)
        (J_11 true)
        (ld (.agg [.int .u32, .sl]) got_10 fun (x_12 : (Int × Sl)) =>
        ld (.agg [.int .u32, .sl]) e_7 fun (x_13 : (Int × Sl)) =>
          callW Tryz.prog k_pinnaceref10_SameEnt [.agg ⟨[.int .u32 x_12.1, .slice x_12.2.a x_12.2.n x_12.2.c]⟩, .agg ⟨[.int .u32 x_13.1, .slice x_13.2.a x_13.2.n x_13.2.c]⟩] [.sc .bool] fun (x_14 : Bool) =>
            cond (!x_14)
                (J_11 true)
                (ld (.sc (.int .u32)) (Addr.add e_7 0) fun (x_15 : Int) =>
                      callW Tryz.prog k_store_Store_List [.pointer s0] [.sc .sl] fun (x_16 : Sl) =>
                        andW (fun w => Rd w (Addr.add e_7 0) (.sc (.int .u32)) x_15) <|
                        idxW x_16.a x_16.n 1 s_4 fun x_17 =>
                          ld (.sc (.int .u32)) x_17 fun (x_18 : Int) =>
                            J_11 (x_18 != x_15))))
    <| fun s_19 =>
    cond s_19
      (retW false)
      (K_3 (IntKind.wrap .i64 (s_4 + 1))))
      (retW true))
    0)
def H_pinnacelaw13_alike : Hints := { reg := [(8, [(48, .sc .bool)])], lop := [(0, [(19, .sc (.int .i64))])], dr := [(8, ([], [[(0, []), (1, []), (2, []), (3, []), (4, []), (5, []), (6, []), (7, []), (8, []), (9, []), (11, []), (14, []), (15, []), (10, [15]), (12, []), (13, []), (16, []), (17, [])]]))] }
theorem E_pinnacelaw13_alike (s0 : Option Addr) (x1 : Option Addr) : denF Tryz.prog H_pinnacelaw13_alike Tryz.f14 [.sc .bool] [.pointer s0, .pointer x1] = F_pinnacelaw13_alike s0 x1 := by kernel_rfl
theorem C_pinnacelaw13_alike {R : Type} (s0 : Option Addr) (x1 : Option Addr) (K : Res [.sc .bool] → W R) (Q : R → World → Prop) (w : World) (h : F_pinnacelaw13_alike s0 x1 (fun r w => K r Q w) w) : callW Tryz.prog k_pinnacelaw13_alike [.pointer s0, .pointer x1] [.sc .bool] K Q w :=
  den_calls mix Tryz.func14 H_pinnacelaw13_alike (ts := [.sc .bool]) trivial (by rw [Tryz.ntmps14]; simp) (by rw [E_pinnacelaw13_alike]; exact h)

end Go.Proofs.YtecmpmnaeciapaaGreat
