/-
  Shallow forms of Go functions, printed by a program of this session (wip/gen.py), each equal to the denotation of its code, by the kernel.
-/
import Derived.Test.YtecmpmnaeciapaaK
import Derived.Test.YtecmpmnaeciapaaF
set_option linter.unusedVariables false
namespace Go.Proofs.Ytecmpmnaeciapaa
open Go Go.Proofs.Ytecmpmnaeciapaa.Den


/-! 5 pinnace/pinnacelaw13.OrdersNone -/
def F_pinnacelaw13_OrdersNone (o0 : (Int × Int × Int × Sl)) : W (Bool) :=
  newW 41 [.int .u8 o0.1, .int .u32 o0.2.1, .int .u8 o0.2.2.1, .slice o0.2.2.2.a o0.2.2.2.n o0.2.2.2.c] fun o_1 =>
  callW Try.prog k_pinnacelaw13_awake [] [.sc .bool] fun (x_2 : Bool) =>
  cond (!x_2)
    (retW false)
    (ld (.sc .sl) (Addr.add o_1 3) fun (x_3 : Sl) =>
  ld (.sc .sl) (Addr.add o_1 3) fun (x_4 : Sl) =>
  slcW x_3.a x_3.n x_3.c 4 none (some (if 20 < (x_4.n : Int) then 20 else (x_4.n : Int))) fun x_5 =>
  stoL (Addr.add o_1 3) [.slice x_5.a x_5.n x_5.c] 0 <|
  ld (.agg [.int .u8, .int .u32, .int .u8, .sl]) o_1 fun (x_6 : (Int × Int × Int × Sl)) =>
  callW Try.prog k_orders_Do [.pointer none, .agg ⟨[.int .u8 x_6.1, .int .u32 x_6.2.1, .int .u8 x_6.2.2.1, .slice x_6.2.2.2.a x_6.2.2.2.n x_6.2.2.2.c]⟩] [.agg [.int .i64, .int .u32]] fun (x_7 : (Int × Int)) =>
  newW 43 [.int .i64 0, .int .u32 0] fun r_8 =>
  stoL r_8 [.int .i64 x_7.1, .int .u32 x_7.2] 0 <|
  ld (.agg [.int .u8, .int .u32, .int .u8, .sl]) o_1 fun (x_9 : (Int × Int × Int × Sl)) =>
  callW Try.prog k_pinnaceref13_Check [.agg ⟨[.int .u8 x_9.1, .int .u32 x_9.2.1, .int .u8 x_9.2.2.1, .slice x_9.2.2.2.a x_9.2.2.2.n x_9.2.2.2.c]⟩] [.sc (.int .i64)] fun (x_10 : Int) =>
  joinW (σ := Bool) (fun J_11 =>
    ld (.sc (.int .u32)) (Addr.add r_8 1) fun (x_12 : Int) =>
    cond (x_12 == 0)
      (cond (x_10 != 0)
            (ld (.sc (.int .i64)) (Addr.add r_8 0) fun (x_13 : Int) =>
              cond (x_13 == x_10)
                        (J_11 true)
                        (cond (x_10 == 0)
                              (ld (.sc (.int .i64)) (Addr.add r_8 0) fun (x_14 : Int) =>
                                J_11 (x_14 == 10))
                              (J_11 false)))
            (cond (x_10 == 0)
                              (ld (.sc (.int .i64)) (Addr.add r_8 0) fun (x_15 : Int) =>
                                J_11 (x_15 == 10))
                              (J_11 false)))
      (J_11 false))
  <| fun s_16 =>
  retW s_16)
def H_pinnacelaw13_OrdersNone : Hints := { reg := [(6, [(2, .sc .bool)])] }
theorem E_pinnacelaw13_OrdersNone (o0 : (Int × Int × Int × Sl)) : denF Try.prog H_pinnacelaw13_OrdersNone Try.f5 [.sc .bool] [.agg ⟨[.int .u8 o0.1, .int .u32 o0.2.1, .int .u8 o0.2.2.1, .slice o0.2.2.2.a o0.2.2.2.n o0.2.2.2.c]⟩] = F_pinnacelaw13_OrdersNone o0 := by kernel_rfl
theorem C_pinnacelaw13_OrdersNone {R : Type} (o0 : (Int × Int × Int × Sl)) (K : Res [.sc .bool] → W R) (Q : R → World → Prop) (w : World) (h : F_pinnacelaw13_OrdersNone o0 (fun r w => K r Q w) w) : callW Try.prog k_pinnacelaw13_OrdersNone [.agg ⟨[.int .u8 o0.1, .int .u32 o0.2.1, .int .u8 o0.2.2.1, .slice o0.2.2.2.a o0.2.2.2.n o0.2.2.2.c]⟩] [.sc .bool] K Q w :=
  den_calls mix Try.func5 H_pinnacelaw13_OrdersNone (ts := [.sc .bool]) trivial (by rw [Try.ntmps5]; simp) (by rw [E_pinnacelaw13_OrdersNone]; exact h)

/-! 6 pinnace/pinnacelaw13.OrdersChecks -/
def F_pinnacelaw13_OrdersChecks (d0 : Sl) : W (Bool) :=
  callW Try.prog k_pinnacelaw13_awake [] [.sc .bool] fun (x_1 : Bool) =>
  cond (!x_1)
    (retW false)
    (callW Try.prog k_pinnaceref13_Few [.slice d0.a d0.n d0.c, .int .i64 60] [.sc .sl] fun (x_2 : Sl) =>
  callW Try.prog k_orders_New [] [.sc .ptr] fun (x_3 : (Option Addr)) =>
  callW Try.prog k_pinnaceref13_Twins [.slice x_2.a x_2.n x_2.c] [.sc .sl] fun (x_4 : Sl) =>
  loopW (σ := Sl × Int) (fun K_5 s_6 =>
    cond (decide (s_6.2 < (x_4.n : Int)))
      (idxW x_4.a x_4.n 4 s_6.2 fun x_7 =>
    ld (.agg [.int .u8, .int .u32, .int .u8, .sl]) x_7 fun (x_8 : (Int × Int × Int × Sl)) =>
    newW 41 [.int .u8 0, .int .u32 0, .int .u8 0, .slice none 0 0] fun x_9 =>
    stoL x_9 [.int .u8 x_8.1, .int .u32 x_8.2.1, .int .u8 x_8.2.2.1, .slice x_8.2.2.2.a x_8.2.2.2.n x_8.2.2.2.c] 0 <|
    idxW x_2.a x_2.n 4 s_6.2 fun x_10 =>
    ld (.agg [.int .u8, .int .u32, .int .u8, .sl]) x_10 fun (x_11 : (Int × Int × Int × Sl)) =>
    callW Try.prog k_pinnaceref13_Check [.agg ⟨[.int .u8 x_11.1, .int .u32 x_11.2.1, .int .u8 x_11.2.2.1, .slice x_11.2.2.2.a x_11.2.2.2.n x_11.2.2.2.c]⟩] [.sc (.int .i64)] fun (x_12 : Int) =>
    joinW (σ := Bool) (fun J_13 =>
      ld (.agg [.int .u8, .int .u32, .int .u8, .sl]) x_9 fun (x_14 : (Int × Int × Int × Sl)) =>
      callW Try.prog k_orders_Check [.agg ⟨[.int .u8 x_14.1, .int .u32 x_14.2.1, .int .u8 x_14.2.2.1, .slice x_14.2.2.2.a x_14.2.2.2.n x_14.2.2.2.c]⟩] [.sc (.int .i64)] fun (x_15 : Int) =>
      cond (x_15 != x_12)
        (J_13 true)
        (ld (.agg [.int .u8, .int .u32, .int .u8, .sl]) x_9 fun (x_16 : (Int × Int × Int × Sl)) =>
          callW Try.prog k_orders_Buffer_Push [.pointer x_3, .agg ⟨[.int .u8 x_16.1, .int .u32 x_16.2.1, .int .u8 x_16.2.2.1, .slice x_16.2.2.2.a x_16.2.2.2.n x_16.2.2.2.c]⟩] [.sc (.int .i64)] fun (x_17 : Int) =>
            cond (x_17 != x_12)
                  (J_13 true)
                  (ld (.agg [.int .u8, .int .u32, .int .u8, .sl]) x_9 fun (x_18 : (Int × Int × Int × Sl)) =>
                    callW Try.prog k_orders_Buffer_Push [.pointer none, .agg ⟨[.int .u8 x_18.1, .int .u32 x_18.2.1, .int .u8 x_18.2.2.1, .slice x_18.2.2.2.a x_18.2.2.2.n x_18.2.2.2.c]⟩] [.sc (.int .i64)] fun (x_19 : Int) =>
                      J_13 (x_19 != 10))))
    <| fun s_20 =>
    cond s_20
      (retW false)
      (joinW (σ := Sl) (fun J_21 =>
      cond (x_12 == 0)
        (idxW x_2.a x_2.n 4 s_6.2 fun x_22 =>
        ld (.agg [.int .u8, .int .u32, .int .u8, .sl]) x_22 fun (x_23 : (Int × Int × Int × Sl)) =>
        newW 41 [.int .u8 x_23.1, .int .u32 x_23.2.1, .int .u8 x_23.2.2.1, .slice x_23.2.2.2.a x_23.2.2.2.n x_23.2.2.2.c] fun x_24 =>
        rawW Try.prog (Builtin.append_ #[47, 47] 47 #[.slice s_6.1.a s_6.1.n s_6.1.c, .slice (some x_24) 1 1]) [.sc .sl] fun (x_25 : Sl) =>
        J_21 x_25)
        (J_21 s_6.1))
    <| fun s_26 =>
    ld (.sc .sl) (Addr.add x_9 3) fun (x_27 : Sl) =>
    loopW (σ := Int) (fun K_28 s_29 =>
      cond (decide (s_29 < (x_27.n : Int)))
        (drawW <|
      ld (.sc .sl) (Addr.add x_9 3) fun (x_30 : Sl) =>
      idxW x_30.a x_30.n 4 s_29 fun x_31 =>
      idxW (some (Addr.add x_31 1)) 3 1 0 fun x_32 =>
      ld (.sc (.int .i32)) x_32 fun (x_33 : Int) =>
      idxW x_30.a x_30.n 4 s_29 fun x_34 =>
      idxW (some (Addr.add x_34 1)) 3 1 0 fun x_35 =>
      stoL x_35 [.int .i32 (bXor .i32 x_33 1)] 0 <|
      K_28 (IntKind.wrap .i64 (s_29 + 1)))
        (callW Try.prog k_orders_Buffer_Len [.pointer x_3] [.sc (.int .i64)] fun (x_36 : Int) =>
    cond (x_36 != (s_26.n : Int))
      (retW false)
      (K_5 (s_26, IntKind.wrap .i64 (s_6.2 + 1)))))
      0))
      (callW Try.prog k_orders_Buffer_Take [.pointer x_3] [.sc .sl] fun (x_37 : Sl) =>
  joinW (σ := Bool) (fun J_38 =>
    cond ((x_37.n : Int) != (s_6.1.n : Int))
      (J_38 true)
      (callW Try.prog k_orders_Buffer_Len [.pointer x_3] [.sc (.int .i64)] fun (x_39 : Int) =>
        cond (x_39 != 0)
            (J_38 true)
            (callW Try.prog k_orders_Buffer_Take [.pointer x_3] [.sc .sl] fun (x_40 : Sl) =>
              cond ((x_40.n : Int) != 0)
                    (J_38 true)
                    (callW Try.prog k_orders_Buffer_Take [.pointer none] [.sc .sl] fun (x_41 : Sl) =>
                      cond ((x_41.n : Int) != 0)
                            (J_38 true)
                            (callW Try.prog k_orders_Buffer_Len [.pointer none] [.sc (.int .i64)] fun (x_42 : Int) =>
                              J_38 (x_42 != 0))))))
  <| fun s_43 =>
  cond s_43
    (retW false)
    (loopW (σ := Int) (fun K_44 s_45 =>
    cond (decide (s_45 < (x_37.n : Int)))
      (drawW <|
    idxW x_37.a x_37.n 4 s_45 fun x_46 =>
    ld (.agg [.int .u8, .int .u32, .int .u8, .sl]) x_46 fun (x_47 : (Int × Int × Int × Sl)) =>
    idxW s_6.1.a s_6.1.n 4 s_45 fun x_48 =>
    ld (.agg [.int .u8, .int .u32, .int .u8, .sl]) x_48 fun (x_49 : (Int × Int × Int × Sl)) =>
    callW Try.prog k_pinnaceref13_SameOrder [.agg ⟨[.int .u8 x_47.1, .int .u32 x_47.2.1, .int .u8 x_47.2.2.1, .slice x_47.2.2.2.a x_47.2.2.2.n x_47.2.2.2.c]⟩, .agg ⟨[.int .u8 x_49.1, .int .u32 x_49.2.1, .int .u8 x_49.2.2.1, .slice x_49.2.2.2.a x_49.2.2.2.n x_49.2.2.2.c]⟩] [.sc .bool] fun (x_50 : Bool) =>
    cond (!x_50)
      (retW false)
      (K_44 (IntKind.wrap .i64 (s_45 + 1))))
      (retW true))
    0)))
    ((⟨none, 0, 0⟩ : Sl), 0))
def H_pinnacelaw13_OrdersChecks : Hints := { reg := [(12, [(48, .sc .bool)]), (25, [(110, .sc .bool)])], con := [(16050, [(6, .sc .sl)])], lop := [(0, [(6, .sc .sl), (22, .sc (.int .i64))]), (2, [(61, .sc (.int .i64))]), (4, [(113, .sc (.int .i64))])], dr := [(19, ([], [[(0, []), (1, []), (2, []), (3, []), (4, []), (5, []), (6, []), (7, []), (8, []), (9, []), (10, []), (11, [])]])), (30, ([], [[(0, []), (1, []), (2, []), (3, []), (4, []), (5, []), (6, []), (7, []), (8, []), (9, [])]]))] }
set_option maxRecDepth 100000 in
theorem E_pinnacelaw13_OrdersChecks (d0 : Sl) : denF Try.prog H_pinnacelaw13_OrdersChecks Try.f6 [.sc .bool] [.slice d0.a d0.n d0.c] = F_pinnacelaw13_OrdersChecks d0 := by kernel_rfl
theorem C_pinnacelaw13_OrdersChecks {R : Type} (d0 : Sl) (K : Res [.sc .bool] → W R) (Q : R → World → Prop) (w : World) (h : F_pinnacelaw13_OrdersChecks d0 (fun r w => K r Q w) w) : callW Try.prog k_pinnacelaw13_OrdersChecks [.slice d0.a d0.n d0.c] [.sc .bool] K Q w :=
  den_calls mix Try.func6 H_pinnacelaw13_OrdersChecks (ts := [.sc .bool]) trivial (by rw [Try.ntmps6]; simp) (by rw [E_pinnacelaw13_OrdersChecks]; exact h)

/-! 7 pinnace/pinnacelaw13.OrdersFull -/
def F_pinnacelaw13_OrdersFull (more0 : Int) : W (Bool) :=
  callW Try.prog k_pinnacelaw13_awake [] [.sc .bool] fun (x_1 : Bool) =>
  cond (!x_1)
    (retW false)
    (callW Try.prog k_orders_New [] [.sc .ptr] fun (x_2 : (Option Addr)) =>
  loopW (σ := Int) (fun K_3 s_4 =>
    cond (decide (s_4 < 256))
      (callW Try.prog k_orders_Buffer_Push [.pointer x_2, .agg ⟨[.int .u8 1, .int .u32 0, .int .u8 0, .slice none 0 0]⟩] [.sc (.int .i64)] fun (x_5 : Int) =>
    cond (x_5 != 0)
      (retW false)
      (K_3 (IntKind.wrap .i64 (s_4 + 1))))
      (loopW (σ := Int) (fun K_6 s_7 =>
    cond (decide (s_7 < (IntKind.wrap .u8 (1 + (Int.tmod more0 5)))))
      (joinW (σ := Bool) (fun J_8 =>
      callW Try.prog k_orders_Buffer_Push [.pointer x_2, .agg ⟨[.int .u8 1, .int .u32 0, .int .u8 0, .slice none 0 0]⟩] [.sc (.int .i64)] fun (x_9 : Int) =>
      cond (x_9 != 8)
        (J_8 true)
        (callW Try.prog k_orders_Buffer_Len [.pointer x_2] [.sc (.int .i64)] fun (x_10 : Int) =>
          J_8 (x_10 != 256)))
    <| fun s_11 =>
    cond s_11
      (retW false)
      (K_6 (IntKind.wrap .u8 (s_7 + 1))))
      (joinW (σ := Bool) (fun J_12 =>
    callW Try.prog k_orders_Buffer_Take [.pointer x_2] [.sc .sl] fun (x_13 : Sl) =>
    cond ((x_13.n : Int) == 256)
      (callW Try.prog k_orders_Buffer_Push [.pointer x_2, .agg ⟨[.int .u8 1, .int .u32 0, .int .u8 0, .slice none 0 0]⟩] [.sc (.int .i64)] fun (x_14 : Int) =>
          J_12 (x_14 == 0))
      (J_12 false))
  <| fun s_15 =>
  retW s_15))
    0))
    0)
def H_pinnacelaw13_OrdersFull : Hints := { reg := [(11, [(27, .sc .bool)]), (14, [(2, .sc .bool)])], lop := [(0, [(7, .sc (.int .i64))]), (2, [(17, .sc (.int .u8))])] }
theorem E_pinnacelaw13_OrdersFull (more0 : Int) : denF Try.prog H_pinnacelaw13_OrdersFull Try.f7 [.sc .bool] [.int .u8 more0] = F_pinnacelaw13_OrdersFull more0 := by kernel_rfl
theorem C_pinnacelaw13_OrdersFull {R : Type} (more0 : Int) (K : Res [.sc .bool] → W R) (Q : R → World → Prop) (w : World) (h : F_pinnacelaw13_OrdersFull more0 (fun r w => K r Q w) w) : callW Try.prog k_pinnacelaw13_OrdersFull [.int .u8 more0] [.sc .bool] K Q w :=
  den_calls mix Try.func7 H_pinnacelaw13_OrdersFull (ts := [.sc .bool]) trivial (by rw [Try.ntmps7]; simp) (by rw [E_pinnacelaw13_OrdersFull]; exact h)

/-! 8 pinnace/pinnacelaw13.OrdersParts -/
def F_pinnacelaw13_OrdersParts (d0 : Sl) (o1 : Int) : W (Bool) :=
  callW Try.prog k_pinnacelaw13_awake [] [.sc .bool] fun (x_1 : Bool) =>
  cond (!x_1)
    (retW false)
    (callW Try.prog k_pinnaceref13_Few [.slice d0.a d0.n d0.c, .int .i64 40] [.sc .sl] fun (x_2 : Sl) =>
  chkW ((IntKind.wrap .i64 ((x_2.n : Int) + 1)) ≠ 0) <|
  callW Try.prog k_store_New [.int .i64 8, .int .i64 1] [.sc .ptr, .sc (.int .i64)] fun (x_3 : (Option Addr) × Int) =>
  callW Try.prog k_store_New [.int .i64 8, .int .i64 1] [.sc .ptr, .sc (.int .i64)] fun (x_4 : (Option Addr) × Int) =>
  callW Try.prog k_pinnaceref13_Twins [.slice x_2.a x_2.n x_2.c] [.sc .sl] fun (x_5 : Sl) =>
  callW Try.prog k_orders_All [.pointer x_3.1, .slice x_5.a x_5.n x_5.c] [.sc .sl] fun (x_6 : Sl) =>
  drawW <|
  slcW x_2.a x_2.n x_2.c 4 none (some (Int.tmod (IntKind.wrap .i64 o1) (IntKind.wrap .i64 ((x_2.n : Int) + 1)))) fun x_7 =>
  slcW x_2.a x_2.n x_2.c 4 (some (Int.tmod (IntKind.wrap .i64 o1) (IntKind.wrap .i64 ((x_2.n : Int) + 1)))) none fun x_8 =>
  callW Try.prog k_pinnaceref13_Twins [.slice x_7.a x_7.n x_7.c] [.sc .sl] fun (x_9 : Sl) =>
  callW Try.prog k_orders_All [.pointer x_4.1, .slice x_9.a x_9.n x_9.c] [.sc .sl] fun (x_10 : Sl) =>
  callW Try.prog k_pinnaceref13_Twins [.slice x_8.a x_8.n x_8.c] [.sc .sl] fun (x_11 : Sl) =>
  callW Try.prog k_orders_All [.pointer x_4.1, .slice x_11.a x_11.n x_11.c] [.sc .sl] fun (x_12 : Sl) =>
  rawW Try.prog (Builtin.append_ #[64, 64] 64 #[.slice x_10.a x_10.n x_10.c, .slice x_12.a x_12.n x_12.c]) [.sc .sl] fun (x_13 : Sl) =>
  joinW (σ := Bool) (fun J_14 =>
    callW Try.prog k_pinnaceref13_SameResults [.slice x_6.a x_6.n x_6.c, .slice x_13.a x_13.n x_13.c] [.sc .bool] fun (x_15 : Bool) =>
    cond (!x_15)
      (J_14 true)
      (callW Try.prog k_store_Store_Len [.pointer x_3.1] [.sc (.int .i64)] fun (x_16 : Int) =>
        callW Try.prog k_store_Store_Len [.pointer x_4.1] [.sc (.int .i64)] fun (x_17 : Int) =>
            J_14 (x_16 != x_17)))
  <| fun s_18 =>
  cond s_18
    (retW false)
    (callW Try.prog k_store_Store_List [.pointer x_3.1] [.sc .sl] fun (x_19 : Sl) =>
  loopW (σ := Int) (fun K_20 s_21 =>
    cond (decide (s_21 < (x_19.n : Int)))
      (idxW x_19.a x_19.n 1 s_21 fun x_22 =>
    ld (.sc (.int .u32)) x_22 fun (x_23 : Int) =>
    callW Try.prog k_store_Store_Ent [.pointer x_3.1, .int .u32 x_23] [.agg [.int .u32, .sl], .sc (.int .i64)] fun (x_24 : (Int × Sl) × Int) =>
    newW 70 [.int .u32 0, .slice none 0 0] fun x_25 =>
    stoL x_25 [.int .u32 x_24.1.1, .slice x_24.1.2.a x_24.1.2.n x_24.1.2.c] 0 <|
    callW Try.prog k_store_Store_Ent [.pointer x_4.1, .int .u32 x_23] [.agg [.int .u32, .sl], .sc (.int .i64)] fun (x_26 : (Int × Sl) × Int) =>
    newW 70 [.int .u32 0, .slice none 0 0] fun x_27 =>
    stoL x_27 [.int .u32 x_26.1.1, .slice x_26.1.2.a x_26.1.2.n x_26.1.2.c] 0 <|
    ld (.agg [.int .u32, .sl]) x_25 fun (x_28 : (Int × Sl)) =>
    ld (.agg [.int .u32, .sl]) x_27 fun (x_29 : (Int × Sl)) =>
    callW Try.prog k_pinnaceref10_SameEnt [.agg ⟨[.int .u32 x_28.1, .slice x_28.2.a x_28.2.n x_28.2.c]⟩, .agg ⟨[.int .u32 x_29.1, .slice x_29.2.a x_29.2.n x_29.2.c]⟩] [.sc .bool] fun (x_30 : Bool) =>
    cond (!x_30)
      (retW false)
      (K_20 (IntKind.wrap .i64 (s_21 + 1))))
      (retW true))
    0))
def H_pinnacelaw13_OrdersParts : Hints := { reg := [(9, [(63, .sc .bool)])], lop := [(0, [(67, .sc (.int .i64))])], dr := [(8, ([], [[(0, []), (1, []), (2, []), (3, []), (6, []), (7, []), (8, []), (9, []), (4, []), (5, []), (10, []), (11, []), (12, []), (13, [])]]))] }
theorem E_pinnacelaw13_OrdersParts (d0 : Sl) (o1 : Int) : denF Try.prog H_pinnacelaw13_OrdersParts Try.f8 [.sc .bool] [.slice d0.a d0.n d0.c, .int .u8 o1] = F_pinnacelaw13_OrdersParts d0 o1 := by kernel_rfl
theorem C_pinnacelaw13_OrdersParts {R : Type} (d0 : Sl) (o1 : Int) (K : Res [.sc .bool] → W R) (Q : R → World → Prop) (w : World) (h : F_pinnacelaw13_OrdersParts d0 o1 (fun r w => K r Q w) w) : callW Try.prog k_pinnacelaw13_OrdersParts [.slice d0.a d0.n d0.c, .int .u8 o1] [.sc .bool] K Q w :=
  den_calls mix Try.func8 H_pinnacelaw13_OrdersParts (ts := [.sc .bool]) trivial (by rw [Try.ntmps8]; simp) (by rw [E_pinnacelaw13_OrdersParts]; exact h)

/-! 20 pinnace/pinnacelaw13.awake -/
def F_pinnacelaw13_awake  : W (Bool) :=
  callW Try.prog k_store_New [.int .i64 3, .int .i64 1] [.sc .ptr, .sc (.int .i64)] fun (x_1 : (Option Addr) × Int) =>
  newW 41 [.int .u8 1, .int .u32 0, .int .u8 0, .slice none 0 0, .int .u8 2, .int .u32 1024, .int .u8 0, .slice none 0 0, .int .u8 2, .int .u32 1024, .int .u8 0, .slice none 0 0] fun x_2 =>
  callW Try.prog k_orders_All [.pointer x_1.1, .slice (some x_2) 3 3] [.sc .sl] fun (x_3 : Sl) =>
  joinW (σ := Bool) (fun J_4 =>
    newW 43 [.int .i64 0, .int .u32 1024, .int .i64 0, .int .u32 1024, .int .i64 7, .int .u32 0] fun x_5 =>
    callW Try.prog k_pinnaceref13_SameResults [.slice x_3.a x_3.n x_3.c, .slice (some x_5) 3 3] [.sc .bool] fun (x_6 : Bool) =>
    cond x_6
      (callW Try.prog k_orders_New [] [.sc .ptr] fun (x_7 : (Option Addr)) =>
      callW Try.prog k_orders_Buffer_Push [.pointer x_7, .agg ⟨[.int .u8 3, .int .u32 0, .int .u8 0, .slice none 0 0]⟩] [.sc (.int .i64)] fun (x_8 : Int) =>
          J_4 (x_8 == 4))
      (J_4 false))
  <| fun s_9 =>
  retW s_9
def H_pinnacelaw13_awake : Hints := { reg := [(3, [(0, .sc .bool)])] }
theorem E_pinnacelaw13_awake  : denF Try.prog H_pinnacelaw13_awake Try.f20 [.sc .bool] [] = F_pinnacelaw13_awake := by kernel_rfl
theorem C_pinnacelaw13_awake {R : Type}  (K : Res [.sc .bool] → W R) (Q : R → World → Prop) (w : World) (h : F_pinnacelaw13_awake (fun r w => K r Q w) w) : callW Try.prog k_pinnacelaw13_awake [] [.sc .bool] K Q w :=
  den_calls mix Try.func20 H_pinnacelaw13_awake (ts := [.sc .bool]) trivial (by rw [Try.ntmps20]; simp) (by rw [E_pinnacelaw13_awake]; exact h)

end Go.Proofs.Ytecmpmnaeciapaa
