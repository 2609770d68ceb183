/-
  Shallow forms of Go functions, printed by a program of this session (wip/gen.py), each equal to the denotation of its code, by the kernel.
-/
import Derived.Test.YtmlpeafpchpjeaaDenS
import Derived.Test.YtmlpeafpchpjeaaProg
set_option linter.unusedVariables false
namespace Go.Proofs.Ytmlpeafpchpjeaa
open Go Go.Proofs.Ytmlpeafpchpjeaa.Den

theorem mix : Try.prog.follows .mixedOrders = true := by kernel_rfl
abbrev k_main_main : Nat := 0
abbrev k_gosem_cut : Nat := 1
abbrev k_gosem_cut_init : Nat := 2
abbrev k_pinnacelaw10_TableMakes : Nat := 3
abbrev k_pinnacelaw10_TableSwaps : Nat := 4
abbrev k_pinnacelaw10_TableSets : Nat := 5
abbrev k_pinnacelaw10_TablePlays : Nat := 6
abbrev k_pinnacelaw10_awake : Nat := 7
abbrev k_table_New : Nat := 8
abbrev k_table_Table_Add : Nat := 9
abbrev k_pinnaceref05_Twin : Nat := 10
abbrev k_pinnaceref05_List : Nat := 11
abbrev k_table_Table_Len : Nat := 12
abbrev k_pinnaceref05_Mask : Nat := 13
abbrev k_table_Table_Remove : Nat := 14
abbrev k_pinnaceref07_Same : Nat := 15
abbrev k_table_Table_IDs : Nat := 16
abbrev k_table_Table_Get : Nat := 17
abbrev k_table_Table_Set : Nat := 18
abbrev k_table_Table_At : Nat := 19
abbrev k_pinnaceref05_With : Nat := 20
abbrev k_pinnaceref05_Same : Nat := 21
abbrev k_pinnaceref05_Check : Nat := 22
abbrev k_pinnaceref10_New : Nat := 23
abbrev k_pinnaceref10_Add : Nat := 24
abbrev k_pinnaceref10_Remove : Nat := 25
abbrev k_pinnacelaw10_first : Nat := 26
abbrev k_pinnaceref10_Set : Nat := 27
abbrev k_pinnaceref10_Get : Nat := 28
abbrev k_pinnacelaw10_alike : Nat := 29
abbrev k_schema_List : Nat := 30
abbrev k_schema_Mask : Nat := 31
abbrev k_table_Table_Row : Nat := 32
abbrev k_table_column_ID_add : Nat := 33
abbrev k_table_column_fields_add : Nat := 34
abbrev k_table_column_ID_take : Nat := 35
abbrev k_table_column_fields_take : Nat := 36
abbrev k_slices_Clone_ID : Nat := 37
abbrev k_table_Table_find : Nat := 38
abbrev k_table_Table_comp : Nat := 39
abbrev k_schema_Check : Nat := 40
abbrev k_pinnaceref05_Count : Nat := 41
abbrev k_pinnaceref05_Range : Nat := 42
abbrev k_pinnaceref10_Row : Nat := 43
abbrev k_pinnaceref05_Find : Nat := 44
abbrev k_table_Table_Mask : Nat := 45
abbrev k_pinnaceref10_SameEnt : Nat := 46
abbrev k_slices_Contains_byte : Nat := 47
abbrev k_schema_of : Nat := 48
abbrev k_slices_Index_byte : Nat := 49
abbrev k_runtime_boundsError_Error : Nat := 50
abbrev k_runtime_boundsError_RuntimeError : Nat := 51
abbrev k_runtime_errorString_Error : Nat := 52
abbrev k_runtime_errorString_RuntimeError : Nat := 53
abbrev k_runtime_plainError_Error : Nat := 54
abbrev k_runtime_plainError_RuntimeError : Nat := 55
abbrev k_runtime_errorAddressString_Error : Nat := 56
abbrev k_runtime_errorAddressString_RuntimeError : Nat := 57
abbrev k_runtime_TypeAssertionError_Error : Nat := 58
abbrev k_runtime_TypeAssertionError_RuntimeError : Nat := 59
abbrev k_runtime_PanicNilError_Error : Nat := 60
abbrev k_runtime_PanicNilError_RuntimeError : Nat := 61
abbrev k_internal_abi_Type_Align : Nat := 62
abbrev k_internal_runtime_maps_unhashableTypeError_Error : Nat := 63
abbrev k_internal_runtime_maps_unhashableTypeError_RuntimeError : Nat := 64
abbrev k_internal_abi_Kind_String : Nat := 65

/-! 3 pinnace/pinnacelaw10.TableMakes -/
def F_pinnacelaw10_TableMakes (d0 : Int) (o1 : Int) (p2 : Sl) : W (Bool) :=
  callW Try.prog k_pinnacelaw10_awake [] [.sc .bool] fun (x_1 : Bool) =>
  cond (!x_1)
    (retW false)
    (callW Try.prog k_table_New [.int .u8 d0] [.sc .ptr, .sc (.int .i64)] fun (x_2 : (Option Addr) × Int) =>
  cond (x_2.2 != 0)
    (joinW (σ := Bool) (fun J_3 =>
      cond (decide (d0 > 63))
        (cond (x_2.2 == 1)
            (J_3 (Option.isNone x_2.1))
            (J_3 false))
        (J_3 false))
    <| fun s_4 =>
    retW s_4)
    (slcW p2.a p2.n p2.c 4 none (some (if 20 < (p2.n : Int) then 20 else (p2.n : Int))) fun x_5 =>
  callW Try.prog k_pinnaceref05_Twin [.slice x_5.a x_5.n x_5.c] [.sc .sl] fun (x_6 : Sl) =>
  callW Try.prog k_table_Table_Add [.pointer x_2.1, .int .u32 o1, .slice x_6.a x_6.n x_6.c] [.sc (.int .i64)] fun (x_7 : Int) =>
  callW Try.prog k_pinnaceref05_List [.slice x_5.a x_5.n x_5.c] [.sc (.int .i64)] fun (x_8 : Int) =>
  cond (x_8 != 0)
    (joinW (σ := Bool) (fun J_9 =>
      cond (x_7 == x_8)
        (callW Try.prog k_table_Table_Len [.pointer x_2.1] [.sc (.int .i64)] fun (x_10 : Int) =>
          J_9 (x_10 == 0))
        (J_9 false))
    <| fun s_11 =>
    retW s_11)
    (callW Try.prog k_pinnaceref05_Mask [.slice x_5.a x_5.n x_5.c] [.sc (.int .u8)] fun (x_12 : Int) =>
    cond (x_12 != d0)
      (joinW (σ := Bool) (fun J_13 =>
        cond (x_7 == 4)
          (callW Try.prog k_table_Table_Len [.pointer x_2.1] [.sc (.int .i64)] fun (x_14 : Int) =>
            J_13 (x_14 == 0))
          (J_13 false))
      <| fun s_15 =>
      retW s_15)
      (joinW (σ := Bool) (fun J_16 =>
    cond (x_7 == 0)
      (callW Try.prog k_pinnaceref05_Twin [.slice x_5.a x_5.n x_5.c] [.sc .sl] fun (x_17 : Sl) =>
            callW Try.prog k_table_Table_Add [.pointer x_2.1, .int .u32 o1, .slice x_17.a x_17.n x_17.c] [.sc (.int .i64)] fun (x_18 : Int) =>
              cond (x_18 == 9)
                  (callW Try.prog k_table_Table_Len [.pointer x_2.1] [.sc (.int .i64)] fun (x_19 : Int) =>
                    J_16 (x_19 == 1))
                  (J_16 false))
      (J_16 false))
  <| fun s_20 =>
  retW s_20))))
def H_pinnacelaw10_TableMakes : Hints := { reg := [(5, [(6, .sc .bool)]), (10, [(6, .sc .bool)]), (12, [(6, .sc .bool)]), (13, [(6, .sc .bool)])] }
theorem E_pinnacelaw10_TableMakes (d0 : Int) (o1 : Int) (p2 : Sl) : denF Try.prog H_pinnacelaw10_TableMakes Try.f3 [.sc .bool] [.int .u8 d0, .int .u32 o1, .slice p2.a p2.n p2.c] = F_pinnacelaw10_TableMakes d0 o1 p2 := by kernel_rfl
theorem C_pinnacelaw10_TableMakes {R : Type} (d0 : Int) (o1 : Int) (p2 : Sl) (K : Res [.sc .bool] → W R) (Q : R → World → Prop) (w : World) (h : F_pinnacelaw10_TableMakes d0 o1 p2 (fun r w => K r Q w) w) : callW Try.prog k_pinnacelaw10_TableMakes [.int .u8 d0, .int .u32 o1, .slice p2.a p2.n p2.c] [.sc .bool] K Q w :=
  den_calls mix Try.func3 H_pinnacelaw10_TableMakes (ts := [.sc .bool]) trivial (by rw [Try.ntmps3]; simp) (by rw [E_pinnacelaw10_TableMakes]; exact h)

/-! 4 pinnace/pinnacelaw10.TableSwaps -/
def F_pinnacelaw10_TableSwaps (d0 : Int) (o1 : Sl) : W (Bool) :=
  callW Try.prog k_pinnacelaw10_awake [] [.sc .bool] fun (x_1 : Bool) =>
  cond (!x_1)
    (retW false)
    (callW Try.prog k_table_New [.int .u8 4] [.sc .ptr, .sc (.int .i64)] fun (x_2 : (Option Addr) × Int) =>
  cond (x_2.2 != 0)
    (retW false)
    (loopW (σ := Sl × Int) (fun K_3 s_4 =>
    cond (decide (s_4.2 < (IntKind.wrap .i64 (Int.tmod d0 40))))
      (newW 40 [.int .u8 2, .int .i32 (IntKind.wrap .i32 s_4.2), .int .i32 0, .int .i32 0] fun x_5 =>
    callW Try.prog k_table_Table_Add [.pointer x_2.1, .int .u32 (IntKind.wrap .u32 (IntKind.wrap .i64 (s_4.2 + 1))), .slice (some x_5) 1 1] [.sc (.int .i64)] fun (x_6 : Int) =>
    cond (x_6 != 0)
      (retW false)
      (newW 23 [.int .u32 (IntKind.wrap .u32 (IntKind.wrap .i64 (s_4.2 + 1)))] fun x_7 =>
    rawW Try.prog (Builtin.append_ #[37, 37] 37 #[.slice s_4.1.a s_4.1.n s_4.1.c, .slice (some x_7) 1 1]) [.sc .sl] fun (x_8 : Sl) =>
    K_3 (x_8, IntKind.wrap .i64 (s_4.2 + 1))))
      (joinW (σ := Unit) (fun J_9 =>
    loopW (σ := Sl × Int) (fun K_10 s_11 =>
      cond (decide (s_11.2 < (o1.n : Int)))
        (idxW o1.a o1.n 1 s_11.2 fun x_12 =>
      ld (.sc (.int .u8)) x_12 fun (x_13 : Int) =>
      cond ((s_11.1.n : Int) == 0)
        (J_9 ())
        (chkW ((s_11.1.n : Int) ≠ 0) <|
      idxW s_11.1.a s_11.1.n 1 (Int.tmod (IntKind.wrap .i64 x_13) (s_11.1.n : Int)) fun x_14 =>
      ld (.sc (.int .u32)) x_14 fun (x_15 : Int) =>
      callW Try.prog k_table_Table_Remove [.pointer x_2.1, .int .u32 x_15] [.sc .sl, .sc (.int .i64)] fun (x_16 : Sl × Int) =>
      joinW (σ := Bool) (fun J_17 =>
        drawW <|
        cond (x_16.2 != 0)
          (J_17 true)
          (cond ((x_16.1.n : Int) != 1)
                (J_17 true)
                (idxW x_16.1.a x_16.1.n 4 0 fun x_18 =>
                  idxW (some (Addr.add x_18 1)) 3 1 0 fun x_19 =>
                      ld (.sc (.int .i32)) x_19 fun (x_20 : Int) =>
                        idxW s_11.1.a s_11.1.n 1 (Int.tmod (IntKind.wrap .i64 x_13) (s_11.1.n : Int)) fun x_21 =>
                                ld (.sc (.int .u32)) x_21 fun (x_22 : Int) =>
                                  J_17 ((IntKind.wrap .i64 x_20) != (IntKind.wrap .i64 ((IntKind.wrap .i64 x_22) - 1))))))
      <| fun s_23 =>
      cond s_23
        (retW false)
        (idxW s_11.1.a s_11.1.n 1 (IntKind.wrap .i64 ((s_11.1.n : Int) - 1)) fun x_24 =>
      ld (.sc (.int .u32)) x_24 fun (x_25 : Int) =>
      idxW s_11.1.a s_11.1.n 1 (Int.tmod (IntKind.wrap .i64 x_13) (s_11.1.n : Int)) fun x_26 =>
      stoL x_26 [.int .u32 x_25] 0 <|
      slcW s_11.1.a s_11.1.n s_11.1.c 1 none (some (IntKind.wrap .i64 ((s_11.1.n : Int) - 1))) fun x_27 =>
      callW Try.prog k_table_Table_IDs [.pointer x_2.1] [.sc .sl] fun (x_28 : Sl) =>
      callW Try.prog k_pinnaceref07_Same [.slice x_28.a x_28.n x_28.c, .slice x_27.a x_27.n x_27.c] [.sc .bool] fun (x_29 : Bool) =>
      cond (!x_29)
        (retW false)
        (loopW (σ := Int) (fun K_30 s_31 =>
        cond (decide (s_31 < (x_27.n : Int)))
          (idxW x_27.a x_27.n 1 s_31 fun x_32 =>
        ld (.sc (.int .u32)) x_32 fun (x_33 : Int) =>
        callW Try.prog k_table_Table_Get [.pointer x_2.1, .int .u32 x_33, .int .u8 2] [.agg [.int .u8, .int .i32, .int .i32, .int .i32], .sc (.int .i64)] fun (x_34 : (Int × Int × Int × Int) × Int) =>
        newW 40 [.int .u8 0, .int .i32 0, .int .i32 0, .int .i32 0] fun x_35 =>
        stoL x_35 [.int .u8 x_34.1.1, .int .i32 x_34.1.2.1, .int .i32 x_34.1.2.2.1, .int .i32 x_34.1.2.2.2] 0 <|
        joinW (σ := Bool) (fun J_36 =>
          cond (x_34.2 != 0)
            (J_36 true)
            (idxW (some (Addr.add x_35 1)) 3 1 0 fun x_37 =>
              ld (.sc (.int .i32)) x_37 fun (x_38 : Int) =>
                J_36 ((IntKind.wrap .i64 x_38) != (IntKind.wrap .i64 ((IntKind.wrap .i64 x_33) - 1)))))
        <| fun s_39 =>
        cond s_39
          (retW false)
          (K_30 (IntKind.wrap .i64 (s_31 + 1))))
          (K_10 (x_27, IntKind.wrap .i64 (s_11.2 + 1))))
        0))))
        (J_9 ()))
      (s_4.1, 0))
  <| fun s_40 =>
  retW true))
    ((⟨none, 0, 0⟩ : Sl), 0)))
def H_pinnacelaw10_TableSwaps : Hints := { reg := [(21, [(97, .sc .bool)]), (32, [(139, .sc .bool)])], blk := [(2, [])], lop := [(0, [(8, .sc .sl), (32, .sc (.int .i64))]), (2, [(8, .sc .sl), (55, .sc (.int .i64))]), (4, [(118, .sc (.int .i64))])], dr := [(21, ([], [[(0, []), (1, []), (2, []), (3, []), (4, []), (5, []), (6, []), (7, []), (8, []), (9, []), (10, []), (11, []), (12, []), (13, []), (14, []), (15, []), (16, []), (17, []), (18, []), (19, []), (20, []), (21, [])]]))] }
theorem E_pinnacelaw10_TableSwaps (d0 : Int) (o1 : Sl) : denF Try.prog H_pinnacelaw10_TableSwaps Try.f4 [.sc .bool] [.int .u8 d0, .slice o1.a o1.n o1.c] = F_pinnacelaw10_TableSwaps d0 o1 := by kernel_rfl
theorem C_pinnacelaw10_TableSwaps {R : Type} (d0 : Int) (o1 : Sl) (K : Res [.sc .bool] → W R) (Q : R → World → Prop) (w : World) (h : F_pinnacelaw10_TableSwaps d0 o1 (fun r w => K r Q w) w) : callW Try.prog k_pinnacelaw10_TableSwaps [.int .u8 d0, .slice o1.a o1.n o1.c] [.sc .bool] K Q w :=
  den_calls mix Try.func4 H_pinnacelaw10_TableSwaps (ts := [.sc .bool]) trivial (by rw [Try.ntmps4]; simp) (by rw [E_pinnacelaw10_TableSwaps]; exact h)

/-! 5 pinnace/pinnacelaw10.TableSets -/
def F_pinnacelaw10_TableSets (d0 : Int) (o1 : Int) (p2 : (Int × Int × Int × Int)) : W (Bool) :=
  newW 40 [.int .u8 p2.1, .int .i32 p2.2.1, .int .i32 p2.2.2.1, .int .i32 p2.2.2.2] fun x_1 =>
  callW Try.prog k_pinnacelaw10_awake [] [.sc .bool] fun (x_2 : Bool) =>
  cond (!x_2)
    (retW false)
    (callW Try.prog k_table_New [.int .u8 20] [.sc .ptr, .sc (.int .i64)] fun (x_3 : (Option Addr) × Int) =>
  cond (x_3.2 != 0)
    (retW false)
    (loopW (σ := Int) (fun K_4 s_5 =>
    cond (decide (s_5 < (IntKind.wrap .i64 (1 + (IntKind.wrap .i64 (Int.tmod d0 20))))))
      (newW 40 [.int .u8 2, .int .i32 (IntKind.wrap .i32 s_5), .int .i32 0, .int .i32 0, .int .u8 4, .int .i32 0, .int .i32 0, .int .i32 0] fun x_6 =>
    callW Try.prog k_table_Table_Add [.pointer x_3.1, .int .u32 (IntKind.wrap .u32 (IntKind.wrap .i64 (s_5 + 1))), .slice (some x_6) 2 2] [.sc (.int .i64)] fun (x_7 : Int) =>
    cond (x_7 != 0)
      (retW false)
      (K_4 (IntKind.wrap .i64 (s_5 + 1))))
      (chkW ((IntKind.wrap .i64 (1 + (IntKind.wrap .i64 (Int.tmod d0 20)))) ≠ 0) <|
  ld (.agg [.int .u8, .int .i32, .int .i32, .int .i32]) x_1 fun (x_8 : (Int × Int × Int × Int)) =>
  callW Try.prog k_table_Table_Set [.pointer x_3.1, .int .u32 (IntKind.wrap .u32 (IntKind.wrap .i64 ((Int.tmod (IntKind.wrap .i64 o1) (IntKind.wrap .i64 (1 + (IntKind.wrap .i64 (Int.tmod d0 20))))) + 1))), .agg ⟨[.int .u8 x_8.1, .int .i32 x_8.2.1, .int .i32 x_8.2.2.1, .int .i32 x_8.2.2.2]⟩] [.sc (.int .i64)] fun (x_9 : Int) =>
  loopW (σ := Int) (fun K_10 s_11 =>
    cond (decide (s_11 < (IntKind.wrap .i64 (1 + (IntKind.wrap .i64 (Int.tmod d0 20))))))
      (callW Try.prog k_table_Table_At [.pointer x_3.1, .int .i64 s_11] [.agg [.int .u32, .sl], .sc .bool] fun (x_12 : (Int × Sl) × Bool) =>
    newW 50 [.int .u32 0, .slice none 0 0] fun x_13 =>
    stoL x_13 [.int .u32 x_12.1.1, .slice x_12.1.2.a x_12.1.2.n x_12.1.2.c] 0 <|
    newW 40 [.int .u8 2, .int .i32 (IntKind.wrap .i32 s_11), .int .i32 0, .int .i32 0, .int .u8 4, .int .i32 0, .int .i32 0, .int .i32 0] fun x_14 =>
    joinW (σ := Bool) (fun J_15 =>
      ld (.sc (.int .u32)) (Addr.add x_13 0) fun (x_16 : Int) =>
      cond (x_16 == (IntKind.wrap .u32 (IntKind.wrap .i64 ((Int.tmod (IntKind.wrap .i64 o1) (IntKind.wrap .i64 (1 + (IntKind.wrap .i64 (Int.tmod d0 20))))) + 1))))
        (J_15 (x_9 == 0))
        (J_15 false))
    <| fun s_17 =>
    joinW (σ := Sl) (fun J_18 =>
      cond s_17
        (ld (.agg [.int .u8, .int .i32, .int .i32, .int .i32]) x_1 fun (x_19 : (Int × Int × Int × Int)) =>
        callW Try.prog k_pinnaceref05_With [.slice (some x_14) 2 2, .agg ⟨[.int .u8 x_19.1, .int .i32 x_19.2.1, .int .i32 x_19.2.2.1, .int .i32 x_19.2.2.2]⟩] [.sc .sl] fun (x_20 : Sl) =>
        J_18 x_20)
        (J_18 (⟨(some x_14), 2, 2⟩ : Sl)))
    <| fun s_21 =>
    joinW (σ := Bool) (fun J_22 =>
      cond (!x_12.2)
        (J_22 true)
        (ld (.sc (.int .u32)) (Addr.add x_13 0) fun (x_23 : Int) =>
          cond (x_23 != (IntKind.wrap .u32 (IntKind.wrap .i64 (s_11 + 1))))
                    (J_22 true)
                    (ld (.sc .sl) (Addr.add x_13 1) fun (x_24 : Sl) =>
                      callW Try.prog k_pinnaceref05_Same [.slice x_24.a x_24.n x_24.c, .slice s_21.a s_21.n s_21.c] [.sc .bool] fun (x_25 : Bool) =>
                          J_22 (!x_25))))
    <| fun s_26 =>
    cond s_26
      (retW false)
      (K_10 (IntKind.wrap .i64 (s_11 + 1))))
      (joinW (σ := Bool) (fun J_27 =>
    ld (.agg [.int .u8, .int .i32, .int .i32, .int .i32]) x_1 fun (x_28 : (Int × Int × Int × Int)) =>
    callW Try.prog k_pinnaceref05_Check [.agg ⟨[.int .u8 x_28.1, .int .i32 x_28.2.1, .int .i32 x_28.2.2.1, .int .i32 x_28.2.2.2]⟩] [.sc (.int .i64)] fun (x_29 : Int) =>
    cond (x_29 == 0)
      (ld (.sc (.int .u8)) (Addr.add x_1 0) fun (x_30 : Int) =>
        cond (x_30 == 2)
              (J_27 ((x_9 == 0) == true))
              (ld (.sc (.int .u8)) (Addr.add x_1 0) fun (x_31 : Int) =>
                J_27 ((x_9 == 0) == (x_31 == 4))))
      (J_27 ((x_9 == 0) == false)))
  <| fun s_32 =>
  retW s_32))
    0))
    0))
def H_pinnacelaw10_TableSets : Hints := { reg := [(20, [(79, .sc .bool)]), (22, [(99, .sc .bool)]), (25, [(6, .sc .bool)])], con := [(22079, [(16, .sc .sl)])], lop := [(0, [(30, .sc (.int .i64))]), (2, [(57, .sc (.int .i64))])] }
theorem E_pinnacelaw10_TableSets (d0 : Int) (o1 : Int) (p2 : (Int × Int × Int × Int)) : denF Try.prog H_pinnacelaw10_TableSets Try.f5 [.sc .bool] [.int .u8 d0, .int .u8 o1, .agg ⟨[.int .u8 p2.1, .int .i32 p2.2.1, .int .i32 p2.2.2.1, .int .i32 p2.2.2.2]⟩] = F_pinnacelaw10_TableSets d0 o1 p2 := by kernel_rfl
theorem C_pinnacelaw10_TableSets {R : Type} (d0 : Int) (o1 : Int) (p2 : (Int × Int × Int × Int)) (K : Res [.sc .bool] → W R) (Q : R → World → Prop) (w : World) (h : F_pinnacelaw10_TableSets d0 o1 p2 (fun r w => K r Q w) w) : callW Try.prog k_pinnacelaw10_TableSets [.int .u8 d0, .int .u8 o1, .agg ⟨[.int .u8 p2.1, .int .i32 p2.2.1, .int .i32 p2.2.2.1, .int .i32 p2.2.2.2]⟩] [.sc .bool] K Q w :=
  den_calls mix Try.func5 H_pinnacelaw10_TableSets (ts := [.sc .bool]) trivial (by rw [Try.ntmps5]; simp) (by rw [E_pinnacelaw10_TableSets]; exact h)

/-! 6 pinnace/pinnacelaw10.TablePlays -/
def F_pinnacelaw10_TablePlays (d0 : Int) (o1 : Sl) : W (Bool) :=
  callW Try.prog k_pinnacelaw10_awake [] [.sc .bool] fun (x_1 : Bool) =>
  cond (!x_1)
    (retW false)
    (callW Try.prog k_table_New [.int .u8 d0] [.sc .ptr, .sc (.int .i64)] fun (x_2 : (Option Addr) × Int) =>
  callW Try.prog k_pinnaceref10_New [.int .u8 d0] [.sc .ptr, .sc (.int .i64)] fun (x_3 : (Option Addr) × Int) =>
  joinW (σ := Bool) (fun J_4 =>
    cond (x_2.2 != x_3.2)
      (J_4 true)
      (J_4 (!((Option.isNone x_2.1) == (Option.isNone x_3.1)))))
  <| fun s_5 =>
  cond s_5
    (retW false)
    (joinW (σ := Unit) (fun J_6 =>
    loopW (σ := Int) (fun K_7 s_8 =>
      cond (decide (s_8 < (o1.n : Int)))
        (idxW o1.a o1.n 3 s_8 fun x_9 =>
      ld (.agg [.int .u8, .int .u32, .sl]) x_9 fun (x_10 : (Int × Int × Sl)) =>
      newW 62 [.int .u8 0, .int .u32 0, .slice none 0 0] fun x_11 =>
      stoL x_11 [.int .u8 x_10.1, .int .u32 x_10.2.1, .slice x_10.2.2.a x_10.2.2.n x_10.2.2.c] 0 <|
      cond (decide (s_8 ≥ 60))
        (J_6 ())
        (ld (.sc .sl) (Addr.add x_11 2) fun (x_12 : Sl) =>
      ld (.sc .sl) (Addr.add x_11 2) fun (x_13 : Sl) =>
      slcW x_12.a x_12.n x_12.c 4 none (some (if 20 < (x_13.n : Int) then 20 else (x_13.n : Int))) fun x_14 =>
      stoL (Addr.add x_11 2) [.slice x_14.a x_14.n x_14.c] 0 <|
      ld (.sc .sl) (Addr.add x_11 2) fun (x_15 : Sl) =>
      callW Try.prog k_pinnaceref05_Twin [.slice x_15.a x_15.n x_15.c] [.sc .sl] fun (x_16 : Sl) =>
      ld (.sc (.int .u8)) (Addr.add x_11 0) fun (x_17 : Int) =>
      joinW (σ := Bool) (fun J_18 =>
        cond (x_17 == 0)
          (J_18 (x_17 == 0))
          (J_18 (x_17 == 1)))
      <| fun s_19 =>
      joinW (σ := Bool) (fun J_20 =>
        cond s_19
          (drawW <|
          ld (.sc (.int .u32)) (Addr.add x_11 1) fun (x_21 : Int) =>
          ld (.sc (.int .u32)) (Addr.add x_11 1) fun (x_22 : Int) =>
          ld (.sc .sl) (Addr.add x_11 2) fun (x_23 : Sl) =>
          callW Try.prog k_table_Table_Add [.pointer x_2.1, .int .u32 x_21, .slice x_16.a x_16.n x_16.c] [.sc (.int .i64)] fun (x_24 : Int) =>
          andW (fun w => Rd w (Addr.add x_11 2) (.sc .sl) x_23) <|
          andW (fun w => Rd w (Addr.add x_11 1) (.sc (.int .u32)) x_22) <|
          callW Try.prog k_pinnaceref10_Add [.pointer x_3.1, .int .u32 x_22, .slice x_23.a x_23.n x_23.c] [.sc (.int .i64)] fun (x_25 : Int) =>
          J_20 (x_24 == x_25))
          (joinW (σ := Bool) (fun J_26 =>
            cond (x_17 == 2)
              (ld (.sc (.int .u32)) (Addr.add x_11 1) fun (x_27 : Int) =>
              callW Try.prog k_table_Table_Remove [.pointer x_2.1, .int .u32 x_27] [.sc .sl, .sc (.int .i64)] fun (x_28 : Sl × Int) =>
              ld (.sc (.int .u32)) (Addr.add x_11 1) fun (x_29 : Int) =>
              callW Try.prog k_pinnaceref10_Remove [.pointer x_3.1, .int .u32 x_29] [.sc .sl, .sc (.int .i64)] fun (x_30 : Sl × Int) =>
              joinW (σ := Bool) (fun J_31 =>
                callW Try.prog k_pinnaceref05_Same [.slice x_28.1.a x_28.1.n x_28.1.c, .slice x_30.1.a x_30.1.n x_30.1.c] [.sc .bool] fun (x_32 : Bool) =>
                cond x_32
                  (J_31 (x_28.2 == x_30.2))
                  (J_31 false))
              <| fun s_33 =>
              J_26 s_33)
              (joinW (σ := Bool) (fun J_34 =>
                cond (x_17 == 3)
                  (drawW <|
                  ld (.sc (.int .u32)) (Addr.add x_11 1) fun (x_35 : Int) =>
                  ld (.sc .sl) (Addr.add x_11 2) fun (x_36 : Sl) =>
                  ld (.sc (.int .u32)) (Addr.add x_11 1) fun (x_37 : Int) =>
                  ld (.sc .sl) (Addr.add x_11 2) fun (x_38 : Sl) =>
                  callW Try.prog k_pinnacelaw10_first [.slice x_36.a x_36.n x_36.c] [.agg [.int .u8, .int .i32, .int .i32, .int .i32]] fun (x_39 : (Int × Int × Int × Int)) =>
                  andW (fun w => Rd w (Addr.add x_11 2) (.sc .sl) x_38) <|
                  andW (fun w => Rd w (Addr.add x_11 1) (.sc (.int .u32)) x_37) <|
                  andW (fun w => Rd w (Addr.add x_11 1) (.sc (.int .u32)) x_35) <|
                  callW Try.prog k_table_Table_Set [.pointer x_2.1, .int .u32 x_35, .agg ⟨[.int .u8 x_39.1, .int .i32 x_39.2.1, .int .i32 x_39.2.2.1, .int .i32 x_39.2.2.2]⟩] [.sc (.int .i64)] fun (x_40 : Int) =>
                  andW (fun w => Rd w (Addr.add x_11 2) (.sc .sl) x_38) <|
                  andW (fun w => Rd w (Addr.add x_11 1) (.sc (.int .u32)) x_37) <|
                  callW Try.prog k_pinnacelaw10_first [.slice x_38.a x_38.n x_38.c] [.agg [.int .u8, .int .i32, .int .i32, .int .i32]] fun (x_41 : (Int × Int × Int × Int)) =>
                  andW (fun w => Rd w (Addr.add x_11 1) (.sc (.int .u32)) x_37) <|
                  callW Try.prog k_pinnaceref10_Set [.pointer x_3.1, .int .u32 x_37, .agg ⟨[.int .u8 x_41.1, .int .i32 x_41.2.1, .int .i32 x_41.2.2.1, .int .i32 x_41.2.2.2]⟩] [.sc (.int .i64)] fun (x_42 : Int) =>
                  J_34 (x_40 == x_42))
                  (joinW (σ := Bool) (fun J_43 =>
                    cond (x_17 == 4)
                      (joinW (σ := (Option Addr) × Int) (fun J_44 =>
                        drawW <|
                        bothW
                          (ld (.sc (.int .u32)) (Addr.add x_11 1) fun (x_45 : Int) =>
                          ld (.sc .sl) (Addr.add x_11 2) fun (x_46 : Sl) =>
                          callW Try.prog k_pinnacelaw10_first [.slice x_46.a x_46.n x_46.c] [.agg [.int .u8, .int .i32, .int .i32, .int .i32]] fun (x_47 : (Int × Int × Int × Int)) =>
                          andW (fun w => Rd w (Addr.add x_11 1) (.sc (.int .u32)) x_45) <|
                          callW Try.prog k_table_Table_Get [.pointer x_2.1, .int .u32 x_45, .int .u8 x_47.1] [.agg [.int .u8, .int .i32, .int .i32, .int .i32], .sc (.int .i64)] fun (x_48 : (Int × Int × Int × Int) × Int) =>
                          newW 40 [.int .u8 0, .int .i32 0, .int .i32 0, .int .i32 0] fun x_49 =>
                          stoL x_49 [.int .u8 x_48.1.1, .int .i32 x_48.1.2.1, .int .i32 x_48.1.2.2.1, .int .i32 x_48.1.2.2.2] 0 <|
                          J_44 ((some x_49), x_48.2))
                          (bothW
                          (ld (.sc (.int .u32)) (Addr.add x_11 1) fun (x_50 : Int) =>
                          ld (.sc .sl) (Addr.add x_11 2) fun (x_51 : Sl) =>
                          callW Try.prog k_pinnacelaw10_first [.slice x_51.a x_51.n x_51.c] [.agg [.int .u8, .int .i32, .int .i32, .int .i32]] fun (x_52 : (Int × Int × Int × Int)) =>
                          andW (fun w => Rd w (Addr.add x_11 1) (.sc (.int .u32)) x_50) <|
                          newW 40 [.int .u8 0, .int .i32 0, .int .i32 0, .int .i32 0] fun x_53 =>
                          callW Try.prog k_table_Table_Get [.pointer x_2.1, .int .u32 x_50, .int .u8 x_52.1] [.agg [.int .u8, .int .i32, .int .i32, .int .i32], .sc (.int .i64)] fun (x_54 : (Int × Int × Int × Int) × Int) =>
                          stoL x_53 [.int .u8 x_54.1.1, .int .i32 x_54.1.2.1, .int .i32 x_54.1.2.2.1, .int .i32 x_54.1.2.2.2] 0 <|
                          J_44 ((some x_53), x_54.2))
                          (ld (.sc (.int .u32)) (Addr.add x_11 1) fun (x_55 : Int) =>
                          ld (.sc .sl) (Addr.add x_11 2) fun (x_56 : Sl) =>
                          newW 40 [.int .u8 0, .int .i32 0, .int .i32 0, .int .i32 0] fun x_57 =>
                          callW Try.prog k_pinnacelaw10_first [.slice x_56.a x_56.n x_56.c] [.agg [.int .u8, .int .i32, .int .i32, .int .i32]] fun (x_58 : (Int × Int × Int × Int)) =>
                          andW (fun w => Rd w (Addr.add x_11 1) (.sc (.int .u32)) x_55) <|
                          callW Try.prog k_table_Table_Get [.pointer x_2.1, .int .u32 x_55, .int .u8 x_58.1] [.agg [.int .u8, .int .i32, .int .i32, .int .i32], .sc (.int .i64)] fun (x_59 : (Int × Int × Int × Int) × Int) =>
                          stoL x_57 [.int .u8 x_59.1.1, .int .i32 x_59.1.2.1, .int .i32 x_59.1.2.2.1, .int .i32 x_59.1.2.2.2] 0 <|
                          J_44 ((some x_57), x_59.2))))
                      <| fun s_60 =>
                      joinW (σ := (Option Addr) × Int) (fun J_61 =>
                        drawW <|
                        bothW
                          (ld (.sc (.int .u32)) (Addr.add x_11 1) fun (x_62 : Int) =>
                          ld (.sc .sl) (Addr.add x_11 2) fun (x_63 : Sl) =>
                          callW Try.prog k_pinnacelaw10_first [.slice x_63.a x_63.n x_63.c] [.agg [.int .u8, .int .i32, .int .i32, .int .i32]] fun (x_64 : (Int × Int × Int × Int)) =>
                          andW (fun w => Rd w (Addr.add x_11 1) (.sc (.int .u32)) x_62) <|
                          callW Try.prog k_pinnaceref10_Get [.pointer x_3.1, .int .u32 x_62, .int .u8 x_64.1] [.agg [.int .u8, .int .i32, .int .i32, .int .i32], .sc (.int .i64)] fun (x_65 : (Int × Int × Int × Int) × Int) =>
                          newW 40 [.int .u8 0, .int .i32 0, .int .i32 0, .int .i32 0] fun x_66 =>
                          stoL x_66 [.int .u8 x_65.1.1, .int .i32 x_65.1.2.1, .int .i32 x_65.1.2.2.1, .int .i32 x_65.1.2.2.2] 0 <|
                          J_61 ((some x_66), x_65.2))
                          (bothW
                          (ld (.sc (.int .u32)) (Addr.add x_11 1) fun (x_67 : Int) =>
                          ld (.sc .sl) (Addr.add x_11 2) fun (x_68 : Sl) =>
                          callW Try.prog k_pinnacelaw10_first [.slice x_68.a x_68.n x_68.c] [.agg [.int .u8, .int .i32, .int .i32, .int .i32]] fun (x_69 : (Int × Int × Int × Int)) =>
                          andW (fun w => Rd w (Addr.add x_11 1) (.sc (.int .u32)) x_67) <|
                          newW 40 [.int .u8 0, .int .i32 0, .int .i32 0, .int .i32 0] fun x_70 =>
                          callW Try.prog k_pinnaceref10_Get [.pointer x_3.1, .int .u32 x_67, .int .u8 x_69.1] [.agg [.int .u8, .int .i32, .int .i32, .int .i32], .sc (.int .i64)] fun (x_71 : (Int × Int × Int × Int) × Int) =>
                          stoL x_70 [.int .u8 x_71.1.1, .int .i32 x_71.1.2.1, .int .i32 x_71.1.2.2.1, .int .i32 x_71.1.2.2.2] 0 <|
                          J_61 ((some x_70), x_71.2))
                          (ld (.sc (.int .u32)) (Addr.add x_11 1) fun (x_72 : Int) =>
                          ld (.sc .sl) (Addr.add x_11 2) fun (x_73 : Sl) =>
                          newW 40 [.int .u8 0, .int .i32 0, .int .i32 0, .int .i32 0] fun x_74 =>
                          callW Try.prog k_pinnacelaw10_first [.slice x_73.a x_73.n x_73.c] [.agg [.int .u8, .int .i32, .int .i32, .int .i32]] fun (x_75 : (Int × Int × Int × Int)) =>
                          andW (fun w => Rd w (Addr.add x_11 1) (.sc (.int .u32)) x_72) <|
                          callW Try.prog k_pinnaceref10_Get [.pointer x_3.1, .int .u32 x_72, .int .u8 x_75.1] [.agg [.int .u8, .int .i32, .int .i32, .int .i32], .sc (.int .i64)] fun (x_76 : (Int × Int × Int × Int) × Int) =>
                          stoL x_74 [.int .u8 x_76.1.1, .int .i32 x_76.1.2.1, .int .i32 x_76.1.2.2.1, .int .i32 x_76.1.2.2.2] 0 <|
                          J_61 ((some x_74), x_76.2))))
                      <| fun s_77 =>
                      joinW (σ := Bool) (fun J_78 =>
                        ptrW s_60.1 fun x_79 =>
                        ld (.agg [.int .u8, .int .i32, .int .i32, .int .i32]) x_79 fun (x_80 : (Int × Int × Int × Int)) =>
                        ptrW s_77.1 fun x_81 =>
                        ld (.agg [.int .u8, .int .i32, .int .i32, .int .i32]) x_81 fun (x_82 : (Int × Int × Int × Int)) =>
                        rawQ Try.prog (do Go.eqGuard .eql 40 (.tmp 146) (.tmp 147) (.agg ⟨[.int .u8 x_80.1, .int .i32 x_80.2.1, .int .i32 x_80.2.2.1, .int .i32 x_80.2.2.2]⟩) (.agg ⟨[.int .u8 x_82.1, .int .i32 x_82.2.1, .int .i32 x_82.2.2.1, .int .i32 x_82.2.2.2]⟩); Go.binOp .eql 40 (.agg ⟨[.int .u8 x_80.1, .int .i32 x_80.2.1, .int .i32 x_80.2.2.1, .int .i32 x_80.2.2.2]⟩) (.agg ⟨[.int .u8 x_82.1, .int .i32 x_82.2.1, .int .i32 x_82.2.2.1, .int .i32 x_82.2.2.2]⟩)) [.sc .bool] fun (x_83 : Bool) =>
                        cond x_83
                          (J_78 (s_60.2 == s_77.2))
                          (J_78 false))
                      <| fun s_84 =>
                      J_43 s_84)
                      (J_43 true))
                  <| fun s_85 =>
                  J_34 s_85))
              <| fun s_86 =>
              J_26 s_86))
          <| fun s_87 =>
          J_20 s_87))
      <| fun s_88 =>
      joinW (σ := Bool) (fun J_89 =>
        cond (!s_88)
          (J_89 true)
          (ld (.sc .sl) (Addr.add x_11 2) fun (x_90 : Sl) =>
              callW Try.prog k_pinnaceref05_Same [.slice x_16.a x_16.n x_16.c, .slice x_90.a x_90.n x_90.c] [.sc .bool] fun (x_91 : Bool) =>
                J_89 (!x_91)))
      <| fun s_92 =>
      cond s_92
        (retW false)
        (loopW (σ := Int) (fun K_93 s_94 =>
        cond (decide (s_94 < (x_16.n : Int)))
          (drawW <|
        idxW x_16.a x_16.n 4 s_94 fun x_95 =>
        idxW (some (Addr.add x_95 1)) 3 1 0 fun x_96 =>
        ld (.sc (.int .i32)) x_96 fun (x_97 : Int) =>
        idxW x_16.a x_16.n 4 s_94 fun x_98 =>
        idxW (some (Addr.add x_98 1)) 3 1 0 fun x_99 =>
        stoL x_99 [.int .i32 (bXor .i32 x_97 1)] 0 <|
        K_93 (IntKind.wrap .i64 (s_94 + 1)))
          (callW Try.prog k_pinnacelaw10_alike [.pointer x_2.1, .pointer x_3.1] [.sc .bool] fun (x_100 : Bool) =>
      cond (!x_100)
        (retW false)
        (K_7 (IntKind.wrap .i64 (s_8 + 1)))))
        0)))
        (J_6 ()))
      0)
  <| fun s_101 =>
  retW true))
def H_pinnacelaw10_TablePlays : Hints := { reg := [(5, [(43, .sc .bool)]), (21, [(12, .sc .bool)]), (25, [(17, .sc .ptr), (18, .sc (.int .i64))]), (26, [(19, .sc .ptr), (20, .sc (.int .i64))]), (27, [(12, .sc .bool)]), (28, [(162, .sc .bool)])], con := [(17066, [(66, .sc .bool)]), (26122, [(12, .sc .bool)]), (24105, [(12, .sc .bool)]), (20081, [(12, .sc .bool)]), (18066, [(12, .sc .bool)])], blk := [(0, [])], lop := [(0, [(46, .sc (.int .i64))]), (3, [(165, .sc (.int .i64))])], dr := [(17, ([], [[(0, []), (1, []), (2, []), (3, []), (5, []), (6, []), (7, []), (8, []), (9, []), (4, [7, 9]), (10, []), (11, []), (12, [])]])), (23, ([], [[(0, []), (1, []), (2, []), (3, []), (4, []), (7, []), (8, []), (9, []), (10, []), (11, []), (5, [2, 9, 11]), (6, [9, 11]), (12, [9]), (13, []), (14, []), (15, [])]])), (25, ([(5, 11), (7, 11)], [[(0, []), (1, []), (2, []), (3, []), (4, []), (5, [2]), (6, []), (7, []), (8, []), (9, []), (10, []), (11, []), (12, []), (13, [])], [(0, []), (1, []), (2, []), (3, []), (4, []), (5, [2]), (6, []), (11, []), (7, []), (8, []), (9, []), (10, []), (12, []), (13, [])], [(0, []), (1, []), (2, []), (3, []), (4, []), (11, []), (5, [2]), (6, []), (7, []), (8, []), (9, []), (10, []), (12, []), (13, [])]])), (26, ([(5, 11), (7, 11)], [[(0, []), (1, []), (2, []), (3, []), (4, []), (5, [2]), (6, []), (7, []), (8, []), (9, []), (10, []), (11, []), (12, []), (13, [])], [(0, []), (1, []), (2, []), (3, []), (4, []), (5, [2]), (6, []), (11, []), (7, []), (8, []), (9, []), (10, []), (12, []), (13, [])], [(0, []), (1, []), (2, []), (3, []), (4, []), (11, []), (5, [2]), (6, []), (7, []), (8, []), (9, []), (10, []), (12, []), (13, [])]])), (33, ([], [[(0, []), (1, []), (2, []), (3, []), (4, []), (5, []), (6, []), (7, []), (8, []), (9, []), (10, [])]]))] }
theorem E_pinnacelaw10_TablePlays (d0 : Int) (o1 : Sl) : denF Try.prog H_pinnacelaw10_TablePlays Try.f6 [.sc .bool] [.int .u8 d0, .slice o1.a o1.n o1.c] = F_pinnacelaw10_TablePlays d0 o1 := by kernel_rfl
theorem C_pinnacelaw10_TablePlays {R : Type} (d0 : Int) (o1 : Sl) (K : Res [.sc .bool] → W R) (Q : R → World → Prop) (w : World) (h : F_pinnacelaw10_TablePlays d0 o1 (fun r w => K r Q w) w) : callW Try.prog k_pinnacelaw10_TablePlays [.int .u8 d0, .slice o1.a o1.n o1.c] [.sc .bool] K Q w :=
  den_calls mix Try.func6 H_pinnacelaw10_TablePlays (ts := [.sc .bool]) trivial (by rw [Try.ntmps6]; simp) (by rw [E_pinnacelaw10_TablePlays]; exact h)

/-! 7 pinnace/pinnacelaw10.awake -/
def F_pinnacelaw10_awake  : W (Bool) :=
  callW Try.prog k_table_New [.int .u8 0] [.sc .ptr, .sc (.int .i64)] fun (x_1 : (Option Addr) × Int) =>
  joinW (σ := Bool) (fun J_2 =>
    cond (x_1.2 != 0)
      (J_2 true)
      (cond (Option.isNone x_1.1)
          (J_2 true)
          (callW Try.prog k_table_Table_Add [.pointer x_1.1, .int .u32 7, .slice none 0 0] [.sc (.int .i64)] fun (x_3 : Int) =>
            cond (x_3 != 0)
                (J_2 true)
                (callW Try.prog k_table_Table_Add [.pointer x_1.1, .int .u32 8, .slice none 0 0] [.sc (.int .i64)] fun (x_4 : Int) =>
                  cond (x_4 != 0)
                      (J_2 true)
                      (callW Try.prog k_table_Table_Add [.pointer x_1.1, .int .u32 9, .slice none 0 0] [.sc (.int .i64)] fun (x_5 : Int) =>
                        J_2 (x_5 != 0))))))
  <| fun s_6 =>
  cond s_6
    (retW false)
    (callW Try.prog k_table_Table_Remove [.pointer x_1.1, .int .u32 7] [.sc .sl, .sc (.int .i64)] fun (x_7 : Sl × Int) =>
  joinW (σ := Bool) (fun J_8 =>
    cond (x_7.2 == 0)
      (callW Try.prog k_table_Table_IDs [.pointer x_1.1] [.sc .sl] fun (x_9 : Sl) =>
        newW 23 [.int .u32 9, .int .u32 8] fun x_10 =>
          callW Try.prog k_pinnaceref07_Same [.slice x_9.a x_9.n x_9.c, .slice (some x_10) 2 2] [.sc .bool] fun (x_11 : Bool) =>
            J_8 x_11)
      (J_8 false))
  <| fun s_12 =>
  retW s_12)
def H_pinnacelaw10_awake : Hints := { reg := [(2, [(29, .sc .bool)]), (5, [(0, .sc .bool)])] }
theorem E_pinnacelaw10_awake  : denF Try.prog H_pinnacelaw10_awake Try.f7 [.sc .bool] [] = F_pinnacelaw10_awake := by kernel_rfl
theorem C_pinnacelaw10_awake {R : Type}  (K : Res [.sc .bool] → W R) (Q : R → World → Prop) (w : World) (h : F_pinnacelaw10_awake (fun r w => K r Q w) w) : callW Try.prog k_pinnacelaw10_awake [] [.sc .bool] K Q w :=
  den_calls mix Try.func7 H_pinnacelaw10_awake (ts := [.sc .bool]) trivial (by rw [Try.ntmps7]; simp) (by rw [E_pinnacelaw10_awake]; exact h)

/-! 8 pinnace/table.New -/
def F_table_New (mask0 : Int) : W ((Option Addr) × Int) :=
  cond (decide (mask0 ≥ 64))
    (retW (none, 1))
    (rawW Try.prog (Instr.makeMap 72 none) [.sc .map] fun (x_1 : Option Nat) =>
  newW 80 [.int .u8 mask0, .slice none 0 0, .slice none 0 0, .slice none 0 0, .slice none 0 0, .slice none 0 0, .slice none 0 0, .slice none 0 0, .slice none 0 0, .map x_1] fun x_2 =>
  loopW (σ := Int) (fun K_3 s_4 =>
    cond (decide (s_4 < 6))
      (chkW (0 ≤ s_4) <|
    joinW (σ := Unit) (fun J_5 =>
      cond ((bAnd .u8 (shR .u8 mask0 s_4) 1) == 1)
        (ld (.sc .sl) (Addr.add x_2 1) fun (x_6 : Sl) =>
        newW 5 [.int .u8 s_4] fun x_7 =>
        rawW Try.prog (Builtin.append_ #[36, 36] 36 #[.slice x_6.a x_6.n x_6.c, .slice (some x_7) 1 1]) [.sc .sl] fun (x_8 : Sl) =>
        stoL (Addr.add x_2 1) [.slice x_8.a x_8.n x_8.c] 0 <|
        J_5 ())
        (J_5 ()))
    <| fun s_9 =>
    K_3 (IntKind.wrap .u8 (s_4 + 1)))
      (retW ((some x_2), 0)))
    0)
def H_table_New : Hints := { con := [(9019, [])], lop := [(0, [(12, .sc (.int .u8))])] }
theorem E_table_New (mask0 : Int) : denF Try.prog H_table_New Try.f8 [.sc .ptr, .sc (.int .i64)] [.int .u8 mask0] = F_table_New mask0 := by kernel_rfl
theorem C_table_New {R : Type} (mask0 : Int) (K : Res [.sc .ptr, .sc (.int .i64)] → W R) (Q : R → World → Prop) (w : World) (h : F_table_New mask0 (fun r w => K r Q w) w) : callW Try.prog k_table_New [.int .u8 mask0] [.sc .ptr, .sc (.int .i64)] K Q w :=
  den_calls mix Try.func8 H_table_New (ts := [.sc .ptr, .sc (.int .i64)]) trivial (by rw [Try.ntmps8]; simp) (by rw [E_table_New]; exact h)

/-! 9 (*pinnace/table.Table).Add -/
def F_table_Table_Add (d0 : Option Addr) (o1 : Int) (p2 : Sl) : W (Int) :=
  cond (Option.isNone d0)
    (retW 10)
    (callW Try.prog k_schema_List [.slice p2.a p2.n p2.c] [.sc (.int .i64)] fun (x_1 : Int) =>
  cond (x_1 != 0)
    (retW x_1)
    (drawW <|
  ptrW d0 fun x_2 =>
  ld (.sc (.int .u8)) (Addr.add x_2 0) fun (x_3 : Int) =>
  callW Try.prog k_schema_Mask [.slice p2.a p2.n p2.c] [.sc (.int .u8)] fun (x_4 : Int) =>
  andW (fun w => Rd w (Addr.add x_2 0) (.sc (.int .u8)) x_3) <|
  cond (x_4 != x_3)
    (retW 4)
    (callW Try.prog k_table_Table_Row [.pointer d0, .int .u32 o1] [.sc (.int .i64), .sc .bool] fun (x_5 : Int × Bool) =>
  cond x_5.2
    (retW 9)
    (drawW <|
  ptrW d0 fun x_6 =>
  ld (.sc .map) (Addr.add x_6 9) fun (x_7 : Option Nat) =>
  ptrW d0 fun x_8 =>
  ld (.sc .sl) (Addr.add (Addr.add x_8 2) 0) fun (x_9 : Sl) =>
  rawU Try.prog (Instr.mapUpdate 72 (.map x_7) (.int .u32 o1) (.int .i64 (x_9.n : Int))) <|
  ptrW d0 fun x_10 =>
  callW Try.prog k_table_column_ID_add [.pointer (some (Addr.add x_10 2)), .int .u32 o1] [] fun (x_11 : Unit) =>
  loopW (σ := Int) (fun K_12 s_13 =>
    cond (decide (s_13 < (p2.n : Int)))
      (idxW p2.a p2.n 4 s_13 fun x_14 =>
    ld (.agg [.int .u8, .int .i32, .int .i32, .int .i32]) x_14 fun (x_15 : (Int × Int × Int × Int)) =>
    newW 40 [.int .u8 0, .int .i32 0, .int .i32 0, .int .i32 0] fun x_16 =>
    stoL x_16 [.int .u8 x_15.1, .int .i32 x_15.2.1, .int .i32 x_15.2.2.1, .int .i32 x_15.2.2.2] 0 <|
    drawW <|
    ld (.sc (.int .u8)) (Addr.add x_16 0) fun (x_17 : Int) =>
    ptrW d0 fun x_18 =>
    idxW (some (Addr.add x_18 3)) 6 1 x_17 fun x_19 =>
    ld (.agg [.int .i32, .int .i32, .int .i32]) (Addr.add x_16 1) fun (x_20 : (Int × Int × Int)) =>
    callW Try.prog k_table_column_fields_add [.pointer (some x_19), .agg ⟨[.int .i32 x_20.1, .int .i32 x_20.2.1, .int .i32 x_20.2.2]⟩] [] fun (x_21 : Unit) =>
    K_12 (IntKind.wrap .i64 (s_13 + 1)))
      (retW 0))
    0))))
def H_table_Table_Add : Hints := { lop := [(0, [(51, .sc (.int .i64))])], dr := [(6, ([], [[(0, []), (2, []), (3, []), (4, []), (5, []), (1, [5]), (6, [])]])), (11, ([], [[(0, []), (1, []), (2, []), (3, []), (4, []), (5, []), (6, []), (7, []), (8, []), (9, []), (10, []), (11, [])]])), (16, ([], [[(0, []), (1, []), (2, []), (3, []), (4, []), (5, []), (6, []), (7, []), (8, [])]]))] }
theorem E_table_Table_Add (d0 : Option Addr) (o1 : Int) (p2 : Sl) : denF Try.prog H_table_Table_Add Try.f9 [.sc (.int .i64)] [.pointer d0, .int .u32 o1, .slice p2.a p2.n p2.c] = F_table_Table_Add d0 o1 p2 := by kernel_rfl
theorem C_table_Table_Add {R : Type} (d0 : Option Addr) (o1 : Int) (p2 : Sl) (K : Res [.sc (.int .i64)] → W R) (Q : R → World → Prop) (w : World) (h : F_table_Table_Add d0 o1 p2 (fun r w => K r Q w) w) : callW Try.prog k_table_Table_Add [.pointer d0, .int .u32 o1, .slice p2.a p2.n p2.c] [.sc (.int .i64)] K Q w :=
  den_calls mix Try.func9 H_table_Table_Add (ts := [.sc (.int .i64)]) trivial (by rw [Try.ntmps9]; simp) (by rw [E_table_Table_Add]; exact h)

/-! 10 pinnace/pinnaceref05.Twin -/
def F_pinnaceref05_Twin (l0 : Sl) : W (Sl) :=
  newW 40 [] fun x_1 =>
  rawW Try.prog (Builtin.append_ #[24, 24] 24 #[.slice (some x_1) 0 0, .slice l0.a l0.n l0.c]) [.sc .sl] fun (x_2 : Sl) =>
  retW x_2
def H_pinnaceref05_Twin : Hints := {}
theorem E_pinnaceref05_Twin (l0 : Sl) : denF Try.prog H_pinnaceref05_Twin Try.f10 [.sc .sl] [.slice l0.a l0.n l0.c] = F_pinnaceref05_Twin l0 := by kernel_rfl
theorem C_pinnaceref05_Twin {R : Type} (l0 : Sl) (K : Res [.sc .sl] → W R) (Q : R → World → Prop) (w : World) (h : F_pinnaceref05_Twin l0 (fun r w => K r Q w) w) : callW Try.prog k_pinnaceref05_Twin [.slice l0.a l0.n l0.c] [.sc .sl] K Q w :=
  den_calls mix Try.func10 H_pinnaceref05_Twin (ts := [.sc .sl]) trivial (by rw [Try.ntmps10]; simp) (by rw [E_pinnaceref05_Twin]; exact h)

/-! 11 pinnace/pinnaceref05.List -/
def F_pinnaceref05_List (l0 : Sl) : W (Int) :=
  loopW (σ := Int × Int) (fun K_1 s_2 =>
    cond (decide (s_2.2 < (l0.n : Int)))
      (idxW l0.a l0.n 4 s_2.2 fun x_3 =>
    ld (.agg [.int .u8, .int .i32, .int .i32, .int .i32]) x_3 fun (x_4 : (Int × Int × Int × Int)) =>
    newW 40 [.int .u8 0, .int .i32 0, .int .i32 0, .int .i32 0] fun c_5 =>
    stoL c_5 [.int .u8 x_4.1, .int .i32 x_4.2.1, .int .i32 x_4.2.2.1, .int .i32 x_4.2.2.2] 0 <|
    ld (.agg [.int .u8, .int .i32, .int .i32, .int .i32]) c_5 fun (x_6 : (Int × Int × Int × Int)) =>
    callW Try.prog k_pinnaceref05_Check [.agg ⟨[.int .u8 x_6.1, .int .i32 x_6.2.1, .int .i32 x_6.2.2.1, .int .i32 x_6.2.2.2]⟩] [.sc (.int .i64)] fun (x_7 : Int) =>
    cond (x_7 != 0)
      (retW x_7)
      (ld (.sc (.int .u8)) (Addr.add c_5 0) fun (x_8 : Int) =>
    cond (decide ((IntKind.wrap .i64 x_8) ≤ s_2.1))
      (retW 4)
      (ld (.sc (.int .u8)) (Addr.add c_5 0) fun (x_9 : Int) =>
    K_1 (IntKind.wrap .i64 x_9, IntKind.wrap .i64 (s_2.2 + 1)))))
      (retW 0))
    ((-1), 0)
def H_pinnaceref05_List : Hints := { lop := [(0, [(3, .sc (.int .i64)), (9, .sc (.int .i64))])] }
theorem E_pinnaceref05_List (l0 : Sl) : denF Try.prog H_pinnaceref05_List Try.f11 [.sc (.int .i64)] [.slice l0.a l0.n l0.c] = F_pinnaceref05_List l0 := by kernel_rfl
theorem C_pinnaceref05_List {R : Type} (l0 : Sl) (K : Res [.sc (.int .i64)] → W R) (Q : R → World → Prop) (w : World) (h : F_pinnaceref05_List l0 (fun r w => K r Q w) w) : callW Try.prog k_pinnaceref05_List [.slice l0.a l0.n l0.c] [.sc (.int .i64)] K Q w :=
  den_calls mix Try.func11 H_pinnaceref05_List (ts := [.sc (.int .i64)]) trivial (by rw [Try.ntmps11]; simp) (by rw [E_pinnaceref05_List]; exact h)

/-! 12 (*pinnace/table.Table).Len -/
def F_table_Table_Len (t0 : Option Addr) : W (Int) :=
  cond (Option.isNone t0)
    (retW 0)
    (ptrW t0 fun x_1 =>
  ld (.sc .sl) (Addr.add (Addr.add x_1 2) 0) fun (x_2 : Sl) =>
  retW (x_2.n : Int))
def H_table_Table_Len : Hints := {}
theorem E_table_Table_Len (t0 : Option Addr) : denF Try.prog H_table_Table_Len Try.f12 [.sc (.int .i64)] [.pointer t0] = F_table_Table_Len t0 := by kernel_rfl
theorem C_table_Table_Len {R : Type} (t0 : Option Addr) (K : Res [.sc (.int .i64)] → W R) (Q : R → World → Prop) (w : World) (h : F_table_Table_Len t0 (fun r w => K r Q w) w) : callW Try.prog k_table_Table_Len [.pointer t0] [.sc (.int .i64)] K Q w :=
  den_calls mix Try.func12 H_table_Table_Len (ts := [.sc (.int .i64)]) trivial (by rw [Try.ntmps12]; simp) (by rw [E_table_Table_Len]; exact h)

/-! 13 pinnace/pinnaceref05.Mask -/
def F_pinnaceref05_Mask (l0 : Sl) : W (Int) :=
  loopW (σ := Int × Int) (fun K_1 s_2 =>
    cond (decide (s_2.2 < 6))
      (loopW (σ := Int × Int) (fun K_3 s_4 =>
      cond (decide (s_4.2 < (l0.n : Int)))
        (idxW l0.a l0.n 4 s_4.2 fun x_5 =>
      ld (.agg [.int .u8, .int .i32, .int .i32, .int .i32]) x_5 fun (x_6 : (Int × Int × Int × Int)) =>
      newW 40 [.int .u8 0, .int .i32 0, .int .i32 0, .int .i32 0] fun c_7 =>
      stoL c_7 [.int .u8 x_6.1, .int .i32 x_6.2.1, .int .i32 x_6.2.2.1, .int .i32 x_6.2.2.2] 0 <|
      joinW (σ := Bool) (fun J_8 =>
        ld (.sc (.int .u8)) (Addr.add c_7 0) fun (x_9 : Int) =>
        cond (x_9 == s_2.2)
          (chkW (0 ≤ s_2.2) <|
              J_8 ((Int.tmod (shR .u8 s_4.1 s_2.2) 2) == 0))
          (J_8 false))
      <| fun s_10 =>
      joinW (σ := Int) (fun J_11 =>
        cond s_10
          (chkW (0 ≤ s_2.2) <|
          J_11 (IntKind.wrap .u8 (s_4.1 + (shL .u8 1 s_2.2))))
          (J_11 s_4.1))
      <| fun s_12 =>
      K_3 (s_12, IntKind.wrap .i64 (s_4.2 + 1)))
        (K_1 (s_4.1, IntKind.wrap .u8 (s_2.2 + 1))))
      (s_2.1, 0))
      (retW s_2.1))
    (0, 0)
def H_pinnaceref05_Mask : Hints := { reg := [(8, [(26, .sc .bool)])], con := [(10026, [(3, .sc (.int .u8))])], lop := [(0, [(3, .sc (.int .u8)), (7, .sc (.int .u8))]), (2, [(3, .sc (.int .u8)), (12, .sc (.int .i64))])] }
theorem E_pinnaceref05_Mask (l0 : Sl) : denF Try.prog H_pinnaceref05_Mask Try.f13 [.sc (.int .u8)] [.slice l0.a l0.n l0.c] = F_pinnaceref05_Mask l0 := by kernel_rfl
theorem C_pinnaceref05_Mask {R : Type} (l0 : Sl) (K : Res [.sc (.int .u8)] → W R) (Q : R → World → Prop) (w : World) (h : F_pinnaceref05_Mask l0 (fun r w => K r Q w) w) : callW Try.prog k_pinnaceref05_Mask [.slice l0.a l0.n l0.c] [.sc (.int .u8)] K Q w :=
  den_calls mix Try.func13 H_pinnaceref05_Mask (ts := [.sc (.int .u8)]) trivial (by rw [Try.ntmps13]; simp) (by rw [E_pinnaceref05_Mask]; exact h)

/-! 14 (*pinnace/table.Table).Remove -/
def F_table_Table_Remove (d0 : Option Addr) (o1 : Int) : W (Sl × Int) :=
  callW Try.prog k_table_Table_Row [.pointer d0, .int .u32 o1] [.sc (.int .i64), .sc .bool] fun (x_1 : Int × Bool) =>
  cond (Option.isNone d0)
    (retW ((⟨none, 0, 0⟩ : Sl), 10))
    (cond (!x_1.2)
      (retW ((⟨none, 0, 0⟩ : Sl), 7))
      (callW Try.prog k_table_Table_At [.pointer d0, .int .i64 x_1.1] [.agg [.int .u32, .sl], .sc .bool] fun (x_2 : (Int × Sl) × Bool) =>
  newW 50 [.int .u32 0, .slice none 0 0] fun x_3 =>
  stoL x_3 [.int .u32 x_2.1.1, .slice x_2.1.2.a x_2.1.2.n x_2.1.2.c] 0 <|
  ptrW d0 fun x_4 =>
  callW Try.prog k_table_column_ID_take [.pointer (some (Addr.add x_4 2)), .int .i64 x_1.1] [.sc (.int .u32)] fun (x_5 : Int) =>
  ptrW d0 fun x_6 =>
  ld (.sc .sl) (Addr.add x_6 1) fun (x_7 : Sl) =>
  loopW (σ := Int) (fun K_8 s_9 =>
    cond (decide (s_9 < (x_7.n : Int)))
      (idxW x_7.a x_7.n 1 s_9 fun x_10 =>
    ld (.sc (.int .u8)) x_10 fun (x_11 : Int) =>
    ptrW d0 fun x_12 =>
    idxW (some (Addr.add x_12 3)) 6 1 x_11 fun x_13 =>
    callW Try.prog k_table_column_fields_take [.pointer (some x_13), .int .i64 x_1.1] [.agg [.int .i32, .int .i32, .int .i32]] fun (x_14 : (Int × Int × Int)) =>
    K_8 (IntKind.wrap .i64 (s_9 + 1)))
      (ptrW d0 fun x_15 =>
  ld (.sc .sl) (Addr.add (Addr.add x_15 2) 0) fun (x_16 : Sl) =>
  joinW (σ := Unit) (fun J_17 =>
    cond (decide (x_1.1 < (x_16.n : Int)))
      (drawW <|
      ptrW d0 fun x_18 =>
      ld (.sc .map) (Addr.add x_18 9) fun (x_19 : Option Nat) =>
      ptrW d0 fun x_20 =>
      ld (.sc .sl) (Addr.add (Addr.add x_20 2) 0) fun (x_21 : Sl) =>
      idxW x_21.a x_21.n 1 x_1.1 fun x_22 =>
      ld (.sc (.int .u32)) x_22 fun (x_23 : Int) =>
      rawU Try.prog (Instr.mapUpdate 72 (.map x_19) (.int .u32 x_23) (.int .i64 x_1.1)) <|
      J_17 ())
      (J_17 ()))
  <| fun s_24 =>
  ptrW d0 fun x_25 =>
  ld (.sc .map) (Addr.add x_25 9) fun (x_26 : Option Nat) =>
  rawW Try.prog (Builtin.delete_ #[72, 23] 0 #[.map x_26, .int .u32 o1]) [] fun (_ : Unit) =>
  ld (.sc .sl) (Addr.add x_3 1) fun (x_28 : Sl) =>
  retW (x_28, 0)))
    0))
def H_table_Table_Remove : Hints := { con := [(15059, [])], lop := [(1, [(40, .sc (.int .i64))])], dr := [(14, ([], [[(0, []), (1, []), (2, []), (3, []), (4, []), (5, []), (6, []), (7, []), (8, []), (9, []), (10, []), (11, []), (12, []), (13, [])]]))] }
theorem E_table_Table_Remove (d0 : Option Addr) (o1 : Int) : denF Try.prog H_table_Table_Remove Try.f14 [.sc .sl, .sc (.int .i64)] [.pointer d0, .int .u32 o1] = F_table_Table_Remove d0 o1 := by kernel_rfl
theorem C_table_Table_Remove {R : Type} (d0 : Option Addr) (o1 : Int) (K : Res [.sc .sl, .sc (.int .i64)] → W R) (Q : R → World → Prop) (w : World) (h : F_table_Table_Remove d0 o1 (fun r w => K r Q w) w) : callW Try.prog k_table_Table_Remove [.pointer d0, .int .u32 o1] [.sc .sl, .sc (.int .i64)] K Q w :=
  den_calls mix Try.func14 H_table_Table_Remove (ts := [.sc .sl, .sc (.int .i64)]) trivial (by rw [Try.ntmps14]; simp) (by rw [E_table_Table_Remove]; exact h)

/-! 15 pinnace/pinnaceref07.Same -/
def F_pinnaceref07_Same (a0 : Sl) (b1 : Sl) : W (Bool) :=
  cond ((a0.n : Int) != (b1.n : Int))
    (retW false)
    (loopW (σ := Int) (fun K_1 s_2 =>
    cond (decide (s_2 < (a0.n : Int)))
      (drawW <|
    idxW a0.a a0.n 1 s_2 fun x_3 =>
    ld (.sc (.int .u32)) x_3 fun (x_4 : Int) =>
    idxW b1.a b1.n 1 s_2 fun x_5 =>
    ld (.sc (.int .u32)) x_5 fun (x_6 : Int) =>
    cond (x_4 != x_6)
      (retW false)
      (K_1 (IntKind.wrap .i64 (s_2 + 1))))
      (retW true))
    0)
def H_pinnaceref07_Same : Hints := { lop := [(0, [(13, .sc (.int .i64))])], dr := [(6, ([], [[(0, []), (1, []), (2, []), (3, []), (4, []), (5, []), (6, []), (7, []), (8, [])]]))] }
theorem E_pinnaceref07_Same (a0 : Sl) (b1 : Sl) : denF Try.prog H_pinnaceref07_Same Try.f15 [.sc .bool] [.slice a0.a a0.n a0.c, .slice b1.a b1.n b1.c] = F_pinnaceref07_Same a0 b1 := by kernel_rfl
theorem C_pinnaceref07_Same {R : Type} (a0 : Sl) (b1 : Sl) (K : Res [.sc .bool] → W R) (Q : R → World → Prop) (w : World) (h : F_pinnaceref07_Same a0 b1 (fun r w => K r Q w) w) : callW Try.prog k_pinnaceref07_Same [.slice a0.a a0.n a0.c, .slice b1.a b1.n b1.c] [.sc .bool] K Q w :=
  den_calls mix Try.func15 H_pinnaceref07_Same (ts := [.sc .bool]) trivial (by rw [Try.ntmps15]; simp) (by rw [E_pinnaceref07_Same]; exact h)

/-! 16 (*pinnace/table.Table).IDs -/
def F_table_Table_IDs (t0 : Option Addr) : W (Sl) :=
  cond (Option.isNone t0)
    (retW (⟨none, 0, 0⟩ : Sl))
    (ptrW t0 fun x_1 =>
  ld (.sc .sl) (Addr.add (Addr.add x_1 2) 0) fun (x_2 : Sl) =>
  callW Try.prog k_slices_Clone_ID [.slice x_2.a x_2.n x_2.c] [.sc .sl] fun (x_3 : Sl) =>
  retW x_3)
def H_table_Table_IDs : Hints := {}
theorem E_table_Table_IDs (t0 : Option Addr) : denF Try.prog H_table_Table_IDs Try.f16 [.sc .sl] [.pointer t0] = F_table_Table_IDs t0 := by kernel_rfl
theorem C_table_Table_IDs {R : Type} (t0 : Option Addr) (K : Res [.sc .sl] → W R) (Q : R → World → Prop) (w : World) (h : F_table_Table_IDs t0 (fun r w => K r Q w) w) : callW Try.prog k_table_Table_IDs [.pointer t0] [.sc .sl] K Q w :=
  den_calls mix Try.func16 H_table_Table_IDs (ts := [.sc .sl]) trivial (by rw [Try.ntmps16]; simp) (by rw [E_table_Table_IDs]; exact h)

/-! 17 (*pinnace/table.Table).Get -/
def F_table_Table_Get (t0 : Option Addr) (id1 : Int) (kind2 : Int) : W ((Int × Int × Int × Int) × Int) :=
  newW 40 [.int .u8 0, .int .i32 0, .int .i32 0, .int .i32 0] fun x_1 =>
  callW Try.prog k_table_Table_find [.pointer t0, .int .u32 id1, .int .u8 kind2] [.sc (.int .i64), .sc (.int .i64)] fun (x_2 : Int × Int) =>
  cond (x_2.2 != 0)
    (stoL x_1 [.int .u8 0, .int .i32 0, .int .i32 0, .int .i32 0] 0 <|
    ld (.agg [.int .u8, .int .i32, .int .i32, .int .i32]) x_1 fun (x_3 : (Int × Int × Int × Int)) =>
    retW (x_3, x_2.2))
    (callW Try.prog k_table_Table_comp [.pointer t0, .int .i64 x_2.1, .int .u8 kind2] [.agg [.int .u8, .int .i32, .int .i32, .int .i32]] fun (x_4 : (Int × Int × Int × Int)) =>
  stoL x_1 [.int .u8 x_4.1, .int .i32 x_4.2.1, .int .i32 x_4.2.2.1, .int .i32 x_4.2.2.2] 0 <|
  ld (.agg [.int .u8, .int .i32, .int .i32, .int .i32]) x_1 fun (x_5 : (Int × Int × Int × Int)) =>
  retW (x_5, 0))
def H_table_Table_Get : Hints := {}
theorem E_table_Table_Get (t0 : Option Addr) (id1 : Int) (kind2 : Int) : denF Try.prog H_table_Table_Get Try.f17 [.agg [.int .u8, .int .i32, .int .i32, .int .i32], .sc (.int .i64)] [.pointer t0, .int .u32 id1, .int .u8 kind2] = F_table_Table_Get t0 id1 kind2 := by kernel_rfl
theorem C_table_Table_Get {R : Type} (t0 : Option Addr) (id1 : Int) (kind2 : Int) (K : Res [.agg [.int .u8, .int .i32, .int .i32, .int .i32], .sc (.int .i64)] → W R) (Q : R → World → Prop) (w : World) (h : F_table_Table_Get t0 id1 kind2 (fun r w => K r Q w) w) : callW Try.prog k_table_Table_Get [.pointer t0, .int .u32 id1, .int .u8 kind2] [.agg [.int .u8, .int .i32, .int .i32, .int .i32], .sc (.int .i64)] K Q w :=
  den_calls mix Try.func17 H_table_Table_Get (ts := [.agg [.int .u8, .int .i32, .int .i32, .int .i32], .sc (.int .i64)]) ⟨by kernel_rfl, trivial⟩ (by rw [Try.ntmps17]; simp) (by rw [E_table_Table_Get]; exact h)

/-! 18 (*pinnace/table.Table).Set -/
def F_table_Table_Set (t0 : Option Addr) (id1 : Int) (c2 : (Int × Int × Int × Int)) : W (Int) :=
  newW 40 [.int .u8 c2.1, .int .i32 c2.2.1, .int .i32 c2.2.2.1, .int .i32 c2.2.2.2] fun c_1 =>
  cond (Option.isNone t0)
    (retW 10)
    (ld (.agg [.int .u8, .int .i32, .int .i32, .int .i32]) c_1 fun (x_2 : (Int × Int × Int × Int)) =>
  callW Try.prog k_schema_Check [.agg ⟨[.int .u8 x_2.1, .int .i32 x_2.2.1, .int .i32 x_2.2.2.1, .int .i32 x_2.2.2.2]⟩] [.sc (.int .i64)] fun (x_3 : Int) =>
  cond (x_3 != 0)
    (retW x_3)
    (ld (.sc (.int .u8)) (Addr.add c_1 0) fun (x_4 : Int) =>
  callW Try.prog k_table_Table_find [.pointer t0, .int .u32 id1, .int .u8 x_4] [.sc (.int .i64), .sc (.int .i64)] fun (x_5 : Int × Int) =>
  joinW (σ := Unit) (fun J_6 =>
    cond (x_5.2 == 0)
      (drawW <|
      ld (.sc (.int .u8)) (Addr.add c_1 0) fun (x_7 : Int) =>
      ptrW t0 fun x_8 =>
      idxW (some (Addr.add x_8 3)) 6 1 x_7 fun x_9 =>
      ld (.sc .sl) (Addr.add x_9 0) fun (x_10 : Sl) =>
      ld (.agg [.int .i32, .int .i32, .int .i32]) (Addr.add c_1 1) fun (x_11 : (Int × Int × Int)) =>
      idxW x_10.a x_10.n 3 x_5.1 fun x_12 =>
      stoL x_12 [.int .i32 x_11.1, .int .i32 x_11.2.1, .int .i32 x_11.2.2] 0 <|
      J_6 ())
      (J_6 ()))
  <| fun s_13 =>
  retW x_5.2))
def H_table_Table_Set : Hints := { con := [(9026, [])], dr := [(8, ([], [[(0, []), (1, []), (2, []), (3, []), (4, []), (5, []), (6, []), (7, []), (8, []), (9, []), (10, []), (11, []), (12, [])]]))] }
theorem E_table_Table_Set (t0 : Option Addr) (id1 : Int) (c2 : (Int × Int × Int × Int)) : denF Try.prog H_table_Table_Set Try.f18 [.sc (.int .i64)] [.pointer t0, .int .u32 id1, .agg ⟨[.int .u8 c2.1, .int .i32 c2.2.1, .int .i32 c2.2.2.1, .int .i32 c2.2.2.2]⟩] = F_table_Table_Set t0 id1 c2 := by kernel_rfl
theorem C_table_Table_Set {R : Type} (t0 : Option Addr) (id1 : Int) (c2 : (Int × Int × Int × Int)) (K : Res [.sc (.int .i64)] → W R) (Q : R → World → Prop) (w : World) (h : F_table_Table_Set t0 id1 c2 (fun r w => K r Q w) w) : callW Try.prog k_table_Table_Set [.pointer t0, .int .u32 id1, .agg ⟨[.int .u8 c2.1, .int .i32 c2.2.1, .int .i32 c2.2.2.1, .int .i32 c2.2.2.2]⟩] [.sc (.int .i64)] K Q w :=
  den_calls mix Try.func18 H_table_Table_Set (ts := [.sc (.int .i64)]) trivial (by rw [Try.ntmps18]; simp) (by rw [E_table_Table_Set]; exact h)

/-! 19 (*pinnace/table.Table).At -/
def F_table_Table_At (t0 : Option Addr) (row1 : Int) : W ((Int × Sl) × Bool) :=
  newW 50 [.int .u32 0, .slice none 0 0] fun x_1 =>
  joinW (σ := Bool) (fun J_2 =>
    cond (decide (row1 < 0))
      (J_2 true)
      (callW Try.prog k_table_Table_Len [.pointer t0] [.sc (.int .i64)] fun (x_3 : Int) =>
          J_2 (decide (row1 ≥ x_3))))
  <| fun s_4 =>
  cond s_4
    (stoL x_1 [.int .u32 0, .slice none 0 0] 0 <|
    ld (.agg [.int .u32, .sl]) x_1 fun (x_5 : (Int × Sl)) =>
    retW (x_5, false))
    (ptrW t0 fun x_6 =>
  ld (.sc .sl) (Addr.add (Addr.add x_6 2) 0) fun (x_7 : Sl) =>
  idxW x_7.a x_7.n 1 row1 fun x_8 =>
  ld (.sc (.int .u32)) x_8 fun (x_9 : Int) =>
  newW 50 [.int .u32 0, .slice none 0 0] fun e_10 =>
  stoL e_10 [.int .u32 x_9, .slice none 0 0] 0 <|
  ptrW t0 fun x_11 =>
  ld (.sc .sl) (Addr.add x_11 1) fun (x_12 : Sl) =>
  loopW (σ := Int) (fun K_13 s_14 =>
    cond (decide (s_14 < (x_12.n : Int)))
      (idxW x_12.a x_12.n 1 s_14 fun x_15 =>
    ld (.sc (.int .u8)) x_15 fun (x_16 : Int) =>
    drawW <|
    ld (.sc .sl) (Addr.add e_10 1) fun (x_17 : Sl) =>
    callW Try.prog k_table_Table_comp [.pointer t0, .int .i64 row1, .int .u8 x_16] [.agg [.int .u8, .int .i32, .int .i32, .int .i32]] fun (x_18 : (Int × Int × Int × Int)) =>
    andW (fun w => Rd w (Addr.add e_10 1) (.sc .sl) x_17) <|
    newW 40 [.int .u8 x_18.1, .int .i32 x_18.2.1, .int .i32 x_18.2.2.1, .int .i32 x_18.2.2.2] fun x_19 =>
    rawW Try.prog (Builtin.append_ #[24, 24] 24 #[.slice x_17.a x_17.n x_17.c, .slice (some x_19) 1 1]) [.sc .sl] fun (x_20 : Sl) =>
    stoL (Addr.add e_10 1) [.slice x_20.a x_20.n x_20.c] 0 <|
    K_13 (IntKind.wrap .i64 (s_14 + 1)))
      (ld (.agg [.int .u32, .sl]) e_10 fun (x_21 : (Int × Sl)) =>
  stoL x_1 [.int .u32 x_21.1, .slice x_21.2.a x_21.2.n x_21.2.c] 0 <|
  ld (.agg [.int .u32, .sl]) x_1 fun (x_22 : (Int × Sl)) =>
  retW (x_22, true)))
    0)
def H_table_Table_At : Hints := { reg := [(1, [(16, .sc .bool)])], lop := [(0, [(32, .sc (.int .i64))])], dr := [(7, ([], [[(0, []), (1, []), (2, []), (3, []), (4, []), (5, [1]), (6, []), (7, []), (8, []), (9, [])]]))] }
theorem E_table_Table_At (t0 : Option Addr) (row1 : Int) : denF Try.prog H_table_Table_At Try.f19 [.agg [.int .u32, .sl], .sc .bool] [.pointer t0, .int .i64 row1] = F_table_Table_At t0 row1 := by kernel_rfl
theorem C_table_Table_At {R : Type} (t0 : Option Addr) (row1 : Int) (K : Res [.agg [.int .u32, .sl], .sc .bool] → W R) (Q : R → World → Prop) (w : World) (h : F_table_Table_At t0 row1 (fun r w => K r Q w) w) : callW Try.prog k_table_Table_At [.pointer t0, .int .i64 row1] [.agg [.int .u32, .sl], .sc .bool] K Q w :=
  den_calls mix Try.func19 H_table_Table_At (ts := [.agg [.int .u32, .sl], .sc .bool]) ⟨by kernel_rfl, trivial⟩ (by rw [Try.ntmps19]; simp) (by rw [E_table_Table_At]; exact h)

/-! 20 pinnace/pinnaceref05.With -/
def F_pinnaceref05_With (l0 : Sl) (c1 : (Int × Int × Int × Int)) : W (Sl) :=
  newW 40 [.int .u8 c1.1, .int .i32 c1.2.1, .int .i32 c1.2.2.1, .int .i32 c1.2.2.2] fun c_1 =>
  loopW (σ := Sl × Bool × Int) (fun K_2 s_3 =>
    cond (decide (s_3.2.2 < (l0.n : Int)))
      (idxW l0.a l0.n 4 s_3.2.2 fun x_4 =>
    ld (.agg [.int .u8, .int .i32, .int .i32, .int .i32]) x_4 fun (x_5 : (Int × Int × Int × Int)) =>
    newW 40 [.int .u8 0, .int .i32 0, .int .i32 0, .int .i32 0] fun x_6 =>
    stoL x_6 [.int .u8 x_5.1, .int .i32 x_5.2.1, .int .i32 x_5.2.2.1, .int .i32 x_5.2.2.2] 0 <|
    joinW (σ := Bool) (fun J_7 =>
      cond (!s_3.2.1)
        (ld (.sc (.int .u8)) (Addr.add x_6 0) fun (x_8 : Int) =>
          ld (.sc (.int .u8)) (Addr.add c_1 0) fun (x_9 : Int) =>
              J_7 (decide (x_8 ≥ x_9)))
        (J_7 false))
    <| fun s_10 =>
    joinW (σ := Sl × Bool) (fun J_11 =>
      cond s_10
        (ld (.agg [.int .u8, .int .i32, .int .i32, .int .i32]) c_1 fun (x_12 : (Int × Int × Int × Int)) =>
        newW 40 [.int .u8 x_12.1, .int .i32 x_12.2.1, .int .i32 x_12.2.2.1, .int .i32 x_12.2.2.2] fun x_13 =>
        rawW Try.prog (Builtin.append_ #[24, 24] 24 #[.slice s_3.1.a s_3.1.n s_3.1.c, .slice (some x_13) 1 1]) [.sc .sl] fun (x_14 : Sl) =>
        J_11 (x_14, true))
        (J_11 (s_3.1, s_3.2.1)))
    <| fun s_15 =>
    ld (.sc (.int .u8)) (Addr.add x_6 0) fun (x_16 : Int) =>
    ld (.sc (.int .u8)) (Addr.add c_1 0) fun (x_17 : Int) =>
    joinW (σ := Sl) (fun J_18 =>
      cond (x_16 != x_17)
        (ld (.agg [.int .u8, .int .i32, .int .i32, .int .i32]) x_6 fun (x_19 : (Int × Int × Int × Int)) =>
        newW 40 [.int .u8 x_19.1, .int .i32 x_19.2.1, .int .i32 x_19.2.2.1, .int .i32 x_19.2.2.2] fun x_20 =>
        rawW Try.prog (Builtin.append_ #[24, 24] 24 #[.slice s_15.1.a s_15.1.n s_15.1.c, .slice (some x_20) 1 1]) [.sc .sl] fun (x_21 : Sl) =>
        J_18 x_21)
        (J_18 s_15.1))
    <| fun s_22 =>
    K_2 (s_22, s_15.2, IntKind.wrap .i64 (s_3.2.2 + 1)))
      (joinW (σ := Sl) (fun J_23 =>
    cond (!s_3.2.1)
      (ld (.agg [.int .u8, .int .i32, .int .i32, .int .i32]) c_1 fun (x_24 : (Int × Int × Int × Int)) =>
      newW 40 [.int .u8 x_24.1, .int .i32 x_24.2.1, .int .i32 x_24.2.2.1, .int .i32 x_24.2.2.2] fun x_25 =>
      rawW Try.prog (Builtin.append_ #[24, 24] 24 #[.slice s_3.1.a s_3.1.n s_3.1.c, .slice (some x_25) 1 1]) [.sc .sl] fun (x_26 : Sl) =>
      J_23 x_26)
      (J_23 s_3.1))
  <| fun s_27 =>
  retW s_27))
    ((⟨none, 0, 0⟩ : Sl), false, 0)
def H_pinnaceref05_With : Hints := { reg := [(6, [(23, .sc .bool)])], con := [(8023, [(5, .sc .sl), (6, .sc .bool)]), (11032, [(5, .sc .sl)]), (14039, [(5, .sc .sl)])], lop := [(0, [(5, .sc .sl), (6, .sc .bool), (11, .sc (.int .i64))])] }
theorem E_pinnaceref05_With (l0 : Sl) (c1 : (Int × Int × Int × Int)) : denF Try.prog H_pinnaceref05_With Try.f20 [.sc .sl] [.slice l0.a l0.n l0.c, .agg ⟨[.int .u8 c1.1, .int .i32 c1.2.1, .int .i32 c1.2.2.1, .int .i32 c1.2.2.2]⟩] = F_pinnaceref05_With l0 c1 := by kernel_rfl
theorem C_pinnaceref05_With {R : Type} (l0 : Sl) (c1 : (Int × Int × Int × Int)) (K : Res [.sc .sl] → W R) (Q : R → World → Prop) (w : World) (h : F_pinnaceref05_With l0 c1 (fun r w => K r Q w) w) : callW Try.prog k_pinnaceref05_With [.slice l0.a l0.n l0.c, .agg ⟨[.int .u8 c1.1, .int .i32 c1.2.1, .int .i32 c1.2.2.1, .int .i32 c1.2.2.2]⟩] [.sc .sl] K Q w :=
  den_calls mix Try.func20 H_pinnaceref05_With (ts := [.sc .sl]) trivial (by rw [Try.ntmps20]; simp) (by rw [E_pinnaceref05_With]; exact h)

/-! 21 pinnace/pinnaceref05.Same -/
def F_pinnaceref05_Same (a0 : Sl) (b1 : Sl) : W (Bool) :=
  cond ((a0.n : Int) != (b1.n : Int))
    (retW false)
    (loopW (σ := Int) (fun K_1 s_2 =>
    cond (decide (s_2 < (a0.n : Int)))
      (drawW <|
    idxW a0.a a0.n 4 s_2 fun x_3 =>
    ld (.agg [.int .u8, .int .i32, .int .i32, .int .i32]) x_3 fun (x_4 : (Int × Int × Int × Int)) =>
    idxW b1.a b1.n 4 s_2 fun x_5 =>
    ld (.agg [.int .u8, .int .i32, .int .i32, .int .i32]) x_5 fun (x_6 : (Int × Int × Int × Int)) =>
    rawQ Try.prog (do Go.eqGuard .neq 40 (.tmp 19) (.tmp 23) (.agg ⟨[.int .u8 x_4.1, .int .i32 x_4.2.1, .int .i32 x_4.2.2.1, .int .i32 x_4.2.2.2]⟩) (.agg ⟨[.int .u8 x_6.1, .int .i32 x_6.2.1, .int .i32 x_6.2.2.1, .int .i32 x_6.2.2.2]⟩); Go.binOp .neq 40 (.agg ⟨[.int .u8 x_4.1, .int .i32 x_4.2.1, .int .i32 x_4.2.2.1, .int .i32 x_4.2.2.2]⟩) (.agg ⟨[.int .u8 x_6.1, .int .i32 x_6.2.1, .int .i32 x_6.2.2.1, .int .i32 x_6.2.2.2]⟩)) [.sc .bool] fun (x_7 : Bool) =>
    cond x_7
      (retW false)
      (K_1 (IntKind.wrap .i64 (s_2 + 1))))
      (retW true))
    0)
def H_pinnaceref05_Same : Hints := { lop := [(0, [(13, .sc (.int .i64))])], dr := [(6, ([], [[(0, []), (1, []), (2, []), (3, []), (4, []), (5, []), (6, []), (7, []), (8, [])]]))] }
theorem E_pinnaceref05_Same (a0 : Sl) (b1 : Sl) : denF Try.prog H_pinnaceref05_Same Try.f21 [.sc .bool] [.slice a0.a a0.n a0.c, .slice b1.a b1.n b1.c] = F_pinnaceref05_Same a0 b1 := by kernel_rfl
theorem C_pinnaceref05_Same {R : Type} (a0 : Sl) (b1 : Sl) (K : Res [.sc .bool] → W R) (Q : R → World → Prop) (w : World) (h : F_pinnaceref05_Same a0 b1 (fun r w => K r Q w) w) : callW Try.prog k_pinnaceref05_Same [.slice a0.a a0.n a0.c, .slice b1.a b1.n b1.c] [.sc .bool] K Q w :=
  den_calls mix Try.func21 H_pinnaceref05_Same (ts := [.sc .bool]) trivial (by rw [Try.ntmps21]; simp) (by rw [E_pinnaceref05_Same]; exact h)

/-! 22 pinnace/pinnaceref05.Check -/
def F_pinnaceref05_Check (c0 : (Int × Int × Int × Int)) : W (Int) :=
  newW 40 [.int .u8 c0.1, .int .i32 c0.2.1, .int .i32 c0.2.2.1, .int .i32 c0.2.2.2] fun c_1 =>
  ld (.sc (.int .u8)) (Addr.add c_1 0) fun (x_2 : Int) =>
  callW Try.prog k_pinnaceref05_Count [.int .u8 x_2] [.sc (.int .i64)] fun (x_3 : Int) =>
  cond (x_3 == 0)
    (retW 1)
    (loopW (σ := Int) (fun K_4 s_5 =>
    cond (decide (s_5 < 3))
      (idxW (some (Addr.add c_1 1)) 3 1 s_5 fun x_6 =>
    ld (.sc (.int .i32)) x_6 fun (x_7 : Int) =>
    cond (x_7 != 0)
      (retW 4)
      (K_4 (IntKind.wrap .i64 (s_5 + 1))))
      (loopW (σ := Int) (fun K_8 s_9 =>
    cond (decide (s_9 < x_3))
      (ld (.sc (.int .u8)) (Addr.add c_1 0) fun (x_10 : Int) =>
    callW Try.prog k_pinnaceref05_Range [.int .u8 x_10, .int .i64 s_9] [.sc (.int .i32), .sc (.int .i32), .sc (.int .i64)] fun (x_11 : Int × Int × Int) =>
    joinW (σ := Bool) (fun J_12 =>
      idxW (some (Addr.add c_1 1)) 3 1 s_9 fun x_13 =>
      ld (.sc (.int .i32)) x_13 fun (x_14 : Int) =>
      cond (decide (x_14 < x_11.1))
        (J_12 true)
        (idxW (some (Addr.add c_1 1)) 3 1 s_9 fun x_15 =>
            ld (.sc (.int .i32)) x_15 fun (x_16 : Int) =>
              J_12 (decide (x_16 > x_11.2.1))))
    <| fun s_17 =>
    cond s_17
      (retW 5)
      (K_8 (IntKind.wrap .i64 (s_9 + 1))))
      (retW 0))
    0))
    x_3)
def H_pinnaceref05_Check : Hints := { reg := [(13, [(49, .sc .bool)])], lop := [(0, [(4, .sc (.int .i64))]), (2, [(25, .sc (.int .i64))])] }
theorem E_pinnaceref05_Check (c0 : (Int × Int × Int × Int)) : denF Try.prog H_pinnaceref05_Check Try.f22 [.sc (.int .i64)] [.agg ⟨[.int .u8 c0.1, .int .i32 c0.2.1, .int .i32 c0.2.2.1, .int .i32 c0.2.2.2]⟩] = F_pinnaceref05_Check c0 := by kernel_rfl
theorem C_pinnaceref05_Check {R : Type} (c0 : (Int × Int × Int × Int)) (K : Res [.sc (.int .i64)] → W R) (Q : R → World → Prop) (w : World) (h : F_pinnaceref05_Check c0 (fun r w => K r Q w) w) : callW Try.prog k_pinnaceref05_Check [.agg ⟨[.int .u8 c0.1, .int .i32 c0.2.1, .int .i32 c0.2.2.1, .int .i32 c0.2.2.2]⟩] [.sc (.int .i64)] K Q w :=
  den_calls mix Try.func22 H_pinnaceref05_Check (ts := [.sc (.int .i64)]) trivial (by rw [Try.ntmps22]; simp) (by rw [E_pinnaceref05_Check]; exact h)

/-! 23 pinnace/pinnaceref10.New -/
def F_pinnaceref10_New (mask0 : Int) : W ((Option Addr) × Int) :=
  cond (decide (mask0 > 63))
    (retW (none, 1))
    (newW 99 [.int .u8 mask0, .slice none 0 0] fun x_1 =>
  retW ((some x_1), 0))
def H_pinnaceref10_New : Hints := {}
theorem E_pinnaceref10_New (mask0 : Int) : denF Try.prog H_pinnaceref10_New Try.f23 [.sc .ptr, .sc (.int .i64)] [.int .u8 mask0] = F_pinnaceref10_New mask0 := by kernel_rfl
theorem C_pinnaceref10_New {R : Type} (mask0 : Int) (K : Res [.sc .ptr, .sc (.int .i64)] → W R) (Q : R → World → Prop) (w : World) (h : F_pinnaceref10_New mask0 (fun r w => K r Q w) w) : callW Try.prog k_pinnaceref10_New [.int .u8 mask0] [.sc .ptr, .sc (.int .i64)] K Q w :=
  den_calls mix Try.func23 H_pinnaceref10_New (ts := [.sc .ptr, .sc (.int .i64)]) trivial (by rw [Try.ntmps23]; simp) (by rw [E_pinnaceref10_New]; exact h)

/-! 24 pinnace/pinnaceref10.Add -/
def F_pinnaceref10_Add (t0 : Option Addr) (id1 : Int) (l2 : Sl) : W (Int) :=
  cond (Option.isNone t0)
    (retW 10)
    (callW Try.prog k_pinnaceref05_List [.slice l2.a l2.n l2.c] [.sc (.int .i64)] fun (x_1 : Int) =>
  cond (x_1 != 0)
    (retW x_1)
    (drawW <|
  ptrW t0 fun x_2 =>
  ld (.sc (.int .u8)) (Addr.add x_2 0) fun (x_3 : Int) =>
  callW Try.prog k_pinnaceref05_Mask [.slice l2.a l2.n l2.c] [.sc (.int .u8)] fun (x_4 : Int) =>
  andW (fun w => Rd w (Addr.add x_2 0) (.sc (.int .u8)) x_3) <|
  cond (x_4 != x_3)
    (retW 4)
    (callW Try.prog k_pinnaceref10_Row [.pointer t0, .int .u32 id1] [.sc (.int .i64)] fun (x_5 : Int) =>
  cond (decide (x_5 ≥ 0))
    (retW 9)
    (drawW <|
  ptrW t0 fun x_6 =>
  ld (.sc .sl) (Addr.add x_6 1) fun (x_7 : Sl) =>
  callW Try.prog k_pinnaceref05_Twin [.slice l2.a l2.n l2.c] [.sc .sl] fun (x_8 : Sl) =>
  andW (fun w => Rd w (Addr.add x_6 1) (.sc .sl) x_7) <|
  newW 50 [.int .u32 id1, .slice x_8.a x_8.n x_8.c] fun x_9 =>
  rawW Try.prog (Builtin.append_ #[97, 97] 97 #[.slice x_7.a x_7.n x_7.c, .slice (some x_9) 1 1]) [.sc .sl] fun (x_10 : Sl) =>
  ptrW t0 fun x_11 =>
  stoL (Addr.add x_11 1) [.slice x_10.a x_10.n x_10.c] 0 <|
  retW 0))))
def H_pinnaceref10_Add : Hints := { dr := [(6, ([], [[(0, []), (2, []), (3, []), (4, []), (5, []), (1, [5]), (6, [])]])), (10, ([], [[(0, []), (1, []), (2, []), (3, []), (4, []), (5, []), (6, []), (7, [4]), (8, []), (9, []), (10, []), (11, []), (12, []), (13, [])]]))] }
theorem E_pinnaceref10_Add (t0 : Option Addr) (id1 : Int) (l2 : Sl) : denF Try.prog H_pinnaceref10_Add Try.f24 [.sc (.int .i64)] [.pointer t0, .int .u32 id1, .slice l2.a l2.n l2.c] = F_pinnaceref10_Add t0 id1 l2 := by kernel_rfl
theorem C_pinnaceref10_Add {R : Type} (t0 : Option Addr) (id1 : Int) (l2 : Sl) (K : Res [.sc (.int .i64)] → W R) (Q : R → World → Prop) (w : World) (h : F_pinnaceref10_Add t0 id1 l2 (fun r w => K r Q w) w) : callW Try.prog k_pinnaceref10_Add [.pointer t0, .int .u32 id1, .slice l2.a l2.n l2.c] [.sc (.int .i64)] K Q w :=
  den_calls mix Try.func24 H_pinnaceref10_Add (ts := [.sc (.int .i64)]) trivial (by rw [Try.ntmps24]; simp) (by rw [E_pinnaceref10_Add]; exact h)

/-! 25 pinnace/pinnaceref10.Remove -/
def F_pinnaceref10_Remove (d0 : Option Addr) (o1 : Int) : W (Sl × Int) :=
  cond (Option.isNone d0)
    (retW ((⟨none, 0, 0⟩ : Sl), 10))
    (callW Try.prog k_pinnaceref10_Row [.pointer d0, .int .u32 o1] [.sc (.int .i64)] fun (x_1 : Int) =>
  cond (decide (x_1 < 0))
    (retW ((⟨none, 0, 0⟩ : Sl), 7))
    (ptrW d0 fun x_2 =>
  ld (.sc .sl) (Addr.add x_2 1) fun (x_3 : Sl) =>
  idxW x_3.a x_3.n 2 x_1 fun x_4 =>
  ld (.sc .sl) (Addr.add x_4 1) fun (x_5 : Sl) =>
  ptrW d0 fun x_6 =>
  ld (.sc .sl) (Addr.add x_6 1) fun (x_7 : Sl) =>
  ptrW d0 fun x_8 =>
  ld (.sc .sl) (Addr.add x_8 1) fun (x_9 : Sl) =>
  slcW x_9.a x_9.n x_9.c 2 none (some (IntKind.wrap .i64 ((x_7.n : Int) - 1))) fun x_10 =>
  loopW (σ := Sl × Int) (fun K_11 s_12 =>
    cond (decide (s_12.2 < (x_10.n : Int)))
      (idxW x_10.a x_10.n 2 s_12.2 fun x_13 =>
    ld (.agg [.int .u32, .sl]) x_13 fun (x_14 : (Int × Sl)) =>
    newW 50 [.int .u32 0, .slice none 0 0] fun x_15 =>
    stoL x_15 [.int .u32 x_14.1, .slice x_14.2.a x_14.2.n x_14.2.c] 0 <|
    joinW (σ := Unit) (fun J_16 =>
      cond (s_12.2 == x_1)
        (ptrW d0 fun x_17 =>
        ld (.sc .sl) (Addr.add x_17 1) fun (x_18 : Sl) =>
        idxW x_18.a x_18.n 2 (IntKind.wrap .i64 ((x_7.n : Int) - 1)) fun x_19 =>
        ld (.agg [.int .u32, .sl]) x_19 fun (x_20 : (Int × Sl)) =>
        stoL x_15 [.int .u32 x_20.1, .slice x_20.2.a x_20.2.n x_20.2.c] 0 <|
        J_16 ())
        (J_16 ()))
    <| fun s_21 =>
    ld (.agg [.int .u32, .sl]) x_15 fun (x_22 : (Int × Sl)) =>
    newW 50 [.int .u32 x_22.1, .slice x_22.2.a x_22.2.n x_22.2.c] fun x_23 =>
    rawW Try.prog (Builtin.append_ #[97, 97] 97 #[.slice s_12.1.a s_12.1.n s_12.1.c, .slice (some x_23) 1 1]) [.sc .sl] fun (x_24 : Sl) =>
    K_11 (x_24, IntKind.wrap .i64 (s_12.2 + 1)))
      (ptrW d0 fun x_25 =>
  stoL (Addr.add x_25 1) [.slice s_12.1.a s_12.1.n s_12.1.c] 0 <|
  retW (x_5, 0)))
    ((⟨none, 0, 0⟩ : Sl), 0)))
def H_pinnaceref10_Remove : Hints := { con := [(14047, [])], lop := [(0, [(9, .sc .sl), (40, .sc (.int .i64))])] }
theorem E_pinnaceref10_Remove (d0 : Option Addr) (o1 : Int) : denF Try.prog H_pinnaceref10_Remove Try.f25 [.sc .sl, .sc (.int .i64)] [.pointer d0, .int .u32 o1] = F_pinnaceref10_Remove d0 o1 := by kernel_rfl
theorem C_pinnaceref10_Remove {R : Type} (d0 : Option Addr) (o1 : Int) (K : Res [.sc .sl, .sc (.int .i64)] → W R) (Q : R → World → Prop) (w : World) (h : F_pinnaceref10_Remove d0 o1 (fun r w => K r Q w) w) : callW Try.prog k_pinnaceref10_Remove [.pointer d0, .int .u32 o1] [.sc .sl, .sc (.int .i64)] K Q w :=
  den_calls mix Try.func25 H_pinnaceref10_Remove (ts := [.sc .sl, .sc (.int .i64)]) trivial (by rw [Try.ntmps25]; simp) (by rw [E_pinnaceref10_Remove]; exact h)

/-! 26 pinnace/pinnacelaw10.first -/
def F_pinnacelaw10_first (l0 : Sl) : W ((Int × Int × Int × Int)) :=
  newW 40 [.int .u8 0, .int .i32 0, .int .i32 0, .int .i32 0] fun x_1 =>
  cond ((l0.n : Int) == 0)
    (stoL x_1 [.int .u8 0, .int .i32 0, .int .i32 0, .int .i32 0] 0 <|
    ld (.agg [.int .u8, .int .i32, .int .i32, .int .i32]) x_1 fun (x_2 : (Int × Int × Int × Int)) =>
    retW x_2)
    (idxW l0.a l0.n 4 0 fun x_3 =>
  ld (.agg [.int .u8, .int .i32, .int .i32, .int .i32]) x_3 fun (x_4 : (Int × Int × Int × Int)) =>
  stoL x_1 [.int .u8 x_4.1, .int .i32 x_4.2.1, .int .i32 x_4.2.2.1, .int .i32 x_4.2.2.2] 0 <|
  ld (.agg [.int .u8, .int .i32, .int .i32, .int .i32]) x_1 fun (x_5 : (Int × Int × Int × Int)) =>
  retW x_5)
def H_pinnacelaw10_first : Hints := {}
theorem E_pinnacelaw10_first (l0 : Sl) : denF Try.prog H_pinnacelaw10_first Try.f26 [.agg [.int .u8, .int .i32, .int .i32, .int .i32]] [.slice l0.a l0.n l0.c] = F_pinnacelaw10_first l0 := by kernel_rfl
theorem C_pinnacelaw10_first {R : Type} (l0 : Sl) (K : Res [.agg [.int .u8, .int .i32, .int .i32, .int .i32]] → W R) (Q : R → World → Prop) (w : World) (h : F_pinnacelaw10_first l0 (fun r w => K r Q w) w) : callW Try.prog k_pinnacelaw10_first [.slice l0.a l0.n l0.c] [.agg [.int .u8, .int .i32, .int .i32, .int .i32]] K Q w :=
  den_calls mix Try.func26 H_pinnacelaw10_first (ts := [.agg [.int .u8, .int .i32, .int .i32, .int .i32]]) ⟨by kernel_rfl, trivial⟩ (by rw [Try.ntmps26]; simp) (by rw [E_pinnacelaw10_first]; exact h)

/-! 27 pinnace/pinnaceref10.Set -/
def F_pinnaceref10_Set (t0 : Option Addr) (id1 : Int) (c2 : (Int × Int × Int × Int)) : W (Int) :=
  newW 40 [.int .u8 c2.1, .int .i32 c2.2.1, .int .i32 c2.2.2.1, .int .i32 c2.2.2.2] fun c_1 =>
  cond (Option.isNone t0)
    (retW 10)
    (ld (.agg [.int .u8, .int .i32, .int .i32, .int .i32]) c_1 fun (x_2 : (Int × Int × Int × Int)) =>
  callW Try.prog k_pinnaceref05_Check [.agg ⟨[.int .u8 x_2.1, .int .i32 x_2.2.1, .int .i32 x_2.2.2.1, .int .i32 x_2.2.2.2]⟩] [.sc (.int .i64)] fun (x_3 : Int) =>
  cond (x_3 != 0)
    (retW x_3)
    (ld (.sc (.int .u8)) (Addr.add c_1 0) fun (x_4 : Int) =>
  callW Try.prog k_pinnaceref10_Get [.pointer t0, .int .u32 id1, .int .u8 x_4] [.agg [.int .u8, .int .i32, .int .i32, .int .i32], .sc (.int .i64)] fun (x_5 : (Int × Int × Int × Int) × Int) =>
  newW 40 [.int .u8 0, .int .i32 0, .int .i32 0, .int .i32 0] fun x_6 =>
  stoL x_6 [.int .u8 x_5.1.1, .int .i32 x_5.1.2.1, .int .i32 x_5.1.2.2.1, .int .i32 x_5.1.2.2.2] 0 <|
  cond (x_5.2 != 0)
    (retW x_5.2)
    (callW Try.prog k_pinnaceref10_Row [.pointer t0, .int .u32 id1] [.sc (.int .i64)] fun (x_7 : Int) =>
  drawW <|
  ptrW t0 fun x_8 =>
  ld (.sc .sl) (Addr.add x_8 1) fun (x_9 : Sl) =>
  ptrW t0 fun x_10 =>
  ld (.sc .sl) (Addr.add x_10 1) fun (x_11 : Sl) =>
  idxW x_11.a x_11.n 2 x_7 fun x_12 =>
  ld (.sc .sl) (Addr.add x_12 1) fun (x_13 : Sl) =>
  ld (.agg [.int .u8, .int .i32, .int .i32, .int .i32]) c_1 fun (x_14 : (Int × Int × Int × Int)) =>
  callW Try.prog k_pinnaceref05_With [.slice x_13.a x_13.n x_13.c, .agg ⟨[.int .u8 x_14.1, .int .i32 x_14.2.1, .int .i32 x_14.2.2.1, .int .i32 x_14.2.2.2]⟩] [.sc .sl] fun (x_15 : Sl) =>
  andW (fun w => Rd w (Addr.add x_8 1) (.sc .sl) x_9) <|
  idxW x_9.a x_9.n 2 x_7 fun x_16 =>
  stoL (Addr.add x_16 1) [.slice x_15.a x_15.n x_15.c] 0 <|
  retW 0)))
def H_pinnaceref10_Set : Hints := { dr := [(10, ([], [[(0, []), (1, []), (2, []), (3, []), (4, []), (5, []), (6, []), (7, []), (8, []), (9, []), (10, []), (11, []), (12, []), (13, []), (14, [3]), (15, []), (16, []), (17, [])]]))] }
theorem E_pinnaceref10_Set (t0 : Option Addr) (id1 : Int) (c2 : (Int × Int × Int × Int)) : denF Try.prog H_pinnaceref10_Set Try.f27 [.sc (.int .i64)] [.pointer t0, .int .u32 id1, .agg ⟨[.int .u8 c2.1, .int .i32 c2.2.1, .int .i32 c2.2.2.1, .int .i32 c2.2.2.2]⟩] = F_pinnaceref10_Set t0 id1 c2 := by kernel_rfl
theorem C_pinnaceref10_Set {R : Type} (t0 : Option Addr) (id1 : Int) (c2 : (Int × Int × Int × Int)) (K : Res [.sc (.int .i64)] → W R) (Q : R → World → Prop) (w : World) (h : F_pinnaceref10_Set t0 id1 c2 (fun r w => K r Q w) w) : callW Try.prog k_pinnaceref10_Set [.pointer t0, .int .u32 id1, .agg ⟨[.int .u8 c2.1, .int .i32 c2.2.1, .int .i32 c2.2.2.1, .int .i32 c2.2.2.2]⟩] [.sc (.int .i64)] K Q w :=
  den_calls mix Try.func27 H_pinnaceref10_Set (ts := [.sc (.int .i64)]) trivial (by rw [Try.ntmps27]; simp) (by rw [E_pinnaceref10_Set]; exact h)

/-! 28 pinnace/pinnaceref10.Get -/
def F_pinnaceref10_Get (t0 : Option Addr) (id1 : Int) (kind2 : Int) : W ((Int × Int × Int × Int) × Int) :=
  newW 40 [.int .u8 0, .int .i32 0, .int .i32 0, .int .i32 0] fun x_1 =>
  cond (Option.isNone t0)
    (stoL x_1 [.int .u8 0, .int .i32 0, .int .i32 0, .int .i32 0] 0 <|
    ld (.agg [.int .u8, .int .i32, .int .i32, .int .i32]) x_1 fun (x_2 : (Int × Int × Int × Int)) =>
    retW (x_2, 10))
    (callW Try.prog k_pinnaceref10_Row [.pointer t0, .int .u32 id1] [.sc (.int .i64)] fun (x_3 : Int) =>
  cond (decide (x_3 < 0))
    (stoL x_1 [.int .u8 0, .int .i32 0, .int .i32 0, .int .i32 0] 0 <|
    ld (.agg [.int .u8, .int .i32, .int .i32, .int .i32]) x_1 fun (x_4 : (Int × Int × Int × Int)) =>
    retW (x_4, 7))
    (ptrW t0 fun x_5 =>
  ld (.sc .sl) (Addr.add x_5 1) fun (x_6 : Sl) =>
  idxW x_6.a x_6.n 2 x_3 fun x_7 =>
  ld (.sc .sl) (Addr.add x_7 1) fun (x_8 : Sl) =>
  callW Try.prog k_pinnaceref05_Find [.slice x_8.a x_8.n x_8.c, .int .u8 kind2] [.sc (.int .i64)] fun (x_9 : Int) =>
  cond (decide (x_9 < 0))
    (stoL x_1 [.int .u8 0, .int .i32 0, .int .i32 0, .int .i32 0] 0 <|
    ld (.agg [.int .u8, .int .i32, .int .i32, .int .i32]) x_1 fun (x_10 : (Int × Int × Int × Int)) =>
    retW (x_10, 10))
    (ptrW t0 fun x_11 =>
  ld (.sc .sl) (Addr.add x_11 1) fun (x_12 : Sl) =>
  idxW x_12.a x_12.n 2 x_3 fun x_13 =>
  ld (.sc .sl) (Addr.add x_13 1) fun (x_14 : Sl) =>
  idxW x_14.a x_14.n 4 x_9 fun x_15 =>
  ld (.agg [.int .u8, .int .i32, .int .i32, .int .i32]) x_15 fun (x_16 : (Int × Int × Int × Int)) =>
  stoL x_1 [.int .u8 x_16.1, .int .i32 x_16.2.1, .int .i32 x_16.2.2.1, .int .i32 x_16.2.2.2] 0 <|
  ld (.agg [.int .u8, .int .i32, .int .i32, .int .i32]) x_1 fun (x_17 : (Int × Int × Int × Int)) =>
  retW (x_17, 0))))
def H_pinnaceref10_Get : Hints := {}
theorem E_pinnaceref10_Get (t0 : Option Addr) (id1 : Int) (kind2 : Int) : denF Try.prog H_pinnaceref10_Get Try.f28 [.agg [.int .u8, .int .i32, .int .i32, .int .i32], .sc (.int .i64)] [.pointer t0, .int .u32 id1, .int .u8 kind2] = F_pinnaceref10_Get t0 id1 kind2 := by kernel_rfl
theorem C_pinnaceref10_Get {R : Type} (t0 : Option Addr) (id1 : Int) (kind2 : Int) (K : Res [.agg [.int .u8, .int .i32, .int .i32, .int .i32], .sc (.int .i64)] → W R) (Q : R → World → Prop) (w : World) (h : F_pinnaceref10_Get t0 id1 kind2 (fun r w => K r Q w) w) : callW Try.prog k_pinnaceref10_Get [.pointer t0, .int .u32 id1, .int .u8 kind2] [.agg [.int .u8, .int .i32, .int .i32, .int .i32], .sc (.int .i64)] K Q w :=
  den_calls mix Try.func28 H_pinnaceref10_Get (ts := [.agg [.int .u8, .int .i32, .int .i32, .int .i32], .sc (.int .i64)]) ⟨by kernel_rfl, trivial⟩ (by rw [Try.ntmps28]; simp) (by rw [E_pinnaceref10_Get]; exact h)

/-! 29 pinnace/pinnacelaw10.alike -/
def F_pinnacelaw10_alike (d0 : Option Addr) (o1 : Option Addr) : W (Bool) :=
  cond (Option.isNone o1)
    (callW Try.prog k_table_Table_At [.pointer d0, .int .i64 0] [.agg [.int .u32, .sl], .sc .bool] fun (x_1 : (Int × Sl) × Bool) =>
    newW 50 [.int .u32 0, .slice none 0 0] fun x_2 =>
    stoL x_2 [.int .u32 x_1.1.1, .slice x_1.1.2.a x_1.1.2.n x_1.1.2.c] 0 <|
    joinW (σ := Bool) (fun J_3 =>
      callW Try.prog k_table_Table_Len [.pointer d0] [.sc (.int .i64)] fun (x_4 : Int) =>
      cond (x_4 == 0)
        (callW Try.prog k_table_Table_IDs [.pointer d0] [.sc .sl] fun (x_5 : Sl) =>
          cond ((x_5.n : Int) == 0)
                (callW Try.prog k_table_Table_Mask [.pointer d0] [.sc (.int .u8)] fun (x_6 : Int) =>
                  cond (x_6 == 0)
                      (J_3 (!x_1.2))
                      (J_3 false))
                (J_3 false))
        (J_3 false))
    <| fun s_7 =>
    retW s_7)
    (joinW (σ := Bool) (fun J_8 =>
    drawW <|
    bothW
      (ptrW o1 fun x_9 =>
      ld (.sc .sl) (Addr.add x_9 1) fun (x_10 : Sl) =>
      callW Try.prog k_table_Table_Len [.pointer d0] [.sc (.int .i64)] fun (x_11 : Int) =>
      andW (fun w => Rd w (Addr.add x_9 1) (.sc .sl) x_10) <|
      cond (x_11 != (x_10.n : Int))
        (J_8 true)
        (ptrW o1 fun x_12 =>
            ld (.sc (.int .u8)) (Addr.add x_12 0) fun (x_13 : Int) =>
                callW Try.prog k_table_Table_Mask [.pointer d0] [.sc (.int .u8)] fun (x_14 : Int) =>
                  andW (fun w => Rd w (Addr.add x_12 0) (.sc (.int .u8)) x_13) <|
                  cond (x_14 != x_13)
                      (J_8 true)
                      (ptrW o1 fun x_15 =>
                          ld (.sc .sl) (Addr.add x_15 1) fun (x_16 : Sl) =>
                              callW Try.prog k_table_Table_IDs [.pointer d0] [.sc .sl] fun (x_17 : Sl) =>
                                andW (fun w => Rd w (Addr.add x_15 1) (.sc .sl) x_16) <|
                                J_8 ((x_17.n : Int) != (x_16.n : Int)))))
      (bothW
      (ptrW o1 fun x_18 =>
      ld (.sc .sl) (Addr.add x_18 1) fun (x_19 : Sl) =>
      callW Try.prog k_table_Table_Len [.pointer d0] [.sc (.int .i64)] fun (x_20 : Int) =>
      andW (fun w => Rd w (Addr.add x_18 1) (.sc .sl) x_19) <|
      cond (x_20 != (x_19.n : Int))
        (J_8 true)
        (ptrW o1 fun x_21 =>
            ld (.sc (.int .u8)) (Addr.add x_21 0) fun (x_22 : Int) =>
                callW Try.prog k_table_Table_Mask [.pointer d0] [.sc (.int .u8)] fun (x_23 : Int) =>
                  andW (fun w => Rd w (Addr.add x_21 0) (.sc (.int .u8)) x_22) <|
                  cond (x_23 != x_22)
                      (J_8 true)
                      (ptrW o1 fun x_24 =>
                          ld (.sc .sl) (Addr.add x_24 1) fun (x_25 : Sl) =>
                              callW Try.prog k_table_Table_IDs [.pointer d0] [.sc .sl] fun (x_26 : Sl) =>
                                  andW (fun w => Rd w (Addr.add x_24 1) (.sc .sl) x_25) <|
                                  J_8 ((x_26.n : Int) != (x_25.n : Int)))))
      (bothW
      (ptrW o1 fun x_27 =>
      ld (.sc .sl) (Addr.add x_27 1) fun (x_28 : Sl) =>
      callW Try.prog k_table_Table_Len [.pointer d0] [.sc (.int .i64)] fun (x_29 : Int) =>
      andW (fun w => Rd w (Addr.add x_27 1) (.sc .sl) x_28) <|
      cond (x_29 != (x_28.n : Int))
        (J_8 true)
        (ptrW o1 fun x_30 =>
            ld (.sc (.int .u8)) (Addr.add x_30 0) fun (x_31 : Int) =>
                callW Try.prog k_table_Table_Mask [.pointer d0] [.sc (.int .u8)] fun (x_32 : Int) =>
                  andW (fun w => Rd w (Addr.add x_30 0) (.sc (.int .u8)) x_31) <|
                  cond (x_32 != x_31)
                      (J_8 true)
                      (ptrW o1 fun x_33 =>
                          ld (.sc .sl) (Addr.add x_33 1) fun (x_34 : Sl) =>
                              callW Try.prog k_table_Table_IDs [.pointer d0] [.sc .sl] fun (x_35 : Sl) =>
                                andW (fun w => Rd w (Addr.add x_33 1) (.sc .sl) x_34) <|
                                J_8 ((x_35.n : Int) != (x_34.n : Int)))))
      (ptrW o1 fun x_36 =>
      ld (.sc .sl) (Addr.add x_36 1) fun (x_37 : Sl) =>
      callW Try.prog k_table_Table_Len [.pointer d0] [.sc (.int .i64)] fun (x_38 : Int) =>
      andW (fun w => Rd w (Addr.add x_36 1) (.sc .sl) x_37) <|
      cond (x_38 != (x_37.n : Int))
        (J_8 true)
        (ptrW o1 fun x_39 =>
            ld (.sc (.int .u8)) (Addr.add x_39 0) fun (x_40 : Int) =>
                callW Try.prog k_table_Table_Mask [.pointer d0] [.sc (.int .u8)] fun (x_41 : Int) =>
                  andW (fun w => Rd w (Addr.add x_39 0) (.sc (.int .u8)) x_40) <|
                  cond (x_41 != x_40)
                      (J_8 true)
                      (ptrW o1 fun x_42 =>
                          ld (.sc .sl) (Addr.add x_42 1) fun (x_43 : Sl) =>
                              callW Try.prog k_table_Table_IDs [.pointer d0] [.sc .sl] fun (x_44 : Sl) =>
                                  andW (fun w => Rd w (Addr.add x_42 1) (.sc .sl) x_43) <|
                                  J_8 ((x_44.n : Int) != (x_43.n : Int))))))))
  <| fun s_45 =>
  cond s_45
    (retW false)
    (ptrW o1 fun x_46 =>
  ld (.sc .sl) (Addr.add x_46 1) fun (x_47 : Sl) =>
  loopW (σ := Int) (fun K_48 s_49 =>
    cond (decide (s_49 < (x_47.n : Int)))
      (idxW x_47.a x_47.n 2 s_49 fun x_50 =>
    ld (.agg [.int .u32, .sl]) x_50 fun (x_51 : (Int × Sl)) =>
    newW 50 [.int .u32 0, .slice none 0 0] fun x_52 =>
    stoL x_52 [.int .u32 x_51.1, .slice x_51.2.a x_51.2.n x_51.2.c] 0 <|
    ld (.sc (.int .u32)) (Addr.add x_52 0) fun (x_53 : Int) =>
    callW Try.prog k_table_Table_Row [.pointer d0, .int .u32 x_53] [.sc (.int .i64), .sc .bool] fun (x_54 : Int × Bool) =>
    callW Try.prog k_table_Table_At [.pointer d0, .int .i64 s_49] [.agg [.int .u32, .sl], .sc .bool] fun (x_55 : (Int × Sl) × Bool) =>
    newW 50 [.int .u32 0, .slice none 0 0] fun x_56 =>
    stoL x_56 [.int .u32 x_55.1.1, .slice x_55.1.2.a x_55.1.2.n x_55.1.2.c] 0 <|
    joinW (σ := Bool) (fun J_57 =>
      drawW <|
      cond (!x_54.2)
        (J_57 true)
        (cond (x_54.1 != s_49)
              (J_57 true)
              (cond (!x_55.2)
                  (J_57 true)
                  (ld (.agg [.int .u32, .sl]) x_56 fun (x_58 : (Int × Sl)) =>
                  ld (.agg [.int .u32, .sl]) x_52 fun (x_59 : (Int × Sl)) =>
                    callW Try.prog k_pinnaceref10_SameEnt [.agg ⟨[.int .u32 x_58.1, .slice x_58.2.a x_58.2.n x_58.2.c]⟩, .agg ⟨[.int .u32 x_59.1, .slice x_59.2.a x_59.2.n x_59.2.c]⟩] [.sc .bool] fun (x_60 : Bool) =>
                      cond (!x_60)
                          (J_57 true)
                          (ld (.sc (.int .u32)) (Addr.add x_52 0) fun (x_61 : Int) =>
                                callW Try.prog k_table_Table_IDs [.pointer d0] [.sc .sl] fun (x_62 : Sl) =>
                                  andW (fun w => Rd w (Addr.add x_52 0) (.sc (.int .u32)) x_61) <|
                                  idxW x_62.a x_62.n 1 s_49 fun x_63 =>
                                    ld (.sc (.int .u32)) x_63 fun (x_64 : Int) =>
                                      J_57 (x_64 != x_61))))))
    <| fun s_65 =>
    cond s_65
      (retW false)
      (ld (.sc .sl) (Addr.add x_56 1) fun (x_66 : Sl) =>
    loopW (σ := Int) (fun K_67 s_68 =>
      cond (decide (s_68 < (x_66.n : Int)))
        (drawW <|
      ld (.sc .sl) (Addr.add x_56 1) fun (x_69 : Sl) =>
      idxW x_69.a x_69.n 4 s_68 fun x_70 =>
      idxW (some (Addr.add x_70 1)) 3 1 0 fun x_71 =>
      ld (.sc (.int .i32)) x_71 fun (x_72 : Int) =>
      idxW x_69.a x_69.n 4 s_68 fun x_73 =>
      idxW (some (Addr.add x_73 1)) 3 1 0 fun x_74 =>
      stoL x_74 [.int .i32 (bXor .i32 x_72 1)] 0 <|
      K_67 (IntKind.wrap .i64 (s_68 + 1)))
        (K_48 (IntKind.wrap .i64 (s_49 + 1))))
      0))
      (ptrW o1 fun x_75 =>
  ld (.sc .sl) (Addr.add x_75 1) fun (x_76 : Sl) =>
  callW Try.prog k_table_Table_At [.pointer d0, .int .i64 (x_76.n : Int)] [.agg [.int .u32, .sl], .sc .bool] fun (x_77 : (Int × Sl) × Bool) =>
  newW 50 [.int .u32 0, .slice none 0 0] fun x_78 =>
  stoL x_78 [.int .u32 x_77.1.1, .slice x_77.1.2.a x_77.1.2.n x_77.1.2.c] 0 <|
  callW Try.prog k_table_Table_At [.pointer d0, .int .i64 (-1)] [.agg [.int .u32, .sl], .sc .bool] fun (x_79 : (Int × Sl) × Bool) =>
  newW 50 [.int .u32 0, .slice none 0 0] fun x_80 =>
  stoL x_80 [.int .u32 x_79.1.1, .slice x_79.1.2.a x_79.1.2.n x_79.1.2.c] 0 <|
  joinW (σ := Bool) (fun J_81 =>
    cond (!x_77.2)
      (J_81 (!x_79.2))
      (J_81 false))
  <| fun s_82 =>
  retW s_82))
    0))
def H_pinnacelaw10_alike : Hints := { reg := [(3, [(4, .sc .bool)]), (4, [(70, .sc .bool)]), (11, [(120, .sc .bool)]), (21, [(4, .sc .bool)])], lop := [(0, [(76, .sc (.int .i64))]), (2, [(124, .sc (.int .i64))])], dr := [(4, ([(1, 6), (19, 25)], [[(0, []), (2, []), (3, []), (4, []), (5, []), (1, [5]), (6, []), (7, []), (8, []), (9, []), (11, []), (12, []), (13, []), (14, []), (10, [14]), (15, []), (16, []), (17, []), (18, []), (21, []), (22, []), (23, []), (24, []), (19, [24]), (20, []), (25, []), (26, []), (27, [])], [(0, []), (2, []), (3, []), (4, []), (5, []), (1, [5]), (6, []), (7, []), (8, []), (9, []), (11, []), (12, []), (13, []), (14, []), (10, [14]), (15, []), (16, []), (17, []), (18, []), (21, []), (22, []), (23, []), (24, []), (25, []), (19, [24]), (20, []), (26, []), (27, [])], [(0, []), (2, []), (3, []), (4, []), (5, []), (6, []), (1, [5]), (7, []), (8, []), (9, []), (11, []), (12, []), (13, []), (14, []), (10, [14]), (15, []), (16, []), (17, []), (18, []), (21, []), (22, []), (23, []), (24, []), (19, [24]), (20, []), (25, []), (26, []), (27, [])], [(0, []), (2, []), (3, []), (4, []), (5, []), (6, []), (1, [5]), (7, []), (8, []), (9, []), (11, []), (12, []), (13, []), (14, []), (10, [14]), (15, []), (16, []), (17, []), (18, []), (21, []), (22, []), (23, []), (24, []), (25, []), (19, [24]), (20, []), (26, []), (27, [])]])), (11, ([], [[(0, []), (1, []), (2, []), (3, []), (4, []), (5, []), (6, []), (7, []), (8, []), (9, []), (10, []), (11, []), (12, []), (13, []), (14, []), (15, []), (16, []), (17, []), (18, []), (20, []), (23, []), (24, []), (19, [24]), (21, []), (22, []), (25, []), (26, [])]])), (16, ([], [[(0, []), (1, []), (2, []), (3, []), (4, []), (5, []), (6, []), (7, []), (8, []), (9, []), (10, []), (11, [])]]))] }
theorem E_pinnacelaw10_alike (d0 : Option Addr) (o1 : Option Addr) : denF Try.prog H_pinnacelaw10_alike Try.f29 [.sc .bool] [.pointer d0, .pointer o1] = F_pinnacelaw10_alike d0 o1 := by kernel_rfl
theorem C_pinnacelaw10_alike {R : Type} (d0 : Option Addr) (o1 : Option Addr) (K : Res [.sc .bool] → W R) (Q : R → World → Prop) (w : World) (h : F_pinnacelaw10_alike d0 o1 (fun r w => K r Q w) w) : callW Try.prog k_pinnacelaw10_alike [.pointer d0, .pointer o1] [.sc .bool] K Q w :=
  den_calls mix Try.func29 H_pinnacelaw10_alike (ts := [.sc .bool]) trivial (by rw [Try.ntmps29]; simp) (by rw [E_pinnacelaw10_alike]; exact h)

/-! 30 pinnace/schema.List -/
def F_schema_List (l0 : Sl) : W (Int) :=
  loopW (σ := Int) (fun K_1 s_2 =>
    cond (decide (s_2 < (l0.n : Int)))
      (idxW l0.a l0.n 4 s_2 fun x_3 =>
    ld (.agg [.int .u8, .int .i32, .int .i32, .int .i32]) x_3 fun (x_4 : (Int × Int × Int × Int)) =>
    newW 40 [.int .u8 0, .int .i32 0, .int .i32 0, .int .i32 0] fun c_5 =>
    stoL c_5 [.int .u8 x_4.1, .int .i32 x_4.2.1, .int .i32 x_4.2.2.1, .int .i32 x_4.2.2.2] 0 <|
    ld (.agg [.int .u8, .int .i32, .int .i32, .int .i32]) c_5 fun (x_6 : (Int × Int × Int × Int)) =>
    callW Try.prog k_schema_Check [.agg ⟨[.int .u8 x_6.1, .int .i32 x_6.2.1, .int .i32 x_6.2.2.1, .int .i32 x_6.2.2.2]⟩] [.sc (.int .i64)] fun (x_7 : Int) =>
    cond (x_7 != 0)
      (retW x_7)
      (joinW (σ := Bool) (fun J_8 =>
      drawW <|
      cond (decide (s_2 > 0))
        (ld (.sc (.int .u8)) (Addr.add c_5 0) fun (x_9 : Int) =>
          idxW l0.a l0.n 4 (IntKind.wrap .i64 (s_2 - 1)) fun x_10 =>
                  ld (.sc (.int .u8)) (Addr.add x_10 0) fun (x_11 : Int) =>
                      J_8 (decide (x_9 ≤ x_11)))
        (J_8 false))
    <| fun s_12 =>
    cond s_12
      (retW 4)
      (K_1 (IntKind.wrap .i64 (s_2 + 1)))))
      (retW 0))
    0
def H_schema_List : Hints := { reg := [(7, [(30, .sc .bool)])], lop := [(0, [(8, .sc (.int .i64))])], dr := [(7, ([], [[(0, []), (1, []), (2, []), (3, []), (4, []), (5, []), (6, []), (7, []), (8, []), (9, []), (10, []), (11, []), (12, [])]]))] }
theorem E_schema_List (l0 : Sl) : denF Try.prog H_schema_List Try.f30 [.sc (.int .i64)] [.slice l0.a l0.n l0.c] = F_schema_List l0 := by kernel_rfl
theorem C_schema_List {R : Type} (l0 : Sl) (K : Res [.sc (.int .i64)] → W R) (Q : R → World → Prop) (w : World) (h : F_schema_List l0 (fun r w => K r Q w) w) : callW Try.prog k_schema_List [.slice l0.a l0.n l0.c] [.sc (.int .i64)] K Q w :=
  den_calls mix Try.func30 H_schema_List (ts := [.sc (.int .i64)]) trivial (by rw [Try.ntmps30]; simp) (by rw [E_schema_List]; exact h)

/-! 31 pinnace/schema.Mask -/
def F_schema_Mask (l0 : Sl) : W (Int) :=
  loopW (σ := Int × Int) (fun K_1 s_2 =>
    cond (decide (s_2.2 < (l0.n : Int)))
      (idxW l0.a l0.n 4 s_2.2 fun x_3 =>
    ld (.agg [.int .u8, .int .i32, .int .i32, .int .i32]) x_3 fun (x_4 : (Int × Int × Int × Int)) =>
    newW 40 [.int .u8 0, .int .i32 0, .int .i32 0, .int .i32 0] fun c_5 =>
    stoL c_5 [.int .u8 x_4.1, .int .i32 x_4.2.1, .int .i32 x_4.2.2.1, .int .i32 x_4.2.2.2] 0 <|
    ld (.sc (.int .u8)) (Addr.add c_5 0) fun (x_6 : Int) =>
    joinW (σ := Int) (fun J_7 =>
      cond (decide (x_6 < 6))
        (ld (.sc (.int .u8)) (Addr.add c_5 0) fun (x_8 : Int) =>
        chkW (0 ≤ x_8) <|
        J_7 (bOr .u8 s_2.1 (shL .u8 1 x_8)))
        (J_7 s_2.1))
    <| fun s_9 =>
    K_1 (s_9, IntKind.wrap .i64 (s_2.2 + 1)))
      (retW s_2.1))
    (0, 0)
def H_schema_Mask : Hints := { con := [(7014, [(3, .sc (.int .u8))])], lop := [(0, [(3, .sc (.int .u8)), (8, .sc (.int .i64))])] }
theorem E_schema_Mask (l0 : Sl) : denF Try.prog H_schema_Mask Try.f31 [.sc (.int .u8)] [.slice l0.a l0.n l0.c] = F_schema_Mask l0 := by kernel_rfl
theorem C_schema_Mask {R : Type} (l0 : Sl) (K : Res [.sc (.int .u8)] → W R) (Q : R → World → Prop) (w : World) (h : F_schema_Mask l0 (fun r w => K r Q w) w) : callW Try.prog k_schema_Mask [.slice l0.a l0.n l0.c] [.sc (.int .u8)] K Q w :=
  den_calls mix Try.func31 H_schema_Mask (ts := [.sc (.int .u8)]) trivial (by rw [Try.ntmps31]; simp) (by rw [E_schema_Mask]; exact h)

/-! 32 (*pinnace/table.Table).Row -/
def F_table_Table_Row (t0 : Option Addr) (id1 : Int) : W (Int × Bool) :=
  cond (Option.isNone t0)
    (retW (0, false))
    (ptrW t0 fun x_1 =>
  ld (.sc .map) (Addr.add x_1 9) fun (x_2 : Option Nat) =>
  rawQ Try.prog (Instr.lookup 72 (.map x_2) (.int .u32 id1) true) [.sc (.int .i64), .sc .bool] fun (x_3 : Int × Bool) =>
  retW (x_3.1, x_3.2))
def H_table_Table_Row : Hints := {}
theorem E_table_Table_Row (t0 : Option Addr) (id1 : Int) : denF Try.prog H_table_Table_Row Try.f32 [.sc (.int .i64), .sc .bool] [.pointer t0, .int .u32 id1] = F_table_Table_Row t0 id1 := by kernel_rfl
theorem C_table_Table_Row {R : Type} (t0 : Option Addr) (id1 : Int) (K : Res [.sc (.int .i64), .sc .bool] → W R) (Q : R → World → Prop) (w : World) (h : F_table_Table_Row t0 id1 (fun r w => K r Q w) w) : callW Try.prog k_table_Table_Row [.pointer t0, .int .u32 id1] [.sc (.int .i64), .sc .bool] K Q w :=
  den_calls mix Try.func32 H_table_Table_Row (ts := [.sc (.int .i64), .sc .bool]) trivial (by rw [Try.ntmps32]; simp) (by rw [E_table_Table_Row]; exact h)

/-! 33 (*pinnace/table.column[pinnace/api.ID]).add -/
def F_table_column_ID_add (c0 : Option Addr) (x1 : Int) : W (Unit) :=
  ptrW c0 fun x_1 =>
  ld (.sc .sl) (Addr.add x_1 0) fun (x_2 : Sl) =>
  newW 23 [.int .u32 x1] fun x_3 =>
  rawW Try.prog (Builtin.append_ #[37, 37] 37 #[.slice x_2.a x_2.n x_2.c, .slice (some x_3) 1 1]) [.sc .sl] fun (x_4 : Sl) =>
  ptrW c0 fun x_5 =>
  stoL (Addr.add x_5 0) [.slice x_4.a x_4.n x_4.c] 0 <|
  retW ()
def H_table_column_ID_add : Hints := {}
theorem E_table_column_ID_add (c0 : Option Addr) (x1 : Int) : denF Try.prog H_table_column_ID_add Try.f33 [] [.pointer c0, .int .u32 x1] = F_table_column_ID_add c0 x1 := by kernel_rfl
theorem C_table_column_ID_add {R : Type} (c0 : Option Addr) (x1 : Int) (K : Res [] → W R) (Q : R → World → Prop) (w : World) (h : F_table_column_ID_add c0 x1 (fun r w => K r Q w) w) : callW Try.prog k_table_column_ID_add [.pointer c0, .int .u32 x1] [] K Q w :=
  den_calls mix Try.func33 H_table_column_ID_add (ts := []) trivial (by rw [Try.ntmps33]; simp) (by rw [E_table_column_ID_add]; exact h)

/-! 34 (*pinnace/table.column[pinnace/table.fields]).add -/
def F_table_column_fields_add (c0 : Option Addr) (x1 : (Int × Int × Int)) : W (Unit) :=
  newW 86 [.int .i32 x1.1, .int .i32 x1.2.1, .int .i32 x1.2.2] fun x_1 =>
  drawW <|
  ptrW c0 fun x_2 =>
  ld (.sc .sl) (Addr.add x_2 0) fun (x_3 : Sl) =>
  ld (.agg [.int .i32, .int .i32, .int .i32]) x_1 fun (x_4 : (Int × Int × Int)) =>
  newW 86 [.int .i32 x_4.1, .int .i32 x_4.2.1, .int .i32 x_4.2.2] fun x_5 =>
  rawW Try.prog (Builtin.append_ #[75, 75] 75 #[.slice x_3.a x_3.n x_3.c, .slice (some x_5) 1 1]) [.sc .sl] fun (x_6 : Sl) =>
  ptrW c0 fun x_7 =>
  stoL (Addr.add x_7 0) [.slice x_6.a x_6.n x_6.c] 0 <|
  retW ()
def H_table_column_fields_add : Hints := { dr := [(1, ([], [[(0, []), (1, []), (2, []), (3, []), (4, []), (5, []), (6, []), (7, []), (8, []), (9, []), (10, [])]]))] }
theorem E_table_column_fields_add (c0 : Option Addr) (x1 : (Int × Int × Int)) : denF Try.prog H_table_column_fields_add Try.f34 [] [.pointer c0, .agg ⟨[.int .i32 x1.1, .int .i32 x1.2.1, .int .i32 x1.2.2]⟩] = F_table_column_fields_add c0 x1 := by kernel_rfl
theorem C_table_column_fields_add {R : Type} (c0 : Option Addr) (x1 : (Int × Int × Int)) (K : Res [] → W R) (Q : R → World → Prop) (w : World) (h : F_table_column_fields_add c0 x1 (fun r w => K r Q w) w) : callW Try.prog k_table_column_fields_add [.pointer c0, .agg ⟨[.int .i32 x1.1, .int .i32 x1.2.1, .int .i32 x1.2.2]⟩] [] K Q w :=
  den_calls mix Try.func34 H_table_column_fields_add (ts := []) trivial (by rw [Try.ntmps34]; simp) (by rw [E_table_column_fields_add]; exact h)

/-! 35 (*pinnace/table.column[pinnace/api.ID]).take -/
def F_table_column_ID_take (c0 : Option Addr) (row1 : Int) : W (Int) :=
  ptrW c0 fun x_1 =>
  ld (.sc .sl) (Addr.add x_1 0) fun (x_2 : Sl) =>
  idxW x_2.a x_2.n 1 row1 fun x_3 =>
  ld (.sc (.int .u32)) x_3 fun (x_4 : Int) =>
  ptrW c0 fun x_5 =>
  ld (.sc .sl) (Addr.add x_5 0) fun (x_6 : Sl) =>
  drawW <|
  ptrW c0 fun x_7 =>
  ld (.sc .sl) (Addr.add x_7 0) fun (x_8 : Sl) =>
  ptrW c0 fun x_9 =>
  ld (.sc .sl) (Addr.add x_9 0) fun (x_10 : Sl) =>
  idxW x_10.a x_10.n 1 (IntKind.wrap .i64 ((x_6.n : Int) - 1)) fun x_11 =>
  ld (.sc (.int .u32)) x_11 fun (x_12 : Int) =>
  idxW x_8.a x_8.n 1 row1 fun x_13 =>
  stoL x_13 [.int .u32 x_12] 0 <|
  ptrW c0 fun x_14 =>
  ld (.sc .sl) (Addr.add x_14 0) fun (x_15 : Sl) =>
  slcW x_15.a x_15.n x_15.c 1 none (some (IntKind.wrap .i64 ((x_6.n : Int) - 1))) fun x_16 =>
  ptrW c0 fun x_17 =>
  stoL (Addr.add x_17 0) [.slice x_16.a x_16.n x_16.c] 0 <|
  retW x_4
def H_table_column_ID_take : Hints := { dr := [(3, ([], [[(0, []), (1, []), (2, []), (3, []), (4, []), (5, []), (6, []), (7, []), (8, []), (9, []), (10, []), (11, []), (12, []), (13, [])]]))] }
theorem E_table_column_ID_take (c0 : Option Addr) (row1 : Int) : denF Try.prog H_table_column_ID_take Try.f35 [.sc (.int .u32)] [.pointer c0, .int .i64 row1] = F_table_column_ID_take c0 row1 := by kernel_rfl
theorem C_table_column_ID_take {R : Type} (c0 : Option Addr) (row1 : Int) (K : Res [.sc (.int .u32)] → W R) (Q : R → World → Prop) (w : World) (h : F_table_column_ID_take c0 row1 (fun r w => K r Q w) w) : callW Try.prog k_table_column_ID_take [.pointer c0, .int .i64 row1] [.sc (.int .u32)] K Q w :=
  den_calls mix Try.func35 H_table_column_ID_take (ts := [.sc (.int .u32)]) trivial (by rw [Try.ntmps35]; simp) (by rw [E_table_column_ID_take]; exact h)

/-! 36 (*pinnace/table.column[pinnace/table.fields]).take -/
def F_table_column_fields_take (c0 : Option Addr) (row1 : Int) : W ((Int × Int × Int)) :=
  newW 86 [.int .i32 0, .int .i32 0, .int .i32 0] fun x_1 =>
  ptrW c0 fun x_2 =>
  ld (.sc .sl) (Addr.add x_2 0) fun (x_3 : Sl) =>
  idxW x_3.a x_3.n 3 row1 fun x_4 =>
  ld (.agg [.int .i32, .int .i32, .int .i32]) x_4 fun (x_5 : (Int × Int × Int)) =>
  newW 86 [.int .i32 0, .int .i32 0, .int .i32 0] fun x_6 =>
  stoL x_6 [.int .i32 x_5.1, .int .i32 x_5.2.1, .int .i32 x_5.2.2] 0 <|
  ptrW c0 fun x_7 =>
  ld (.sc .sl) (Addr.add x_7 0) fun (x_8 : Sl) =>
  drawW <|
  ptrW c0 fun x_9 =>
  ld (.sc .sl) (Addr.add x_9 0) fun (x_10 : Sl) =>
  ptrW c0 fun x_11 =>
  ld (.sc .sl) (Addr.add x_11 0) fun (x_12 : Sl) =>
  idxW x_12.a x_12.n 3 (IntKind.wrap .i64 ((x_8.n : Int) - 1)) fun x_13 =>
  ld (.agg [.int .i32, .int .i32, .int .i32]) x_13 fun (x_14 : (Int × Int × Int)) =>
  idxW x_10.a x_10.n 3 row1 fun x_15 =>
  stoL x_15 [.int .i32 x_14.1, .int .i32 x_14.2.1, .int .i32 x_14.2.2] 0 <|
  ptrW c0 fun x_16 =>
  ld (.sc .sl) (Addr.add x_16 0) fun (x_17 : Sl) =>
  slcW x_17.a x_17.n x_17.c 3 none (some (IntKind.wrap .i64 ((x_8.n : Int) - 1))) fun x_18 =>
  ptrW c0 fun x_19 =>
  stoL (Addr.add x_19 0) [.slice x_18.a x_18.n x_18.c] 0 <|
  ld (.agg [.int .i32, .int .i32, .int .i32]) x_6 fun (x_20 : (Int × Int × Int)) =>
  stoL x_1 [.int .i32 x_20.1, .int .i32 x_20.2.1, .int .i32 x_20.2.2] 0 <|
  ld (.agg [.int .i32, .int .i32, .int .i32]) x_1 fun (x_21 : (Int × Int × Int)) =>
  retW x_21
def H_table_column_fields_take : Hints := { dr := [(3, ([], [[(0, []), (1, []), (2, []), (3, []), (4, []), (5, []), (6, []), (7, []), (8, []), (9, []), (10, []), (11, []), (12, []), (13, [])]]))] }
theorem E_table_column_fields_take (c0 : Option Addr) (row1 : Int) : denF Try.prog H_table_column_fields_take Try.f36 [.agg [.int .i32, .int .i32, .int .i32]] [.pointer c0, .int .i64 row1] = F_table_column_fields_take c0 row1 := by kernel_rfl
theorem C_table_column_fields_take {R : Type} (c0 : Option Addr) (row1 : Int) (K : Res [.agg [.int .i32, .int .i32, .int .i32]] → W R) (Q : R → World → Prop) (w : World) (h : F_table_column_fields_take c0 row1 (fun r w => K r Q w) w) : callW Try.prog k_table_column_fields_take [.pointer c0, .int .i64 row1] [.agg [.int .i32, .int .i32, .int .i32]] K Q w :=
  den_calls mix Try.func36 H_table_column_fields_take (ts := [.agg [.int .i32, .int .i32, .int .i32]]) ⟨by kernel_rfl, trivial⟩ (by rw [Try.ntmps36]; simp) (by rw [E_table_column_fields_take]; exact h)

/-! 37 slices.Clone[[]pinnace/api.ID,pinnace/api.ID] -/
def F_slices_Clone_ID (s0 : Sl) : W (Sl) :=
  cond (Option.isNone s0.a)
    (retW (⟨none, 0, 0⟩ : Sl))
    (newW 23 [] fun x_1 =>
  rawW Try.prog (Builtin.append_ #[37, 37] 37 #[.slice (some x_1) 0 0, .slice s0.a s0.n s0.c]) [.sc .sl] fun (x_2 : Sl) =>
  retW x_2)
def H_slices_Clone_ID : Hints := {}
theorem E_slices_Clone_ID (s0 : Sl) : denF Try.prog H_slices_Clone_ID Try.f37 [.sc .sl] [.slice s0.a s0.n s0.c] = F_slices_Clone_ID s0 := by kernel_rfl
theorem C_slices_Clone_ID {R : Type} (s0 : Sl) (K : Res [.sc .sl] → W R) (Q : R → World → Prop) (w : World) (h : F_slices_Clone_ID s0 (fun r w => K r Q w) w) : callW Try.prog k_slices_Clone_ID [.slice s0.a s0.n s0.c] [.sc .sl] K Q w :=
  den_calls mix Try.func37 H_slices_Clone_ID (ts := [.sc .sl]) trivial (by rw [Try.ntmps37]; simp) (by rw [E_slices_Clone_ID]; exact h)

/-! 38 (*pinnace/table.Table).find -/
def F_table_Table_find (t0 : Option Addr) (id1 : Int) (kind2 : Int) : W (Int × Int) :=
  callW Try.prog k_table_Table_Row [.pointer t0, .int .u32 id1] [.sc (.int .i64), .sc .bool] fun (x_1 : Int × Bool) =>
  cond (Option.isNone t0)
    (retW (0, 10))
    (cond (!x_1.2)
      (retW (0, 7))
      (ptrW t0 fun x_2 =>
      ld (.sc .sl) (Addr.add x_2 1) fun (x_3 : Sl) =>
      callW Try.prog k_slices_Contains_byte [.slice x_3.a x_3.n x_3.c, .int .u8 kind2] [.sc .bool] fun (x_4 : Bool) =>
      cond (!x_4)
        (retW (0, 10))
        (retW (x_1.1, 0))))
def H_table_Table_find : Hints := {}
theorem E_table_Table_find (t0 : Option Addr) (id1 : Int) (kind2 : Int) : denF Try.prog H_table_Table_find Try.f38 [.sc (.int .i64), .sc (.int .i64)] [.pointer t0, .int .u32 id1, .int .u8 kind2] = F_table_Table_find t0 id1 kind2 := by kernel_rfl
theorem C_table_Table_find {R : Type} (t0 : Option Addr) (id1 : Int) (kind2 : Int) (K : Res [.sc (.int .i64), .sc (.int .i64)] → W R) (Q : R → World → Prop) (w : World) (h : F_table_Table_find t0 id1 kind2 (fun r w => K r Q w) w) : callW Try.prog k_table_Table_find [.pointer t0, .int .u32 id1, .int .u8 kind2] [.sc (.int .i64), .sc (.int .i64)] K Q w :=
  den_calls mix Try.func38 H_table_Table_find (ts := [.sc (.int .i64), .sc (.int .i64)]) trivial (by rw [Try.ntmps38]; simp) (by rw [E_table_Table_find]; exact h)

/-! 39 (*pinnace/table.Table).comp -/
def F_table_Table_comp (t0 : Option Addr) (row1 : Int) (kind2 : Int) : W ((Int × Int × Int × Int)) :=
  newW 40 [.int .u8 0, .int .i32 0, .int .i32 0, .int .i32 0] fun x_1 =>
  ptrW t0 fun x_2 =>
  idxW (some (Addr.add x_2 3)) 6 1 kind2 fun x_3 =>
  ld (.sc .sl) (Addr.add x_3 0) fun (x_4 : Sl) =>
  idxW x_4.a x_4.n 3 row1 fun x_5 =>
  ld (.agg [.int .i32, .int .i32, .int .i32]) x_5 fun (x_6 : (Int × Int × Int)) =>
  stoL x_1 [.int .u8 kind2, .int .i32 x_6.1, .int .i32 x_6.2.1, .int .i32 x_6.2.2] 0 <|
  ld (.agg [.int .u8, .int .i32, .int .i32, .int .i32]) x_1 fun (x_7 : (Int × Int × Int × Int)) =>
  retW x_7
def H_table_Table_comp : Hints := {}
theorem E_table_Table_comp (t0 : Option Addr) (row1 : Int) (kind2 : Int) : denF Try.prog H_table_Table_comp Try.f39 [.agg [.int .u8, .int .i32, .int .i32, .int .i32]] [.pointer t0, .int .i64 row1, .int .u8 kind2] = F_table_Table_comp t0 row1 kind2 := by kernel_rfl
theorem C_table_Table_comp {R : Type} (t0 : Option Addr) (row1 : Int) (kind2 : Int) (K : Res [.agg [.int .u8, .int .i32, .int .i32, .int .i32]] → W R) (Q : R → World → Prop) (w : World) (h : F_table_Table_comp t0 row1 kind2 (fun r w => K r Q w) w) : callW Try.prog k_table_Table_comp [.pointer t0, .int .i64 row1, .int .u8 kind2] [.agg [.int .u8, .int .i32, .int .i32, .int .i32]] K Q w :=
  den_calls mix Try.func39 H_table_Table_comp (ts := [.agg [.int .u8, .int .i32, .int .i32, .int .i32]]) ⟨by kernel_rfl, trivial⟩ (by rw [Try.ntmps39]; simp) (by rw [E_table_Table_comp]; exact h)

/-! 40 pinnace/schema.Check -/
def F_schema_Check (c0 : (Int × Int × Int × Int)) : W (Int) :=
  newW 40 [.int .u8 c0.1, .int .i32 c0.2.1, .int .i32 c0.2.2.1, .int .i32 c0.2.2.2] fun c_1 =>
  ld (.sc (.int .u8)) (Addr.add c_1 0) fun (x_2 : Int) =>
  callW Try.prog k_schema_of [.int .u8 x_2] [.agg [.str, .bool, .sl]] fun (x_3 : (ByteArray × Bool × Sl)) =>
  cond ((x_3.2.2.n : Int) == 0)
    (retW 1)
    (slcW (some (Addr.add c_1 1)) 3 3 1 (some (x_3.2.2.n : Int)) none fun x_4 =>
  loopW (σ := Int) (fun K_5 s_6 =>
    cond (decide (s_6 < (x_4.n : Int)))
      (idxW x_4.a x_4.n 1 s_6 fun x_7 =>
    ld (.sc (.int .i32)) x_7 fun (x_8 : Int) =>
    cond (x_8 != 0)
      (retW 4)
      (K_5 (IntKind.wrap .i64 (s_6 + 1))))
      (loopW (σ := Int) (fun K_9 s_10 =>
    cond (decide (s_10 < (x_3.2.2.n : Int)))
      (idxW x_3.2.2.a x_3.2.2.n 3 s_10 fun x_11 =>
    ld (.agg [.str, .int .i32, .int .i32]) x_11 fun (x_12 : (ByteArray × Int × Int)) =>
    newW 113 [.string ⟨#[]⟩, .int .i32 0, .int .i32 0] fun f_13 =>
    stoL f_13 [.string x_12.1, .int .i32 x_12.2.1, .int .i32 x_12.2.2] 0 <|
    joinW (σ := Bool) (fun J_14 =>
      drawW <|
      idxW (some (Addr.add c_1 1)) 3 1 s_10 fun x_15 =>
      ld (.sc (.int .i32)) x_15 fun (x_16 : Int) =>
      ld (.sc (.int .i32)) (Addr.add f_13 1) fun (x_17 : Int) =>
      cond (decide (x_16 < x_17))
        (J_14 true)
        (idxW (some (Addr.add c_1 1)) 3 1 s_10 fun x_18 =>
            ld (.sc (.int .i32)) x_18 fun (x_19 : Int) =>
              ld (.sc (.int .i32)) (Addr.add f_13 2) fun (x_20 : Int) =>
                  J_14 (decide (x_19 > x_20))))
    <| fun s_21 =>
    cond s_21
      (retW 5)
      (K_9 (IntKind.wrap .i64 (s_10 + 1))))
      (retW 0))
    0))
    0)
def H_schema_Check : Hints := { reg := [(13, [(49, .sc .bool)])], lop := [(0, [(20, .sc (.int .i64))]), (2, [(29, .sc (.int .i64))])], dr := [(13, ([], [[(0, []), (1, []), (2, []), (3, []), (4, []), (5, []), (6, []), (7, []), (8, []), (9, []), (10, []), (11, []), (12, []), (13, []), (14, []), (15, [])]]))] }
theorem E_schema_Check (c0 : (Int × Int × Int × Int)) : denF Try.prog H_schema_Check Try.f40 [.sc (.int .i64)] [.agg ⟨[.int .u8 c0.1, .int .i32 c0.2.1, .int .i32 c0.2.2.1, .int .i32 c0.2.2.2]⟩] = F_schema_Check c0 := by kernel_rfl
theorem C_schema_Check {R : Type} (c0 : (Int × Int × Int × Int)) (K : Res [.sc (.int .i64)] → W R) (Q : R → World → Prop) (w : World) (h : F_schema_Check c0 (fun r w => K r Q w) w) : callW Try.prog k_schema_Check [.agg ⟨[.int .u8 c0.1, .int .i32 c0.2.1, .int .i32 c0.2.2.1, .int .i32 c0.2.2.2]⟩] [.sc (.int .i64)] K Q w :=
  den_calls mix Try.func40 H_schema_Check (ts := [.sc (.int .i64)]) trivial (by rw [Try.ntmps40]; simp) (by rw [E_schema_Check]; exact h)

/-! 41 pinnace/pinnaceref05.Count -/
def F_pinnaceref05_Count (kind0 : Int) : W (Int) :=
  cond (decide (kind0 > 5))
    (retW 0)
    (newW 3 [.int .i64 2, .int .i64 2, .int .i64 1, .int .i64 3, .int .i64 3, .int .i64 3] fun x_1 =>
  idxW (some x_1) 6 1 kind0 fun x_2 =>
  ld (.sc (.int .i64)) x_2 fun (x_3 : Int) =>
  retW x_3)
def H_pinnaceref05_Count : Hints := {}
theorem E_pinnaceref05_Count (kind0 : Int) : denF Try.prog H_pinnaceref05_Count Try.f41 [.sc (.int .i64)] [.int .u8 kind0] = F_pinnaceref05_Count kind0 := by kernel_rfl
theorem C_pinnaceref05_Count {R : Type} (kind0 : Int) (K : Res [.sc (.int .i64)] → W R) (Q : R → World → Prop) (w : World) (h : F_pinnaceref05_Count kind0 (fun r w => K r Q w) w) : callW Try.prog k_pinnaceref05_Count [.int .u8 kind0] [.sc (.int .i64)] K Q w :=
  den_calls mix Try.func41 H_pinnaceref05_Count (ts := [.sc (.int .i64)]) trivial (by rw [Try.ntmps41]; simp) (by rw [E_pinnaceref05_Count]; exact h)

/-! 42 pinnace/pinnaceref05.Range -/
def F_pinnaceref05_Range (kind0 : Int) (i1 : Int) : W (Int × Int × Int) :=
  joinW (σ := Bool) (fun J_1 =>
    cond (decide (i1 < 0))
      (J_1 true)
      (callW Try.prog k_pinnaceref05_Count [.int .u8 kind0] [.sc (.int .i64)] fun (x_2 : Int) =>
          J_1 (decide (i1 ≥ x_2))))
  <| fun s_3 =>
  cond s_3
    (retW (0, 0, 1))
    (newW 21 [.int .i32 (-524288), .int .i32 (-524288)] fun x_4 =>
  newW 21 [.int .i32 (-32768), .int .i32 (-32768)] fun x_5 =>
  newW 21 [.int .i32 0] fun x_6 =>
  newW 21 [.int .i32 0, .int .i32 0, .int .i32 1] fun x_7 =>
  newW 21 [.int .i32 0, .int .i32 0, .int .i32 0] fun x_8 =>
  newW 21 [.int .i32 1, .int .i32 0, .int .i32 0] fun x_9 =>
  newW 111 [.slice (some x_4) 2 2, .slice (some x_5) 2 2, .slice (some x_6) 1 1, .slice (some x_7) 3 3, .slice (some x_8) 3 3, .slice (some x_9) 3 3] fun x_10 =>
  idxW (some x_10) 6 1 kind0 fun x_11 =>
  ld (.sc .sl) x_11 fun (x_12 : Sl) =>
  idxW x_12.a x_12.n 1 i1 fun x_13 =>
  ld (.sc (.int .i32)) x_13 fun (x_14 : Int) =>
  newW 21 [.int .i32 524287, .int .i32 524287] fun x_15 =>
  newW 21 [.int .i32 32767, .int .i32 32767] fun x_16 =>
  newW 21 [.int .i32 4095] fun x_17 =>
  newW 21 [.int .i32 15, .int .i32 1000, .int .i32 100] fun x_18 =>
  newW 21 [.int .i32 7, .int .i32 255, .int .i32 31] fun x_19 =>
  newW 21 [.int .i32 255, .int .i32 254, .int .i32 15] fun x_20 =>
  newW 111 [.slice (some x_15) 2 2, .slice (some x_16) 2 2, .slice (some x_17) 1 1, .slice (some x_18) 3 3, .slice (some x_19) 3 3, .slice (some x_20) 3 3] fun x_21 =>
  idxW (some x_21) 6 1 kind0 fun x_22 =>
  ld (.sc .sl) x_22 fun (x_23 : Sl) =>
  idxW x_23.a x_23.n 1 i1 fun x_24 =>
  ld (.sc (.int .i32)) x_24 fun (x_25 : Int) =>
  retW (x_14, x_25, 0))
def H_pinnaceref05_Range : Hints := { reg := [(1, [(16, .sc .bool)])] }
theorem E_pinnaceref05_Range (kind0 : Int) (i1 : Int) : denF Try.prog H_pinnaceref05_Range Try.f42 [.sc (.int .i32), .sc (.int .i32), .sc (.int .i64)] [.int .u8 kind0, .int .i64 i1] = F_pinnaceref05_Range kind0 i1 := by kernel_rfl
theorem C_pinnaceref05_Range {R : Type} (kind0 : Int) (i1 : Int) (K : Res [.sc (.int .i32), .sc (.int .i32), .sc (.int .i64)] → W R) (Q : R → World → Prop) (w : World) (h : F_pinnaceref05_Range kind0 i1 (fun r w => K r Q w) w) : callW Try.prog k_pinnaceref05_Range [.int .u8 kind0, .int .i64 i1] [.sc (.int .i32), .sc (.int .i32), .sc (.int .i64)] K Q w :=
  den_calls mix Try.func42 H_pinnaceref05_Range (ts := [.sc (.int .i32), .sc (.int .i32), .sc (.int .i64)]) trivial (by rw [Try.ntmps42]; simp) (by rw [E_pinnaceref05_Range]; exact h)

/-! 43 pinnace/pinnaceref10.Row -/
def F_pinnaceref10_Row (t0 : Option Addr) (id1 : Int) : W (Int) :=
  joinW (σ := Unit) (fun J_1 =>
    cond (!Option.isNone t0)
      (ptrW t0 fun x_2 =>
      ld (.sc .sl) (Addr.add x_2 1) fun (x_3 : Sl) =>
      loopW (σ := Int) (fun K_4 s_5 =>
        cond (decide (s_5 < (x_3.n : Int)))
          (idxW x_3.a x_3.n 2 s_5 fun x_6 =>
        ld (.agg [.int .u32, .sl]) x_6 fun (x_7 : (Int × Sl)) =>
        newW 50 [.int .u32 0, .slice none 0 0] fun e_8 =>
        stoL e_8 [.int .u32 x_7.1, .slice x_7.2.a x_7.2.n x_7.2.c] 0 <|
        ld (.sc (.int .u32)) (Addr.add e_8 0) fun (x_9 : Int) =>
        cond (x_9 == id1)
          (retW s_5)
          (K_4 (IntKind.wrap .i64 (s_5 + 1))))
          (J_1 ()))
        0)
      (J_1 ()))
  <| fun s_10 =>
  retW (-1)
def H_pinnaceref10_Row : Hints := { con := [(3008, [])], lop := [(0, [(14, .sc (.int .i64))])] }
theorem E_pinnaceref10_Row (t0 : Option Addr) (id1 : Int) : denF Try.prog H_pinnaceref10_Row Try.f43 [.sc (.int .i64)] [.pointer t0, .int .u32 id1] = F_pinnaceref10_Row t0 id1 := by kernel_rfl
theorem C_pinnaceref10_Row {R : Type} (t0 : Option Addr) (id1 : Int) (K : Res [.sc (.int .i64)] → W R) (Q : R → World → Prop) (w : World) (h : F_pinnaceref10_Row t0 id1 (fun r w => K r Q w) w) : callW Try.prog k_pinnaceref10_Row [.pointer t0, .int .u32 id1] [.sc (.int .i64)] K Q w :=
  den_calls mix Try.func43 H_pinnaceref10_Row (ts := [.sc (.int .i64)]) trivial (by rw [Try.ntmps43]; simp) (by rw [E_pinnaceref10_Row]; exact h)

/-! 44 pinnace/pinnaceref05.Find -/
def F_pinnaceref05_Find (l0 : Sl) (kind1 : Int) : W (Int) :=
  loopW (σ := Int) (fun K_1 s_2 =>
    cond (decide (s_2 < (l0.n : Int)))
      (idxW l0.a l0.n 4 s_2 fun x_3 =>
    ld (.agg [.int .u8, .int .i32, .int .i32, .int .i32]) x_3 fun (x_4 : (Int × Int × Int × Int)) =>
    newW 40 [.int .u8 0, .int .i32 0, .int .i32 0, .int .i32 0] fun c_5 =>
    stoL c_5 [.int .u8 x_4.1, .int .i32 x_4.2.1, .int .i32 x_4.2.2.1, .int .i32 x_4.2.2.2] 0 <|
    ld (.sc (.int .u8)) (Addr.add c_5 0) fun (x_6 : Int) =>
    cond (x_6 == kind1)
      (retW s_2)
      (K_1 (IntKind.wrap .i64 (s_2 + 1))))
      (retW (-1)))
    0
def H_pinnaceref05_Find : Hints := { lop := [(0, [(9, .sc (.int .i64))])] }
theorem E_pinnaceref05_Find (l0 : Sl) (kind1 : Int) : denF Try.prog H_pinnaceref05_Find Try.f44 [.sc (.int .i64)] [.slice l0.a l0.n l0.c, .int .u8 kind1] = F_pinnaceref05_Find l0 kind1 := by kernel_rfl
theorem C_pinnaceref05_Find {R : Type} (l0 : Sl) (kind1 : Int) (K : Res [.sc (.int .i64)] → W R) (Q : R → World → Prop) (w : World) (h : F_pinnaceref05_Find l0 kind1 (fun r w => K r Q w) w) : callW Try.prog k_pinnaceref05_Find [.slice l0.a l0.n l0.c, .int .u8 kind1] [.sc (.int .i64)] K Q w :=
  den_calls mix Try.func44 H_pinnaceref05_Find (ts := [.sc (.int .i64)]) trivial (by rw [Try.ntmps44]; simp) (by rw [E_pinnaceref05_Find]; exact h)

/-! 45 (*pinnace/table.Table).Mask -/
def F_table_Table_Mask (t0 : Option Addr) : W (Int) :=
  cond (Option.isNone t0)
    (retW 0)
    (ptrW t0 fun x_1 =>
  ld (.sc (.int .u8)) (Addr.add x_1 0) fun (x_2 : Int) =>
  retW x_2)
def H_table_Table_Mask : Hints := {}
theorem E_table_Table_Mask (t0 : Option Addr) : denF Try.prog H_table_Table_Mask Try.f45 [.sc (.int .u8)] [.pointer t0] = F_table_Table_Mask t0 := by kernel_rfl
theorem C_table_Table_Mask {R : Type} (t0 : Option Addr) (K : Res [.sc (.int .u8)] → W R) (Q : R → World → Prop) (w : World) (h : F_table_Table_Mask t0 (fun r w => K r Q w) w) : callW Try.prog k_table_Table_Mask [.pointer t0] [.sc (.int .u8)] K Q w :=
  den_calls mix Try.func45 H_table_Table_Mask (ts := [.sc (.int .u8)]) trivial (by rw [Try.ntmps45]; simp) (by rw [E_table_Table_Mask]; exact h)

/-! 46 pinnace/pinnaceref10.SameEnt -/
def F_pinnaceref10_SameEnt (a0 : (Int × Sl)) (b1 : (Int × Sl)) : W (Bool) :=
  newW 50 [.int .u32 a0.1, .slice a0.2.a a0.2.n a0.2.c] fun a_1 =>
  newW 50 [.int .u32 b1.1, .slice b1.2.a b1.2.n b1.2.c] fun b_2 =>
  joinW (σ := Bool) (fun J_3 =>
    ld (.sc (.int .u32)) (Addr.add a_1 0) fun (x_4 : Int) =>
    ld (.sc (.int .u32)) (Addr.add b_2 0) fun (x_5 : Int) =>
    cond (x_4 == x_5)
      (ld (.sc .sl) (Addr.add a_1 1) fun (x_6 : Sl) =>
        ld (.sc .sl) (Addr.add b_2 1) fun (x_7 : Sl) =>
            callW Try.prog k_pinnaceref05_Same [.slice x_6.a x_6.n x_6.c, .slice x_7.a x_7.n x_7.c] [.sc .bool] fun (x_8 : Bool) =>
              J_3 x_8)
      (J_3 false))
  <| fun s_9 =>
  retW s_9
def H_pinnaceref10_SameEnt : Hints := { reg := [(1, [(4, .sc .bool)])] }
theorem E_pinnaceref10_SameEnt (a0 : (Int × Sl)) (b1 : (Int × Sl)) : denF Try.prog H_pinnaceref10_SameEnt Try.f46 [.sc .bool] [.agg ⟨[.int .u32 a0.1, .slice a0.2.a a0.2.n a0.2.c]⟩, .agg ⟨[.int .u32 b1.1, .slice b1.2.a b1.2.n b1.2.c]⟩] = F_pinnaceref10_SameEnt a0 b1 := by kernel_rfl
theorem C_pinnaceref10_SameEnt {R : Type} (a0 : (Int × Sl)) (b1 : (Int × Sl)) (K : Res [.sc .bool] → W R) (Q : R → World → Prop) (w : World) (h : F_pinnaceref10_SameEnt a0 b1 (fun r w => K r Q w) w) : callW Try.prog k_pinnaceref10_SameEnt [.agg ⟨[.int .u32 a0.1, .slice a0.2.a a0.2.n a0.2.c]⟩, .agg ⟨[.int .u32 b1.1, .slice b1.2.a b1.2.n b1.2.c]⟩] [.sc .bool] K Q w :=
  den_calls mix Try.func46 H_pinnaceref10_SameEnt (ts := [.sc .bool]) trivial (by rw [Try.ntmps46]; simp) (by rw [E_pinnaceref10_SameEnt]; exact h)

/-! 47 slices.Contains[[]byte,byte] -/
def F_slices_Contains_byte (s0 : Sl) (v1 : Int) : W (Bool) :=
  callW Try.prog k_slices_Index_byte [.slice s0.a s0.n s0.c, .int .u8 v1] [.sc (.int .i64)] fun (x_1 : Int) =>
  retW (decide (x_1 ≥ 0))
def H_slices_Contains_byte : Hints := {}
theorem E_slices_Contains_byte (s0 : Sl) (v1 : Int) : denF Try.prog H_slices_Contains_byte Try.f47 [.sc .bool] [.slice s0.a s0.n s0.c, .int .u8 v1] = F_slices_Contains_byte s0 v1 := by kernel_rfl
theorem C_slices_Contains_byte {R : Type} (s0 : Sl) (v1 : Int) (K : Res [.sc .bool] → W R) (Q : R → World → Prop) (w : World) (h : F_slices_Contains_byte s0 v1 (fun r w => K r Q w) w) : callW Try.prog k_slices_Contains_byte [.slice s0.a s0.n s0.c, .int .u8 v1] [.sc .bool] K Q w :=
  den_calls mix Try.func47 H_slices_Contains_byte (ts := [.sc .bool]) trivial (by rw [Try.ntmps47]; simp) (by rw [E_slices_Contains_byte]; exact h)

/-! 48 pinnace/schema.of -/
def F_schema_of (k0 : Int) : W ((ByteArray × Bool × Sl)) :=
  newW 109 [.string ⟨#[]⟩, .bool false, .slice none 0 0] fun x_1 =>
  cond (k0 == 0)
    (newW 113 [.string ⟨#[120]⟩, .int .i32 (-524288), .int .i32 524287, .string ⟨#[121]⟩, .int .i32 (-524288), .int .i32 524287] fun x_2 =>
    stoL x_1 [.string ⟨#[112, 111, 115]⟩, .bool true, .slice (some x_2) 2 2] 0 <|
    ld (.agg [.str, .bool, .sl]) x_1 fun (x_3 : (ByteArray × Bool × Sl)) =>
    retW x_3)
    (cond (k0 == 1)
      (newW 113 [.string ⟨#[100, 120]⟩, .int .i32 (-32768), .int .i32 32767, .string ⟨#[100, 121]⟩, .int .i32 (-32768), .int .i32 32767] fun x_4 =>
      stoL x_1 [.string ⟨#[118, 101, 108]⟩, .bool true, .slice (some x_4) 2 2] 0 <|
      ld (.agg [.str, .bool, .sl]) x_1 fun (x_5 : (ByteArray × Bool × Sl)) =>
      retW x_5)
      (cond (k0 == 2)
        (newW 113 [.string ⟨#[108, 101, 102, 116]⟩, .int .i32 0, .int .i32 4095] fun x_6 =>
        stoL x_1 [.string ⟨#[108, 105, 102, 101]⟩, .bool true, .slice (some x_6) 1 1] 0 <|
        ld (.agg [.str, .bool, .sl]) x_1 fun (x_7 : (ByteArray × Bool × Sl)) =>
        retW x_7)
        (cond (k0 == 3)
          (newW 113 [.string ⟨#[115, 104, 97, 112, 101]⟩, .int .i32 0, .int .i32 15, .string ⟨#[104, 112]⟩, .int .i32 0, .int .i32 1000, .string ⟨#[115, 105, 122, 101]⟩, .int .i32 1, .int .i32 100] fun x_8 =>
          stoL x_1 [.string ⟨#[98, 111, 100, 121]⟩, .bool true, .slice (some x_8) 3 3] 0 <|
          ld (.agg [.str, .bool, .sl]) x_1 fun (x_9 : (ByteArray × Bool × Sl)) =>
          retW x_9)
          (cond (k0 == 4)
            (newW 113 [.string ⟨#[116, 101, 97, 109]⟩, .int .i32 0, .int .i32 7, .string ⟨#[99, 111, 108, 111, 114]⟩, .int .i32 0, .int .i32 255, .string ⟨#[102, 108, 97, 103, 115]⟩, .int .i32 0, .int .i32 31] fun x_10 =>
            stoL x_1 [.string ⟨#[116, 97, 103]⟩, .bool true, .slice (some x_10) 3 3] 0 <|
            ld (.agg [.str, .bool, .sl]) x_1 fun (x_11 : (ByteArray × Bool × Sl)) =>
            retW x_11)
            (cond (k0 == 5)
              (newW 113 [.string ⟨#[101, 118, 101, 114, 121]⟩, .int .i32 1, .int .i32 255, .string ⟨#[108, 101, 102, 116]⟩, .int .i32 0, .int .i32 254, .string ⟨#[115, 104, 97, 112, 101]⟩, .int .i32 0, .int .i32 15] fun x_12 =>
              stoL x_1 [.string ⟨#[115, 112, 97, 119, 110]⟩, .bool false, .slice (some x_12) 3 3] 0 <|
              ld (.agg [.str, .bool, .sl]) x_1 fun (x_13 : (ByteArray × Bool × Sl)) =>
              retW x_13)
              (stoL x_1 [.string ⟨#[]⟩, .bool false, .slice none 0 0] 0 <|
  ld (.agg [.str, .bool, .sl]) x_1 fun (x_14 : (ByteArray × Bool × Sl)) =>
  retW x_14))))))
def H_schema_of : Hints := {}
theorem E_schema_of (k0 : Int) : denF Try.prog H_schema_of Try.f48 [.agg [.str, .bool, .sl]] [.int .u8 k0] = F_schema_of k0 := by kernel_rfl
theorem C_schema_of {R : Type} (k0 : Int) (K : Res [.agg [.str, .bool, .sl]] → W R) (Q : R → World → Prop) (w : World) (h : F_schema_of k0 (fun r w => K r Q w) w) : callW Try.prog k_schema_of [.int .u8 k0] [.agg [.str, .bool, .sl]] K Q w :=
  den_calls mix Try.func48 H_schema_of (ts := [.agg [.str, .bool, .sl]]) ⟨by kernel_rfl, trivial⟩ (by rw [Try.ntmps48]; simp) (by rw [E_schema_of]; exact h)

/-! 49 slices.Index[[]byte,byte] -/
def F_slices_Index_byte (s0 : Sl) (v1 : Int) : W (Int) :=
  loopW (σ := Int) (fun K_1 s_2 =>
    cond (decide (s_2 < (s0.n : Int)))
      (idxW s0.a s0.n 1 s_2 fun x_3 =>
    ld (.sc (.int .u8)) x_3 fun (x_4 : Int) =>
    cond (v1 == x_4)
      (retW s_2)
      (K_1 (IntKind.wrap .i64 (s_2 + 1))))
      (retW (-1)))
    0
def H_slices_Index_byte : Hints := { lop := [(0, [(8, .sc (.int .i64))])] }
theorem E_slices_Index_byte (s0 : Sl) (v1 : Int) : denF Try.prog H_slices_Index_byte Try.f49 [.sc (.int .i64)] [.slice s0.a s0.n s0.c, .int .u8 v1] = F_slices_Index_byte s0 v1 := by kernel_rfl
theorem C_slices_Index_byte {R : Type} (s0 : Sl) (v1 : Int) (K : Res [.sc (.int .i64)] → W R) (Q : R → World → Prop) (w : World) (h : F_slices_Index_byte s0 v1 (fun r w => K r Q w) w) : callW Try.prog k_slices_Index_byte [.slice s0.a s0.n s0.c, .int .u8 v1] [.sc (.int .i64)] K Q w :=
  den_calls mix Try.func49 H_slices_Index_byte (ts := [.sc (.int .i64)]) trivial (by rw [Try.ntmps49]; simp) (by rw [E_slices_Index_byte]; exact h)

end Go.Proofs.Ytmlpeafpchpjeaa
