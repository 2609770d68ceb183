/-
  Shallow forms of Go functions, printed by a program of this session (wip/gen.py), each equal to the denotation of its code, by the kernel.
-/
import Derived.Test.YtecmpmnaeciapaaGreatK
import Derived.Test.YtecmpmnaeciapaaGreatF
set_option linter.unusedVariables false
namespace Go.Proofs.YtecmpmnaeciapaaGreat
open Go Go.Proofs.YtecmpmnaeciapaaGreat.Den


/-! 4 pinnace/pinnacelaw11.StorePlays -/
def F_pinnacelaw11_StorePlays (d0 : Int) (o1 : Int) (p2 : Sl) : W (Bool) :=
  callW Tryz.prog k_pinnacelaw11_awake [] [.sc .bool] fun (x_1 : Bool) =>
  cond (!x_1)
    (retW false)
    (callW Tryz.prog k_store_New [.int .i64 d0, .int .i64 o1] [.sc .ptr, .sc (.int .i64)] fun (x_2 : (Option Addr) × Int) =>
  callW Tryz.prog k_pinnaceref11_New [.int .i64 d0, .int .i64 o1] [.sc .ptr, .sc (.int .i64)] fun (x_3 : (Option Addr) × Int) =>
  joinW (σ := Bool) (fun J_4 =>
    cond (x_2.2 != x_3.2)
      (J_4 true)
      (J_4 (!((Option.isNone x_2.1) == (Option.isNone x_3.1)))))
  <| fun s_5 =>
  cond s_5
    (retW false)
    (newW 37 [.int .u32 0] fun x_6 =>
  joinW (σ := Unit) (fun J_7 =>
    loopW (σ := Sl × Int) (fun K_8 s_9 =>
      cond (decide (s_9.2 < (p2.n : Int)))
        (idxW p2.a p2.n 3 s_9.2 fun x_10 =>
      ld (.agg [.int .u8, .int .i64, .sl]) x_10 fun (x_11 : (Int × Int × Sl)) =>
      newW 48 [.int .u8 0, .int .i64 0, .slice none 0 0] fun x_12 =>
      stoL x_12 [.int .u8 x_11.1, .int .i64 x_11.2.1, .slice x_11.2.2.a x_11.2.2.n x_11.2.2.c] 0 <|
      cond (decide (s_9.2 ≥ 60))
        (J_7 ())
        (ld (.sc .sl) (Addr.add x_12 2) fun (x_13 : Sl) =>
      ld (.sc .sl) (Addr.add x_12 2) fun (x_14 : Sl) =>
      slcW x_13.a x_13.n x_13.c 4 none (some (if 20 < (x_14.n : Int) then 20 else (x_14.n : Int))) fun x_15 =>
      stoL (Addr.add x_12 2) [.slice x_15.a x_15.n x_15.c] 0 <|
      ld (.sc .sl) (Addr.add x_12 2) fun (x_16 : Sl) =>
      callW Tryz.prog k_pinnaceref05_Twin [.slice x_16.a x_16.n x_16.c] [.sc .sl] fun (x_17 : Sl) =>
      ld (.sc (.int .i64)) (Addr.add x_12 1) fun (x_18 : Int) =>
      chkW ((IntKind.wrap .u64 (s_9.1.n : Int)) ≠ 0) <|
      idxW s_9.1.a s_9.1.n 1 (IntKind.wrap .i64 (Int.tmod (IntKind.wrap .u64 x_18) (IntKind.wrap .u64 (s_9.1.n : Int)))) fun x_19 =>
      ld (.sc (.int .u32)) x_19 fun (x_20 : Int) =>
      ld (.sc (.int .u8)) (Addr.add x_12 0) fun (x_21 : Int) =>
      joinW (σ := Bool) (fun J_22 =>
        cond (x_21 == 0)
          (J_22 (x_21 == 0))
          (J_22 (x_21 == 1)))
      <| fun s_23 =>
      joinW (σ := Sl × Bool) (fun J_24 =>
        cond s_23
          (callW Tryz.prog k_store_Store_Spawn [.pointer x_2.1, .slice x_17.a x_17.n x_17.c] [.sc (.int .u32), .sc (.int .i64)] fun (x_25 : Int × Int) =>
          ld (.sc .sl) (Addr.add x_12 2) fun (x_26 : Sl) =>
          callW Tryz.prog k_pinnaceref11_Spawn [.pointer x_3.1, .slice x_26.a x_26.n x_26.c] [.sc (.int .u32), .sc (.int .i64)] fun (x_27 : Int × Int) =>
          joinW (σ := Bool) (fun J_28 =>
            cond (x_25.1 == x_27.1)
              (J_28 (x_25.2 == x_27.2))
              (J_28 false))
          <| fun s_29 =>
          newW 37 [.int .u32 x_25.1] fun x_30 =>
          rawW Tryz.prog (Builtin.append_ #[46, 46] 46 #[.slice s_9.1.a s_9.1.n s_9.1.c, .slice (some x_30) 1 1]) [.sc .sl] fun (x_31 : Sl) =>
          J_24 (x_31, s_29))
          (joinW (σ := Bool) (fun J_32 =>
            cond (x_21 == 2)
              (callW Tryz.prog k_store_Store_Despawn [.pointer x_2.1, .int .u32 x_20] [.sc (.int .i64)] fun (x_33 : Int) =>
              callW Tryz.prog k_pinnaceref11_Despawn [.pointer x_3.1, .int .u32 x_20] [.sc (.int .i64)] fun (x_34 : Int) =>
              J_32 (x_33 == x_34))
              (joinW (σ := Bool) (fun J_35 =>
                cond (x_21 == 3)
                  (drawW <|
                  ld (.sc .sl) (Addr.add x_12 2) fun (x_36 : Sl) =>
                  ld (.sc .sl) (Addr.add x_12 2) fun (x_37 : Sl) =>
                  callW Tryz.prog k_pinnacelaw11_first [.slice x_36.a x_36.n x_36.c] [.agg [.int .u8, .int .i32, .int .i32, .int .i32]] fun (x_38 : (Int × Int × Int × Int)) =>
                  andW (fun w => Rd w (Addr.add x_12 2) (.sc .sl) x_37) <|
                  callW Tryz.prog k_store_Store_Set [.pointer x_2.1, .int .u32 x_20, .agg ⟨[.int .u8 x_38.1, .int .i32 x_38.2.1, .int .i32 x_38.2.2.1, .int .i32 x_38.2.2.2]⟩] [.sc (.int .i64)] fun (x_39 : Int) =>
                  andW (fun w => Rd w (Addr.add x_12 2) (.sc .sl) x_37) <|
                  callW Tryz.prog k_pinnacelaw11_first [.slice x_37.a x_37.n x_37.c] [.agg [.int .u8, .int .i32, .int .i32, .int .i32]] fun (x_40 : (Int × Int × Int × Int)) =>
                  callW Tryz.prog k_pinnaceref11_Set [.pointer x_3.1, .int .u32 x_20, .agg ⟨[.int .u8 x_40.1, .int .i32 x_40.2.1, .int .i32 x_40.2.2.1, .int .i32 x_40.2.2.2]⟩] [.sc (.int .i64)] fun (x_41 : Int) =>
                  J_35 (x_39 == x_41))
                  (joinW (σ := Bool) (fun J_42 =>
                    cond (x_21 == 4)
                      (drawW <|
                      ld (.sc .sl) (Addr.add x_12 2) fun (x_43 : Sl) =>
                      ld (.sc .sl) (Addr.add x_12 2) fun (x_44 : Sl) =>
                      callW Tryz.prog k_pinnacelaw11_first [.slice x_43.a x_43.n x_43.c] [.agg [.int .u8, .int .i32, .int .i32, .int .i32]] fun (x_45 : (Int × Int × Int × Int)) =>
                      andW (fun w => Rd w (Addr.add x_12 2) (.sc .sl) x_44) <|
                      callW Tryz.prog k_store_Store_Add [.pointer x_2.1, .int .u32 x_20, .agg ⟨[.int .u8 x_45.1, .int .i32 x_45.2.1, .int .i32 x_45.2.2.1, .int .i32 x_45.2.2.2]⟩] [.sc (.int .i64)] fun (x_46 : Int) =>
                      andW (fun w => Rd w (Addr.add x_12 2) (.sc .sl) x_44) <|
                      callW Tryz.prog k_pinnacelaw11_first [.slice x_44.a x_44.n x_44.c] [.agg [.int .u8, .int .i32, .int .i32, .int .i32]] fun (x_47 : (Int × Int × Int × Int)) =>
                      callW Tryz.prog k_pinnaceref11_Add [.pointer x_3.1, .int .u32 x_20, .agg ⟨[.int .u8 x_47.1, .int .i32 x_47.2.1, .int .i32 x_47.2.2.1, .int .i32 x_47.2.2.2]⟩] [.sc (.int .i64)] fun (x_48 : Int) =>
                      J_42 (x_46 == x_48))
                      (joinW (σ := Bool) (fun J_49 =>
                        cond (x_21 == 5)
                          (drawW <|
                          ld (.sc .sl) (Addr.add x_12 2) fun (x_50 : Sl) =>
                          ld (.sc .sl) (Addr.add x_12 2) fun (x_51 : Sl) =>
                          callW Tryz.prog k_pinnacelaw11_first [.slice x_50.a x_50.n x_50.c] [.agg [.int .u8, .int .i32, .int .i32, .int .i32]] fun (x_52 : (Int × Int × Int × Int)) =>
                          andW (fun w => Rd w (Addr.add x_12 2) (.sc .sl) x_51) <|
                          callW Tryz.prog k_store_Store_Remove [.pointer x_2.1, .int .u32 x_20, .int .u8 x_52.1] [.sc (.int .i64)] fun (x_53 : Int) =>
                          andW (fun w => Rd w (Addr.add x_12 2) (.sc .sl) x_51) <|
                          callW Tryz.prog k_pinnacelaw11_first [.slice x_51.a x_51.n x_51.c] [.agg [.int .u8, .int .i32, .int .i32, .int .i32]] fun (x_54 : (Int × Int × Int × Int)) =>
                          callW Tryz.prog k_pinnaceref11_Remove [.pointer x_3.1, .int .u32 x_20, .int .u8 x_54.1] [.sc (.int .i64)] fun (x_55 : Int) =>
                          J_49 (x_53 == x_55))
                          (joinW (σ := Bool) (fun J_56 =>
                            cond (x_21 == 6)
                              (ld (.sc .sl) (Addr.add x_12 2) fun (x_57 : Sl) =>
                              callW Tryz.prog k_pinnacelaw11_first [.slice x_57.a x_57.n x_57.c] [.agg [.int .u8, .int .i32, .int .i32, .int .i32]] fun (x_58 : (Int × Int × Int × Int)) =>
                              callW Tryz.prog k_store_Store_Get [.pointer x_2.1, .int .u32 x_20, .int .u8 x_58.1] [.agg [.int .u8, .int .i32, .int .i32, .int .i32], .sc (.int .i64)] fun (x_59 : (Int × Int × Int × Int) × Int) =>
                              newW 60 [.int .u8 0, .int .i32 0, .int .i32 0, .int .i32 0] fun x_60 =>
                              stoL x_60 [.int .u8 x_59.1.1, .int .i32 x_59.1.2.1, .int .i32 x_59.1.2.2.1, .int .i32 x_59.1.2.2.2] 0 <|
                              ld (.sc .sl) (Addr.add x_12 2) fun (x_61 : Sl) =>
                              callW Tryz.prog k_pinnacelaw11_first [.slice x_61.a x_61.n x_61.c] [.agg [.int .u8, .int .i32, .int .i32, .int .i32]] fun (x_62 : (Int × Int × Int × Int)) =>
                              callW Tryz.prog k_pinnaceref11_Get [.pointer x_3.1, .int .u32 x_20, .int .u8 x_62.1] [.agg [.int .u8, .int .i32, .int .i32, .int .i32], .sc (.int .i64)] fun (x_63 : (Int × Int × Int × Int) × Int) =>
                              newW 60 [.int .u8 0, .int .i32 0, .int .i32 0, .int .i32 0] fun x_64 =>
                              stoL x_64 [.int .u8 x_63.1.1, .int .i32 x_63.1.2.1, .int .i32 x_63.1.2.2.1, .int .i32 x_63.1.2.2.2] 0 <|
                              joinW (σ := Bool) (fun J_65 =>
                                ld (.agg [.int .u8, .int .i32, .int .i32, .int .i32]) x_60 fun (x_66 : (Int × Int × Int × Int)) =>
                                ld (.agg [.int .u8, .int .i32, .int .i32, .int .i32]) x_64 fun (x_67 : (Int × Int × Int × Int)) =>
                                rawQ Tryz.prog (do Go.eqGuard .eql 60 (.tmp 190) (.tmp 191) (.agg ⟨[.int .u8 x_66.1, .int .i32 x_66.2.1, .int .i32 x_66.2.2.1, .int .i32 x_66.2.2.2]⟩) (.agg ⟨[.int .u8 x_67.1, .int .i32 x_67.2.1, .int .i32 x_67.2.2.1, .int .i32 x_67.2.2.2]⟩); Go.binOp .eql 60 (.agg ⟨[.int .u8 x_66.1, .int .i32 x_66.2.1, .int .i32 x_66.2.2.1, .int .i32 x_66.2.2.2]⟩) (.agg ⟨[.int .u8 x_67.1, .int .i32 x_67.2.1, .int .i32 x_67.2.2.1, .int .i32 x_67.2.2.2]⟩)) [.sc .bool] fun (x_68 : Bool) =>
                                cond x_68
                                  (J_65 (x_59.2 == x_63.2))
                                  (J_65 false))
                              <| fun s_69 =>
                              J_56 s_69)
                              (J_56 true))
                          <| fun s_70 =>
                          J_49 s_70))
                      <| fun s_71 =>
                      J_42 s_71))
                  <| fun s_72 =>
                  J_35 s_72))
              <| fun s_73 =>
              J_32 s_73))
          <| fun s_74 =>
          J_24 (s_9.1, s_74)))
      <| fun s_75 =>
      joinW (σ := Bool) (fun J_76 =>
        cond (!s_75.2)
          (J_76 true)
          (ld (.sc .sl) (Addr.add x_12 2) fun (x_77 : Sl) =>
              callW Tryz.prog k_pinnaceref05_Same [.slice x_17.a x_17.n x_17.c, .slice x_77.a x_77.n x_77.c] [.sc .bool] fun (x_78 : Bool) =>
                J_76 (!x_78)))
      <| fun s_79 =>
      cond s_79
        (retW false)
        (loopW (σ := Int) (fun K_80 s_81 =>
        cond (decide (s_81 < (x_17.n : Int)))
          (drawW <|
        idxW x_17.a x_17.n 4 s_81 fun x_82 =>
        idxW (some (Addr.add x_82 1)) 3 1 0 fun x_83 =>
        ld (.sc (.int .i32)) x_83 fun (x_84 : Int) =>
        idxW x_17.a x_17.n 4 s_81 fun x_85 =>
        idxW (some (Addr.add x_85 1)) 3 1 0 fun x_86 =>
        stoL x_86 [.int .i32 (bXor .i32 x_84 1)] 0 <|
        K_80 (IntKind.wrap .i64 (s_81 + 1)))
          (callW Tryz.prog k_pinnacelaw11_alike [.pointer x_2.1, .pointer x_3.1] [.sc .bool] fun (x_87 : Bool) =>
      cond (!x_87)
        (retW false)
        (K_8 (s_75.1, IntKind.wrap .i64 (s_9.2 + 1)))))
        0)))
        (J_7 ()))
      ((⟨(some x_6), 1, 1⟩ : Sl), 0))
  <| fun s_88 =>
  retW true))
def H_pinnacelaw11_StorePlays : Hints := { reg := [(5, [(49, .sc .bool)]), (21, [(16, .sc .bool)]), (34, [(16, .sc .bool)]), (35, [(206, .sc .bool)])], con := [(19084, [(84, .sc .bool)]), (33168, [(16, .sc .bool)]), (31151, [(16, .sc .bool)]), (29136, [(16, .sc .bool)]), (27121, [(16, .sc .bool)]), (25112, [(16, .sc .bool)]), (20084, [(11, .sc .sl), (16, .sc .bool)])], blk := [(0, [])], lop := [(0, [(11, .sc .sl), (53, .sc (.int .i64))]), (3, [(209, .sc (.int .i64))])], dr := [(26, ([], [[(0, []), (1, []), (2, []), (3, []), (6, []), (7, []), (8, []), (9, []), (4, [9]), (5, [9]), (10, []), (11, []), (12, []), (13, [])]])), (28, ([], [[(0, []), (1, []), (2, []), (3, []), (6, []), (7, []), (8, []), (9, []), (4, [9]), (5, [9]), (10, []), (11, []), (12, []), (13, [])]])), (30, ([], [[(0, []), (1, []), (2, []), (3, []), (7, []), (8, []), (9, []), (10, []), (4, [10]), (5, []), (6, [10]), (11, []), (12, []), (13, []), (14, []), (15, [])]])), (40, ([], [[(0, []), (1, []), (2, []), (3, []), (4, []), (5, []), (6, []), (7, []), (8, []), (9, []), (10, [])]]))] }
set_option maxRecDepth 100000 in
theorem E_pinnacelaw11_StorePlays (d0 : Int) (o1 : Int) (p2 : Sl) : denF Tryz.prog H_pinnacelaw11_StorePlays Tryz.f4 [.sc .bool] [.int .i64 d0, .int .i64 o1, .slice p2.a p2.n p2.c] = F_pinnacelaw11_StorePlays d0 o1 p2 := by kernel_rfl
theorem C_pinnacelaw11_StorePlays {R : Type} (d0 : Int) (o1 : Int) (p2 : Sl) (K : Res [.sc .bool] → W R) (Q : R → World → Prop) (w : World) (h : F_pinnacelaw11_StorePlays d0 o1 p2 (fun r w => K r Q w) w) : callW Tryz.prog k_pinnacelaw11_StorePlays [.int .i64 d0, .int .i64 o1, .slice p2.a p2.n p2.c] [.sc .bool] K Q w :=
  den_calls mix Tryz.func4 H_pinnacelaw11_StorePlays (ts := [.sc .bool]) trivial (by rw [Tryz.ntmps4]; simp) (by rw [E_pinnacelaw11_StorePlays]; exact h)

/-! 15 pinnace/pinnacelaw11.awake -/
def F_pinnacelaw11_awake  : W (Bool) :=
  callW Tryz.prog k_store_New [.int .i64 5, .int .i64 1] [.sc .ptr, .sc (.int .i64)] fun (x_1 : (Option Addr) × Int) =>
  joinW (σ := Bool) (fun J_2 =>
    cond (x_1.2 != 0)
      (J_2 true)
      (J_2 (Option.isNone x_1.1)))
  <| fun s_3 =>
  cond s_3
    (retW false)
    (newW 60 [.int .u8 0, .int .i32 0, .int .i32 0, .int .i32 0] fun x_4 =>
  callW Tryz.prog k_store_Store_Spawn [.pointer x_1.1, .slice (some x_4) 1 1] [.sc (.int .u32), .sc (.int .i64)] fun (x_5 : Int × Int) =>
  callW Tryz.prog k_store_Store_Spawn [.pointer x_1.1, .slice (some x_4) 1 1] [.sc (.int .u32), .sc (.int .i64)] fun (x_6 : Int × Int) =>
  callW Tryz.prog k_store_Store_Spawn [.pointer x_1.1, .slice (some x_4) 1 1] [.sc (.int .u32), .sc (.int .i64)] fun (x_7 : Int × Int) =>
  callW Tryz.prog k_store_Store_Add [.pointer x_1.1, .int .u32 x_5.1, .agg ⟨[.int .u8 2, .int .i32 0, .int .i32 0, .int .i32 0]⟩] [.sc (.int .i64)] fun (x_8 : Int) =>
  cond (x_8 != 0)
    (retW false)
    (callW Tryz.prog k_store_Store_Groups [.pointer x_1.1] [.sc .sl] fun (x_9 : Sl) =>
  joinW (σ := Bool) (fun J_10 =>
    cond ((x_9.n : Int) == 2)
      (idxW x_9.a x_9.n 2 0 fun x_11 =>
        ld (.sc (.int .u8)) (Addr.add x_11 0) fun (x_12 : Int) =>
            cond (x_12 == 1)
                (idxW x_9.a x_9.n 2 0 fun x_13 =>
                  ld (.sc .sl) (Addr.add x_13 1) fun (x_14 : Sl) =>
                      newW 37 [.int .u32 x_7.1, .int .u32 x_6.1] fun x_15 =>
                            callW Tryz.prog k_pinnaceref07_Same [.slice x_14.a x_14.n x_14.c, .slice (some x_15) 2 2] [.sc .bool] fun (x_16 : Bool) =>
                              cond x_16
                                (idxW x_9.a x_9.n 2 1 fun x_17 =>
                                  ld (.sc .sl) (Addr.add x_17 1) fun (x_18 : Sl) =>
                                      newW 37 [.int .u32 x_5.1] fun x_19 =>
                                          callW Tryz.prog k_pinnaceref07_Same [.slice x_18.a x_18.n x_18.c, .slice (some x_19) 1 1] [.sc .bool] fun (x_20 : Bool) =>
                                            J_10 x_20)
                                (J_10 false))
                (J_10 false))
      (J_10 false))
  <| fun s_21 =>
  retW s_21))
def H_pinnacelaw11_awake : Hints := { reg := [(2, [(20, .sc .bool)]), (11, [(0, .sc .bool)])] }
theorem E_pinnacelaw11_awake  : denF Tryz.prog H_pinnacelaw11_awake Tryz.f15 [.sc .bool] [] = F_pinnacelaw11_awake := by kernel_rfl
theorem C_pinnacelaw11_awake {R : Type}  (K : Res [.sc .bool] → W R) (Q : R → World → Prop) (w : World) (h : F_pinnacelaw11_awake (fun r w => K r Q w) w) : callW Tryz.prog k_pinnacelaw11_awake [] [.sc .bool] K Q w :=
  den_calls mix Tryz.func15 H_pinnacelaw11_awake (ts := [.sc .bool]) trivial (by rw [Tryz.ntmps15]; simp) (by rw [E_pinnacelaw11_awake]; exact h)

/-! 22 pinnace/pinnacelaw11.first -/
def F_pinnacelaw11_first (l0 : Sl) : W ((Int × Int × Int × Int)) :=
  newW 60 [.int .u8 0, .int .i32 0, .int .i32 0, .int .i32 0] fun x_1 =>
  cond ((l0.n : Int) == 0)
    (stoL x_1 [.int .u8 0, .int .i32 0, .int .i32 0, .int .i32 0] 0 <|
    ld (.agg [.int .u8, .int .i32, .int .i32, .int .i32]) x_1 fun (x_2 : (Int × Int × Int × Int)) =>
    retW x_2)
    (idxW l0.a l0.n 4 0 fun x_3 =>
  ld (.agg [.int .u8, .int .i32, .int .i32, .int .i32]) x_3 fun (x_4 : (Int × Int × Int × Int)) =>
  stoL x_1 [.int .u8 x_4.1, .int .i32 x_4.2.1, .int .i32 x_4.2.2.1, .int .i32 x_4.2.2.2] 0 <|
  ld (.agg [.int .u8, .int .i32, .int .i32, .int .i32]) x_1 fun (x_5 : (Int × Int × Int × Int)) =>
  retW x_5)
def H_pinnacelaw11_first : Hints := {}
theorem E_pinnacelaw11_first (l0 : Sl) : denF Tryz.prog H_pinnacelaw11_first Tryz.f22 [.agg [.int .u8, .int .i32, .int .i32, .int .i32]] [.slice l0.a l0.n l0.c] = F_pinnacelaw11_first l0 := by kernel_rfl
theorem C_pinnacelaw11_first {R : Type} (l0 : Sl) (K : Res [.agg [.int .u8, .int .i32, .int .i32, .int .i32]] → W R) (Q : R → World → Prop) (w : World) (h : F_pinnacelaw11_first l0 (fun r w => K r Q w) w) : callW Tryz.prog k_pinnacelaw11_first [.slice l0.a l0.n l0.c] [.agg [.int .u8, .int .i32, .int .i32, .int .i32]] K Q w :=
  den_calls mix Tryz.func22 H_pinnacelaw11_first (ts := [.agg [.int .u8, .int .i32, .int .i32, .int .i32]]) ⟨by kernel_rfl, trivial⟩ (by rw [Tryz.ntmps22]; simp) (by rw [E_pinnacelaw11_first]; exact h)

/-! 31 pinnace/pinnacelaw11.alike -/
def F_pinnacelaw11_alike (d0 : Option Addr) (o1 : Option Addr) : W (Bool) :=
  cond (Option.isNone o1)
    (joinW (σ := Bool) (fun J_1 =>
      callW Tryz.prog k_store_Store_Len [.pointer d0] [.sc (.int .i64)] fun (x_2 : Int) =>
      cond (x_2 == 0)
        (callW Tryz.prog k_store_Store_Room [.pointer d0] [.sc (.int .i64)] fun (x_3 : Int) =>
          cond (x_3 == 0)
              (callW Tryz.prog k_store_Store_List [.pointer d0] [.sc .sl] fun (x_4 : Sl) =>
                cond ((x_4.n : Int) == 0)
                      (callW Tryz.prog k_store_Store_Groups [.pointer d0] [.sc .sl] fun (x_5 : Sl) =>
                        J_1 ((x_5.n : Int) == 0))
                      (J_1 false))
              (J_1 false))
        (J_1 false))
    <| fun s_6 =>
    retW s_6)
    (ptrW o1 fun x_7 =>
  ld (.sc .ptr) (Addr.add x_7 0) fun (x_8 : Option Addr) =>
  callW Tryz.prog k_pinnaceref07_List [.pointer x_8] [.sc .sl, .sc (.int .i64)] fun (x_9 : Sl × Int) =>
  joinW (σ := Bool) (fun J_10 =>
    callW Tryz.prog k_store_Store_List [.pointer d0] [.sc .sl] fun (x_11 : Sl) =>
    callW Tryz.prog k_pinnaceref07_Same [.slice x_11.a x_11.n x_11.c, .slice x_9.1.a x_9.1.n x_9.1.c] [.sc .bool] fun (x_12 : Bool) =>
    cond (!x_12)
      (J_10 true)
      (callW Tryz.prog k_store_Store_Len [.pointer d0] [.sc (.int .i64)] fun (x_13 : Int) =>
        cond (x_13 != (x_9.1.n : Int))
                (J_10 true)
                (callW Tryz.prog k_store_Store_Room [.pointer d0] [.sc (.int .i64)] fun (x_14 : Int) =>
                  J_10 (x_14 != x_9.2))))
  <| fun s_15 =>
  cond s_15
    (retW false)
    (callW Tryz.prog k_pinnaceref11_List [.pointer o1] [.sc .sl] fun (x_16 : Sl) =>
  loopW (σ := Int) (fun K_17 s_18 =>
    cond (decide (s_18 < (x_16.n : Int)))
      (idxW x_16.a x_16.n 2 s_18 fun x_19 =>
    ld (.agg [.int .u32, .sl]) x_19 fun (x_20 : (Int × Sl)) =>
    newW 97 [.int .u32 0, .slice none 0 0] fun x_21 =>
    stoL x_21 [.int .u32 x_20.1, .slice x_20.2.a x_20.2.n x_20.2.c] 0 <|
    idxW x_9.1.a x_9.1.n 1 s_18 fun x_22 =>
    ld (.sc (.int .u32)) x_22 fun (x_23 : Int) =>
    callW Tryz.prog k_store_Store_Ent [.pointer d0, .int .u32 x_23] [.agg [.int .u32, .sl], .sc (.int .i64)] fun (x_24 : (Int × Sl) × Int) =>
    newW 97 [.int .u32 0, .slice none 0 0] fun x_25 =>
    stoL x_25 [.int .u32 x_24.1.1, .slice x_24.1.2.a x_24.1.2.n x_24.1.2.c] 0 <|
    joinW (σ := Bool) (fun J_26 =>
      cond (x_24.2 != 0)
        (J_26 true)
        (ld (.agg [.int .u32, .sl]) x_25 fun (x_27 : (Int × Sl)) =>
        ld (.agg [.int .u32, .sl]) x_21 fun (x_28 : (Int × Sl)) =>
          callW Tryz.prog k_pinnaceref10_SameEnt [.agg ⟨[.int .u32 x_27.1, .slice x_27.2.a x_27.2.n x_27.2.c]⟩, .agg ⟨[.int .u32 x_28.1, .slice x_28.2.a x_28.2.n x_28.2.c]⟩] [.sc .bool] fun (x_29 : Bool) =>
            cond (!x_29)
                (J_26 true)
                (idxW x_9.1.a x_9.1.n 1 s_18 fun x_30 =>
                      ld (.sc (.int .u32)) x_30 fun (x_31 : Int) =>
                        callW Tryz.prog k_store_Store_Live [.pointer d0, .int .u32 x_31] [.sc .bool] fun (x_32 : Bool) =>
                          J_26 (!x_32))))
    <| fun s_33 =>
    cond s_33
      (retW false)
      (ld (.sc .sl) (Addr.add x_25 1) fun (x_34 : Sl) =>
    loopW (σ := Int) (fun K_35 s_36 =>
      cond (decide (s_36 < (x_34.n : Int)))
        (drawW <|
      ld (.sc .sl) (Addr.add x_25 1) fun (x_37 : Sl) =>
      idxW x_37.a x_37.n 4 s_36 fun x_38 =>
      idxW (some (Addr.add x_38 1)) 3 1 0 fun x_39 =>
      ld (.sc (.int .i32)) x_39 fun (x_40 : Int) =>
      idxW x_37.a x_37.n 4 s_36 fun x_41 =>
      idxW (some (Addr.add x_41 1)) 3 1 0 fun x_42 =>
      stoL x_42 [.int .i32 (bXor .i32 x_40 1)] 0 <|
      K_35 (IntKind.wrap .i64 (s_36 + 1)))
        (K_17 (IntKind.wrap .i64 (s_18 + 1))))
      0))
      (callW Tryz.prog k_store_Store_Groups [.pointer d0] [.sc .sl] fun (x_43 : Sl) =>
  loopW (σ := Int × Int) (fun K_44 s_45 =>
    cond (decide (s_45.2 < (x_43.n : Int)))
      (idxW x_43.a x_43.n 2 s_45.2 fun x_46 =>
    ld (.agg [.int .u8, .sl]) x_46 fun (x_47 : (Int × Sl)) =>
    newW 105 [.int .u8 0, .slice none 0 0] fun x_48 =>
    stoL x_48 [.int .u8 x_47.1, .slice x_47.2.a x_47.2.n x_47.2.c] 0 <|
    loopW (σ := Int) (fun K_49 s_50 =>
      joinW (σ := Bool) (fun J_51 =>
        cond (decide (s_50 < 64))
          (ptrW o1 fun x_52 =>
              idxW (some (Addr.add x_52 1)) 64 2 s_50 fun x_53 =>
                  ld (.sc .sl) (Addr.add x_53 1) fun (x_54 : Sl) =>
                      J_51 ((x_54.n : Int) == 0))
          (J_51 false))
      <| fun s_55 =>
      cond s_55
        (K_49 (IntKind.wrap .i64 (s_50 + 1)))
        (joinW (σ := Bool) (fun J_56 =>
      drawW <|
      cond (s_50 == 64)
        (J_56 true)
        (ld (.sc (.int .u8)) (Addr.add x_48 0) fun (x_57 : Int) =>
          cond ((IntKind.wrap .i64 x_57) != s_50)
                  (J_56 true)
                  (ld (.sc .sl) (Addr.add x_48 1) fun (x_58 : Sl) =>
                    ptrW o1 fun x_59 =>
                            idxW (some (Addr.add x_59 1)) 64 2 s_50 fun x_60 =>
                                ld (.sc .sl) (Addr.add x_60 1) fun (x_61 : Sl) =>
                                    J_56 ((x_58.n : Int) != (x_61.n : Int)))))
    <| fun s_62 =>
    cond s_62
      (retW false)
      (ptrW o1 fun x_63 =>
    idxW (some (Addr.add x_63 1)) 64 2 s_50 fun x_64 =>
    ld (.sc .sl) (Addr.add x_64 1) fun (x_65 : Sl) =>
    loopW (σ := Int) (fun K_66 s_67 =>
      cond (decide (s_67 < (x_65.n : Int)))
        (idxW x_65.a x_65.n 2 s_67 fun x_68 =>
      ld (.agg [.int .u32, .sl]) x_68 fun (x_69 : (Int × Sl)) =>
      newW 97 [.int .u32 0, .slice none 0 0] fun x_70 =>
      stoL x_70 [.int .u32 x_69.1, .slice x_69.2.a x_69.2.n x_69.2.c] 0 <|
      drawW <|
      ld (.sc .sl) (Addr.add x_48 1) fun (x_71 : Sl) =>
      idxW x_71.a x_71.n 1 s_67 fun x_72 =>
      ld (.sc (.int .u32)) x_72 fun (x_73 : Int) =>
      ld (.sc (.int .u32)) (Addr.add x_70 0) fun (x_74 : Int) =>
      cond (x_73 != x_74)
        (retW false)
        (K_66 (IntKind.wrap .i64 (s_67 + 1))))
        (K_44 (IntKind.wrap .i64 (s_50 + 1), IntKind.wrap .i64 (s_45.2 + 1))))
      0)))
      s_45.1)
      (loopW (σ := Int) (fun K_75 s_76 =>
    cond (decide (s_76 < 64))
      (ptrW o1 fun x_77 =>
    idxW (some (Addr.add x_77 1)) 64 2 s_76 fun x_78 =>
    ld (.sc .sl) (Addr.add x_78 1) fun (x_79 : Sl) =>
    cond (decide ((x_79.n : Int) > 0))
      (retW false)
      (K_75 (IntKind.wrap .i64 (s_76 + 1))))
      (retW true))
    s_45.1))
    (0, 0)))
    0))
def H_pinnacelaw11_alike : Hints := { reg := [(2, [(4, .sc .bool)]), (4, [(64, .sc .bool)]), (10, [(98, .sc .bool)]), (22, [(137, .sc .bool)]), (24, [(162, .sc .bool)])], lop := [(0, [(68, .sc (.int .i64))]), (2, [(102, .sc (.int .i64))]), (4, [(12, .sc (.int .i64)), (121, .sc (.int .i64))]), (6, [(12, .sc (.int .i64))]), (8, [(171, .sc (.int .i64))]), (10, [(12, .sc (.int .i64))])], dr := [(15, ([], [[(0, []), (1, []), (2, []), (3, []), (4, []), (5, []), (6, []), (7, []), (8, []), (9, []), (10, []), (11, [])]])), (24, ([], [[(0, []), (1, []), (2, []), (3, []), (4, []), (5, []), (6, []), (7, []), (8, []), (9, []), (10, []), (11, []), (12, []), (13, []), (14, []), (15, []), (16, []), (17, []), (18, []), (19, []), (20, []), (21, []), (22, [])]])), (29, ([], [[(0, []), (1, []), (2, []), (3, []), (4, []), (5, []), (6, []), (7, [])]]))] }
set_option maxRecDepth 100000 in
theorem E_pinnacelaw11_alike (d0 : Option Addr) (o1 : Option Addr) : denF Tryz.prog H_pinnacelaw11_alike Tryz.f31 [.sc .bool] [.pointer d0, .pointer o1] = F_pinnacelaw11_alike d0 o1 := by kernel_rfl
theorem C_pinnacelaw11_alike {R : Type} (d0 : Option Addr) (o1 : Option Addr) (K : Res [.sc .bool] → W R) (Q : R → World → Prop) (w : World) (h : F_pinnacelaw11_alike d0 o1 (fun r w => K r Q w) w) : callW Tryz.prog k_pinnacelaw11_alike [.pointer d0, .pointer o1] [.sc .bool] K Q w :=
  den_calls mix Tryz.func31 H_pinnacelaw11_alike (ts := [.sc .bool]) trivial (by rw [Tryz.ntmps31]; simp) (by rw [E_pinnacelaw11_alike]; exact h)

end Go.Proofs.YtecmpmnaeciapaaGreat
