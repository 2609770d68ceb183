/-
  Shallow forms of Go functions, printed by a program of this session (wip/gen.py), each equal to the denotation of its code, by the kernel.
-/
import Derived.Test.YtecmpmnaeciapaaK
import Derived.Test.YtecmpmnaeciapaaF
set_option linter.unusedVariables false
namespace Go.Proofs.Ytecmpmnaeciapaa
open Go Go.Proofs.Ytecmpmnaeciapaa.Den


/-! 9 pinnace/pinnacelaw11.StoreFull -/
def F_pinnacelaw11_StoreFull (d0 : Int) (o1 : Sl) : W (Bool) :=
  callW Try.prog k_pinnacelaw11_awake [] [.sc .bool] fun (x_1 : Bool) =>
  cond (!x_1)
    (retW false)
    (callW Try.prog k_store_New [.int .i64 (IntKind.wrap .i64 (1 + (IntKind.wrap .i64 (Int.tmod d0 30)))), .int .i64 1] [.sc .ptr, .sc (.int .i64)] fun (x_2 : (Option Addr) × Int) =>
  joinW (σ := Bool) (fun J_3 =>
    cond (x_2.2 != 0)
      (J_3 true)
      (callW Try.prog k_pinnaceref05_List [.slice o1.a o1.n o1.c] [.sc (.int .i64)] fun (x_4 : Int) =>
        J_3 (x_4 != 0)))
  <| fun s_5 =>
  cond s_5
    (retW (x_2.2 == 0))
    (loopW (σ := Sl × Int) (fun K_6 s_7 =>
    cond (decide (s_7.2 < (IntKind.wrap .i64 (1 + (IntKind.wrap .i64 (Int.tmod d0 30))))))
      (callW Try.prog k_pinnaceref05_Twin [.slice o1.a o1.n o1.c] [.sc .sl] fun (x_8 : Sl) =>
    callW Try.prog k_store_Store_Spawn [.pointer x_2.1, .slice x_8.a x_8.n x_8.c] [.sc (.int .u32), .sc (.int .i64)] fun (x_9 : Int × Int) =>
    cond (x_9.2 != 0)
      (retW false)
      (newW 38 [.int .u32 x_9.1] fun x_10 =>
    rawW Try.prog (Builtin.append_ #[67, 67] 67 #[.slice s_7.1.a s_7.1.n s_7.1.c, .slice (some x_10) 1 1]) [.sc .sl] fun (x_11 : Sl) =>
    K_6 (x_11, IntKind.wrap .i64 (s_7.2 + 1))))
      (callW Try.prog k_pinnaceref05_Twin [.slice o1.a o1.n o1.c] [.sc .sl] fun (x_12 : Sl) =>
  callW Try.prog k_store_Store_Spawn [.pointer x_2.1, .slice x_12.a x_12.n x_12.c] [.sc (.int .u32), .sc (.int .i64)] fun (x_13 : Int × Int) =>
  joinW (σ := Bool) (fun J_14 =>
    cond (x_13.2 != 8)
      (J_14 true)
      (cond (x_13.1 != 0)
          (J_14 true)
          (callW Try.prog k_store_Store_Len [.pointer x_2.1] [.sc (.int .i64)] fun (x_15 : Int) =>
            cond (x_15 != (IntKind.wrap .i64 (1 + (IntKind.wrap .i64 (Int.tmod d0 30)))))
                  (J_14 true)
                  (callW Try.prog k_store_Store_Room [.pointer x_2.1] [.sc (.int .i64)] fun (x_16 : Int) =>
                    cond (x_16 != 0)
                        (J_14 true)
                        (idxW s_7.1.a s_7.1.n 1 (IntKind.wrap .i64 (Int.tdiv (IntKind.wrap .i64 (1 + (IntKind.wrap .i64 (Int.tmod d0 30)))) 2)) fun x_17 =>
                                ld (.sc (.int .u32)) x_17 fun (x_18 : Int) =>
                                  callW Try.prog k_store_Store_Despawn [.pointer x_2.1, .int .u32 x_18] [.sc (.int .i64)] fun (x_19 : Int) =>
                                    J_14 (x_19 != 0))))))
  <| fun s_20 =>
  cond s_20
    (retW false)
    (callW Try.prog k_pinnaceref05_Twin [.slice o1.a o1.n o1.c] [.sc .sl] fun (x_21 : Sl) =>
  callW Try.prog k_store_Store_Spawn [.pointer x_2.1, .slice x_21.a x_21.n x_21.c] [.sc (.int .u32), .sc (.int .i64)] fun (x_22 : Int × Int) =>
  joinW (σ := Bool) (fun J_23 =>
    drawW <|
    cond (x_22.2 == 0)
      (idxW s_7.1.a s_7.1.n 1 (IntKind.wrap .i64 (Int.tdiv (IntKind.wrap .i64 (1 + (IntKind.wrap .i64 (Int.tmod d0 30)))) 2)) fun x_24 =>
              ld (.sc (.int .u32)) x_24 fun (x_25 : Int) =>
                cond (x_22.1 != x_25)
                    (idxW s_7.1.a s_7.1.n 1 (IntKind.wrap .i64 (Int.tdiv (IntKind.wrap .i64 (1 + (IntKind.wrap .i64 (Int.tmod d0 30)))) 2)) fun x_26 =>
                            ld (.sc (.int .u32)) x_26 fun (x_27 : Int) =>
                              callW Try.prog k_pinnaceref07_Slot [.int .u32 x_22.1] [.sc (.int .i64)] fun (x_28 : Int) =>
                                andW (fun w => Rd w x_26 (.sc (.int .u32)) x_27) <|
                                callW Try.prog k_pinnaceref07_Slot [.int .u32 x_27] [.sc (.int .i64)] fun (x_29 : Int) =>
                                  cond (x_28 == x_29)
                                      (idxW s_7.1.a s_7.1.n 1 (IntKind.wrap .i64 (Int.tdiv (IntKind.wrap .i64 (1 + (IntKind.wrap .i64 (Int.tmod d0 30)))) 2)) fun x_30 =>
                                              ld (.sc (.int .u32)) x_30 fun (x_31 : Int) =>
                                                callW Try.prog k_store_Store_Live [.pointer x_2.1, .int .u32 x_31] [.sc .bool] fun (x_32 : Bool) =>
                                                  cond (!x_32)
                                                      (callW Try.prog k_store_Store_Live [.pointer x_2.1, .int .u32 x_22.1] [.sc .bool] fun (x_33 : Bool) =>
                                                          J_23 x_33)
                                                      (J_23 false))
                                      (J_23 false))
                    (J_23 false))
      (J_23 false))
  <| fun s_34 =>
  retW s_34)))
    ((⟨none, 0, 0⟩ : Sl), 0)))
def H_pinnacelaw11_StoreFull : Hints := { reg := [(5, [(32, .sc .bool)]), (16, [(85, .sc .bool)]), (19, [(4, .sc .bool)])], lop := [(0, [(8, .sc .sl), (36, .sc (.int .i64))])], dr := [(19, ([], [[(0, []), (1, []), (2, []), (3, []), (4, []), (5, []), (6, []), (7, []), (8, []), (9, []), (10, []), (11, []), (12, []), (14, []), (15, []), (16, []), (17, []), (18, []), (13, [18]), (19, []), (20, []), (21, []), (22, []), (23, []), (24, []), (25, []), (26, []), (27, []), (28, []), (29, []), (30, []), (31, []), (32, []), (33, []), (34, []), (35, []), (36, []), (37, [])]]))] }
theorem E_pinnacelaw11_StoreFull (d0 : Int) (o1 : Sl) : denF Try.prog H_pinnacelaw11_StoreFull Try.f9 [.sc .bool] [.int .u8 d0, .slice o1.a o1.n o1.c] = F_pinnacelaw11_StoreFull d0 o1 := by kernel_rfl
theorem C_pinnacelaw11_StoreFull {R : Type} (d0 : Int) (o1 : Sl) (K : Res [.sc .bool] → W R) (Q : R → World → Prop) (w : World) (h : F_pinnacelaw11_StoreFull d0 o1 (fun r w => K r Q w) w) : callW Try.prog k_pinnacelaw11_StoreFull [.int .u8 d0, .slice o1.a o1.n o1.c] [.sc .bool] K Q w :=
  den_calls mix Try.func9 H_pinnacelaw11_StoreFull (ts := [.sc .bool]) trivial (by rw [Try.ntmps9]; simp) (by rw [E_pinnacelaw11_StoreFull]; exact h)

/-! 10 pinnace/pinnacelaw11.StoreMoves -/
def F_pinnacelaw11_StoreMoves (d0 : Sl) (o1 : (Int × Int × Int × Int)) (p2 : Int) : W (Bool) :=
  newW 55 [.int .u8 o1.1, .int .i32 o1.2.1, .int .i32 o1.2.2.1, .int .i32 o1.2.2.2] fun x_1 =>
  callW Try.prog k_pinnacelaw11_awake [] [.sc .bool] fun (x_2 : Bool) =>
  cond (!x_2)
    (retW false)
    (callW Try.prog k_store_New [.int .i64 20, .int .i64 1] [.sc .ptr, .sc (.int .i64)] fun (x_3 : (Option Addr) × Int) =>
  joinW (σ := Bool) (fun J_4 =>
    cond (x_3.2 != 0)
      (J_4 true)
      (callW Try.prog k_pinnaceref05_List [.slice d0.a d0.n d0.c] [.sc (.int .i64)] fun (x_5 : Int) =>
        cond (x_5 != 0)
            (J_4 true)
            (ld (.agg [.int .u8, .int .i32, .int .i32, .int .i32]) x_1 fun (x_6 : (Int × Int × Int × Int)) =>
            callW Try.prog k_pinnaceref05_Check [.agg ⟨[.int .u8 x_6.1, .int .i32 x_6.2.1, .int .i32 x_6.2.2.1, .int .i32 x_6.2.2.2]⟩] [.sc (.int .i64)] fun (x_7 : Int) =>
              J_4 (x_7 != 0))))
  <| fun s_8 =>
  cond s_8
    (retW (x_3.2 == 0))
    (loopW (σ := Sl × Int) (fun K_9 s_10 =>
    cond (decide (s_10.2 < (IntKind.wrap .i64 (1 + (IntKind.wrap .i64 (Int.tmod p2 10))))))
      (callW Try.prog k_pinnaceref05_Twin [.slice d0.a d0.n d0.c] [.sc .sl] fun (x_11 : Sl) =>
    callW Try.prog k_store_Store_Spawn [.pointer x_3.1, .slice x_11.a x_11.n x_11.c] [.sc (.int .u32), .sc (.int .i64)] fun (x_12 : Int × Int) =>
    cond (x_12.2 != 0)
      (retW false)
      (newW 38 [.int .u32 x_12.1] fun x_13 =>
    rawW Try.prog (Builtin.append_ #[67, 67] 67 #[.slice s_10.1.a s_10.1.n s_10.1.c, .slice (some x_13) 1 1]) [.sc .sl] fun (x_14 : Sl) =>
    K_9 (x_14, IntKind.wrap .i64 (s_10.2 + 1))))
      (ld (.sc (.int .u8)) (Addr.add x_1 0) fun (x_15 : Int) =>
  callW Try.prog k_pinnaceref05_Find [.slice d0.a d0.n d0.c, .int .u8 x_15] [.sc (.int .i64)] fun (x_16 : Int) =>
  cond (decide (x_16 ≥ 0))
    (drawW <|
    idxW s_10.1.a s_10.1.n 1 0 fun x_17 =>
    ld (.sc (.int .u32)) x_17 fun (x_18 : Int) =>
    ld (.agg [.int .u8, .int .i32, .int .i32, .int .i32]) x_1 fun (x_19 : (Int × Int × Int × Int)) =>
    callW Try.prog k_store_Store_Add [.pointer x_3.1, .int .u32 x_18, .agg ⟨[.int .u8 x_19.1, .int .i32 x_19.2.1, .int .i32 x_19.2.2.1, .int .i32 x_19.2.2.2]⟩] [.sc (.int .i64)] fun (x_20 : Int) =>
    retW (x_20 == 9))
    (joinW (σ := Bool) (fun J_21 =>
    drawW <|
    idxW s_10.1.a s_10.1.n 1 0 fun x_22 =>
    ld (.sc (.int .u32)) x_22 fun (x_23 : Int) =>
    ld (.agg [.int .u8, .int .i32, .int .i32, .int .i32]) x_1 fun (x_24 : (Int × Int × Int × Int)) =>
    callW Try.prog k_store_Store_Add [.pointer x_3.1, .int .u32 x_23, .agg ⟨[.int .u8 x_24.1, .int .i32 x_24.2.1, .int .i32 x_24.2.2.1, .int .i32 x_24.2.2.2]⟩] [.sc (.int .i64)] fun (x_25 : Int) =>
    cond (x_25 != 0)
      (J_21 true)
      (idxW s_10.1.a s_10.1.n 1 0 fun x_26 =>
          ld (.sc (.int .u32)) x_26 fun (x_27 : Int) =>
            ld (.sc (.int .u8)) (Addr.add x_1 0) fun (x_28 : Int) =>
                callW Try.prog k_store_Store_Remove [.pointer x_3.1, .int .u32 x_27, .int .u8 x_28] [.sc (.int .i64)] fun (x_29 : Int) =>
                  J_21 (x_29 != 0)))
  <| fun s_30 =>
  cond s_30
    (retW false)
    (idxW s_10.1.a s_10.1.n 1 0 fun x_31 =>
  ld (.sc (.int .u32)) x_31 fun (x_32 : Int) =>
  callW Try.prog k_store_Store_Ent [.pointer x_3.1, .int .u32 x_32] [.agg [.int .u32, .sl], .sc (.int .i64)] fun (x_33 : (Int × Sl) × Int) =>
  newW 70 [.int .u32 0, .slice none 0 0] fun x_34 =>
  stoL x_34 [.int .u32 x_33.1.1, .slice x_33.1.2.a x_33.1.2.n x_33.1.2.c] 0 <|
  callW Try.prog k_store_Store_Groups [.pointer x_3.1] [.sc .sl] fun (x_35 : Sl) =>
  joinW (σ := Bool) (fun J_36 =>
    drawW <|
    cond (x_33.2 == 0)
      (ld (.agg [.int .u32, .sl]) x_34 fun (x_37 : (Int × Sl)) =>
      idxW s_10.1.a s_10.1.n 1 0 fun x_38 =>
          ld (.sc (.int .u32)) x_38 fun (x_39 : Int) =>
            callW Try.prog k_pinnaceref10_SameEnt [.agg ⟨[.int .u32 x_37.1, .slice x_37.2.a x_37.2.n x_37.2.c]⟩, .agg ⟨[.int .u32 x_39, .slice d0.a d0.n d0.c]⟩] [.sc .bool] fun (x_40 : Bool) =>
                  cond x_40
                    (cond ((x_35.n : Int) == 1)
                          (idxW x_35.a x_35.n 2 0 fun x_41 =>
                            ld (.sc .sl) (Addr.add x_41 1) fun (x_42 : Sl) =>
                                cond ((x_42.n : Int) == (s_10.1.n : Int))
                                          (idxW x_35.a x_35.n 2 0 fun x_43 =>
                                            ld (.sc .sl) (Addr.add x_43 1) fun (x_44 : Sl) =>
                                                idxW x_44.a x_44.n 1 (IntKind.wrap .i64 ((s_10.1.n : Int) - 1)) fun x_45 =>
                                                        ld (.sc (.int .u32)) x_45 fun (x_46 : Int) =>
                                                          idxW s_10.1.a s_10.1.n 1 0 fun x_47 =>
                                                              ld (.sc (.int .u32)) x_47 fun (x_48 : Int) =>
                                                                cond (x_46 == x_48)
                                                                    (callW Try.prog k_store_Store_List [.pointer x_3.1] [.sc .sl] fun (x_49 : Sl) =>
                                                                        callW Try.prog k_pinnaceref07_Same [.slice x_49.a x_49.n x_49.c, .slice s_10.1.a s_10.1.n s_10.1.c] [.sc .bool] fun (x_50 : Bool) =>
                                                                          J_36 x_50)
                                                                    (J_36 false))
                                          (J_36 false))
                          (J_36 false))
                    (J_36 false))
      (J_36 false))
  <| fun s_51 =>
  retW s_51))))
    ((⟨none, 0, 0⟩ : Sl), 0)))
def H_pinnacelaw11_StoreMoves : Hints := { reg := [(4, [(32, .sc .bool)]), (16, [(83, .sc .bool)]), (20, [(6, .sc .bool)])], lop := [(0, [(9, .sc .sl), (39, .sc (.int .i64))])], dr := [(15, ([], [[(0, []), (1, []), (2, []), (3, []), (4, []), (5, []), (6, []), (7, [])]])), (16, ([], [[(0, []), (1, []), (2, []), (3, []), (4, []), (5, []), (6, []), (7, []), (8, []), (9, []), (10, []), (11, []), (12, []), (13, []), (14, []), (15, []), (16, [])]])), (20, ([], [[(0, []), (1, []), (2, []), (3, []), (4, []), (5, []), (6, []), (7, []), (8, []), (9, []), (10, []), (11, []), (12, []), (13, []), (14, []), (15, []), (16, []), (17, []), (18, []), (19, []), (20, []), (21, []), (22, []), (23, []), (24, []), (25, []), (26, []), (27, []), (28, []), (29, []), (30, []), (31, []), (32, []), (33, []), (34, []), (35, []), (36, []), (37, []), (38, []), (39, []), (40, []), (41, []), (42, []), (44, []), (43, []), (45, []), (46, []), (47, [])]]))] }
set_option maxRecDepth 100000 in
theorem E_pinnacelaw11_StoreMoves (d0 : Sl) (o1 : (Int × Int × Int × Int)) (p2 : Int) : denF Try.prog H_pinnacelaw11_StoreMoves Try.f10 [.sc .bool] [.slice d0.a d0.n d0.c, .agg ⟨[.int .u8 o1.1, .int .i32 o1.2.1, .int .i32 o1.2.2.1, .int .i32 o1.2.2.2]⟩, .int .u8 p2] = F_pinnacelaw11_StoreMoves d0 o1 p2 := by kernel_rfl
theorem C_pinnacelaw11_StoreMoves {R : Type} (d0 : Sl) (o1 : (Int × Int × Int × Int)) (p2 : Int) (K : Res [.sc .bool] → W R) (Q : R → World → Prop) (w : World) (h : F_pinnacelaw11_StoreMoves d0 o1 p2 (fun r w => K r Q w) w) : callW Try.prog k_pinnacelaw11_StoreMoves [.slice d0.a d0.n d0.c, .agg ⟨[.int .u8 o1.1, .int .i32 o1.2.1, .int .i32 o1.2.2.1, .int .i32 o1.2.2.2]⟩, .int .u8 p2] [.sc .bool] K Q w :=
  den_calls mix Try.func10 H_pinnacelaw11_StoreMoves (ts := [.sc .bool]) trivial (by rw [Try.ntmps10]; simp) (by rw [E_pinnacelaw11_StoreMoves]; exact h)

/-! 11 pinnace/pinnacelaw11.StoreApart -/
def F_pinnacelaw11_StoreApart (d0 : Sl) (o1 : (Int × Int × Sl)) : W (Bool) :=
  newW 95 [.int .u8 o1.1, .int .i64 o1.2.1, .slice o1.2.2.a o1.2.2.n o1.2.2.c] fun x_1 =>
  callW Try.prog k_pinnacelaw11_awake [] [.sc .bool] fun (x_2 : Bool) =>
  cond (!x_2)
    (retW false)
    (callW Try.prog k_store_New [.int .i64 20, .int .i64 1] [.sc .ptr, .sc (.int .i64)] fun (x_3 : (Option Addr) × Int) =>
  cond (x_3.2 != 0)
    (retW false)
    (loopW (σ := Int) (fun K_4 s_5 =>
    cond (decide (s_5 < (d0.n : Int)))
      (idxW d0.a d0.n 1 s_5 fun x_6 =>
    ld (.sc .sl) x_6 fun (x_7 : Sl) =>
    joinW (σ := Unit) (fun J_8 =>
      cond (decide (s_5 < 15))
        (slcW x_7.a x_7.n x_7.c 4 none (some (if 20 < (x_7.n : Int) then 20 else (x_7.n : Int))) fun x_9 =>
        callW Try.prog k_pinnaceref05_Twin [.slice x_9.a x_9.n x_9.c] [.sc .sl] fun (x_10 : Sl) =>
        callW Try.prog k_store_Store_Spawn [.pointer x_3.1, .slice x_10.a x_10.n x_10.c] [.sc (.int .u32), .sc (.int .i64)] fun (x_11 : Int × Int) =>
        J_8 ())
        (J_8 ()))
    <| fun s_12 =>
    K_4 (IntKind.wrap .i64 (s_5 + 1)))
      (callW Try.prog k_store_Store_List [.pointer x_3.1] [.sc .sl] fun (x_13 : Sl) =>
  cond ((x_13.n : Int) == 0)
    (retW true)
    (ld (.sc (.int .i64)) (Addr.add x_1 1) fun (x_14 : Int) =>
  chkW ((IntKind.wrap .u64 (x_13.n : Int)) ≠ 0) <|
  idxW x_13.a x_13.n 1 (IntKind.wrap .i64 (Int.tmod (IntKind.wrap .u64 x_14) (IntKind.wrap .u64 (x_13.n : Int)))) fun x_15 =>
  ld (.sc (.int .u32)) x_15 fun (x_16 : Int) =>
  rawW Try.prog (Instr.makeMap 97 none) [.sc .map] fun (x_17 : Option Nat) =>
  loopW (σ := Int) (fun K_18 s_19 =>
    cond (decide (s_19 < (x_13.n : Int)))
      (idxW x_13.a x_13.n 1 s_19 fun x_20 =>
    ld (.sc (.int .u32)) x_20 fun (x_21 : Int) =>
    callW Try.prog k_store_Store_Ent [.pointer x_3.1, .int .u32 x_21] [.agg [.int .u32, .sl], .sc (.int .i64)] fun (x_22 : (Int × Sl) × Int) =>
    rawU Try.prog (Instr.mapUpdate 97 (.map x_17) (.int .u32 x_21) (.agg ⟨[.int .u32 x_22.1.1, .slice x_22.1.2.a x_22.1.2.n x_22.1.2.c]⟩)) <|
    K_18 (IntKind.wrap .i64 (s_19 + 1)))
      (ld (.sc .sl) (Addr.add x_1 2) fun (x_23 : Sl) =>
  callW Try.prog k_pinnacelaw11_first [.slice x_23.a x_23.n x_23.c] [.agg [.int .u8, .int .i32, .int .i32, .int .i32]] fun (x_24 : (Int × Int × Int × Int)) =>
  newW 55 [.int .u8 0, .int .i32 0, .int .i32 0, .int .i32 0] fun x_25 =>
  stoL x_25 [.int .u8 x_24.1, .int .i32 x_24.2.1, .int .i32 x_24.2.2.1, .int .i32 x_24.2.2.2] 0 <|
  ld (.sc (.int .u8)) (Addr.add x_1 0) fun (x_26 : Int) =>
  joinW (σ := Unit) (fun J_27 =>
    cond ((Int.tmod x_26 4) == 0)
      (callW Try.prog k_store_Store_Despawn [.pointer x_3.1, .int .u32 x_16] [.sc (.int .i64)] fun (x_28 : Int) =>
      J_27 ())
      (joinW (σ := Unit) (fun J_29 =>
        cond ((Int.tmod x_26 4) == 1)
          (ld (.agg [.int .u8, .int .i32, .int .i32, .int .i32]) x_25 fun (x_30 : (Int × Int × Int × Int)) =>
          callW Try.prog k_store_Store_Set [.pointer x_3.1, .int .u32 x_16, .agg ⟨[.int .u8 x_30.1, .int .i32 x_30.2.1, .int .i32 x_30.2.2.1, .int .i32 x_30.2.2.2]⟩] [.sc (.int .i64)] fun (x_31 : Int) =>
          J_29 ())
          (joinW (σ := Unit) (fun J_32 =>
            cond ((Int.tmod x_26 4) == 2)
              (ld (.agg [.int .u8, .int .i32, .int .i32, .int .i32]) x_25 fun (x_33 : (Int × Int × Int × Int)) =>
              callW Try.prog k_store_Store_Add [.pointer x_3.1, .int .u32 x_16, .agg ⟨[.int .u8 x_33.1, .int .i32 x_33.2.1, .int .i32 x_33.2.2.1, .int .i32 x_33.2.2.2]⟩] [.sc (.int .i64)] fun (x_34 : Int) =>
              J_32 ())
              (ld (.sc (.int .u8)) (Addr.add x_25 0) fun (x_35 : Int) =>
              callW Try.prog k_store_Store_Remove [.pointer x_3.1, .int .u32 x_16, .int .u8 x_35] [.sc (.int .i64)] fun (x_36 : Int) =>
              J_32 ()))
          <| fun s_37 =>
          J_29 ()))
      <| fun s_38 =>
      J_27 ()))
  <| fun s_39 =>
  loopW (σ := Int) (fun K_40 s_41 =>
    cond (decide (s_41 < (x_13.n : Int)))
      (idxW x_13.a x_13.n 1 s_41 fun x_42 =>
    ld (.sc (.int .u32)) x_42 fun (x_43 : Int) =>
    callW Try.prog k_store_Store_Ent [.pointer x_3.1, .int .u32 x_43] [.agg [.int .u32, .sl], .sc (.int .i64)] fun (x_44 : (Int × Sl) × Int) =>
    newW 70 [.int .u32 0, .slice none 0 0] fun x_45 =>
    stoL x_45 [.int .u32 x_44.1.1, .slice x_44.1.2.a x_44.1.2.n x_44.1.2.c] 0 <|
    joinW (σ := Bool) (fun J_46 =>
      cond (x_43 != x_16)
        (cond (x_44.2 != 0)
              (J_46 true)
              (ld (.agg [.int .u32, .sl]) x_45 fun (x_47 : (Int × Sl)) =>
              rawQ Try.prog (Instr.lookup 97 (.map x_17) (.int .u32 x_43) false) [.agg [.int .u32, .sl]] fun (x_48 : (Int × Sl)) =>
                    callW Try.prog k_pinnaceref10_SameEnt [.agg ⟨[.int .u32 x_47.1, .slice x_47.2.a x_47.2.n x_47.2.c]⟩, .agg ⟨[.int .u32 x_48.1, .slice x_48.2.a x_48.2.n x_48.2.c]⟩] [.sc .bool] fun (x_49 : Bool) =>
                      J_46 (!x_49)))
        (J_46 false))
    <| fun s_50 =>
    cond s_50
      (retW false)
      (K_40 (IntKind.wrap .i64 (s_41 + 1))))
      (retW true))
    0))
    0)))
    0))
def H_pinnacelaw11_StoreApart : Hints := { reg := [(35, [(131, .sc .bool)])], con := [(11035, []), (31099, []), (29093, []), (27088, [])], lop := [(0, [(29, .sc (.int .i64))]), (2, [(64, .sc (.int .i64))]), (5, [(107, .sc (.int .i64))])] }
set_option maxRecDepth 100000 in
theorem E_pinnacelaw11_StoreApart (d0 : Sl) (o1 : (Int × Int × Sl)) : denF Try.prog H_pinnacelaw11_StoreApart Try.f11 [.sc .bool] [.slice d0.a d0.n d0.c, .agg ⟨[.int .u8 o1.1, .int .i64 o1.2.1, .slice o1.2.2.a o1.2.2.n o1.2.2.c]⟩] = F_pinnacelaw11_StoreApart d0 o1 := by kernel_rfl
theorem C_pinnacelaw11_StoreApart {R : Type} (d0 : Sl) (o1 : (Int × Int × Sl)) (K : Res [.sc .bool] → W R) (Q : R → World → Prop) (w : World) (h : F_pinnacelaw11_StoreApart d0 o1 (fun r w => K r Q w) w) : callW Try.prog k_pinnacelaw11_StoreApart [.slice d0.a d0.n d0.c, .agg ⟨[.int .u8 o1.1, .int .i64 o1.2.1, .slice o1.2.2.a o1.2.2.n o1.2.2.c]⟩] [.sc .bool] K Q w :=
  den_calls mix Try.func11 H_pinnacelaw11_StoreApart (ts := [.sc .bool]) trivial (by rw [Try.ntmps11]; simp) (by rw [E_pinnacelaw11_StoreApart]; exact h)

/-! 38 pinnace/pinnacelaw11.awake -/
def F_pinnacelaw11_awake  : W (Bool) :=
  callW Try.prog k_store_New [.int .i64 5, .int .i64 1] [.sc .ptr, .sc (.int .i64)] fun (x_1 : (Option Addr) × Int) =>
  joinW (σ := Bool) (fun J_2 =>
    cond (x_1.2 != 0)
      (J_2 true)
      (J_2 (Option.isNone x_1.1)))
  <| fun s_3 =>
  cond s_3
    (retW false)
    (newW 55 [.int .u8 0, .int .i32 0, .int .i32 0, .int .i32 0] fun x_4 =>
  callW Try.prog k_store_Store_Spawn [.pointer x_1.1, .slice (some x_4) 1 1] [.sc (.int .u32), .sc (.int .i64)] fun (x_5 : Int × Int) =>
  callW Try.prog k_store_Store_Spawn [.pointer x_1.1, .slice (some x_4) 1 1] [.sc (.int .u32), .sc (.int .i64)] fun (x_6 : Int × Int) =>
  callW Try.prog k_store_Store_Spawn [.pointer x_1.1, .slice (some x_4) 1 1] [.sc (.int .u32), .sc (.int .i64)] fun (x_7 : Int × Int) =>
  callW Try.prog k_store_Store_Add [.pointer x_1.1, .int .u32 x_5.1, .agg ⟨[.int .u8 2, .int .i32 0, .int .i32 0, .int .i32 0]⟩] [.sc (.int .i64)] fun (x_8 : Int) =>
  cond (x_8 != 0)
    (retW false)
    (callW Try.prog k_store_Store_Groups [.pointer x_1.1] [.sc .sl] fun (x_9 : Sl) =>
  joinW (σ := Bool) (fun J_10 =>
    cond ((x_9.n : Int) == 2)
      (idxW x_9.a x_9.n 2 0 fun x_11 =>
        ld (.sc (.int .u8)) (Addr.add x_11 0) fun (x_12 : Int) =>
            cond (x_12 == 1)
                (idxW x_9.a x_9.n 2 0 fun x_13 =>
                  ld (.sc .sl) (Addr.add x_13 1) fun (x_14 : Sl) =>
                      newW 38 [.int .u32 x_7.1, .int .u32 x_6.1] fun x_15 =>
                            callW Try.prog k_pinnaceref07_Same [.slice x_14.a x_14.n x_14.c, .slice (some x_15) 2 2] [.sc .bool] fun (x_16 : Bool) =>
                              cond x_16
                                (idxW x_9.a x_9.n 2 1 fun x_17 =>
                                  ld (.sc .sl) (Addr.add x_17 1) fun (x_18 : Sl) =>
                                      newW 38 [.int .u32 x_5.1] fun x_19 =>
                                          callW Try.prog k_pinnaceref07_Same [.slice x_18.a x_18.n x_18.c, .slice (some x_19) 1 1] [.sc .bool] fun (x_20 : Bool) =>
                                            J_10 x_20)
                                (J_10 false))
                (J_10 false))
      (J_10 false))
  <| fun s_21 =>
  retW s_21))
def H_pinnacelaw11_awake : Hints := { reg := [(2, [(20, .sc .bool)]), (11, [(0, .sc .bool)])] }
theorem E_pinnacelaw11_awake  : denF Try.prog H_pinnacelaw11_awake Try.f38 [.sc .bool] [] = F_pinnacelaw11_awake := by kernel_rfl
theorem C_pinnacelaw11_awake {R : Type}  (K : Res [.sc .bool] → W R) (Q : R → World → Prop) (w : World) (h : F_pinnacelaw11_awake (fun r w => K r Q w) w) : callW Try.prog k_pinnacelaw11_awake [] [.sc .bool] K Q w :=
  den_calls mix Try.func38 H_pinnacelaw11_awake (ts := [.sc .bool]) trivial (by rw [Try.ntmps38]; simp) (by rw [E_pinnacelaw11_awake]; exact h)

/-! 52 pinnace/pinnacelaw11.first -/
def F_pinnacelaw11_first (l0 : Sl) : W ((Int × Int × Int × Int)) :=
  newW 55 [.int .u8 0, .int .i32 0, .int .i32 0, .int .i32 0] fun x_1 =>
  cond ((l0.n : Int) == 0)
    (stoL x_1 [.int .u8 0, .int .i32 0, .int .i32 0, .int .i32 0] 0 <|
    ld (.agg [.int .u8, .int .i32, .int .i32, .int .i32]) x_1 fun (x_2 : (Int × Int × Int × Int)) =>
    retW x_2)
    (idxW l0.a l0.n 4 0 fun x_3 =>
  ld (.agg [.int .u8, .int .i32, .int .i32, .int .i32]) x_3 fun (x_4 : (Int × Int × Int × Int)) =>
  stoL x_1 [.int .u8 x_4.1, .int .i32 x_4.2.1, .int .i32 x_4.2.2.1, .int .i32 x_4.2.2.2] 0 <|
  ld (.agg [.int .u8, .int .i32, .int .i32, .int .i32]) x_1 fun (x_5 : (Int × Int × Int × Int)) =>
  retW x_5)
def H_pinnacelaw11_first : Hints := {}
theorem E_pinnacelaw11_first (l0 : Sl) : denF Try.prog H_pinnacelaw11_first Try.f52 [.agg [.int .u8, .int .i32, .int .i32, .int .i32]] [.slice l0.a l0.n l0.c] = F_pinnacelaw11_first l0 := by kernel_rfl
theorem C_pinnacelaw11_first {R : Type} (l0 : Sl) (K : Res [.agg [.int .u8, .int .i32, .int .i32, .int .i32]] → W R) (Q : R → World → Prop) (w : World) (h : F_pinnacelaw11_first l0 (fun r w => K r Q w) w) : callW Try.prog k_pinnacelaw11_first [.slice l0.a l0.n l0.c] [.agg [.int .u8, .int .i32, .int .i32, .int .i32]] K Q w :=
  den_calls mix Try.func52 H_pinnacelaw11_first (ts := [.agg [.int .u8, .int .i32, .int .i32, .int .i32]]) ⟨by kernel_rfl, trivial⟩ (by rw [Try.ntmps52]; simp) (by rw [E_pinnacelaw11_first]; exact h)

end Go.Proofs.Ytecmpmnaeciapaa
