/-
  Shallow forms of Go functions, printed by a program of this session (wip/gen.py), each equal to the denotation of its code, by the kernel.
-/
import Derived.Test.YtkblnhnjagemlaaGreatK
import Derived.Test.YtkblnhnjagemlaaGreatFQ
set_option linter.unusedVariables false
namespace Go.Proofs.YtkblnhnjagemlaaGreat
open Go Go.Proofs.YtkblnhnjagemlaaGreat.Den


/-! 3 pinnace/pinnacelaw12.QueryWhole -/
def F_pinnacelaw12_QueryWhole (l0 : Sl) : W (Bool) :=
  callW Tryz.prog k_pinnacelaw12_awake [] [.sc .bool] fun (x_1 : Bool) =>
  cond (!x_1)
    (retW false)
    (callW Tryz.prog k_pinnacelaw12_fill [.slice l0.a l0.n l0.c] [.sc .ptr, .sc .ptr] fun (x_2 : (Option Addr) × (Option Addr)) =>
  loopW (σ := Int × Int) (fun K_3 s_4 =>
    cond (decide (s_4.2 < 64))
      (callW Tryz.prog k_query_With [.pointer x_2.1, .int .u8 s_4.2, .int .u8 (IntKind.wrap .u8 (63 - s_4.2))] [.sc .sl] fun (x_5 : Sl) =>
    loopW (σ := Int × Int) (fun K_6 s_7 =>
      cond (decide (s_7.2 < (x_5.n : Int)))
        (idxW x_5.a x_5.n 1 s_7.2 fun x_8 =>
      ld (.sc (.int .u32)) x_8 fun (x_9 : Int) =>
      callW Tryz.prog k_store_Store_Ent [.pointer x_2.1, .int .u32 x_9] [.agg [.int .u32, .sl], .sc (.int .i64)] fun (x_10 : (Int × Sl) × Int) =>
      newW 34 [.int .u32 0, .slice none 0 0] fun e_11 =>
      stoL e_11 [.int .u32 x_10.1.1, .slice x_10.1.2.a x_10.1.2.n x_10.1.2.c] 0 <|
      joinW (σ := Bool) (fun J_12 =>
        cond (x_10.2 != 0)
          (J_12 true)
          (ld (.sc .sl) (Addr.add e_11 1) fun (x_13 : Sl) =>
            callW Tryz.prog k_pinnaceref05_Mask [.slice x_13.a x_13.n x_13.c] [.sc (.int .u8)] fun (x_14 : Int) =>
              J_12 (x_14 != s_4.2)))
      <| fun s_15 =>
      cond s_15
        (retW false)
        (K_6 (IntKind.wrap .i64 (s_7.1 + 1), IntKind.wrap .i64 (s_7.2 + 1))))
        (K_3 (s_7.1, IntKind.wrap .u8 (s_4.2 + 1))))
      (s_4.1, 0))
      (joinW (σ := Bool) (fun J_16 =>
    callW Tryz.prog k_pinnaceref11_List [.pointer x_2.2] [.sc .sl] fun (x_17 : Sl) =>
    cond (s_4.1 == (x_17.n : Int))
      (callW Tryz.prog k_query_Count [.pointer x_2.1, .int .u8 0, .int .u8 0] [.sc (.int .i64)] fun (x_18 : Int) =>
        J_16 (x_18 == s_4.1))
      (J_16 false))
  <| fun s_19 =>
  retW s_19))
    (0, 0))
def H_pinnacelaw12_QueryWhole : Hints := { reg := [(12, [(45, .sc .bool)]), (17, [(2, .sc .bool)])], lop := [(0, [(5, .sc (.int .i64)), (18, .sc (.int .u8))]), (2, [(5, .sc (.int .i64)), (27, .sc (.int .i64))])] }
theorem E_pinnacelaw12_QueryWhole (l0 : Sl) : denF Tryz.prog H_pinnacelaw12_QueryWhole Tryz.f3 [.sc .bool] [.slice l0.a l0.n l0.c] = F_pinnacelaw12_QueryWhole l0 := by kernel_rfl
theorem C_pinnacelaw12_QueryWhole {R : Type} (l0 : Sl) (K : Res [.sc .bool] → W R) (Q : R → World → Prop) (w : World) (h : F_pinnacelaw12_QueryWhole l0 (fun r w => K r Q w) w) : callW Tryz.prog k_pinnacelaw12_QueryWhole [.slice l0.a l0.n l0.c] [.sc .bool] K Q w :=
  den_calls mix Tryz.func3 H_pinnacelaw12_QueryWhole (ts := [.sc .bool]) trivial (by rw [Tryz.ntmps3]; simp) (by rw [E_pinnacelaw12_QueryWhole]; exact h)

/-! 4 pinnace/pinnacelaw12.QuerySums -/
def F_pinnacelaw12_QuerySums (d0 : Sl) (o1 : Int) (p2 : Int) (p3 : Int) (p4 : Int) : W (Bool) :=
  callW Tryz.prog k_pinnacelaw12_awake [] [.sc .bool] fun (x_1 : Bool) =>
  cond (!x_1)
    (retW false)
    (callW Tryz.prog k_pinnacelaw12_fill [.slice d0.a d0.n d0.c] [.sc .ptr, .sc .ptr] fun (x_2 : (Option Addr) × (Option Addr)) =>
  callW Tryz.prog k_query_Sum [.pointer x_2.1, .int .u8 o1, .int .i64 p2] [.sc (.int .i64), .sc (.int .i64)] fun (x_3 : Int × Int) =>
  callW Tryz.prog k_pinnaceref11_List [.pointer x_2.2] [.sc .sl] fun (x_4 : Sl) =>
  callW Tryz.prog k_pinnaceref12_Sum [.slice x_4.a x_4.n x_4.c, .int .u8 o1, .int .i64 p2] [.sc (.int .i64), .sc (.int .i64)] fun (x_5 : Int × Int) =>
  callW Tryz.prog k_query_Nearest [.pointer x_2.1, .int .i32 p3, .int .i32 p4] [.sc (.int .u32), .sc .bool] fun (x_6 : Int × Bool) =>
  callW Tryz.prog k_pinnaceref11_List [.pointer x_2.2] [.sc .sl] fun (x_7 : Sl) =>
  callW Tryz.prog k_pinnaceref12_Nearest [.slice x_7.a x_7.n x_7.c, .int .i32 p3, .int .i32 p4] [.sc (.int .u32), .sc .bool] fun (x_8 : Int × Bool) =>
  callW Tryz.prog k_query_Nearest [.pointer none, .int .i32 p3, .int .i32 p4] [.sc (.int .u32), .sc .bool] fun (x_9 : Int × Bool) =>
  joinW (σ := Bool) (fun J_10 =>
    cond (x_3.1 == x_5.1)
      (cond (x_3.2 == x_5.2)
            (cond (x_6.1 == x_8.1)
                  (cond (x_6.2 == x_8.2)
                        (J_10 (!x_9.2))
                        (J_10 false))
                  (J_10 false))
            (J_10 false))
      (J_10 false))
  <| fun s_11 =>
  retW s_11)
def H_pinnacelaw12_QuerySums : Hints := { reg := [(9, [(10, .sc .bool)])] }
theorem E_pinnacelaw12_QuerySums (d0 : Sl) (o1 : Int) (p2 : Int) (p3 : Int) (p4 : Int) : denF Tryz.prog H_pinnacelaw12_QuerySums Tryz.f4 [.sc .bool] [.slice d0.a d0.n d0.c, .int .u8 o1, .int .i64 p2, .int .i32 p3, .int .i32 p4] = F_pinnacelaw12_QuerySums d0 o1 p2 p3 p4 := by kernel_rfl
theorem C_pinnacelaw12_QuerySums {R : Type} (d0 : Sl) (o1 : Int) (p2 : Int) (p3 : Int) (p4 : Int) (K : Res [.sc .bool] → W R) (Q : R → World → Prop) (w : World) (h : F_pinnacelaw12_QuerySums d0 o1 p2 p3 p4 (fun r w => K r Q w) w) : callW Tryz.prog k_pinnacelaw12_QuerySums [.slice d0.a d0.n d0.c, .int .u8 o1, .int .i64 p2, .int .i32 p3, .int .i32 p4] [.sc .bool] K Q w :=
  den_calls mix Tryz.func4 H_pinnacelaw12_QuerySums (ts := [.sc .bool]) trivial (by rw [Tryz.ntmps4]; simp) (by rw [E_pinnacelaw12_QuerySums]; exact h)

/-! 16 pinnace/pinnacelaw12.awake -/
def F_pinnacelaw12_awake  : W (Bool) :=
  newW 53 [.int .u8 0, .int .i32 0, .int .i32 0, .int .i32 0] fun pos_1 =>
  newW 53 [.int .u8 0, .int .i32 0, .int .i32 0, .int .i32 0] fun life_2 =>
  stoL pos_1 [.int .u8 0, .int .i32 0, .int .i32 0, .int .i32 0] 0 <|
  stoL life_2 [.int .u8 2, .int .i32 0, .int .i32 0, .int .i32 0] 0 <|
  ld (.agg [.int .u8, .int .i32, .int .i32, .int .i32]) pos_1 fun (x_3 : (Int × Int × Int × Int)) =>
  newW 53 [.int .u8 x_3.1, .int .i32 x_3.2.1, .int .i32 x_3.2.2.1, .int .i32 x_3.2.2.2] fun x_4 =>
  ld (.agg [.int .u8, .int .i32, .int .i32, .int .i32]) pos_1 fun (x_5 : (Int × Int × Int × Int)) =>
  ld (.agg [.int .u8, .int .i32, .int .i32, .int .i32]) life_2 fun (x_6 : (Int × Int × Int × Int)) =>
  newW 53 [.int .u8 x_5.1, .int .i32 x_5.2.1, .int .i32 x_5.2.2.1, .int .i32 x_5.2.2.2, .int .u8 x_6.1, .int .i32 x_6.2.1, .int .i32 x_6.2.2.1, .int .i32 x_6.2.2.2] fun x_7 =>
  ld (.agg [.int .u8, .int .i32, .int .i32, .int .i32]) life_2 fun (x_8 : (Int × Int × Int × Int)) =>
  newW 53 [.int .u8 x_8.1, .int .i32 x_8.2.1, .int .i32 x_8.2.2.1, .int .i32 x_8.2.2.2] fun x_9 =>
  newW 122 [.slice (some x_4) 1 1, .bool false, .slice (some x_7) 2 2, .bool false, .slice (some x_9) 1 1, .bool false] fun x_10 =>
  callW Tryz.prog k_pinnacelaw12_fill [.slice (some x_10) 3 3] [.sc .ptr, .sc .ptr] fun (x_11 : (Option Addr) × (Option Addr)) =>
  joinW (σ := Bool) (fun J_12 =>
    callW Tryz.prog k_query_With [.pointer x_11.1, .int .u8 1, .int .u8 0] [.sc .sl] fun (x_13 : Sl) =>
    newW 31 [.int .u32 1024, .int .u32 1025] fun x_14 =>
    callW Tryz.prog k_pinnaceref07_Same [.slice x_13.a x_13.n x_13.c, .slice (some x_14) 2 2] [.sc .bool] fun (x_15 : Bool) =>
    cond x_15
      (callW Tryz.prog k_query_With [.pointer x_11.1, .int .u8 1, .int .u8 4] [.sc .sl] fun (x_16 : Sl) =>
        newW 31 [.int .u32 1024] fun x_17 =>
          callW Tryz.prog k_pinnaceref07_Same [.slice x_16.a x_16.n x_16.c, .slice (some x_17) 1 1] [.sc .bool] fun (x_18 : Bool) =>
            cond x_18
              (callW Tryz.prog k_query_Page [.pointer x_11.1, .int .u8 0, .int .u8 0, .int .i64 1, .int .i64 1] [.sc .sl] fun (x_19 : Sl) =>
                newW 31 [.int .u32 1025] fun x_20 =>
                  callW Tryz.prog k_pinnaceref07_Same [.slice x_19.a x_19.n x_19.c, .slice (some x_20) 1 1] [.sc .bool] fun (x_21 : Bool) =>
                    J_12 x_21)
              (J_12 false))
      (J_12 false))
  <| fun s_22 =>
  retW s_22
def H_pinnacelaw12_awake : Hints := { reg := [(3, [(0, .sc .bool)])] }
theorem E_pinnacelaw12_awake  : denF Tryz.prog H_pinnacelaw12_awake Tryz.f16 [.sc .bool] [] = F_pinnacelaw12_awake := by kernel_rfl
theorem C_pinnacelaw12_awake {R : Type}  (K : Res [.sc .bool] → W R) (Q : R → World → Prop) (w : World) (h : F_pinnacelaw12_awake (fun r w => K r Q w) w) : callW Tryz.prog k_pinnacelaw12_awake [] [.sc .bool] K Q w :=
  den_calls mix Tryz.func16 H_pinnacelaw12_awake (ts := [.sc .bool]) trivial (by rw [Tryz.ntmps16]; simp) (by rw [E_pinnacelaw12_awake]; exact h)

/-! 17 pinnace/pinnacelaw12.fill -/
def F_pinnacelaw12_fill (d0 : Sl) : W ((Option Addr) × (Option Addr)) :=
  callW Tryz.prog k_store_New [.int .i64 60, .int .i64 1] [.sc .ptr, .sc (.int .i64)] fun (x_1 : (Option Addr) × Int) =>
  callW Tryz.prog k_pinnaceref11_New [.int .i64 60, .int .i64 1] [.sc .ptr, .sc (.int .i64)] fun (x_2 : (Option Addr) × Int) =>
  joinW (σ := Sl) (fun J_3 =>
    loopW (σ := Sl × Int) (fun K_4 s_5 =>
      cond (decide (s_5.2 < (d0.n : Int)))
        (idxW d0.a d0.n 2 s_5.2 fun x_6 =>
      ld (.agg [.sl, .bool]) x_6 fun (x_7 : (Sl × Bool)) =>
      newW 122 [.slice none 0 0, .bool false] fun x_8 =>
      stoL x_8 [.slice x_7.1.a x_7.1.n x_7.1.c, .bool x_7.2] 0 <|
      cond (decide (s_5.2 ≥ 60))
        (J_3 s_5.1)
        (ld (.sc .sl) (Addr.add x_8 0) fun (x_9 : Sl) =>
      ld (.sc .sl) (Addr.add x_8 0) fun (x_10 : Sl) =>
      slcW x_9.a x_9.n x_9.c 4 none (some (if 20 < (x_10.n : Int) then 20 else (x_10.n : Int))) fun x_11 =>
      stoL (Addr.add x_8 0) [.slice x_11.a x_11.n x_11.c] 0 <|
      ld (.sc .sl) (Addr.add x_8 0) fun (x_12 : Sl) =>
      callW Tryz.prog k_pinnaceref05_Twin [.slice x_12.a x_12.n x_12.c] [.sc .sl] fun (x_13 : Sl) =>
      callW Tryz.prog k_store_Store_Spawn [.pointer x_1.1, .slice x_13.a x_13.n x_13.c] [.sc (.int .u32), .sc (.int .i64)] fun (x_14 : Int × Int) =>
      ld (.sc .sl) (Addr.add x_8 0) fun (x_15 : Sl) =>
      callW Tryz.prog k_pinnaceref11_Spawn [.pointer x_2.1, .slice x_15.a x_15.n x_15.c] [.sc (.int .u32), .sc (.int .i64)] fun (x_16 : Int × Int) =>
      ld (.sc .bool) (Addr.add x_8 1) fun (x_17 : Bool) =>
      joinW (σ := Sl) (fun J_18 =>
        cond x_17
          (newW 31 [.int .u32 x_16.1] fun x_19 =>
          rawW Tryz.prog (Builtin.append_ #[28, 28] 28 #[.slice s_5.1.a s_5.1.n s_5.1.c, .slice (some x_19) 1 1]) [.sc .sl] fun (x_20 : Sl) =>
          J_18 x_20)
          (J_18 s_5.1))
      <| fun s_21 =>
      K_4 (s_21, IntKind.wrap .i64 (s_5.2 + 1))))
        (J_3 s_5.1))
      ((⟨none, 0, 0⟩ : Sl), 0))
  <| fun s_22 =>
  loopW (σ := Int) (fun K_23 s_24 =>
    cond (decide (s_24 < (s_22.n : Int)))
      (idxW s_22.a s_22.n 1 s_24 fun x_25 =>
    ld (.sc (.int .u32)) x_25 fun (x_26 : Int) =>
    callW Tryz.prog k_store_Store_Despawn [.pointer x_1.1, .int .u32 x_26] [.sc (.int .i64)] fun (x_27 : Int) =>
    callW Tryz.prog k_pinnaceref11_Despawn [.pointer x_2.1, .int .u32 x_26] [.sc (.int .i64)] fun (x_28 : Int) =>
    K_23 (IntKind.wrap .i64 (s_24 + 1)))
      (retW (x_1.1, x_2.1)))
    0
def H_pinnacelaw12_fill : Hints := { con := [(13053, [(8, .sc .sl)])], blk := [(0, [(8, .sc .sl)])], lop := [(0, [(8, .sc .sl), (25, .sc (.int .i64))]), (2, [(61, .sc (.int .i64))])] }
theorem E_pinnacelaw12_fill (d0 : Sl) : denF Tryz.prog H_pinnacelaw12_fill Tryz.f17 [.sc .ptr, .sc .ptr] [.slice d0.a d0.n d0.c] = F_pinnacelaw12_fill d0 := by kernel_rfl
theorem C_pinnacelaw12_fill {R : Type} (d0 : Sl) (K : Res [.sc .ptr, .sc .ptr] → W R) (Q : R → World → Prop) (w : World) (h : F_pinnacelaw12_fill d0 (fun r w => K r Q w) w) : callW Tryz.prog k_pinnacelaw12_fill [.slice d0.a d0.n d0.c] [.sc .ptr, .sc .ptr] K Q w :=
  den_calls mix Tryz.func17 H_pinnacelaw12_fill (ts := [.sc .ptr, .sc .ptr]) trivial (by rw [Tryz.ntmps17]; simp) (by rw [E_pinnacelaw12_fill]; exact h)

end Go.Proofs.YtkblnhnjagemlaaGreat
