/-
  Shallow forms of Go functions, printed by a program of this session (wip/gen.py), each equal to the denotation of its code, by the kernel.
-/
import Derived.Test.YtkblnhnjagemlaaGreatK
import Derived.Test.YtkblnhnjagemlaaGreatF
set_option linter.unusedVariables false
namespace Go.Proofs.YtkblnhnjagemlaaGreat
open Go Go.Proofs.YtkblnhnjagemlaaGreat.Den


/-! 18 pinnace/query.With -/
def F_query_With (s0 : Option Addr) (all1 : Int) (none2 : Int) : W (Sl) :=
  callW Tryz.prog k_query_groups [.pointer s0, .int .u8 all1, .int .u8 none2] [.sc .raw] fun (x_1 : Value) =>
  callW Tryz.prog k_slices_SortedFunc_ID [x_1, .func (.func 76) #[] #[]] [.sc .sl] fun (x_2 : Sl) =>
  retW x_2
def H_query_With : Hints := {}
theorem E_query_With (s0 : Option Addr) (all1 : Int) (none2 : Int) : denF Tryz.prog H_query_With Tryz.f18 [.sc .sl] [.pointer s0, .int .u8 all1, .int .u8 none2] = F_query_With s0 all1 none2 := by kernel_rfl
theorem C_query_With {R : Type} (s0 : Option Addr) (all1 : Int) (none2 : Int) (K : Res [.sc .sl] → W R) (Q : R → World → Prop) (w : World) (h : F_query_With s0 all1 none2 (fun r w => K r Q w) w) : callW Tryz.prog k_query_With [.pointer s0, .int .u8 all1, .int .u8 none2] [.sc .sl] K Q w :=
  den_calls mix Tryz.func18 H_query_With (ts := [.sc .sl]) trivial (by rw [Tryz.ntmps18]; simp) (by rw [E_query_With]; exact h)

/-! 24 pinnace/pinnaceref12.Sum -/
def F_pinnaceref12_Sum (l0 : Sl) (kind1 : Int) (i2 : Int) : W (Int × Int) :=
  callW Tryz.prog k_pinnaceref05_Range [.int .u8 kind1, .int .i64 i2] [.sc (.int .i32), .sc (.int .i32), .sc (.int .i64)] fun (x_1 : Int × Int × Int) =>
  cond (x_1.2.2 != 0)
    (retW (0, x_1.2.2))
    (loopW (σ := Int × Int) (fun K_2 s_3 =>
    cond (decide (s_3.2 < (l0.n : Int)))
      (idxW l0.a l0.n 2 s_3.2 fun x_4 =>
    ld (.agg [.int .u32, .sl]) x_4 fun (x_5 : (Int × Sl)) =>
    newW 34 [.int .u32 0, .slice none 0 0] fun e_6 =>
    stoL e_6 [.int .u32 x_5.1, .slice x_5.2.a x_5.2.n x_5.2.c] 0 <|
    ld (.sc .sl) (Addr.add e_6 1) fun (x_7 : Sl) =>
    callW Tryz.prog k_pinnaceref05_Find [.slice x_7.a x_7.n x_7.c, .int .u8 kind1] [.sc (.int .i64)] fun (x_8 : Int) =>
    joinW (σ := Int) (fun J_9 =>
      cond (decide (x_8 ≥ 0))
        (ld (.sc .sl) (Addr.add e_6 1) fun (x_10 : Sl) =>
        idxW x_10.a x_10.n 4 x_8 fun x_11 =>
        idxW (some (Addr.add x_11 1)) 3 1 i2 fun x_12 =>
        ld (.sc (.int .i32)) x_12 fun (x_13 : Int) =>
        J_9 (IntKind.wrap .i64 (s_3.1 + (IntKind.wrap .i64 x_13))))
        (J_9 s_3.1))
    <| fun s_14 =>
    K_2 (s_14, IntKind.wrap .i64 (s_3.2 + 1)))
      (retW (s_3.1, 0)))
    (0, 0))
def H_pinnaceref12_Sum : Hints := { con := [(11036, [(11, .sc (.int .i64))])], lop := [(0, [(11, .sc (.int .i64)), (27, .sc (.int .i64))])] }
theorem E_pinnaceref12_Sum (l0 : Sl) (kind1 : Int) (i2 : Int) : denF Tryz.prog H_pinnaceref12_Sum Tryz.f24 [.sc (.int .i64), .sc (.int .i64)] [.slice l0.a l0.n l0.c, .int .u8 kind1, .int .i64 i2] = F_pinnaceref12_Sum l0 kind1 i2 := by kernel_rfl
theorem C_pinnaceref12_Sum {R : Type} (l0 : Sl) (kind1 : Int) (i2 : Int) (K : Res [.sc (.int .i64), .sc (.int .i64)] → W R) (Q : R → World → Prop) (w : World) (h : F_pinnaceref12_Sum l0 kind1 i2 (fun r w => K r Q w) w) : callW Tryz.prog k_pinnaceref12_Sum [.slice l0.a l0.n l0.c, .int .u8 kind1, .int .i64 i2] [.sc (.int .i64), .sc (.int .i64)] K Q w :=
  den_calls mix Tryz.func24 H_pinnaceref12_Sum (ts := [.sc (.int .i64), .sc (.int .i64)]) trivial (by rw [Tryz.ntmps24]; simp) (by rw [E_pinnaceref12_Sum]; exact h)

/-! 25 pinnace/query.Nearest -/
def F_query_Nearest (s0 : Option Addr) (x1 : Int) (y2 : Int) : W (Int × Bool) :=
  callW Tryz.prog k_query_With [.pointer s0, .int .u8 1, .int .u8 0] [.sc .sl] fun (x_1 : Sl) =>
  loopW (σ := Int × Int × Int) (fun K_2 s_3 =>
    cond (decide (s_3.2.2 < (x_1.n : Int)))
      (idxW x_1.a x_1.n 1 s_3.2.2 fun x_4 =>
    ld (.sc (.int .u32)) x_4 fun (x_5 : Int) =>
    callW Tryz.prog k_store_Store_Get [.pointer s0, .int .u32 x_5, .int .u8 0] [.agg [.int .u8, .int .i32, .int .i32, .int .i32], .sc (.int .i64)] fun (x_6 : (Int × Int × Int × Int) × Int) =>
    newW 53 [.int .u8 0, .int .i32 0, .int .i32 0, .int .i32 0] fun c_7 =>
    stoL c_7 [.int .u8 x_6.1.1, .int .i32 x_6.1.2.1, .int .i32 x_6.1.2.2.1, .int .i32 x_6.1.2.2.2] 0 <|
    ld (.agg [.int .u8, .int .i32, .int .i32, .int .i32]) c_7 fun (x_8 : (Int × Int × Int × Int)) =>
    callW Tryz.prog k_query_far [.agg ⟨[.int .u8 x_8.1, .int .i32 x_8.2.1, .int .i32 x_8.2.2.1, .int .i32 x_8.2.2.2]⟩, .int .i32 x1, .int .i32 y2] [.sc (.int .u64)] fun (x_9 : Int) =>
    joinW (σ := Bool) (fun J_10 =>
      cond (s_3.1 == 0)
        (J_10 true)
        (J_10 (decide (x_9 < s_3.2.1))))
    <| fun s_11 =>
    joinW (σ := Int × Int) (fun J_12 =>
      cond s_11
        (J_12 (x_5, x_9))
        (J_12 (s_3.1, s_3.2.1)))
    <| fun s_13 =>
    K_2 (s_13.1, s_13.2, IntKind.wrap .i64 (s_3.2.2 + 1)))
      (retW (s_3.1, (s_3.1 != 0))))
    (0, 0, 0)
def H_query_Nearest : Hints := { reg := [(7, [(38, .sc .bool)])], con := [(9038, [(8, .sc (.int .u32)), (9, .sc (.int .u64))])], lop := [(0, [(8, .sc (.int .u32)), (9, .sc (.int .u64)), (18, .sc (.int .i64))])] }
theorem E_query_Nearest (s0 : Option Addr) (x1 : Int) (y2 : Int) : denF Tryz.prog H_query_Nearest Tryz.f25 [.sc (.int .u32), .sc .bool] [.pointer s0, .int .i32 x1, .int .i32 y2] = F_query_Nearest s0 x1 y2 := by kernel_rfl
theorem C_query_Nearest {R : Type} (s0 : Option Addr) (x1 : Int) (y2 : Int) (K : Res [.sc (.int .u32), .sc .bool] → W R) (Q : R → World → Prop) (w : World) (h : F_query_Nearest s0 x1 y2 (fun r w => K r Q w) w) : callW Tryz.prog k_query_Nearest [.pointer s0, .int .i32 x1, .int .i32 y2] [.sc (.int .u32), .sc .bool] K Q w :=
  den_calls mix Tryz.func25 H_query_Nearest (ts := [.sc (.int .u32), .sc .bool]) trivial (by rw [Tryz.ntmps25]; simp) (by rw [E_query_Nearest]; exact h)

/-! 26 pinnace/pinnaceref12.Nearest -/
def F_pinnaceref12_Nearest (d0 : Sl) (o1 : Int) (p2 : Int) : W (Int × Bool) :=
  loopW (σ := Int × Int × Bool × Int) (fun K_1 s_2 =>
    cond (decide (s_2.2.2.2 < (d0.n : Int)))
      (joinW (σ := Int × Int × Bool) (fun J_3 =>
      idxW d0.a d0.n 2 s_2.2.2.2 fun x_4 =>
      ld (.agg [.int .u32, .sl]) x_4 fun (x_5 : (Int × Sl)) =>
      newW 34 [.int .u32 0, .slice none 0 0] fun x_6 =>
      stoL x_6 [.int .u32 x_5.1, .slice x_5.2.a x_5.2.n x_5.2.c] 0 <|
      ld (.sc .sl) (Addr.add x_6 1) fun (x_7 : Sl) =>
      callW Tryz.prog k_pinnaceref05_Find [.slice x_7.a x_7.n x_7.c, .int .u8 0] [.sc (.int .i64)] fun (x_8 : Int) =>
      cond (decide (x_8 < 0))
        (J_3 (s_2.1, s_2.2.1, s_2.2.2.1))
        (drawW <|
      ld (.sc .sl) (Addr.add x_6 1) fun (x_9 : Sl) =>
      idxW x_9.a x_9.n 4 x_8 fun x_10 =>
      idxW (some (Addr.add x_10 1)) 3 1 0 fun x_11 =>
      ld (.sc (.int .i32)) x_11 fun (x_12 : Int) =>
      ld (.sc .sl) (Addr.add x_6 1) fun (x_13 : Sl) =>
      idxW x_13.a x_13.n 4 x_8 fun x_14 =>
      idxW (some (Addr.add x_14 1)) 3 1 1 fun x_15 =>
      ld (.sc (.int .i32)) x_15 fun (x_16 : Int) =>
      joinW (σ := Bool) (fun J_17 =>
        cond (!s_2.2.2.1)
          (J_17 true)
          (J_17 (decide ((IntKind.wrap .u64 ((IntKind.wrap .u64 (IntKind.wrap .i64 ((IntKind.wrap .i64 ((IntKind.wrap .i64 x_12) - (IntKind.wrap .i64 o1))) * (IntKind.wrap .i64 ((IntKind.wrap .i64 x_12) - (IntKind.wrap .i64 o1)))))) + (IntKind.wrap .u64 (IntKind.wrap .i64 ((IntKind.wrap .i64 ((IntKind.wrap .i64 x_16) - (IntKind.wrap .i64 p2))) * (IntKind.wrap .i64 ((IntKind.wrap .i64 x_16) - (IntKind.wrap .i64 p2)))))))) < s_2.2.1))))
      <| fun s_18 =>
      joinW (σ := Int × Int × Bool) (fun J_19 =>
        cond s_18
          (ld (.sc (.int .u32)) (Addr.add x_6 0) fun (x_20 : Int) =>
          J_19 (x_20, IntKind.wrap .u64 ((IntKind.wrap .u64 (IntKind.wrap .i64 ((IntKind.wrap .i64 ((IntKind.wrap .i64 x_12) - (IntKind.wrap .i64 o1))) * (IntKind.wrap .i64 ((IntKind.wrap .i64 x_12) - (IntKind.wrap .i64 o1)))))) + (IntKind.wrap .u64 (IntKind.wrap .i64 ((IntKind.wrap .i64 ((IntKind.wrap .i64 x_16) - (IntKind.wrap .i64 p2))) * (IntKind.wrap .i64 ((IntKind.wrap .i64 x_16) - (IntKind.wrap .i64 p2))))))), true))
          (J_19 (s_2.1, s_2.2.1, s_2.2.2.1)))
      <| fun s_21 =>
      J_3 (s_21.1, s_21.2.1, s_21.2.2)))
    <| fun s_22 =>
    K_1 (s_22.1, s_22.2.1, s_22.2.2, IntKind.wrap .i64 (s_2.2.2.2 + 1)))
      (retW (s_2.1, s_2.2.2.1)))
    (0, 0, false, 0)
def H_pinnaceref12_Nearest : Hints := { reg := [(9, [(65, .sc .bool)])], con := [(11065, [(8, .sc (.int .u32)), (9, .sc (.int .u64)), (10, .sc .bool)])], blk := [(1, [(8, .sc (.int .u32)), (9, .sc (.int .u64)), (10, .sc .bool)])], lop := [(0, [(8, .sc (.int .u32)), (9, .sc (.int .u64)), (10, .sc .bool), (19, .sc (.int .i64))])], dr := [(7, ([], [[(0, []), (1, []), (2, []), (3, []), (4, []), (5, []), (6, []), (7, []), (8, []), (9, []), (10, []), (11, []), (12, []), (13, []), (14, []), (15, []), (16, []), (17, []), (18, []), (19, []), (20, []), (21, []), (22, []), (23, [])]]))] }
theorem E_pinnaceref12_Nearest (d0 : Sl) (o1 : Int) (p2 : Int) : denF Tryz.prog H_pinnaceref12_Nearest Tryz.f26 [.sc (.int .u32), .sc .bool] [.slice d0.a d0.n d0.c, .int .i32 o1, .int .i32 p2] = F_pinnaceref12_Nearest d0 o1 p2 := by kernel_rfl
theorem C_pinnaceref12_Nearest {R : Type} (d0 : Sl) (o1 : Int) (p2 : Int) (K : Res [.sc (.int .u32), .sc .bool] → W R) (Q : R → World → Prop) (w : World) (h : F_pinnaceref12_Nearest d0 o1 p2 (fun r w => K r Q w) w) : callW Tryz.prog k_pinnaceref12_Nearest [.slice d0.a d0.n d0.c, .int .i32 o1, .int .i32 p2] [.sc (.int .u32), .sc .bool] K Q w :=
  den_calls mix Tryz.func26 H_pinnaceref12_Nearest (ts := [.sc (.int .u32), .sc .bool]) trivial (by rw [Tryz.ntmps26]; simp) (by rw [E_pinnaceref12_Nearest]; exact h)

/-! 29 pinnace/systems.Child -/
def F_systems_Child (c0 : (Int × Int × Int × Int)) (at1 : (Int × Int × Int × Int)) (odd2 : Bool) : W (Sl) :=
  newW 53 [.int .u8 c0.1, .int .i32 c0.2.1, .int .i32 c0.2.2.1, .int .i32 c0.2.2.2] fun c_1 =>
  newW 53 [.int .u8 at1.1, .int .i32 at1.2.1, .int .i32 at1.2.2.1, .int .i32 at1.2.2.2] fun at_2 =>
  idxW (some (Addr.add c_1 1)) 3 1 2 fun x_3 =>
  ld (.sc (.int .i32)) x_3 fun (x_4 : Int) =>
  callW Tryz.prog k_fixed_From [.int .i64 (IntKind.wrap .i64 ((IntKind.wrap .i64 x_4) + 1))] [.sc (.int .i32)] fun (x_5 : Int) =>
  callW Tryz.prog k_fixed_Mul [.int .i32 64, .int .i32 x_5] [.sc (.int .i32)] fun (x_6 : Int) =>
  joinW (σ := Int) (fun J_7 =>
    cond odd2
      (callW Tryz.prog k_fixed_Sub [.int .i32 0, .int .i32 x_6] [.sc (.int .i32)] fun (x_8 : Int) =>
      J_7 x_8)
      (J_7 x_6))
  <| fun s_9 =>
  drawW <|
  ld (.agg [.int .u8, .int .i32, .int .i32, .int .i32]) at_2 fun (x_10 : (Int × Int × Int × Int)) =>
  callW Tryz.prog k_fixed_Mul [.int .i32 32, .int .i32 x_5] [.sc (.int .i32)] fun (x_11 : Int) =>
  andW (fun w => Rd w at_2 (.agg [.int .u8, .int .i32, .int .i32, .int .i32]) x_10) <|
  newW 53 [.int .u8 x_10.1, .int .i32 x_10.2.1, .int .i32 x_10.2.2.1, .int .i32 x_10.2.2.2, .int .u8 1, .int .i32 s_9, .int .i32 x_11, .int .i32 0, .int .u8 2, .int .i32 (IntKind.wrap .i32 (30 + (IntKind.wrap .i32 (10 * x_4)))), .int .i32 0, .int .i32 0, .int .u8 3, .int .i32 x_4, .int .i32 100, .int .i32 (IntKind.wrap .i32 (1 + x_4))] fun x_12 =>
  retW (⟨(some x_12), 4, 4⟩ : Sl)
def H_systems_Child : Hints := { con := [(6019, [(9, .sc (.int .i32))])], dr := [(6, ([], [[(0, []), (1, []), (2, []), (6, []), (7, []), (8, []), (9, []), (10, []), (11, []), (12, []), (13, []), (14, []), (15, []), (3, [0]), (4, []), (5, []), (16, []), (17, [])]]))] }
theorem E_systems_Child (c0 : (Int × Int × Int × Int)) (at1 : (Int × Int × Int × Int)) (odd2 : Bool) : denF Tryz.prog H_systems_Child Tryz.f29 [.sc .sl] [.agg ⟨[.int .u8 c0.1, .int .i32 c0.2.1, .int .i32 c0.2.2.1, .int .i32 c0.2.2.2]⟩, .agg ⟨[.int .u8 at1.1, .int .i32 at1.2.1, .int .i32 at1.2.2.1, .int .i32 at1.2.2.2]⟩, .bool odd2] = F_systems_Child c0 at1 odd2 := by kernel_rfl
theorem C_systems_Child {R : Type} (c0 : (Int × Int × Int × Int)) (at1 : (Int × Int × Int × Int)) (odd2 : Bool) (K : Res [.sc .sl] → W R) (Q : R → World → Prop) (w : World) (h : F_systems_Child c0 at1 odd2 (fun r w => K r Q w) w) : callW Tryz.prog k_systems_Child [.agg ⟨[.int .u8 c0.1, .int .i32 c0.2.1, .int .i32 c0.2.2.1, .int .i32 c0.2.2.2]⟩, .agg ⟨[.int .u8 at1.1, .int .i32 at1.2.1, .int .i32 at1.2.2.1, .int .i32 at1.2.2.2]⟩, .bool odd2] [.sc .sl] K Q w :=
  den_calls mix Tryz.func29 H_systems_Child (ts := [.sc .sl]) trivial (by rw [Tryz.ntmps29]; simp) (by rw [E_systems_Child]; exact h)

/-! 31 pinnace/pinnaceref14.Child -/
def F_pinnaceref14_Child (shape0 : Int) (at1 : (Int × Int × Int × Int)) (odd2 : Bool) : W (Sl) :=
  newW 53 [.int .u8 at1.1, .int .i32 at1.2.1, .int .i32 at1.2.2.1, .int .i32 at1.2.2.2] fun at_1 =>
  joinW (σ := Int) (fun J_2 =>
    cond odd2
      (J_2 (IntKind.wrap .i32 (0 - (IntKind.wrap .i32 (64 * (IntKind.wrap .i32 (shape0 + 1)))))))
      (J_2 (IntKind.wrap .i32 (64 * (IntKind.wrap .i32 (shape0 + 1))))))
  <| fun s_3 =>
  ld (.agg [.int .u8, .int .i32, .int .i32, .int .i32]) at_1 fun (x_4 : (Int × Int × Int × Int)) =>
  newW 53 [.int .u8 x_4.1, .int .i32 x_4.2.1, .int .i32 x_4.2.2.1, .int .i32 x_4.2.2.2, .int .u8 1, .int .i32 s_3, .int .i32 (IntKind.wrap .i32 (32 * (IntKind.wrap .i32 (shape0 + 1)))), .int .i32 0, .int .u8 2, .int .i32 (IntKind.wrap .i32 (30 + (IntKind.wrap .i32 (10 * shape0)))), .int .i32 0, .int .i32 0, .int .u8 3, .int .i32 shape0, .int .i32 100, .int .i32 (IntKind.wrap .i32 (1 + shape0))] fun x_5 =>
  retW (⟨(some x_5), 4, 4⟩ : Sl)
def H_pinnaceref14_Child : Hints := { con := [(4011, [(7, .sc (.int .i32))])] }
theorem E_pinnaceref14_Child (shape0 : Int) (at1 : (Int × Int × Int × Int)) (odd2 : Bool) : denF Tryz.prog H_pinnaceref14_Child Tryz.f31 [.sc .sl] [.int .i32 shape0, .agg ⟨[.int .u8 at1.1, .int .i32 at1.2.1, .int .i32 at1.2.2.1, .int .i32 at1.2.2.2]⟩, .bool odd2] = F_pinnaceref14_Child shape0 at1 odd2 := by kernel_rfl
theorem C_pinnaceref14_Child {R : Type} (shape0 : Int) (at1 : (Int × Int × Int × Int)) (odd2 : Bool) (K : Res [.sc .sl] → W R) (Q : R → World → Prop) (w : World) (h : F_pinnaceref14_Child shape0 at1 odd2 (fun r w => K r Q w) w) : callW Tryz.prog k_pinnaceref14_Child [.int .i32 shape0, .agg ⟨[.int .u8 at1.1, .int .i32 at1.2.1, .int .i32 at1.2.2.1, .int .i32 at1.2.2.2]⟩, .bool odd2] [.sc .sl] K Q w :=
  den_calls mix Tryz.func31 H_pinnaceref14_Child (ts := [.sc .sl]) trivial (by rw [Tryz.ntmps31]; simp) (by rw [E_pinnaceref14_Child]; exact h)

/-! 35 pinnace/systems.Move -/
def F_systems_Move (d0 : Option Addr) : W (Sl) :=
  callW Tryz.prog k_query_With [.pointer d0, .int .u8 3, .int .u8 0] [.sc .sl] fun (x_1 : Sl) =>
  loopW (σ := Sl × Int) (fun K_2 s_3 =>
    cond (decide (s_3.2 < (x_1.n : Int)))
      (idxW x_1.a x_1.n 1 s_3.2 fun x_4 =>
    ld (.sc (.int .u32)) x_4 fun (x_5 : Int) =>
    callW Tryz.prog k_store_Store_Get [.pointer d0, .int .u32 x_5, .int .u8 0] [.agg [.int .u8, .int .i32, .int .i32, .int .i32], .sc (.int .i64)] fun (x_6 : (Int × Int × Int × Int) × Int) =>
    newW 53 [.int .u8 0, .int .i32 0, .int .i32 0, .int .i32 0] fun x_7 =>
    stoL x_7 [.int .u8 x_6.1.1, .int .i32 x_6.1.2.1, .int .i32 x_6.1.2.2.1, .int .i32 x_6.1.2.2.2] 0 <|
    callW Tryz.prog k_store_Store_Get [.pointer d0, .int .u32 x_5, .int .u8 1] [.agg [.int .u8, .int .i32, .int .i32, .int .i32], .sc (.int .i64)] fun (x_8 : (Int × Int × Int × Int) × Int) =>
    newW 53 [.int .u8 0, .int .i32 0, .int .i32 0, .int .i32 0] fun x_9 =>
    stoL x_9 [.int .u8 x_8.1.1, .int .i32 x_8.1.2.1, .int .i32 x_8.1.2.2.1, .int .i32 x_8.1.2.2.2] 0 <|
    ld (.agg [.int .u8, .int .i32, .int .i32, .int .i32]) x_7 fun (x_10 : (Int × Int × Int × Int)) =>
    newW 53 [.int .u8 0, .int .i32 0, .int .i32 0, .int .i32 0] fun x_11 =>
    stoL x_11 [.int .u8 x_10.1, .int .i32 x_10.2.1, .int .i32 x_10.2.2.1, .int .i32 x_10.2.2.2] 0 <|
    loopW (σ := Int) (fun K_12 s_13 =>
      cond (decide (s_13 < 2))
        (drawW <|
      idxW (some (Addr.add x_7 1)) 3 1 s_13 fun x_14 =>
      ld (.sc (.int .i32)) x_14 fun (x_15 : Int) =>
      idxW (some (Addr.add x_9 1)) 3 1 s_13 fun x_16 =>
      ld (.sc (.int .i32)) x_16 fun (x_17 : Int) =>
      callW Tryz.prog k_systems_turn [.int .i32 x_15, .int .i32 x_17] [.sc (.int .i32), .sc (.int .i32)] fun (x_18 : Int × Int) =>
      idxW (some (Addr.add x_7 1)) 3 1 s_13 fun x_19 =>
      stoL x_19 [.int .i32 x_18.1] 0 <|
      idxW (some (Addr.add x_9 1)) 3 1 s_13 fun x_20 =>
      stoL x_20 [.int .i32 x_18.2] 0 <|
      K_12 (IntKind.wrap .i64 (s_13 + 1)))
        (ld (.agg [.int .u8, .int .i32, .int .i32, .int .i32]) x_7 fun (x_21 : (Int × Int × Int × Int)) =>
    callW Tryz.prog k_store_Store_Set [.pointer d0, .int .u32 x_5, .agg ⟨[.int .u8 x_21.1, .int .i32 x_21.2.1, .int .i32 x_21.2.2.1, .int .i32 x_21.2.2.2]⟩] [.sc (.int .i64)] fun (x_22 : Int) =>
    ld (.agg [.int .u8, .int .i32, .int .i32, .int .i32]) x_9 fun (x_23 : (Int × Int × Int × Int)) =>
    callW Tryz.prog k_store_Store_Set [.pointer d0, .int .u32 x_5, .agg ⟨[.int .u8 x_23.1, .int .i32 x_23.2.1, .int .i32 x_23.2.2.1, .int .i32 x_23.2.2.2]⟩] [.sc (.int .i64)] fun (x_24 : Int) =>
    ld (.agg [.int .u8, .int .i32, .int .i32, .int .i32]) x_7 fun (x_25 : (Int × Int × Int × Int)) =>
    ld (.agg [.int .u8, .int .i32, .int .i32, .int .i32]) x_11 fun (x_26 : (Int × Int × Int × Int)) =>
    rawQ Tryz.prog (do Go.eqGuard .neq 53 (.tmp 62) (.tmp 63) (.agg ⟨[.int .u8 x_25.1, .int .i32 x_25.2.1, .int .i32 x_25.2.2.1, .int .i32 x_25.2.2.2]⟩) (.agg ⟨[.int .u8 x_26.1, .int .i32 x_26.2.1, .int .i32 x_26.2.2.1, .int .i32 x_26.2.2.2]⟩); Go.binOp .neq 53 (.agg ⟨[.int .u8 x_25.1, .int .i32 x_25.2.1, .int .i32 x_25.2.2.1, .int .i32 x_25.2.2.2]⟩) (.agg ⟨[.int .u8 x_26.1, .int .i32 x_26.2.1, .int .i32 x_26.2.2.1, .int .i32 x_26.2.2.2]⟩)) [.sc .bool] fun (x_27 : Bool) =>
    joinW (σ := Sl) (fun J_28 =>
      cond x_27
        (newW 31 [.int .u32 x_5] fun x_29 =>
        rawW Tryz.prog (Builtin.append_ #[28, 28] 28 #[.slice s_3.1.a s_3.1.n s_3.1.c, .slice (some x_29) 1 1]) [.sc .sl] fun (x_30 : Sl) =>
        J_28 x_30)
        (J_28 s_3.1))
    <| fun s_31 =>
    K_2 (s_31, IntKind.wrap .i64 (s_3.2 + 1))))
      0)
      (retW s_3.1))
    ((⟨none, 0, 0⟩ : Sl), 0)
def H_systems_Move : Hints := { con := [(17064, [(3, .sc .sl)])], lop := [(0, [(3, .sc .sl), (15, .sc (.int .i64))]), (2, [(32, .sc (.int .i64))])], dr := [(11, ([], [[(0, []), (1, []), (2, []), (3, []), (4, []), (5, []), (6, []), (7, []), (8, []), (9, []), (14, []), (17, []), (10, []), (11, []), (12, []), (13, []), (15, []), (16, []), (18, []), (19, [])]]))] }
theorem E_systems_Move (d0 : Option Addr) : denF Tryz.prog H_systems_Move Tryz.f35 [.sc .sl] [.pointer d0] = F_systems_Move d0 := by kernel_rfl
theorem C_systems_Move {R : Type} (d0 : Option Addr) (K : Res [.sc .sl] → W R) (Q : R → World → Prop) (w : World) (h : F_systems_Move d0 (fun r w => K r Q w) w) : callW Tryz.prog k_systems_Move [.pointer d0] [.sc .sl] K Q w :=
  den_calls mix Tryz.func35 H_systems_Move (ts := [.sc .sl]) trivial (by rw [Tryz.ntmps35]; simp) (by rw [E_systems_Move]; exact h)

/-! 36 pinnace/pinnaceref14.Move -/
def F_pinnaceref14_Move (d0 : Option Addr) : W (Sl) :=
  callW Tryz.prog k_pinnaceref11_List [.pointer d0] [.sc .sl] fun (x_1 : Sl) =>
  loopW (σ := Sl × Int) (fun K_2 s_3 =>
    cond (decide (s_3.2 < (x_1.n : Int)))
      (joinW (σ := Sl) (fun J_4 =>
      idxW x_1.a x_1.n 2 s_3.2 fun x_5 =>
      ld (.agg [.int .u32, .sl]) x_5 fun (x_6 : (Int × Sl)) =>
      newW 34 [.int .u32 0, .slice none 0 0] fun x_7 =>
      stoL x_7 [.int .u32 x_6.1, .slice x_6.2.a x_6.2.n x_6.2.c] 0 <|
      drawW <|
      ld (.sc .sl) (Addr.add x_7 1) fun (x_8 : Sl) =>
      ld (.sc .sl) (Addr.add x_7 1) fun (x_9 : Sl) =>
      callW Tryz.prog k_pinnaceref05_Find [.slice x_8.a x_8.n x_8.c, .int .u8 0] [.sc (.int .i64)] fun (x_10 : Int) =>
      andW (fun w => Rd w (Addr.add x_7 1) (.sc .sl) x_9) <|
      callW Tryz.prog k_pinnaceref05_Find [.slice x_9.a x_9.n x_9.c, .int .u8 1] [.sc (.int .i64)] fun (x_11 : Int) =>
      joinW (σ := Bool) (fun J_12 =>
        cond (decide (x_10 < 0))
          (J_12 true)
          (J_12 (decide (x_11 < 0))))
      <| fun s_13 =>
      cond s_13
        (J_4 s_3.1)
        (joinW (σ := (Option Addr) × (Option Addr)) (fun J_14 =>
        drawW <|
        bothW
          (ld (.sc .sl) (Addr.add x_7 1) fun (x_15 : Sl) =>
          idxW x_15.a x_15.n 4 x_10 fun x_16 =>
          ld (.agg [.int .u8, .int .i32, .int .i32, .int .i32]) x_16 fun (x_17 : (Int × Int × Int × Int)) =>
          ld (.sc .sl) (Addr.add x_7 1) fun (x_18 : Sl) =>
          idxW x_18.a x_18.n 4 x_11 fun x_19 =>
          ld (.agg [.int .u8, .int .i32, .int .i32, .int .i32]) x_19 fun (x_20 : (Int × Int × Int × Int)) =>
          newW 53 [.int .u8 0, .int .i32 0, .int .i32 0, .int .i32 0] fun x_21 =>
          newW 53 [.int .u8 0, .int .i32 0, .int .i32 0, .int .i32 0] fun x_22 =>
          stoL x_21 [.int .u8 x_17.1, .int .i32 x_17.2.1, .int .i32 x_17.2.2.1, .int .i32 x_17.2.2.2] 0 <|
          andW (fun w => Rd w x_19 (.agg [.int .u8, .int .i32, .int .i32, .int .i32]) x_20) <|
          andW (fun w => Rd w (Addr.add x_7 1) (.sc .sl) x_18) <|
          stoL x_22 [.int .u8 x_20.1, .int .i32 x_20.2.1, .int .i32 x_20.2.2.1, .int .i32 x_20.2.2.2] 0 <|
          J_14 ((some x_21), (some x_22)))
          (ld (.sc .sl) (Addr.add x_7 1) fun (x_23 : Sl) =>
          idxW x_23.a x_23.n 4 x_10 fun x_24 =>
          ld (.agg [.int .u8, .int .i32, .int .i32, .int .i32]) x_24 fun (x_25 : (Int × Int × Int × Int)) =>
          ld (.sc .sl) (Addr.add x_7 1) fun (x_26 : Sl) =>
          idxW x_26.a x_26.n 4 x_11 fun x_27 =>
          ld (.agg [.int .u8, .int .i32, .int .i32, .int .i32]) x_27 fun (x_28 : (Int × Int × Int × Int)) =>
          newW 53 [.int .u8 0, .int .i32 0, .int .i32 0, .int .i32 0] fun x_29 =>
          newW 53 [.int .u8 0, .int .i32 0, .int .i32 0, .int .i32 0] fun x_30 =>
          stoL x_30 [.int .u8 x_25.1, .int .i32 x_25.2.1, .int .i32 x_25.2.2.1, .int .i32 x_25.2.2.2] 0 <|
          andW (fun w => Rd w x_27 (.agg [.int .u8, .int .i32, .int .i32, .int .i32]) x_28) <|
          andW (fun w => Rd w (Addr.add x_7 1) (.sc .sl) x_26) <|
          stoL x_29 [.int .u8 x_28.1, .int .i32 x_28.2.1, .int .i32 x_28.2.2.1, .int .i32 x_28.2.2.2] 0 <|
          J_14 ((some x_30), (some x_29))))
      <| fun s_31 =>
      ptrW s_31.1 fun x_32 =>
      idxW (some (Addr.add x_32 1)) 3 1 0 fun x_33 =>
      ld (.sc (.int .i32)) x_33 fun (x_34 : Int) =>
      ptrW s_31.2 fun x_35 =>
      idxW (some (Addr.add x_35 1)) 3 1 0 fun x_36 =>
      ld (.sc (.int .i32)) x_36 fun (x_37 : Int) =>
      callW Tryz.prog k_pinnaceref14_turn [.int .i32 x_34, .int .i32 x_37] [.sc (.int .i32), .sc (.int .i32)] fun (x_38 : Int × Int) =>
      ptrW s_31.1 fun x_39 =>
      idxW (some (Addr.add x_39 1)) 3 1 1 fun x_40 =>
      ld (.sc (.int .i32)) x_40 fun (x_41 : Int) =>
      ptrW s_31.2 fun x_42 =>
      idxW (some (Addr.add x_42 1)) 3 1 1 fun x_43 =>
      ld (.sc (.int .i32)) x_43 fun (x_44 : Int) =>
      callW Tryz.prog k_pinnaceref14_turn [.int .i32 x_41, .int .i32 x_44] [.sc (.int .i32), .sc (.int .i32)] fun (x_45 : Int × Int) =>
      joinW (σ := Bool) (fun J_46 =>
        ptrW s_31.1 fun x_47 =>
        idxW (some (Addr.add x_47 1)) 3 1 0 fun x_48 =>
        ld (.sc (.int .i32)) x_48 fun (x_49 : Int) =>
        cond (x_38.1 != x_49)
          (J_46 true)
          (ptrW s_31.1 fun x_50 =>
            idxW (some (Addr.add x_50 1)) 3 1 1 fun x_51 =>
              ld (.sc (.int .i32)) x_51 fun (x_52 : Int) =>
                J_46 (x_45.1 != x_52)))
      <| fun s_53 =>
      joinW (σ := Sl) (fun J_54 =>
        cond s_53
          (ld (.sc (.int .u32)) (Addr.add x_7 0) fun (x_55 : Int) =>
          newW 31 [.int .u32 x_55] fun x_56 =>
          rawW Tryz.prog (Builtin.append_ #[28, 28] 28 #[.slice s_3.1.a s_3.1.n s_3.1.c, .slice (some x_56) 1 1]) [.sc .sl] fun (x_57 : Sl) =>
          J_54 x_57)
          (J_54 s_3.1))
      <| fun s_58 =>
      ld (.sc (.int .u32)) (Addr.add x_7 0) fun (x_59 : Int) =>
      callW Tryz.prog k_pinnaceref11_Set [.pointer d0, .int .u32 x_59, .agg ⟨[.int .u8 0, .int .i32 x_38.1, .int .i32 x_45.1, .int .i32 0]⟩] [.sc (.int .i64)] fun (x_60 : Int) =>
      ld (.sc (.int .u32)) (Addr.add x_7 0) fun (x_61 : Int) =>
      callW Tryz.prog k_pinnaceref11_Set [.pointer d0, .int .u32 x_61, .agg ⟨[.int .u8 1, .int .i32 x_38.2, .int .i32 x_45.2, .int .i32 0]⟩] [.sc (.int .i64)] fun (x_62 : Int) =>
      J_4 s_58))
    <| fun s_63 =>
    K_2 (s_63, IntKind.wrap .i64 (s_3.2 + 1)))
      (retW s_3.1))
    ((⟨none, 0, 0⟩ : Sl), 0)
def H_pinnaceref14_Move : Hints := { reg := [(6, [(32, .sc .bool)]), (7, [(8, .sc .ptr), (9, .sc .ptr)]), (10, [(74, .sc .bool)])], con := [(12074, [(3, .sc .sl)])], blk := [(1, [(3, .sc .sl)])], lop := [(0, [(3, .sc .sl), (17, .sc (.int .i64))])], dr := [(5, ([], [[(0, []), (1, []), (3, []), (4, []), (2, [4]), (5, []), (6, []), (7, [])]])), (7, ([(10, 11)], [[(0, []), (1, []), (2, []), (3, []), (4, []), (5, []), (6, []), (7, []), (8, []), (9, []), (10, []), (11, []), (12, [6, 9]), (13, [])], [(0, []), (1, []), (2, []), (3, []), (4, []), (5, []), (6, []), (7, []), (8, []), (9, []), (11, []), (10, []), (12, [6, 9]), (13, [])]]))] }
set_option maxRecDepth 100000 in
theorem E_pinnaceref14_Move (d0 : Option Addr) : denF Tryz.prog H_pinnaceref14_Move Tryz.f36 [.sc .sl] [.pointer d0] = F_pinnaceref14_Move d0 := by kernel_rfl
theorem C_pinnaceref14_Move {R : Type} (d0 : Option Addr) (K : Res [.sc .sl] → W R) (Q : R → World → Prop) (w : World) (h : F_pinnaceref14_Move d0 (fun r w => K r Q w) w) : callW Tryz.prog k_pinnaceref14_Move [.pointer d0] [.sc .sl] K Q w :=
  den_calls mix Tryz.func36 H_pinnaceref14_Move (ts := [.sc .sl]) trivial (by rw [Tryz.ntmps36]; simp) (by rw [E_pinnaceref14_Move]; exact h)

/-! 38 pinnace/systems.Age -/
def F_systems_Age (s0 : Option Addr) : W (Sl) :=
  callW Tryz.prog k_query_With [.pointer s0, .int .u8 4, .int .u8 0] [.sc .sl] fun (x_1 : Sl) =>
  loopW (σ := Sl × Int) (fun K_2 s_3 =>
    cond (decide (s_3.2 < (x_1.n : Int)))
      (joinW (σ := Sl) (fun J_4 =>
      idxW x_1.a x_1.n 1 s_3.2 fun x_5 =>
      ld (.sc (.int .u32)) x_5 fun (x_6 : Int) =>
      callW Tryz.prog k_store_Store_Get [.pointer s0, .int .u32 x_6, .int .u8 2] [.agg [.int .u8, .int .i32, .int .i32, .int .i32], .sc (.int .i64)] fun (x_7 : (Int × Int × Int × Int) × Int) =>
      newW 53 [.int .u8 0, .int .i32 0, .int .i32 0, .int .i32 0] fun c_8 =>
      stoL c_8 [.int .u8 x_7.1.1, .int .i32 x_7.1.2.1, .int .i32 x_7.1.2.2.1, .int .i32 x_7.1.2.2.2] 0 <|
      idxW (some (Addr.add c_8 1)) 3 1 0 fun x_9 =>
      ld (.sc (.int .i32)) x_9 fun (x_10 : Int) =>
      cond (x_10 == 0)
        (callW Tryz.prog k_store_Store_Despawn [.pointer s0, .int .u32 x_6] [.sc (.int .i64)] fun (x_11 : Int) =>
        newW 31 [.int .u32 x_6] fun x_12 =>
        rawW Tryz.prog (Builtin.append_ #[28, 28] 28 #[.slice s_3.1.a s_3.1.n s_3.1.c, .slice (some x_12) 1 1]) [.sc .sl] fun (x_13 : Sl) =>
        J_4 x_13)
        (idxW (some (Addr.add c_8 1)) 3 1 0 fun x_14 =>
      ld (.sc (.int .i32)) x_14 fun (x_15 : Int) =>
      idxW (some (Addr.add c_8 1)) 3 1 0 fun x_16 =>
      stoL x_16 [.int .i32 (IntKind.wrap .i32 (x_15 - 1))] 0 <|
      ld (.agg [.int .u8, .int .i32, .int .i32, .int .i32]) c_8 fun (x_17 : (Int × Int × Int × Int)) =>
      callW Tryz.prog k_store_Store_Set [.pointer s0, .int .u32 x_6, .agg ⟨[.int .u8 x_17.1, .int .i32 x_17.2.1, .int .i32 x_17.2.2.1, .int .i32 x_17.2.2.2]⟩] [.sc (.int .i64)] fun (x_18 : Int) =>
      J_4 s_3.1))
    <| fun s_19 =>
    K_2 (s_19, IntKind.wrap .i64 (s_3.2 + 1)))
      (retW s_3.1))
    ((⟨none, 0, 0⟩ : Sl), 0)
def H_systems_Age : Hints := { blk := [(1, [(3, .sc .sl)])], lop := [(0, [(3, .sc .sl), (11, .sc (.int .i64))])] }
theorem E_systems_Age (s0 : Option Addr) : denF Tryz.prog H_systems_Age Tryz.f38 [.sc .sl] [.pointer s0] = F_systems_Age s0 := by kernel_rfl
theorem C_systems_Age {R : Type} (s0 : Option Addr) (K : Res [.sc .sl] → W R) (Q : R → World → Prop) (w : World) (h : F_systems_Age s0 (fun r w => K r Q w) w) : callW Tryz.prog k_systems_Age [.pointer s0] [.sc .sl] K Q w :=
  den_calls mix Tryz.func38 H_systems_Age (ts := [.sc .sl]) trivial (by rw [Tryz.ntmps38]; simp) (by rw [E_systems_Age]; exact h)

/-! 39 pinnace/pinnaceref14.Age -/
def F_pinnaceref14_Age (s0 : Option Addr) : W (Sl) :=
  callW Tryz.prog k_pinnaceref11_List [.pointer s0] [.sc .sl] fun (x_1 : Sl) =>
  loopW (σ := Sl × Int) (fun K_2 s_3 =>
    cond (decide (s_3.2 < (x_1.n : Int)))
      (joinW (σ := Sl) (fun J_4 =>
      idxW x_1.a x_1.n 2 s_3.2 fun x_5 =>
      ld (.agg [.int .u32, .sl]) x_5 fun (x_6 : (Int × Sl)) =>
      newW 34 [.int .u32 0, .slice none 0 0] fun e_7 =>
      stoL e_7 [.int .u32 x_6.1, .slice x_6.2.a x_6.2.n x_6.2.c] 0 <|
      ld (.sc .sl) (Addr.add e_7 1) fun (x_8 : Sl) =>
      callW Tryz.prog k_pinnaceref05_Find [.slice x_8.a x_8.n x_8.c, .int .u8 2] [.sc (.int .i64)] fun (x_9 : Int) =>
      cond (decide (x_9 < 0))
        (J_4 s_3.1)
        (ld (.sc .sl) (Addr.add e_7 1) fun (x_10 : Sl) =>
      idxW x_10.a x_10.n 4 x_9 fun x_11 =>
      idxW (some (Addr.add x_11 1)) 3 1 0 fun x_12 =>
      ld (.sc (.int .i32)) x_12 fun (x_13 : Int) =>
      joinW (σ := Sl) (fun J_14 =>
        cond (decide (x_13 > 0))
          (ld (.sc (.int .u32)) (Addr.add e_7 0) fun (x_15 : Int) =>
          callW Tryz.prog k_pinnaceref11_Set [.pointer s0, .int .u32 x_15, .agg ⟨[.int .u8 2, .int .i32 (IntKind.wrap .i32 (x_13 - 1)), .int .i32 0, .int .i32 0]⟩] [.sc (.int .i64)] fun (x_16 : Int) =>
          J_14 s_3.1)
          (ld (.sc (.int .u32)) (Addr.add e_7 0) fun (x_17 : Int) =>
          callW Tryz.prog k_pinnaceref11_Despawn [.pointer s0, .int .u32 x_17] [.sc (.int .i64)] fun (x_18 : Int) =>
          ld (.sc (.int .u32)) (Addr.add e_7 0) fun (x_19 : Int) =>
          newW 31 [.int .u32 x_19] fun x_20 =>
          rawW Tryz.prog (Builtin.append_ #[28, 28] 28 #[.slice s_3.1.a s_3.1.n s_3.1.c, .slice (some x_20) 1 1]) [.sc .sl] fun (x_21 : Sl) =>
          J_14 x_21))
      <| fun s_22 =>
      J_4 s_22))
    <| fun s_23 =>
    K_2 (s_23, IntKind.wrap .i64 (s_3.2 + 1)))
      (retW s_3.1))
    ((⟨none, 0, 0⟩ : Sl), 0)
def H_pinnaceref14_Age : Hints := { con := [(10028, [(3, .sc .sl)])], blk := [(1, [(3, .sc .sl)])], lop := [(0, [(3, .sc .sl), (11, .sc (.int .i64))])] }
theorem E_pinnaceref14_Age (s0 : Option Addr) : denF Tryz.prog H_pinnaceref14_Age Tryz.f39 [.sc .sl] [.pointer s0] = F_pinnaceref14_Age s0 := by kernel_rfl
theorem C_pinnaceref14_Age {R : Type} (s0 : Option Addr) (K : Res [.sc .sl] → W R) (Q : R → World → Prop) (w : World) (h : F_pinnaceref14_Age s0 (fun r w => K r Q w) w) : callW Tryz.prog k_pinnaceref14_Age [.pointer s0] [.sc .sl] K Q w :=
  den_calls mix Tryz.func39 H_pinnaceref14_Age (ts := [.sc .sl]) trivial (by rw [Tryz.ntmps39]; simp) (by rw [E_pinnaceref14_Age]; exact h)

/-! 40 pinnace/systems.Breed -/
def F_systems_Breed (d0 : Option Addr) : W (Sl) :=
  callW Tryz.prog k_query_With [.pointer d0, .int .u8 33, .int .u8 0] [.sc .sl] fun (x_1 : Sl) =>
  loopW (σ := Sl × Int) (fun K_2 s_3 =>
    cond (decide (s_3.2 < (x_1.n : Int)))
      (joinW (σ := Sl) (fun J_4 =>
      idxW x_1.a x_1.n 1 s_3.2 fun x_5 =>
      ld (.sc (.int .u32)) x_5 fun (x_6 : Int) =>
      callW Tryz.prog k_store_Store_Get [.pointer d0, .int .u32 x_6, .int .u8 5] [.agg [.int .u8, .int .i32, .int .i32, .int .i32], .sc (.int .i64)] fun (x_7 : (Int × Int × Int × Int) × Int) =>
      newW 53 [.int .u8 0, .int .i32 0, .int .i32 0, .int .i32 0] fun x_8 =>
      stoL x_8 [.int .u8 x_7.1.1, .int .i32 x_7.1.2.1, .int .i32 x_7.1.2.2.1, .int .i32 x_7.1.2.2.2] 0 <|
      idxW (some (Addr.add x_8 1)) 3 1 1 fun x_9 =>
      ld (.sc (.int .i32)) x_9 fun (x_10 : Int) =>
      cond (decide (x_10 > 0))
        (idxW (some (Addr.add x_8 1)) 3 1 1 fun x_11 =>
        ld (.sc (.int .i32)) x_11 fun (x_12 : Int) =>
        idxW (some (Addr.add x_8 1)) 3 1 1 fun x_13 =>
        stoL x_13 [.int .i32 (IntKind.wrap .i32 (x_12 - 1))] 0 <|
        ld (.agg [.int .u8, .int .i32, .int .i32, .int .i32]) x_8 fun (x_14 : (Int × Int × Int × Int)) =>
        callW Tryz.prog k_store_Store_Set [.pointer d0, .int .u32 x_6, .agg ⟨[.int .u8 x_14.1, .int .i32 x_14.2.1, .int .i32 x_14.2.2.1, .int .i32 x_14.2.2.2]⟩] [.sc (.int .i64)] fun (x_15 : Int) =>
        J_4 s_3.1)
        (callW Tryz.prog k_store_Store_Get [.pointer d0, .int .u32 x_6, .int .u8 0] [.agg [.int .u8, .int .i32, .int .i32, .int .i32], .sc (.int .i64)] fun (x_16 : (Int × Int × Int × Int) × Int) =>
      newW 53 [.int .u8 0, .int .i32 0, .int .i32 0, .int .i32 0] fun x_17 =>
      stoL x_17 [.int .u8 x_16.1.1, .int .i32 x_16.1.2.1, .int .i32 x_16.1.2.2.1, .int .i32 x_16.1.2.2.2] 0 <|
      drawW <|
      ld (.agg [.int .u8, .int .i32, .int .i32, .int .i32]) x_8 fun (x_18 : (Int × Int × Int × Int)) =>
      ld (.agg [.int .u8, .int .i32, .int .i32, .int .i32]) x_17 fun (x_19 : (Int × Int × Int × Int)) =>
      callW Tryz.prog k_slots_Slot [.int .u32 x_6] [.sc (.int .i64)] fun (x_20 : Int) =>
      andW (fun w => Rd w x_17 (.agg [.int .u8, .int .i32, .int .i32, .int .i32]) x_19) <|
      andW (fun w => Rd w x_8 (.agg [.int .u8, .int .i32, .int .i32, .int .i32]) x_18) <|
      callW Tryz.prog k_systems_Child [.agg ⟨[.int .u8 x_18.1, .int .i32 x_18.2.1, .int .i32 x_18.2.2.1, .int .i32 x_18.2.2.2]⟩, .agg ⟨[.int .u8 x_19.1, .int .i32 x_19.2.1, .int .i32 x_19.2.2.1, .int .i32 x_19.2.2.2]⟩, .bool ((Int.tmod x_20 2) == 1)] [.sc .sl] fun (x_21 : Sl) =>
      callW Tryz.prog k_store_Store_Spawn [.pointer d0, .slice x_21.a x_21.n x_21.c] [.sc (.int .u32), .sc (.int .i64)] fun (x_22 : Int × Int) =>
      cond (x_22.2 != 0)
        (J_4 s_3.1)
        (idxW (some (Addr.add x_8 1)) 3 1 0 fun x_23 =>
      ld (.sc (.int .i32)) x_23 fun (x_24 : Int) =>
      idxW (some (Addr.add x_8 1)) 3 1 1 fun x_25 =>
      stoL x_25 [.int .i32 (IntKind.wrap .i32 (x_24 - 1))] 0 <|
      ld (.agg [.int .u8, .int .i32, .int .i32, .int .i32]) x_8 fun (x_26 : (Int × Int × Int × Int)) =>
      callW Tryz.prog k_store_Store_Set [.pointer d0, .int .u32 x_6, .agg ⟨[.int .u8 x_26.1, .int .i32 x_26.2.1, .int .i32 x_26.2.2.1, .int .i32 x_26.2.2.2]⟩] [.sc (.int .i64)] fun (x_27 : Int) =>
      newW 31 [.int .u32 x_22.1] fun x_28 =>
      rawW Tryz.prog (Builtin.append_ #[28, 28] 28 #[.slice s_3.1.a s_3.1.n s_3.1.c, .slice (some x_28) 1 1]) [.sc .sl] fun (x_29 : Sl) =>
      J_4 x_29)))
    <| fun s_30 =>
    K_2 (s_30, IntKind.wrap .i64 (s_3.2 + 1)))
      (retW s_3.1))
    ((⟨none, 0, 0⟩ : Sl), 0)
def H_systems_Breed : Hints := { blk := [(1, [(3, .sc .sl)])], lop := [(0, [(3, .sc .sl), (15, .sc (.int .i64))])], dr := [(10, ([], [[(0, []), (1, []), (2, []), (3, []), (4, [1, 2]), (5, []), (6, []), (7, []), (8, []), (9, []), (10, []), (11, []), (12, []), (13, [])]]))] }
theorem E_systems_Breed (d0 : Option Addr) : denF Tryz.prog H_systems_Breed Tryz.f40 [.sc .sl] [.pointer d0] = F_systems_Breed d0 := by kernel_rfl
theorem C_systems_Breed {R : Type} (d0 : Option Addr) (K : Res [.sc .sl] → W R) (Q : R → World → Prop) (w : World) (h : F_systems_Breed d0 (fun r w => K r Q w) w) : callW Tryz.prog k_systems_Breed [.pointer d0] [.sc .sl] K Q w :=
  den_calls mix Tryz.func40 H_systems_Breed (ts := [.sc .sl]) trivial (by rw [Tryz.ntmps40]; simp) (by rw [E_systems_Breed]; exact h)

/-! 42 pinnace/pinnaceref14.Breed -/
def F_pinnaceref14_Breed (d0 : Option Addr) : W (Sl) :=
  callW Tryz.prog k_pinnaceref11_List [.pointer d0] [.sc .sl] fun (x_1 : Sl) =>
  loopW (σ := Sl × Int) (fun K_2 s_3 =>
    cond (decide (s_3.2 < (x_1.n : Int)))
      (joinW (σ := Sl) (fun J_4 =>
      idxW x_1.a x_1.n 2 s_3.2 fun x_5 =>
      ld (.agg [.int .u32, .sl]) x_5 fun (x_6 : (Int × Sl)) =>
      newW 34 [.int .u32 0, .slice none 0 0] fun x_7 =>
      stoL x_7 [.int .u32 x_6.1, .slice x_6.2.a x_6.2.n x_6.2.c] 0 <|
      drawW <|
      ld (.sc .sl) (Addr.add x_7 1) fun (x_8 : Sl) =>
      ld (.sc .sl) (Addr.add x_7 1) fun (x_9 : Sl) =>
      callW Tryz.prog k_pinnaceref05_Find [.slice x_8.a x_8.n x_8.c, .int .u8 5] [.sc (.int .i64)] fun (x_10 : Int) =>
      andW (fun w => Rd w (Addr.add x_7 1) (.sc .sl) x_9) <|
      callW Tryz.prog k_pinnaceref05_Find [.slice x_9.a x_9.n x_9.c, .int .u8 0] [.sc (.int .i64)] fun (x_11 : Int) =>
      joinW (σ := Bool) (fun J_12 =>
        cond (decide (x_10 < 0))
          (J_12 true)
          (J_12 (decide (x_11 < 0))))
      <| fun s_13 =>
      cond s_13
        (J_4 s_3.1)
        (ld (.sc .sl) (Addr.add x_7 1) fun (x_14 : Sl) =>
      idxW x_14.a x_14.n 4 x_10 fun x_15 =>
      ld (.agg [.int .u8, .int .i32, .int .i32, .int .i32]) x_15 fun (x_16 : (Int × Int × Int × Int)) =>
      newW 53 [.int .u8 0, .int .i32 0, .int .i32 0, .int .i32 0] fun x_17 =>
      stoL x_17 [.int .u8 x_16.1, .int .i32 x_16.2.1, .int .i32 x_16.2.2.1, .int .i32 x_16.2.2.2] 0 <|
      idxW (some (Addr.add x_17 1)) 3 1 1 fun x_18 =>
      ld (.sc (.int .i32)) x_18 fun (x_19 : Int) =>
      cond (decide (x_19 > 0))
        (idxW (some (Addr.add x_17 1)) 3 1 1 fun x_20 =>
        ld (.sc (.int .i32)) x_20 fun (x_21 : Int) =>
        idxW (some (Addr.add x_17 1)) 3 1 1 fun x_22 =>
        stoL x_22 [.int .i32 (IntKind.wrap .i32 (x_21 - 1))] 0 <|
        ld (.sc (.int .u32)) (Addr.add x_7 0) fun (x_23 : Int) =>
        ld (.agg [.int .u8, .int .i32, .int .i32, .int .i32]) x_17 fun (x_24 : (Int × Int × Int × Int)) =>
        callW Tryz.prog k_pinnaceref11_Set [.pointer d0, .int .u32 x_23, .agg ⟨[.int .u8 x_24.1, .int .i32 x_24.2.1, .int .i32 x_24.2.2.1, .int .i32 x_24.2.2.2]⟩] [.sc (.int .i64)] fun (x_25 : Int) =>
        J_4 s_3.1)
        (drawW <|
      idxW (some (Addr.add x_17 1)) 3 1 2 fun x_26 =>
      ld (.sc (.int .i32)) x_26 fun (x_27 : Int) =>
      ld (.sc .sl) (Addr.add x_7 1) fun (x_28 : Sl) =>
      idxW x_28.a x_28.n 4 x_11 fun x_29 =>
      ld (.agg [.int .u8, .int .i32, .int .i32, .int .i32]) x_29 fun (x_30 : (Int × Int × Int × Int)) =>
      ld (.sc (.int .u32)) (Addr.add x_7 0) fun (x_31 : Int) =>
      callW Tryz.prog k_pinnaceref07_Slot [.int .u32 x_31] [.sc (.int .i64)] fun (x_32 : Int) =>
      andW (fun w => Rd w x_29 (.agg [.int .u8, .int .i32, .int .i32, .int .i32]) x_30) <|
      andW (fun w => Rd w (Addr.add x_7 1) (.sc .sl) x_28) <|
      andW (fun w => Rd w x_26 (.sc (.int .i32)) x_27) <|
      callW Tryz.prog k_pinnaceref14_Child [.int .i32 x_27, .agg ⟨[.int .u8 x_30.1, .int .i32 x_30.2.1, .int .i32 x_30.2.2.1, .int .i32 x_30.2.2.2]⟩, .bool ((Int.tmod x_32 2) == 1)] [.sc .sl] fun (x_33 : Sl) =>
      callW Tryz.prog k_pinnaceref11_Spawn [.pointer d0, .slice x_33.a x_33.n x_33.c] [.sc (.int .u32), .sc (.int .i64)] fun (x_34 : Int × Int) =>
      joinW (σ := Sl) (fun J_35 =>
        cond (x_34.2 == 0)
          (idxW (some (Addr.add x_17 1)) 3 1 0 fun x_36 =>
          ld (.sc (.int .i32)) x_36 fun (x_37 : Int) =>
          idxW (some (Addr.add x_17 1)) 3 1 1 fun x_38 =>
          stoL x_38 [.int .i32 (IntKind.wrap .i32 (x_37 - 1))] 0 <|
          ld (.sc (.int .u32)) (Addr.add x_7 0) fun (x_39 : Int) =>
          ld (.agg [.int .u8, .int .i32, .int .i32, .int .i32]) x_17 fun (x_40 : (Int × Int × Int × Int)) =>
          callW Tryz.prog k_pinnaceref11_Set [.pointer d0, .int .u32 x_39, .agg ⟨[.int .u8 x_40.1, .int .i32 x_40.2.1, .int .i32 x_40.2.2.1, .int .i32 x_40.2.2.2]⟩] [.sc (.int .i64)] fun (x_41 : Int) =>
          newW 31 [.int .u32 x_34.1] fun x_42 =>
          rawW Tryz.prog (Builtin.append_ #[28, 28] 28 #[.slice s_3.1.a s_3.1.n s_3.1.c, .slice (some x_42) 1 1]) [.sc .sl] fun (x_43 : Sl) =>
          J_35 x_43)
          (J_35 s_3.1))
      <| fun s_44 =>
      J_4 s_44)))
    <| fun s_45 =>
    K_2 (s_45, IntKind.wrap .i64 (s_3.2 + 1)))
      (retW s_3.1))
    ((⟨none, 0, 0⟩ : Sl), 0)
def H_pinnaceref14_Breed : Hints := { reg := [(6, [(29, .sc .bool)])], con := [(14070, [(3, .sc .sl)])], blk := [(1, [(3, .sc .sl)])], lop := [(0, [(3, .sc .sl), (14, .sc (.int .i64))])], dr := [(5, ([], [[(0, []), (1, []), (3, []), (4, []), (2, [4]), (5, []), (6, []), (7, [])]])), (11, ([], [[(0, []), (1, []), (2, []), (3, []), (4, []), (5, []), (6, []), (7, []), (8, []), (9, []), (10, []), (11, [3, 5, 8]), (12, []), (13, []), (14, []), (15, []), (16, []), (17, []), (18, []), (19, []), (20, [])]]))] }
theorem E_pinnaceref14_Breed (d0 : Option Addr) : denF Tryz.prog H_pinnaceref14_Breed Tryz.f42 [.sc .sl] [.pointer d0] = F_pinnaceref14_Breed d0 := by kernel_rfl
theorem C_pinnaceref14_Breed {R : Type} (d0 : Option Addr) (K : Res [.sc .sl] → W R) (Q : R → World → Prop) (w : World) (h : F_pinnaceref14_Breed d0 (fun r w => K r Q w) w) : callW Tryz.prog k_pinnaceref14_Breed [.pointer d0] [.sc .sl] K Q w :=
  den_calls mix Tryz.func42 H_pinnaceref14_Breed (ts := [.sc .sl]) trivial (by rw [Tryz.ntmps42]; simp) (by rw [E_pinnaceref14_Breed]; exact h)

/-! 68 pinnace/query.Page -/
def F_query_Page (s0 : Option Addr) (all1 : Int) (none2 : Int) (from3 : Int) (n4 : Int) : W (Sl) :=
  newW 3 [.int .i64 from3] fun from_1 =>
  callW Tryz.prog k_query_With [.pointer s0, .int .u8 all1, .int .u8 none2] [.sc .sl] fun (x_2 : Sl) =>
  callW Tryz.prog k_slices_IndexFunc_ID [.slice x_2.a x_2.n x_2.c, .func (.func 127) #[] #[.pointer (some from_1)]] [.sc (.int .i64)] fun (x_3 : Int) =>
  joinW (σ := Bool) (fun J_4 =>
    cond (decide (x_3 < 0))
      (J_4 true)
      (J_4 (decide (n4 < 1))))
  <| fun s_5 =>
  cond s_5
    (retW (⟨none, 0, 0⟩ : Sl))
    (slcW x_2.a x_2.n x_2.c 1 (some x_3) none fun x_6 =>
  slcW x_6.a x_6.n x_6.c 1 none (some (if (IntKind.wrap .i64 ((x_2.n : Int) - x_3)) < n4 then (IntKind.wrap .i64 ((x_2.n : Int) - x_3)) else n4)) fun x_7 =>
  callW Tryz.prog k_slices_Clip_ID [.slice x_7.a x_7.n x_7.c] [.sc .sl] fun (x_8 : Sl) =>
  retW x_8)
def H_query_Page : Hints := { reg := [(3, [(25, .sc .bool)])] }
theorem E_query_Page (s0 : Option Addr) (all1 : Int) (none2 : Int) (from3 : Int) (n4 : Int) : denF Tryz.prog H_query_Page Tryz.f68 [.sc .sl] [.pointer s0, .int .u8 all1, .int .u8 none2, .int .i64 from3, .int .i64 n4] = F_query_Page s0 all1 none2 from3 n4 := by kernel_rfl
theorem C_query_Page {R : Type} (s0 : Option Addr) (all1 : Int) (none2 : Int) (from3 : Int) (n4 : Int) (K : Res [.sc .sl] → W R) (Q : R → World → Prop) (w : World) (h : F_query_Page s0 all1 none2 from3 n4 (fun r w => K r Q w) w) : callW Tryz.prog k_query_Page [.pointer s0, .int .u8 all1, .int .u8 none2, .int .i64 from3, .int .i64 n4] [.sc .sl] K Q w :=
  den_calls mix Tryz.func68 H_query_Page (ts := [.sc .sl]) trivial (by rw [Tryz.ntmps68]; simp) (by rw [E_query_Page]; exact h)

/-! 74 slices.SortedFunc[pinnace/api.ID] -/
def F_slices_SortedFunc_ID__query_With_c1 (seq0 : Value) : W (Sl) :=
  callW Tryz.prog k_slices_Collect_ID [seq0] [.sc .sl] fun (x_1 : Sl) =>
  callW Tryz.prog k_slices_SortFunc_ID [.slice x_1.a x_1.n x_1.c, .func (.func 76) #[] #[]] [] fun (x_2 : Unit) =>
  retW x_1
def H_slices_SortedFunc_ID__query_With_c1 : Hints := {}
theorem E_slices_SortedFunc_ID__query_With_c1 (seq0 : Value) : denF Tryz.prog H_slices_SortedFunc_ID__query_With_c1 Tryz.f74 [.sc .sl] [seq0, .func (.func 76) #[] #[]] = F_slices_SortedFunc_ID__query_With_c1 seq0 := by kernel_rfl
theorem C_slices_SortedFunc_ID__query_With_c1 {R : Type} (seq0 : Value) (K : Res [.sc .sl] → W R) (Q : R → World → Prop) (w : World) (h : F_slices_SortedFunc_ID__query_With_c1 seq0 (fun r w => K r Q w) w) : callW Tryz.prog k_slices_SortedFunc_ID [seq0, .func (.func 76) #[] #[]] [.sc .sl] K Q w :=
  den_calls mix Tryz.func74 H_slices_SortedFunc_ID__query_With_c1 (ts := [.sc .sl]) trivial (by rw [Tryz.ntmps74]; simp) (by rw [E_slices_SortedFunc_ID__query_With_c1]; exact h)

/-! 75 pinnace/query.groups -/
def F_query_groups (s0 : Option Addr) (all1 : Int) (none2 : Int) : W (Value) :=
  newW 24 [.pointer s0] fun s_1 =>
  newW 5 [.int .u8 all1] fun all_2 =>
  newW 5 [.int .u8 none2] fun none_3 =>
  retW (.func (.func 140) #[] #[.pointer (some s_1), .pointer (some all_2), .pointer (some none_3)] : Value)
def H_query_groups : Hints := {}
theorem E_query_groups (s0 : Option Addr) (all1 : Int) (none2 : Int) : denF Tryz.prog H_query_groups Tryz.f75 [.sc .raw] [.pointer s0, .int .u8 all1, .int .u8 none2] = F_query_groups s0 all1 none2 := by kernel_rfl
theorem C_query_groups {R : Type} (s0 : Option Addr) (all1 : Int) (none2 : Int) (K : Res [.sc .raw] → W R) (Q : R → World → Prop) (w : World) (h : F_query_groups s0 all1 none2 (fun r w => K r Q w) w) : callW Tryz.prog k_query_groups [.pointer s0, .int .u8 all1, .int .u8 none2] [.sc .raw] K Q w :=
  den_calls mix Tryz.func75 H_query_groups (ts := [.sc .raw]) trivial (by rw [Tryz.ntmps75]; simp) (by rw [E_query_groups]; exact h)

/-! 76 pinnace/query.With$1 -/
def F_query_With_c1 (a0 : Int) (b1 : Int) : W (Int) :=
  callW Tryz.prog k_slots_Slot [.int .u32 a0] [.sc (.int .i64)] fun (x_1 : Int) =>
  callW Tryz.prog k_slots_Slot [.int .u32 b1] [.sc (.int .i64)] fun (x_2 : Int) =>
  callW Tryz.prog k_cmp_Compare_int [.int .i64 x_1, .int .i64 x_2] [.sc (.int .i64)] fun (x_3 : Int) =>
  retW x_3
def H_query_With_c1 : Hints := {}
theorem E_query_With_c1 (a0 : Int) (b1 : Int) : denF Tryz.prog H_query_With_c1 Tryz.f76 [.sc (.int .i64)] [.int .u32 a0, .int .u32 b1] = F_query_With_c1 a0 b1 := by kernel_rfl
theorem C_query_With_c1 {R : Type} (a0 : Int) (b1 : Int) (K : Res [.sc (.int .i64)] → W R) (Q : R → World → Prop) (w : World) (h : F_query_With_c1 a0 b1 (fun r w => K r Q w) w) : callW Tryz.prog k_query_With_c1 [.int .u32 a0, .int .u32 b1] [.sc (.int .i64)] K Q w :=
  den_calls mix Tryz.func76 H_query_With_c1 (ts := [.sc (.int .i64)]) trivial (by rw [Tryz.ntmps76]; simp) (by rw [E_query_With_c1]; exact h)

/-! 77 cmp.Compare[int] -/
def F_cmp_Compare_int (x0 : Int) (y1 : Int) : W (Int) :=
  callW Tryz.prog k_cmp_isNaN_int [.int .i64 x0] [.sc .bool] fun (x_1 : Bool) =>
  callW Tryz.prog k_cmp_isNaN_int [.int .i64 y1] [.sc .bool] fun (x_2 : Bool) =>
  cond x_1
    (cond x_2
      (retW 0)
      (retW (-1)))
    (cond x_2
    (retW 1)
    (cond (decide (x0 < y1))
    (retW (-1))
    (cond (decide (x0 > y1))
    (retW 1)
    (retW 0))))
def H_cmp_Compare_int : Hints := {}
theorem E_cmp_Compare_int (x0 : Int) (y1 : Int) : denF Tryz.prog H_cmp_Compare_int Tryz.f77 [.sc (.int .i64)] [.int .i64 x0, .int .i64 y1] = F_cmp_Compare_int x0 y1 := by kernel_rfl
theorem C_cmp_Compare_int {R : Type} (x0 : Int) (y1 : Int) (K : Res [.sc (.int .i64)] → W R) (Q : R → World → Prop) (w : World) (h : F_cmp_Compare_int x0 y1 (fun r w => K r Q w) w) : callW Tryz.prog k_cmp_Compare_int [.int .i64 x0, .int .i64 y1] [.sc (.int .i64)] K Q w :=
  den_calls mix Tryz.func77 H_cmp_Compare_int (ts := [.sc (.int .i64)]) trivial (by rw [Tryz.ntmps77]; simp) (by rw [E_cmp_Compare_int]; exact h)

/-! 88 pinnace/query.far -/
def F_query_far (c0 : (Int × Int × Int × Int)) (x1 : Int) (y2 : Int) : W (Int) :=
  newW 53 [.int .u8 c0.1, .int .i32 c0.2.1, .int .i32 c0.2.2.1, .int .i32 c0.2.2.2] fun c_1 =>
  drawW <|
  idxW (some (Addr.add c_1 1)) 3 1 0 fun x_2 =>
  ld (.sc (.int .i32)) x_2 fun (x_3 : Int) =>
  idxW (some (Addr.add c_1 1)) 3 1 1 fun x_4 =>
  ld (.sc (.int .i32)) x_4 fun (x_5 : Int) =>
  retW (IntKind.wrap .u64 ((IntKind.wrap .u64 (IntKind.wrap .i64 ((IntKind.wrap .i64 ((IntKind.wrap .i64 x_3) - (IntKind.wrap .i64 x1))) * (IntKind.wrap .i64 ((IntKind.wrap .i64 x_3) - (IntKind.wrap .i64 x1)))))) + (IntKind.wrap .u64 (IntKind.wrap .i64 ((IntKind.wrap .i64 ((IntKind.wrap .i64 x_5) - (IntKind.wrap .i64 y2))) * (IntKind.wrap .i64 ((IntKind.wrap .i64 x_5) - (IntKind.wrap .i64 y2))))))))
def H_query_far : Hints := { dr := [(1, ([], [[(0, []), (1, []), (2, []), (3, []), (4, []), (5, []), (6, []), (7, []), (8, []), (9, []), (10, []), (11, []), (12, []), (13, []), (14, []), (15, [])]]))] }
theorem E_query_far (c0 : (Int × Int × Int × Int)) (x1 : Int) (y2 : Int) : denF Tryz.prog H_query_far Tryz.f88 [.sc (.int .u64)] [.agg ⟨[.int .u8 c0.1, .int .i32 c0.2.1, .int .i32 c0.2.2.1, .int .i32 c0.2.2.2]⟩, .int .i32 x1, .int .i32 y2] = F_query_far c0 x1 y2 := by kernel_rfl
theorem C_query_far {R : Type} (c0 : (Int × Int × Int × Int)) (x1 : Int) (y2 : Int) (K : Res [.sc (.int .u64)] → W R) (Q : R → World → Prop) (w : World) (h : F_query_far c0 x1 y2 (fun r w => K r Q w) w) : callW Tryz.prog k_query_far [.agg ⟨[.int .u8 c0.1, .int .i32 c0.2.1, .int .i32 c0.2.2.1, .int .i32 c0.2.2.2]⟩, .int .i32 x1, .int .i32 y2] [.sc (.int .u64)] K Q w :=
  den_calls mix Tryz.func88 H_query_far (ts := [.sc (.int .u64)]) trivial (by rw [Tryz.ntmps88]; simp) (by rw [E_query_far]; exact h)

/-! 90 pinnace/fixed.From -/
def F_fixed_From (n0 : Int) : W (Int) :=
  callW Tryz.prog k_fixed_keep [.int .i64 (IntKind.wrap .i64 ((if 2147483647 < (if (-2147483648) > n0 then (-2147483648) else n0) then 2147483647 else (if (-2147483648) > n0 then (-2147483648) else n0)) * 256))] [.sc (.int .i32)] fun (x_1 : Int) =>
  retW x_1
def H_fixed_From : Hints := {}
theorem E_fixed_From (n0 : Int) : denF Tryz.prog H_fixed_From Tryz.f90 [.sc (.int .i32)] [.int .i64 n0] = F_fixed_From n0 := by kernel_rfl
theorem C_fixed_From {R : Type} (n0 : Int) (K : Res [.sc (.int .i32)] → W R) (Q : R → World → Prop) (w : World) (h : F_fixed_From n0 (fun r w => K r Q w) w) : callW Tryz.prog k_fixed_From [.int .i64 n0] [.sc (.int .i32)] K Q w :=
  den_calls mix Tryz.func90 H_fixed_From (ts := [.sc (.int .i32)]) trivial (by rw [Tryz.ntmps90]; simp) (by rw [E_fixed_From]; exact h)

/-! 91 pinnace/fixed.Mul -/
def F_fixed_Mul (a0 : Int) (b1 : Int) : W (Int) :=
  callW Tryz.prog k_fixed_keep [.int .i64 (IntKind.wrap .i64 (Int.tdiv (IntKind.wrap .i64 ((IntKind.wrap .i64 a0) * (IntKind.wrap .i64 b1))) 256))] [.sc (.int .i32)] fun (x_1 : Int) =>
  retW x_1
def H_fixed_Mul : Hints := {}
theorem E_fixed_Mul (a0 : Int) (b1 : Int) : denF Tryz.prog H_fixed_Mul Tryz.f91 [.sc (.int .i32)] [.int .i32 a0, .int .i32 b1] = F_fixed_Mul a0 b1 := by kernel_rfl
theorem C_fixed_Mul {R : Type} (a0 : Int) (b1 : Int) (K : Res [.sc (.int .i32)] → W R) (Q : R → World → Prop) (w : World) (h : F_fixed_Mul a0 b1 (fun r w => K r Q w) w) : callW Tryz.prog k_fixed_Mul [.int .i32 a0, .int .i32 b1] [.sc (.int .i32)] K Q w :=
  den_calls mix Tryz.func91 H_fixed_Mul (ts := [.sc (.int .i32)]) trivial (by rw [Tryz.ntmps91]; simp) (by rw [E_fixed_Mul]; exact h)

/-! 92 pinnace/fixed.Sub -/
def F_fixed_Sub (a0 : Int) (b1 : Int) : W (Int) :=
  callW Tryz.prog k_fixed_keep [.int .i64 (IntKind.wrap .i64 ((IntKind.wrap .i64 a0) - (IntKind.wrap .i64 b1)))] [.sc (.int .i32)] fun (x_1 : Int) =>
  retW x_1
def H_fixed_Sub : Hints := {}
theorem E_fixed_Sub (a0 : Int) (b1 : Int) : denF Tryz.prog H_fixed_Sub Tryz.f92 [.sc (.int .i32)] [.int .i32 a0, .int .i32 b1] = F_fixed_Sub a0 b1 := by kernel_rfl
theorem C_fixed_Sub {R : Type} (a0 : Int) (b1 : Int) (K : Res [.sc (.int .i32)] → W R) (Q : R → World → Prop) (w : World) (h : F_fixed_Sub a0 b1 (fun r w => K r Q w) w) : callW Tryz.prog k_fixed_Sub [.int .i32 a0, .int .i32 b1] [.sc (.int .i32)] K Q w :=
  den_calls mix Tryz.func92 H_fixed_Sub (ts := [.sc (.int .i32)]) trivial (by rw [Tryz.ntmps92]; simp) (by rw [E_fixed_Sub]; exact h)

/-! 93 pinnace/systems.turn -/
def F_systems_turn (at0 : Int) (by1 : Int) : W (Int × Int) :=
  callW Tryz.prog k_fixed_Clamp [.int .i32 (IntKind.wrap .i32 (at0 + by1)), .int .i32 (-524288), .int .i32 524287] [.sc (.int .i32)] fun (x_1 : Int) =>
  joinW (σ := Int) (fun J_2 =>
    cond (x_1 != (IntKind.wrap .i32 (at0 + by1)))
      (J_2 (if 32767 < (IntKind.wrap .i32 (0 - by1)) then 32767 else (IntKind.wrap .i32 (0 - by1))))
      (J_2 by1))
  <| fun s_3 =>
  retW (x_1, s_3)
def H_systems_turn : Hints := { con := [(5015, [(1, .sc (.int .i32))])] }
theorem E_systems_turn (at0 : Int) (by1 : Int) : denF Tryz.prog H_systems_turn Tryz.f93 [.sc (.int .i32), .sc (.int .i32)] [.int .i32 at0, .int .i32 by1] = F_systems_turn at0 by1 := by kernel_rfl
theorem C_systems_turn {R : Type} (at0 : Int) (by1 : Int) (K : Res [.sc (.int .i32), .sc (.int .i32)] → W R) (Q : R → World → Prop) (w : World) (h : F_systems_turn at0 by1 (fun r w => K r Q w) w) : callW Tryz.prog k_systems_turn [.int .i32 at0, .int .i32 by1] [.sc (.int .i32), .sc (.int .i32)] K Q w :=
  den_calls mix Tryz.func93 H_systems_turn (ts := [.sc (.int .i32), .sc (.int .i32)]) trivial (by rw [Tryz.ntmps93]; simp) (by rw [E_systems_turn]; exact h)

/-! 95 pinnace/pinnaceref14.turn -/
def F_pinnaceref14_turn (at0 : Int) (by1 : Int) : W (Int × Int) :=
  joinW (σ := Bool) (fun J_1 =>
    cond (decide ((IntKind.wrap .i32 (at0 + by1)) ≥ (-524288)))
      (J_1 (decide ((IntKind.wrap .i32 (at0 + by1)) ≤ 524287)))
      (J_1 false))
  <| fun s_2 =>
  cond s_2
    (retW (IntKind.wrap .i32 (at0 + by1), by1))
    (joinW (σ := Int) (fun J_3 =>
    cond (by1 == (-32768))
      (J_3 32767)
      (J_3 (IntKind.wrap .i32 (0 - by1))))
  <| fun s_4 =>
  cond (decide ((IntKind.wrap .i32 (at0 + by1)) < 0))
    (retW ((-524288), s_4))
    (retW (524287, s_4)))
def H_pinnaceref14_turn : Hints := { reg := [(2, [(16, .sc .bool)])], con := [(7022, [(7, .sc (.int .i32))])] }
theorem E_pinnaceref14_turn (at0 : Int) (by1 : Int) : denF Tryz.prog H_pinnaceref14_turn Tryz.f95 [.sc (.int .i32), .sc (.int .i32)] [.int .i32 at0, .int .i32 by1] = F_pinnaceref14_turn at0 by1 := by kernel_rfl
theorem C_pinnaceref14_turn {R : Type} (at0 : Int) (by1 : Int) (K : Res [.sc (.int .i32), .sc (.int .i32)] → W R) (Q : R → World → Prop) (w : World) (h : F_pinnaceref14_turn at0 by1 (fun r w => K r Q w) w) : callW Tryz.prog k_pinnaceref14_turn [.int .i32 at0, .int .i32 by1] [.sc (.int .i32), .sc (.int .i32)] K Q w :=
  den_calls mix Tryz.func95 H_pinnaceref14_turn (ts := [.sc (.int .i32), .sc (.int .i32)]) trivial (by rw [Tryz.ntmps95]; simp) (by rw [E_pinnaceref14_turn]; exact h)

/-! 126 slices.IndexFunc[[]pinnace/api.ID,pinnace/api.ID] -/
def F_slices_IndexFunc_ID__query_Page_c1 (s0 : Sl) (f1c0 : Option Addr) : W (Int) :=
  loopW (σ := Int) (fun K_1 s_2 =>
    cond (decide (s_2 < (s0.n : Int)))
      (idxW s0.a s0.n 1 s_2 fun x_3 =>
    ld (.sc (.int .u32)) x_3 fun (x_4 : Int) =>
    callW Tryz.prog k_query_Page_c1 [.int .u32 x_4, .pointer f1c0] [.sc .bool] fun (x_5 : Bool) =>
    cond x_5
      (retW s_2)
      (K_1 (IntKind.wrap .i64 (s_2 + 1))))
      (retW (-1)))
    0
def H_slices_IndexFunc_ID__query_Page_c1 : Hints := { lop := [(0, [(8, .sc (.int .i64))])] }
theorem E_slices_IndexFunc_ID__query_Page_c1 (s0 : Sl) (f1c0 : Option Addr) : denF Tryz.prog H_slices_IndexFunc_ID__query_Page_c1 Tryz.f126 [.sc (.int .i64)] [.slice s0.a s0.n s0.c, .func (.func 127) #[] #[.pointer f1c0]] = F_slices_IndexFunc_ID__query_Page_c1 s0 f1c0 := by kernel_rfl
theorem C_slices_IndexFunc_ID__query_Page_c1 {R : Type} (s0 : Sl) (f1c0 : Option Addr) (K : Res [.sc (.int .i64)] → W R) (Q : R → World → Prop) (w : World) (h : F_slices_IndexFunc_ID__query_Page_c1 s0 f1c0 (fun r w => K r Q w) w) : callW Tryz.prog k_slices_IndexFunc_ID [.slice s0.a s0.n s0.c, .func (.func 127) #[] #[.pointer f1c0]] [.sc (.int .i64)] K Q w :=
  den_calls mix Tryz.func126 H_slices_IndexFunc_ID__query_Page_c1 (ts := [.sc (.int .i64)]) trivial (by rw [Tryz.ntmps126]; simp) (by rw [E_slices_IndexFunc_ID__query_Page_c1]; exact h)

/-! 127 pinnace/query.Page$1 -/
def F_query_Page_c1 (id0 : Int) (c1 : Option Addr) : W (Bool) :=
  drawW <|
  ptrW c1 fun x_1 =>
  ld (.sc (.int .i64)) x_1 fun (x_2 : Int) =>
  callW Tryz.prog k_slots_Slot [.int .u32 id0] [.sc (.int .i64)] fun (x_3 : Int) =>
  andW (fun w => loadP Tryz.prog 3 (.pointer c1) (some (.int .i64 x_2)) w) <|
  retW (decide (x_3 ≥ x_2))
def H_query_Page_c1 : Hints := { dr := [(1, ([], [[(0, []), (2, []), (1, [2]), (3, []), (4, [])]]))] }
theorem E_query_Page_c1 (id0 : Int) (c1 : Option Addr) : denF Tryz.prog H_query_Page_c1 Tryz.f127 [.sc .bool] [.int .u32 id0, .pointer c1] = F_query_Page_c1 id0 c1 := by kernel_rfl
theorem C_query_Page_c1 {R : Type} (id0 : Int) (c1 : Option Addr) (K : Res [.sc .bool] → W R) (Q : R → World → Prop) (w : World) (h : F_query_Page_c1 id0 c1 (fun r w => K r Q w) w) : callW Tryz.prog k_query_Page_c1 [.int .u32 id0, .pointer c1] [.sc .bool] K Q w :=
  den_calls mix Tryz.func127 H_query_Page_c1 (ts := [.sc .bool]) trivial (by rw [Tryz.ntmps127]; simp) (by rw [E_query_Page_c1]; exact h)

/-! 138 slices.Collect[pinnace/api.ID] -/
def F_slices_Collect_ID (seq0 : Value) : W (Sl) :=
  callW Tryz.prog k_slices_AppendSeq_ID [.slice none 0 0, seq0] [.sc .sl] fun (x_1 : Sl) =>
  retW x_1
def H_slices_Collect_ID : Hints := {}
theorem E_slices_Collect_ID (seq0 : Value) : denF Tryz.prog H_slices_Collect_ID Tryz.f138 [.sc .sl] [seq0] = F_slices_Collect_ID seq0 := by kernel_rfl
theorem C_slices_Collect_ID {R : Type} (seq0 : Value) (K : Res [.sc .sl] → W R) (Q : R → World → Prop) (w : World) (h : F_slices_Collect_ID seq0 (fun r w => K r Q w) w) : callW Tryz.prog k_slices_Collect_ID [seq0] [.sc .sl] K Q w :=
  den_calls mix Tryz.func138 H_slices_Collect_ID (ts := [.sc .sl]) trivial (by rw [Tryz.ntmps138]; simp) (by rw [E_slices_Collect_ID]; exact h)

/-! 142 cmp.isNaN[int] -/
def F_cmp_isNaN_int (x0 : Int) : W (Bool) :=
  retW (x0 != x0)
def H_cmp_isNaN_int : Hints := {}
theorem E_cmp_isNaN_int (x0 : Int) : denF Tryz.prog H_cmp_isNaN_int Tryz.f142 [.sc .bool] [.int .i64 x0] = F_cmp_isNaN_int x0 := by kernel_rfl
theorem C_cmp_isNaN_int {R : Type} (x0 : Int) (K : Res [.sc .bool] → W R) (Q : R → World → Prop) (w : World) (h : F_cmp_isNaN_int x0 (fun r w => K r Q w) w) : callW Tryz.prog k_cmp_isNaN_int [.int .i64 x0] [.sc .bool] K Q w :=
  den_calls mix Tryz.func142 H_cmp_isNaN_int (ts := [.sc .bool]) trivial (by rw [Tryz.ntmps142]; simp) (by rw [E_cmp_isNaN_int]; exact h)

/-! 149 pinnace/fixed.keep -/
def F_fixed_keep (n0 : Int) : W (Int) :=
  retW (IntKind.wrap .i32 (if 2147483647 < (if (-2147483648) > n0 then (-2147483648) else n0) then 2147483647 else (if (-2147483648) > n0 then (-2147483648) else n0)))
def H_fixed_keep : Hints := {}
theorem E_fixed_keep (n0 : Int) : denF Tryz.prog H_fixed_keep Tryz.f149 [.sc (.int .i32)] [.int .i64 n0] = F_fixed_keep n0 := by kernel_rfl
theorem C_fixed_keep {R : Type} (n0 : Int) (K : Res [.sc (.int .i32)] → W R) (Q : R → World → Prop) (w : World) (h : F_fixed_keep n0 (fun r w => K r Q w) w) : callW Tryz.prog k_fixed_keep [.int .i64 n0] [.sc (.int .i32)] K Q w :=
  den_calls mix Tryz.func149 H_fixed_keep (ts := [.sc (.int .i32)]) trivial (by rw [Tryz.ntmps149]; simp) (by rw [E_fixed_keep]; exact h)

/-! 150 pinnace/fixed.Clamp -/
def F_fixed_Clamp (a0 : Int) (lo1 : Int) (hi2 : Int) : W (Int) :=
  cond (decide (a0 < lo1))
    (retW lo1)
    (cond (decide (a0 > hi2))
      (retW hi2)
      (retW a0))
def H_fixed_Clamp : Hints := {}
theorem E_fixed_Clamp (a0 : Int) (lo1 : Int) (hi2 : Int) : denF Tryz.prog H_fixed_Clamp Tryz.f150 [.sc (.int .i32)] [.int .i32 a0, .int .i32 lo1, .int .i32 hi2] = F_fixed_Clamp a0 lo1 hi2 := by kernel_rfl
theorem C_fixed_Clamp {R : Type} (a0 : Int) (lo1 : Int) (hi2 : Int) (K : Res [.sc (.int .i32)] → W R) (Q : R → World → Prop) (w : World) (h : F_fixed_Clamp a0 lo1 hi2 (fun r w => K r Q w) w) : callW Tryz.prog k_fixed_Clamp [.int .i32 a0, .int .i32 lo1, .int .i32 hi2] [.sc (.int .i32)] K Q w :=
  den_calls mix Tryz.func150 H_fixed_Clamp (ts := [.sc (.int .i32)]) trivial (by rw [Tryz.ntmps150]; simp) (by rw [E_fixed_Clamp]; exact h)

end Go.Proofs.YtkblnhnjagemlaaGreat
