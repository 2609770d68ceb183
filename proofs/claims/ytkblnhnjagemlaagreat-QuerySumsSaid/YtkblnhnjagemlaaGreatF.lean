/-
  Shallow forms of Go functions, printed by a program of this session (wip/gen.py), each equal to the denotation of its code, by the kernel.
-/
import Derived.Test.YtkblnhnjagemlaaGreatK
set_option linter.unusedVariables false
namespace Go.Proofs.YtkblnhnjagemlaaGreat
open Go Go.Proofs.YtkblnhnjagemlaaGreat.Den


/-! 19 (*pinnace/store.Store).Ent -/
def F_store_Store_Ent (s0 : Option Addr) (id1 : Int) : W ((Int × Sl) × Int) :=
  newW 34 [.int .u32 0, .slice none 0 0] fun x_1 =>
  callW Tryz.prog k_store_Store_of [.pointer s0, .int .u32 id1] [.sc .ptr, .sc (.int .i64)] fun (x_2 : (Option Addr) × Int) =>
  cond (x_2.2 != 0)
    (stoL x_1 [.int .u32 0, .slice none 0 0] 0 <|
    ld (.agg [.int .u32, .sl]) x_1 fun (x_3 : (Int × Sl)) =>
    retW (x_3, x_2.2))
    (callW Tryz.prog k_table_Table_Row [.pointer x_2.1, .int .u32 id1] [.sc (.int .i64), .sc .bool] fun (x_4 : Int × Bool) =>
  callW Tryz.prog k_table_Table_At [.pointer x_2.1, .int .i64 x_4.1] [.agg [.int .u32, .sl], .sc .bool] fun (x_5 : (Int × Sl) × Bool) =>
  newW 34 [.int .u32 0, .slice none 0 0] fun x_6 =>
  stoL x_6 [.int .u32 x_5.1.1, .slice x_5.1.2.a x_5.1.2.n x_5.1.2.c] 0 <|
  ld (.agg [.int .u32, .sl]) x_6 fun (x_7 : (Int × Sl)) =>
  stoL x_1 [.int .u32 x_7.1, .slice x_7.2.a x_7.2.n x_7.2.c] 0 <|
  ld (.agg [.int .u32, .sl]) x_1 fun (x_8 : (Int × Sl)) =>
  retW (x_8, 0))
def H_store_Store_Ent : Hints := {}
theorem E_store_Store_Ent (s0 : Option Addr) (id1 : Int) : denF Tryz.prog H_store_Store_Ent Tryz.f19 [.agg [.int .u32, .sl], .sc (.int .i64)] [.pointer s0, .int .u32 id1] = F_store_Store_Ent s0 id1 := by kernel_rfl
theorem C_store_Store_Ent {R : Type} (s0 : Option Addr) (id1 : Int) (K : Res [.agg [.int .u32, .sl], .sc (.int .i64)] → W R) (Q : R → World → Prop) (w : World) (h : F_store_Store_Ent s0 id1 (fun r w => K r Q w) w) : callW Tryz.prog k_store_Store_Ent [.pointer s0, .int .u32 id1] [.agg [.int .u32, .sl], .sc (.int .i64)] K Q w :=
  den_calls mix Tryz.func19 H_store_Store_Ent (ts := [.agg [.int .u32, .sl], .sc (.int .i64)]) ⟨by kernel_rfl, trivial⟩ (by rw [Tryz.ntmps19]; simp) (by rw [E_store_Store_Ent]; exact h)

/-! 20 pinnace/pinnaceref05.Mask -/
def F_pinnaceref05_Mask (l0 : Sl) : W (Int) :=
  loopW (σ := Int × Int) (fun K_1 s_2 =>
    cond (decide (s_2.2 < 6))
      (loopW (σ := Int × Int) (fun K_3 s_4 =>
      cond (decide (s_4.2 < (l0.n : Int)))
        (idxW l0.a l0.n 4 s_4.2 fun x_5 =>
      ld (.agg [.int .u8, .int .i32, .int .i32, .int .i32]) x_5 fun (x_6 : (Int × Int × Int × Int)) =>
      newW 53 [.int .u8 0, .int .i32 0, .int .i32 0, .int .i32 0] fun c_7 =>
      stoL c_7 [.int .u8 x_6.1, .int .i32 x_6.2.1, .int .i32 x_6.2.2.1, .int .i32 x_6.2.2.2] 0 <|
      joinW (σ := Bool) (fun J_8 =>
        ld (.sc (.int .u8)) (Addr.add c_7 0) fun (x_9 : Int) =>
        cond (x_9 == s_2.2)
          (chkW (0 ≤ s_2.2) <|
              J_8 ((Int.tmod (shR .u8 s_4.1 s_2.2) 2) == 0))
          (J_8 false))
      <| fun s_10 =>
      joinW (σ := Int) (fun J_11 =>
        cond s_10
          (chkW (0 ≤ s_2.2) <|
          J_11 (IntKind.wrap .u8 (s_4.1 + (shL .u8 1 s_2.2))))
          (J_11 s_4.1))
      <| fun s_12 =>
      K_3 (s_12, IntKind.wrap .i64 (s_4.2 + 1)))
        (K_1 (s_4.1, IntKind.wrap .u8 (s_2.2 + 1))))
      (s_2.1, 0))
      (retW s_2.1))
    (0, 0)
def H_pinnaceref05_Mask : Hints := { reg := [(8, [(26, .sc .bool)])], con := [(10026, [(3, .sc (.int .u8))])], lop := [(0, [(3, .sc (.int .u8)), (7, .sc (.int .u8))]), (2, [(3, .sc (.int .u8)), (12, .sc (.int .i64))])] }
theorem E_pinnaceref05_Mask (l0 : Sl) : denF Tryz.prog H_pinnaceref05_Mask Tryz.f20 [.sc (.int .u8)] [.slice l0.a l0.n l0.c] = F_pinnaceref05_Mask l0 := by kernel_rfl
theorem C_pinnaceref05_Mask {R : Type} (l0 : Sl) (K : Res [.sc (.int .u8)] → W R) (Q : R → World → Prop) (w : World) (h : F_pinnaceref05_Mask l0 (fun r w => K r Q w) w) : callW Tryz.prog k_pinnaceref05_Mask [.slice l0.a l0.n l0.c] [.sc (.int .u8)] K Q w :=
  den_calls mix Tryz.func20 H_pinnaceref05_Mask (ts := [.sc (.int .u8)]) trivial (by rw [Tryz.ntmps20]; simp) (by rw [E_pinnaceref05_Mask]; exact h)

/-! 21 pinnace/pinnaceref11.List -/
def F_pinnaceref11_List (s0 : Option Addr) : W (Sl) :=
  cond (Option.isNone s0)
    (retW (⟨none, 0, 0⟩ : Sl))
    (ptrW s0 fun x_1 =>
  ld (.sc .ptr) (Addr.add x_1 0) fun (x_2 : Option Addr) =>
  callW Tryz.prog k_pinnaceref07_List [.pointer x_2] [.sc .sl, .sc (.int .i64)] fun (x_3 : Sl × Int) =>
  loopW (σ := Sl × Int) (fun K_4 s_5 =>
    cond (decide (s_5.2 < (x_3.1.n : Int)))
      (idxW x_3.1.a x_3.1.n 1 s_5.2 fun x_6 =>
    ld (.sc (.int .u32)) x_6 fun (x_7 : Int) =>
    callW Tryz.prog k_pinnaceref11_Ent [.pointer s0, .int .u32 x_7] [.agg [.int .u32, .sl], .sc (.int .i64)] fun (x_8 : (Int × Sl) × Int) =>
    newW 34 [.int .u32 0, .slice none 0 0] fun x_9 =>
    stoL x_9 [.int .u32 x_8.1.1, .slice x_8.1.2.a x_8.1.2.n x_8.1.2.c] 0 <|
    ld (.agg [.int .u32, .sl]) x_9 fun (x_10 : (Int × Sl)) =>
    newW 34 [.int .u32 x_10.1, .slice x_10.2.a x_10.2.n x_10.2.c] fun x_11 =>
    rawW Tryz.prog (Builtin.append_ #[39, 39] 39 #[.slice s_5.1.a s_5.1.n s_5.1.c, .slice (some x_11) 1 1]) [.sc .sl] fun (x_12 : Sl) =>
    K_4 (x_12, IntKind.wrap .i64 (s_5.2 + 1)))
      (retW s_5.1))
    ((⟨none, 0, 0⟩ : Sl), 0))
def H_pinnaceref11_List : Hints := { lop := [(0, [(3, .sc .sl), (22, .sc (.int .i64))])] }
theorem E_pinnaceref11_List (s0 : Option Addr) : denF Tryz.prog H_pinnaceref11_List Tryz.f21 [.sc .sl] [.pointer s0] = F_pinnaceref11_List s0 := by kernel_rfl
theorem C_pinnaceref11_List {R : Type} (s0 : Option Addr) (K : Res [.sc .sl] → W R) (Q : R → World → Prop) (w : World) (h : F_pinnaceref11_List s0 (fun r w => K r Q w) w) : callW Tryz.prog k_pinnaceref11_List [.pointer s0] [.sc .sl] K Q w :=
  den_calls mix Tryz.func21 H_pinnaceref11_List (ts := [.sc .sl]) trivial (by rw [Tryz.ntmps21]; simp) (by rw [E_pinnaceref11_List]; exact h)

/-! 28 pinnace/pinnaceref05.Check -/
def F_pinnaceref05_Check (c0 : (Int × Int × Int × Int)) : W (Int) :=
  newW 53 [.int .u8 c0.1, .int .i32 c0.2.1, .int .i32 c0.2.2.1, .int .i32 c0.2.2.2] fun c_1 =>
  ld (.sc (.int .u8)) (Addr.add c_1 0) fun (x_2 : Int) =>
  callW Tryz.prog k_pinnaceref05_Count [.int .u8 x_2] [.sc (.int .i64)] fun (x_3 : Int) =>
  cond (x_3 == 0)
    (retW 1)
    (loopW (σ := Int) (fun K_4 s_5 =>
    cond (decide (s_5 < 3))
      (idxW (some (Addr.add c_1 1)) 3 1 s_5 fun x_6 =>
    ld (.sc (.int .i32)) x_6 fun (x_7 : Int) =>
    cond (x_7 != 0)
      (retW 4)
      (K_4 (IntKind.wrap .i64 (s_5 + 1))))
      (loopW (σ := Int) (fun K_8 s_9 =>
    cond (decide (s_9 < x_3))
      (ld (.sc (.int .u8)) (Addr.add c_1 0) fun (x_10 : Int) =>
    callW Tryz.prog k_pinnaceref05_Range [.int .u8 x_10, .int .i64 s_9] [.sc (.int .i32), .sc (.int .i32), .sc (.int .i64)] fun (x_11 : Int × Int × Int) =>
    joinW (σ := Bool) (fun J_12 =>
      idxW (some (Addr.add c_1 1)) 3 1 s_9 fun x_13 =>
      ld (.sc (.int .i32)) x_13 fun (x_14 : Int) =>
      cond (decide (x_14 < x_11.1))
        (J_12 true)
        (idxW (some (Addr.add c_1 1)) 3 1 s_9 fun x_15 =>
            ld (.sc (.int .i32)) x_15 fun (x_16 : Int) =>
              J_12 (decide (x_16 > x_11.2.1))))
    <| fun s_17 =>
    cond s_17
      (retW 5)
      (K_8 (IntKind.wrap .i64 (s_9 + 1))))
      (retW 0))
    0))
    x_3)
def H_pinnaceref05_Check : Hints := { reg := [(13, [(49, .sc .bool)])], lop := [(0, [(4, .sc (.int .i64))]), (2, [(25, .sc (.int .i64))])] }
theorem E_pinnaceref05_Check (c0 : (Int × Int × Int × Int)) : denF Tryz.prog H_pinnaceref05_Check Tryz.f28 [.sc (.int .i64)] [.agg ⟨[.int .u8 c0.1, .int .i32 c0.2.1, .int .i32 c0.2.2.1, .int .i32 c0.2.2.2]⟩] = F_pinnaceref05_Check c0 := by kernel_rfl
theorem C_pinnaceref05_Check {R : Type} (c0 : (Int × Int × Int × Int)) (K : Res [.sc (.int .i64)] → W R) (Q : R → World → Prop) (w : World) (h : F_pinnaceref05_Check c0 (fun r w => K r Q w) w) : callW Tryz.prog k_pinnaceref05_Check [.agg ⟨[.int .u8 c0.1, .int .i32 c0.2.1, .int .i32 c0.2.2.1, .int .i32 c0.2.2.2]⟩] [.sc (.int .i64)] K Q w :=
  den_calls mix Tryz.func28 H_pinnaceref05_Check (ts := [.sc (.int .i64)]) trivial (by rw [Tryz.ntmps28]; simp) (by rw [E_pinnaceref05_Check]; exact h)

/-! 30 pinnace/pinnaceref05.Same -/
def F_pinnaceref05_Same (a0 : Sl) (b1 : Sl) : W (Bool) :=
  cond ((a0.n : Int) != (b1.n : Int))
    (retW false)
    (loopW (σ := Int) (fun K_1 s_2 =>
    cond (decide (s_2 < (a0.n : Int)))
      (drawW <|
    idxW a0.a a0.n 4 s_2 fun x_3 =>
    ld (.agg [.int .u8, .int .i32, .int .i32, .int .i32]) x_3 fun (x_4 : (Int × Int × Int × Int)) =>
    idxW b1.a b1.n 4 s_2 fun x_5 =>
    ld (.agg [.int .u8, .int .i32, .int .i32, .int .i32]) x_5 fun (x_6 : (Int × Int × Int × Int)) =>
    rawQ Tryz.prog (do Go.eqGuard .neq 53 (.tmp 19) (.tmp 23) (.agg ⟨[.int .u8 x_4.1, .int .i32 x_4.2.1, .int .i32 x_4.2.2.1, .int .i32 x_4.2.2.2]⟩) (.agg ⟨[.int .u8 x_6.1, .int .i32 x_6.2.1, .int .i32 x_6.2.2.1, .int .i32 x_6.2.2.2]⟩); Go.binOp .neq 53 (.agg ⟨[.int .u8 x_4.1, .int .i32 x_4.2.1, .int .i32 x_4.2.2.1, .int .i32 x_4.2.2.2]⟩) (.agg ⟨[.int .u8 x_6.1, .int .i32 x_6.2.1, .int .i32 x_6.2.2.1, .int .i32 x_6.2.2.2]⟩)) [.sc .bool] fun (x_7 : Bool) =>
    cond x_7
      (retW false)
      (K_1 (IntKind.wrap .i64 (s_2 + 1))))
      (retW true))
    0)
def H_pinnaceref05_Same : Hints := { lop := [(0, [(13, .sc (.int .i64))])], dr := [(6, ([], [[(0, []), (1, []), (2, []), (3, []), (4, []), (5, []), (6, []), (7, []), (8, [])]]))] }
theorem E_pinnaceref05_Same (a0 : Sl) (b1 : Sl) : denF Tryz.prog H_pinnaceref05_Same Tryz.f30 [.sc .bool] [.slice a0.a a0.n a0.c, .slice b1.a b1.n b1.c] = F_pinnaceref05_Same a0 b1 := by kernel_rfl
theorem C_pinnaceref05_Same {R : Type} (a0 : Sl) (b1 : Sl) (K : Res [.sc .bool] → W R) (Q : R → World → Prop) (w : World) (h : F_pinnaceref05_Same a0 b1 (fun r w => K r Q w) w) : callW Tryz.prog k_pinnaceref05_Same [.slice a0.a a0.n a0.c, .slice b1.a b1.n b1.c] [.sc .bool] K Q w :=
  den_calls mix Tryz.func30 H_pinnaceref05_Same (ts := [.sc .bool]) trivial (by rw [Tryz.ntmps30]; simp) (by rw [E_pinnaceref05_Same]; exact h)

/-! 32 pinnace/pinnaceref05.List -/
def F_pinnaceref05_List (l0 : Sl) : W (Int) :=
  loopW (σ := Int × Int) (fun K_1 s_2 =>
    cond (decide (s_2.2 < (l0.n : Int)))
      (idxW l0.a l0.n 4 s_2.2 fun x_3 =>
    ld (.agg [.int .u8, .int .i32, .int .i32, .int .i32]) x_3 fun (x_4 : (Int × Int × Int × Int)) =>
    newW 53 [.int .u8 0, .int .i32 0, .int .i32 0, .int .i32 0] fun c_5 =>
    stoL c_5 [.int .u8 x_4.1, .int .i32 x_4.2.1, .int .i32 x_4.2.2.1, .int .i32 x_4.2.2.2] 0 <|
    ld (.agg [.int .u8, .int .i32, .int .i32, .int .i32]) c_5 fun (x_6 : (Int × Int × Int × Int)) =>
    callW Tryz.prog k_pinnaceref05_Check [.agg ⟨[.int .u8 x_6.1, .int .i32 x_6.2.1, .int .i32 x_6.2.2.1, .int .i32 x_6.2.2.2]⟩] [.sc (.int .i64)] fun (x_7 : Int) =>
    cond (x_7 != 0)
      (retW x_7)
      (ld (.sc (.int .u8)) (Addr.add c_5 0) fun (x_8 : Int) =>
    cond (decide ((IntKind.wrap .i64 x_8) ≤ s_2.1))
      (retW 4)
      (ld (.sc (.int .u8)) (Addr.add c_5 0) fun (x_9 : Int) =>
    K_1 (IntKind.wrap .i64 x_9, IntKind.wrap .i64 (s_2.2 + 1)))))
      (retW 0))
    ((-1), 0)
def H_pinnaceref05_List : Hints := { lop := [(0, [(3, .sc (.int .i64)), (9, .sc (.int .i64))])] }
theorem E_pinnaceref05_List (l0 : Sl) : denF Tryz.prog H_pinnaceref05_List Tryz.f32 [.sc (.int .i64)] [.slice l0.a l0.n l0.c] = F_pinnaceref05_List l0 := by kernel_rfl
theorem C_pinnaceref05_List {R : Type} (l0 : Sl) (K : Res [.sc (.int .i64)] → W R) (Q : R → World → Prop) (w : World) (h : F_pinnaceref05_List l0 (fun r w => K r Q w) w) : callW Tryz.prog k_pinnaceref05_List [.slice l0.a l0.n l0.c] [.sc (.int .i64)] K Q w :=
  den_calls mix Tryz.func32 H_pinnaceref05_List (ts := [.sc (.int .i64)]) trivial (by rw [Tryz.ntmps32]; simp) (by rw [E_pinnaceref05_List]; exact h)

/-! 34 pinnace/pinnaceref07.Same -/
def F_pinnaceref07_Same (a0 : Sl) (b1 : Sl) : W (Bool) :=
  cond ((a0.n : Int) != (b1.n : Int))
    (retW false)
    (loopW (σ := Int) (fun K_1 s_2 =>
    cond (decide (s_2 < (a0.n : Int)))
      (drawW <|
    idxW a0.a a0.n 1 s_2 fun x_3 =>
    ld (.sc (.int .u32)) x_3 fun (x_4 : Int) =>
    idxW b1.a b1.n 1 s_2 fun x_5 =>
    ld (.sc (.int .u32)) x_5 fun (x_6 : Int) =>
    cond (x_4 != x_6)
      (retW false)
      (K_1 (IntKind.wrap .i64 (s_2 + 1))))
      (retW true))
    0)
def H_pinnaceref07_Same : Hints := { lop := [(0, [(13, .sc (.int .i64))])], dr := [(6, ([], [[(0, []), (1, []), (2, []), (3, []), (4, []), (5, []), (6, []), (7, []), (8, [])]]))] }
theorem E_pinnaceref07_Same (a0 : Sl) (b1 : Sl) : denF Tryz.prog H_pinnaceref07_Same Tryz.f34 [.sc .bool] [.slice a0.a a0.n a0.c, .slice b1.a b1.n b1.c] = F_pinnaceref07_Same a0 b1 := by kernel_rfl
theorem C_pinnaceref07_Same {R : Type} (a0 : Sl) (b1 : Sl) (K : Res [.sc .bool] → W R) (Q : R → World → Prop) (w : World) (h : F_pinnaceref07_Same a0 b1 (fun r w => K r Q w) w) : callW Tryz.prog k_pinnaceref07_Same [.slice a0.a a0.n a0.c, .slice b1.a b1.n b1.c] [.sc .bool] K Q w :=
  den_calls mix Tryz.func34 H_pinnaceref07_Same (ts := [.sc .bool]) trivial (by rw [Tryz.ntmps34]; simp) (by rw [E_pinnaceref07_Same]; exact h)

/-! 41 (*pinnace/store.Store).List -/
def F_store_Store_List (s0 : Option Addr) : W (Sl) :=
  callW Tryz.prog k_store_Store_numbers [.pointer s0] [.sc .ptr] fun (x_1 : (Option Addr)) =>
  callW Tryz.prog k_slots_Slots_List [.pointer x_1] [.sc .sl] fun (x_2 : Sl) =>
  retW x_2
def H_store_Store_List : Hints := {}
theorem E_store_Store_List (s0 : Option Addr) : denF Tryz.prog H_store_Store_List Tryz.f41 [.sc .sl] [.pointer s0] = F_store_Store_List s0 := by kernel_rfl
theorem C_store_Store_List {R : Type} (s0 : Option Addr) (K : Res [.sc .sl] → W R) (Q : R → World → Prop) (w : World) (h : F_store_Store_List s0 (fun r w => K r Q w) w) : callW Tryz.prog k_store_Store_List [.pointer s0] [.sc .sl] K Q w :=
  den_calls mix Tryz.func41 H_store_Store_List (ts := [.sc .sl]) trivial (by rw [Tryz.ntmps41]; simp) (by rw [E_store_Store_List]; exact h)

/-! 45 pinnace/pinnaceref13.Few -/
def F_pinnaceref13_Few (l0 : Sl) (n1 : Int) : W (Sl) :=
  loopW (σ := Sl × Int) (fun K_1 s_2 =>
    cond (decide (s_2.2 < (l0.n : Int)))
      (idxW l0.a l0.n 4 s_2.2 fun x_3 =>
    ld (.agg [.int .u8, .int .u32, .int .u8, .sl]) x_3 fun (x_4 : (Int × Int × Int × Sl)) =>
    newW 81 [.int .u8 0, .int .u32 0, .int .u8 0, .slice none 0 0] fun o_5 =>
    stoL o_5 [.int .u8 x_4.1, .int .u32 x_4.2.1, .int .u8 x_4.2.2.1, .slice x_4.2.2.2.a x_4.2.2.2.n x_4.2.2.2.c] 0 <|
    joinW (σ := Sl) (fun J_6 =>
      cond (decide (s_2.2 < n1))
        (ld (.sc .sl) (Addr.add o_5 3) fun (x_7 : Sl) =>
        ld (.sc .sl) (Addr.add o_5 3) fun (x_8 : Sl) =>
        slcW x_7.a x_7.n x_7.c 4 none (some (if 20 < (x_8.n : Int) then 20 else (x_8.n : Int))) fun x_9 =>
        stoL (Addr.add o_5 3) [.slice x_9.a x_9.n x_9.c] 0 <|
        ld (.agg [.int .u8, .int .u32, .int .u8, .sl]) o_5 fun (x_10 : (Int × Int × Int × Sl)) =>
        newW 81 [.int .u8 x_10.1, .int .u32 x_10.2.1, .int .u8 x_10.2.2.1, .slice x_10.2.2.2.a x_10.2.2.2.n x_10.2.2.2.c] fun x_11 =>
        rawW Tryz.prog (Builtin.append_ #[76, 76] 76 #[.slice s_2.1.a s_2.1.n s_2.1.c, .slice (some x_11) 1 1]) [.sc .sl] fun (x_12 : Sl) =>
        J_6 x_12)
        (J_6 s_2.1))
    <| fun s_13 =>
    K_1 (s_13, IntKind.wrap .i64 (s_2.2 + 1)))
      (retW s_2.1))
    ((⟨none, 0, 0⟩ : Sl), 0)
def H_pinnaceref13_Few : Hints := { con := [(7017, [(5, .sc .sl)])], lop := [(0, [(5, .sc .sl), (10, .sc (.int .i64))])] }
theorem E_pinnaceref13_Few (l0 : Sl) (n1 : Int) : denF Tryz.prog H_pinnaceref13_Few Tryz.f45 [.sc .sl] [.slice l0.a l0.n l0.c, .int .i64 n1] = F_pinnaceref13_Few l0 n1 := by kernel_rfl
theorem C_pinnaceref13_Few {R : Type} (l0 : Sl) (n1 : Int) (K : Res [.sc .sl] → W R) (Q : R → World → Prop) (w : World) (h : F_pinnaceref13_Few l0 n1 (fun r w => K r Q w) w) : callW Tryz.prog k_pinnaceref13_Few [.slice l0.a l0.n l0.c, .int .i64 n1] [.sc .sl] K Q w :=
  den_calls mix Tryz.func45 H_pinnaceref13_Few (ts := [.sc .sl]) trivial (by rw [Tryz.ntmps45]; simp) (by rw [E_pinnaceref13_Few]; exact h)

/-! 57 pinnace/pinnaceref13.SameResults -/
def F_pinnaceref13_SameResults (a0 : Sl) (b1 : Sl) : W (Bool) :=
  cond ((a0.n : Int) != (b1.n : Int))
    (retW false)
    (loopW (σ := Int) (fun K_1 s_2 =>
    cond (decide (s_2 < (a0.n : Int)))
      (drawW <|
    idxW a0.a a0.n 2 s_2 fun x_3 =>
    ld (.agg [.int .i64, .int .u32]) x_3 fun (x_4 : (Int × Int)) =>
    idxW b1.a b1.n 2 s_2 fun x_5 =>
    ld (.agg [.int .i64, .int .u32]) x_5 fun (x_6 : (Int × Int)) =>
    rawQ Tryz.prog (do Go.eqGuard .neq 107 (.tmp 19) (.tmp 23) (.agg ⟨[.int .i64 x_4.1, .int .u32 x_4.2]⟩) (.agg ⟨[.int .i64 x_6.1, .int .u32 x_6.2]⟩); Go.binOp .neq 107 (.agg ⟨[.int .i64 x_4.1, .int .u32 x_4.2]⟩) (.agg ⟨[.int .i64 x_6.1, .int .u32 x_6.2]⟩)) [.sc .bool] fun (x_7 : Bool) =>
    cond x_7
      (retW false)
      (K_1 (IntKind.wrap .i64 (s_2 + 1))))
      (retW true))
    0)
def H_pinnaceref13_SameResults : Hints := { lop := [(0, [(13, .sc (.int .i64))])], dr := [(6, ([], [[(0, []), (1, []), (2, []), (3, []), (4, []), (5, []), (6, []), (7, []), (8, [])]]))] }
theorem E_pinnaceref13_SameResults (a0 : Sl) (b1 : Sl) : denF Tryz.prog H_pinnaceref13_SameResults Tryz.f57 [.sc .bool] [.slice a0.a a0.n a0.c, .slice b1.a b1.n b1.c] = F_pinnaceref13_SameResults a0 b1 := by kernel_rfl
theorem C_pinnaceref13_SameResults {R : Type} (a0 : Sl) (b1 : Sl) (K : Res [.sc .bool] → W R) (Q : R → World → Prop) (w : World) (h : F_pinnaceref13_SameResults a0 b1 (fun r w => K r Q w) w) : callW Tryz.prog k_pinnaceref13_SameResults [.slice a0.a a0.n a0.c, .slice b1.a b1.n b1.c] [.sc .bool] K Q w :=
  den_calls mix Tryz.func57 H_pinnaceref13_SameResults (ts := [.sc .bool]) trivial (by rw [Tryz.ntmps57]; simp) (by rw [E_pinnaceref13_SameResults]; exact h)

/-! 58 pinnace/pinnaceref11.New -/
def F_pinnaceref11_New (n0 : Int) (first1 : Int) : W ((Option Addr) × Int) :=
  callW Tryz.prog k_pinnaceref07_New [.int .i64 n0, .int .i64 first1] [.sc .ptr, .sc (.int .i64)] fun (x_1 : (Option Addr) × Int) =>
  cond (x_1.2 != 0)
    (retW (none, x_1.2))
    (newW 152 [.pointer x_1.1, .int .u8 0, .slice none 0 0, .int .u8 0, .slice none 0 0, .int .u8 0, .slice none 0 0, .int .u8 0, .slice none 0 0, .int .u8 0, .slice none 0 0, .int .u8 0, .slice none 0 0, .int .u8 0, .slice none 0 0, .int .u8 0, .slice none 0 0, .int .u8 0, .slice none 0 0, .int .u8 0, .slice none 0 0, .int .u8 0, .slice none 0 0, .int .u8 0, .slice none 0 0, .int .u8 0, .slice none 0 0, .int .u8 0, .slice none 0 0, .int .u8 0, .slice none 0 0, .int .u8 0, .slice none 0 0, .int .u8 0, .slice none 0 0, .int .u8 0, .slice none 0 0, .int .u8 0, .slice none 0 0, .int .u8 0, .slice none 0 0, .int .u8 0, .slice none 0 0, .int .u8 0, .slice none 0 0, .int .u8 0, .slice none 0 0, .int .u8 0, .slice none 0 0, .int .u8 0, .slice none 0 0, .int .u8 0, .slice none 0 0, .int .u8 0, .slice none 0 0, .int .u8 0, .slice none 0 0, .int .u8 0, .slice none 0 0, .int .u8 0, .slice none 0 0, .int .u8 0, .slice none 0 0, .int .u8 0, .slice none 0 0, .int .u8 0, .slice none 0 0, .int .u8 0, .slice none 0 0, .int .u8 0, .slice none 0 0, .int .u8 0, .slice none 0 0, .int .u8 0, .slice none 0 0, .int .u8 0, .slice none 0 0, .int .u8 0, .slice none 0 0, .int .u8 0, .slice none 0 0, .int .u8 0, .slice none 0 0, .int .u8 0, .slice none 0 0, .int .u8 0, .slice none 0 0, .int .u8 0, .slice none 0 0, .int .u8 0, .slice none 0 0, .int .u8 0, .slice none 0 0, .int .u8 0, .slice none 0 0, .int .u8 0, .slice none 0 0, .int .u8 0, .slice none 0 0, .int .u8 0, .slice none 0 0, .int .u8 0, .slice none 0 0, .int .u8 0, .slice none 0 0, .int .u8 0, .slice none 0 0, .int .u8 0, .slice none 0 0, .int .u8 0, .slice none 0 0, .int .u8 0, .slice none 0 0, .int .u8 0, .slice none 0 0, .int .u8 0, .slice none 0 0, .int .u8 0, .slice none 0 0, .int .u8 0, .slice none 0 0, .int .u8 0, .slice none 0 0, .int .u8 0, .slice none 0 0, .int .u8 0, .slice none 0 0, .int .u8 0, .slice none 0 0] fun x_2 =>
  loopW (σ := Int) (fun K_3 s_4 =>
    cond (decide (s_4 < 64))
      (idxW (some (Addr.add x_2 1)) 64 2 s_4 fun x_5 =>
    stoL (Addr.add x_5 0) [.int .u8 (IntKind.wrap .u8 s_4)] 0 <|
    K_3 (IntKind.wrap .i64 (s_4 + 1)))
      (retW ((some x_2), 0)))
    0)
def H_pinnaceref11_New : Hints := { lop := [(0, [(22, .sc (.int .i64))])] }
theorem E_pinnaceref11_New (n0 : Int) (first1 : Int) : denF Tryz.prog H_pinnaceref11_New Tryz.f58 [.sc .ptr, .sc (.int .i64)] [.int .i64 n0, .int .i64 first1] = F_pinnaceref11_New n0 first1 := by kernel_rfl
theorem C_pinnaceref11_New {R : Type} (n0 : Int) (first1 : Int) (K : Res [.sc .ptr, .sc (.int .i64)] → W R) (Q : R → World → Prop) (w : World) (h : F_pinnaceref11_New n0 first1 (fun r w => K r Q w) w) : callW Tryz.prog k_pinnaceref11_New [.int .i64 n0, .int .i64 first1] [.sc .ptr, .sc (.int .i64)] K Q w :=
  den_calls mix Tryz.func58 H_pinnaceref11_New (ts := [.sc .ptr, .sc (.int .i64)]) trivial (by rw [Tryz.ntmps58]; simp) (by rw [E_pinnaceref11_New]; exact h)

/-! 59 pinnace/pinnaceref11.Spawn -/
def F_pinnaceref11_Spawn (s0 : Option Addr) (l1 : Sl) : W (Int × Int) :=
  cond (Option.isNone s0)
    (retW (0, 10))
    (callW Tryz.prog k_pinnaceref05_List [.slice l1.a l1.n l1.c] [.sc (.int .i64)] fun (x_1 : Int) =>
  cond (x_1 != 0)
    (retW (0, x_1))
    (ptrW s0 fun x_2 =>
  ld (.sc .ptr) (Addr.add x_2 0) fun (x_3 : Option Addr) =>
  callW Tryz.prog k_pinnaceref07_Take [.pointer x_3] [.sc (.int .u32), .sc (.int .i64)] fun (x_4 : Int × Int) =>
  joinW (σ := Unit) (fun J_5 =>
    cond (x_4.2 == 0)
      (callW Tryz.prog k_pinnaceref11_put [.pointer s0, .int .u32 x_4.1, .slice l1.a l1.n l1.c] [] fun (x_6 : Unit) =>
      J_5 ())
      (J_5 ()))
  <| fun s_7 =>
  retW (x_4.1, x_4.2)))
def H_pinnaceref11_Spawn : Hints := { con := [(9025, [])] }
theorem E_pinnaceref11_Spawn (s0 : Option Addr) (l1 : Sl) : denF Tryz.prog H_pinnaceref11_Spawn Tryz.f59 [.sc (.int .u32), .sc (.int .i64)] [.pointer s0, .slice l1.a l1.n l1.c] = F_pinnaceref11_Spawn s0 l1 := by kernel_rfl
theorem C_pinnaceref11_Spawn {R : Type} (s0 : Option Addr) (l1 : Sl) (K : Res [.sc (.int .u32), .sc (.int .i64)] → W R) (Q : R → World → Prop) (w : World) (h : F_pinnaceref11_Spawn s0 l1 (fun r w => K r Q w) w) : callW Tryz.prog k_pinnaceref11_Spawn [.pointer s0, .slice l1.a l1.n l1.c] [.sc (.int .u32), .sc (.int .i64)] K Q w :=
  den_calls mix Tryz.func59 H_pinnaceref11_Spawn (ts := [.sc (.int .u32), .sc (.int .i64)]) trivial (by rw [Tryz.ntmps59]; simp) (by rw [E_pinnaceref11_Spawn]; exact h)

/-! 62 pinnace/pinnaceref13.Twins -/
def F_pinnaceref13_Twins (l0 : Sl) : W (Sl) :=
  loopW (σ := Sl × Int) (fun K_1 s_2 =>
    cond (decide (s_2.2 < (l0.n : Int)))
      (idxW l0.a l0.n 4 s_2.2 fun x_3 =>
    ld (.agg [.int .u8, .int .u32, .int .u8, .sl]) x_3 fun (x_4 : (Int × Int × Int × Sl)) =>
    newW 81 [.int .u8 0, .int .u32 0, .int .u8 0, .slice none 0 0] fun o_5 =>
    stoL o_5 [.int .u8 x_4.1, .int .u32 x_4.2.1, .int .u8 x_4.2.2.1, .slice x_4.2.2.2.a x_4.2.2.2.n x_4.2.2.2.c] 0 <|
    ld (.sc .sl) (Addr.add o_5 3) fun (x_6 : Sl) =>
    callW Tryz.prog k_pinnaceref05_Twin [.slice x_6.a x_6.n x_6.c] [.sc .sl] fun (x_7 : Sl) =>
    stoL (Addr.add o_5 3) [.slice x_7.a x_7.n x_7.c] 0 <|
    ld (.agg [.int .u8, .int .u32, .int .u8, .sl]) o_5 fun (x_8 : (Int × Int × Int × Sl)) =>
    newW 81 [.int .u8 x_8.1, .int .u32 x_8.2.1, .int .u8 x_8.2.2.1, .slice x_8.2.2.2.a x_8.2.2.2.n x_8.2.2.2.c] fun x_9 =>
    rawW Tryz.prog (Builtin.append_ #[76, 76] 76 #[.slice s_2.1.a s_2.1.n s_2.1.c, .slice (some x_9) 1 1]) [.sc .sl] fun (x_10 : Sl) =>
    K_1 (x_10, IntKind.wrap .i64 (s_2.2 + 1)))
      (retW s_2.1))
    ((⟨none, 0, 0⟩ : Sl), 0)
def H_pinnaceref13_Twins : Hints := { lop := [(0, [(3, .sc .sl), (8, .sc (.int .i64))])] }
theorem E_pinnaceref13_Twins (l0 : Sl) : denF Tryz.prog H_pinnaceref13_Twins Tryz.f62 [.sc .sl] [.slice l0.a l0.n l0.c] = F_pinnaceref13_Twins l0 := by kernel_rfl
theorem C_pinnaceref13_Twins {R : Type} (l0 : Sl) (K : Res [.sc .sl] → W R) (Q : R → World → Prop) (w : World) (h : F_pinnaceref13_Twins l0 (fun r w => K r Q w) w) : callW Tryz.prog k_pinnaceref13_Twins [.slice l0.a l0.n l0.c] [.sc .sl] K Q w :=
  den_calls mix Tryz.func62 H_pinnaceref13_Twins (ts := [.sc .sl]) trivial (by rw [Tryz.ntmps62]; simp) (by rw [E_pinnaceref13_Twins]; exact h)

/-! 64 pinnace/pinnaceref13.SameOrder -/
def F_pinnaceref13_SameOrder (a0 : (Int × Int × Int × Sl)) (b1 : (Int × Int × Int × Sl)) : W (Bool) :=
  newW 81 [.int .u8 a0.1, .int .u32 a0.2.1, .int .u8 a0.2.2.1, .slice a0.2.2.2.a a0.2.2.2.n a0.2.2.2.c] fun a_1 =>
  newW 81 [.int .u8 b1.1, .int .u32 b1.2.1, .int .u8 b1.2.2.1, .slice b1.2.2.2.a b1.2.2.2.n b1.2.2.2.c] fun b_2 =>
  joinW (σ := Bool) (fun J_3 =>
    ld (.sc (.int .u8)) (Addr.add a_1 0) fun (x_4 : Int) =>
    ld (.sc (.int .u8)) (Addr.add b_2 0) fun (x_5 : Int) =>
    cond (x_4 == x_5)
      (ld (.sc (.int .u32)) (Addr.add a_1 1) fun (x_6 : Int) =>
        ld (.sc (.int .u32)) (Addr.add b_2 1) fun (x_7 : Int) =>
            cond (x_6 == x_7)
                (ld (.sc (.int .u8)) (Addr.add a_1 2) fun (x_8 : Int) =>
                  ld (.sc (.int .u8)) (Addr.add b_2 2) fun (x_9 : Int) =>
                      cond (x_8 == x_9)
                          (ld (.sc .sl) (Addr.add a_1 3) fun (x_10 : Sl) =>
                            ld (.sc .sl) (Addr.add b_2 3) fun (x_11 : Sl) =>
                                callW Tryz.prog k_pinnaceref05_Same [.slice x_10.a x_10.n x_10.c, .slice x_11.a x_11.n x_11.c] [.sc .bool] fun (x_12 : Bool) =>
                                  J_3 x_12)
                          (J_3 false))
                (J_3 false))
      (J_3 false))
  <| fun s_13 =>
  retW s_13
def H_pinnaceref13_SameOrder : Hints := { reg := [(1, [(4, .sc .bool)])] }
theorem E_pinnaceref13_SameOrder (a0 : (Int × Int × Int × Sl)) (b1 : (Int × Int × Int × Sl)) : denF Tryz.prog H_pinnaceref13_SameOrder Tryz.f64 [.sc .bool] [.agg ⟨[.int .u8 a0.1, .int .u32 a0.2.1, .int .u8 a0.2.2.1, .slice a0.2.2.2.a a0.2.2.2.n a0.2.2.2.c]⟩, .agg ⟨[.int .u8 b1.1, .int .u32 b1.2.1, .int .u8 b1.2.2.1, .slice b1.2.2.2.a b1.2.2.2.n b1.2.2.2.c]⟩] = F_pinnaceref13_SameOrder a0 b1 := by kernel_rfl
theorem C_pinnaceref13_SameOrder {R : Type} (a0 : (Int × Int × Int × Sl)) (b1 : (Int × Int × Int × Sl)) (K : Res [.sc .bool] → W R) (Q : R → World → Prop) (w : World) (h : F_pinnaceref13_SameOrder a0 b1 (fun r w => K r Q w) w) : callW Tryz.prog k_pinnaceref13_SameOrder [.agg ⟨[.int .u8 a0.1, .int .u32 a0.2.1, .int .u8 a0.2.2.1, .slice a0.2.2.2.a a0.2.2.2.n a0.2.2.2.c]⟩, .agg ⟨[.int .u8 b1.1, .int .u32 b1.2.1, .int .u8 b1.2.2.1, .slice b1.2.2.2.a b1.2.2.2.n b1.2.2.2.c]⟩] [.sc .bool] K Q w :=
  den_calls mix Tryz.func64 H_pinnaceref13_SameOrder (ts := [.sc .bool]) trivial (by rw [Tryz.ntmps64]; simp) (by rw [E_pinnaceref13_SameOrder]; exact h)

/-! 69 pinnace/store.New -/
def F_store_New (n0 : Int) (first1 : Int) : W ((Option Addr) × Int) :=
  callW Tryz.prog k_slots_New [.int .i64 n0, .int .i64 first1] [.sc .ptr, .sc (.int .i64)] fun (x_1 : (Option Addr) × Int) =>
  cond (x_1.2 != 0)
    (retW (none, x_1.2))
    (rawW Tryz.prog (Instr.makeMap 214 none) [.sc .map] fun (x_2 : Option Nat) =>
  rawW Tryz.prog (Instr.makeMap 215 none) [.sc .map] fun (x_3 : Option Nat) =>
  newW 217 [.pointer x_1.1, .map x_2, .map x_3] fun x_4 =>
  retW ((some x_4), 0))
def H_store_New : Hints := {}
theorem E_store_New (n0 : Int) (first1 : Int) : denF Tryz.prog H_store_New Tryz.f69 [.sc .ptr, .sc (.int .i64)] [.int .i64 n0, .int .i64 first1] = F_store_New n0 first1 := by kernel_rfl
theorem C_store_New {R : Type} (n0 : Int) (first1 : Int) (K : Res [.sc .ptr, .sc (.int .i64)] → W R) (Q : R → World → Prop) (w : World) (h : F_store_New n0 first1 (fun r w => K r Q w) w) : callW Tryz.prog k_store_New [.int .i64 n0, .int .i64 first1] [.sc .ptr, .sc (.int .i64)] K Q w :=
  den_calls mix Tryz.func69 H_store_New (ts := [.sc .ptr, .sc (.int .i64)]) trivial (by rw [Tryz.ntmps69]; simp) (by rw [E_store_New]; exact h)

/-! 70 (*pinnace/store.Store).Spawn -/
def F_store_Store_Spawn (s0 : Option Addr) (l1 : Sl) : W (Int × Int) :=
  cond (Option.isNone s0)
    (retW (0, 10))
    (callW Tryz.prog k_schema_List [.slice l1.a l1.n l1.c] [.sc (.int .i64)] fun (x_1 : Int) =>
  cond (x_1 != 0)
    (retW (0, x_1))
    (ptrW s0 fun x_2 =>
  ld (.sc .ptr) (Addr.add x_2 0) fun (x_3 : Option Addr) =>
  callW Tryz.prog k_slots_Slots_Take [.pointer x_3] [.sc (.int .u32), .sc (.int .i64)] fun (x_4 : Int × Int) =>
  joinW (σ := Unit) (fun J_5 =>
    cond (x_4.2 == 0)
      (callW Tryz.prog k_store_Store_put [.pointer s0, .int .u32 x_4.1, .slice l1.a l1.n l1.c] [] fun (x_6 : Unit) =>
      J_5 ())
      (J_5 ()))
  <| fun s_7 =>
  retW (x_4.1, x_4.2)))
def H_store_Store_Spawn : Hints := { con := [(9025, [])] }
theorem E_store_Store_Spawn (s0 : Option Addr) (l1 : Sl) : denF Tryz.prog H_store_Store_Spawn Tryz.f70 [.sc (.int .u32), .sc (.int .i64)] [.pointer s0, .slice l1.a l1.n l1.c] = F_store_Store_Spawn s0 l1 := by kernel_rfl
theorem C_store_Store_Spawn {R : Type} (s0 : Option Addr) (l1 : Sl) (K : Res [.sc (.int .u32), .sc (.int .i64)] → W R) (Q : R → World → Prop) (w : World) (h : F_store_Store_Spawn s0 l1 (fun r w => K r Q w) w) : callW Tryz.prog k_store_Store_Spawn [.pointer s0, .slice l1.a l1.n l1.c] [.sc (.int .u32), .sc (.int .i64)] K Q w :=
  den_calls mix Tryz.func70 H_store_Store_Spawn (ts := [.sc (.int .u32), .sc (.int .i64)]) trivial (by rw [Tryz.ntmps70]; simp) (by rw [E_store_Store_Spawn]; exact h)

/-! 71 pinnace/pinnaceref05.Twin -/
def F_pinnaceref05_Twin (l0 : Sl) : W (Sl) :=
  newW 53 [] fun x_1 =>
  rawW Tryz.prog (Builtin.append_ #[32, 32] 32 #[.slice (some x_1) 0 0, .slice l0.a l0.n l0.c]) [.sc .sl] fun (x_2 : Sl) =>
  retW x_2
def H_pinnaceref05_Twin : Hints := {}
theorem E_pinnaceref05_Twin (l0 : Sl) : denF Tryz.prog H_pinnaceref05_Twin Tryz.f71 [.sc .sl] [.slice l0.a l0.n l0.c] = F_pinnaceref05_Twin l0 := by kernel_rfl
theorem C_pinnaceref05_Twin {R : Type} (l0 : Sl) (K : Res [.sc .sl] → W R) (Q : R → World → Prop) (w : World) (h : F_pinnaceref05_Twin l0 (fun r w => K r Q w) w) : callW Tryz.prog k_pinnaceref05_Twin [.slice l0.a l0.n l0.c] [.sc .sl] K Q w :=
  den_calls mix Tryz.func71 H_pinnaceref05_Twin (ts := [.sc .sl]) trivial (by rw [Tryz.ntmps71]; simp) (by rw [E_pinnaceref05_Twin]; exact h)

/-! 72 (*pinnace/store.Store).Despawn -/
def F_store_Store_Despawn (s0 : Option Addr) (id1 : Int) : W (Int) :=
  callW Tryz.prog k_store_Store_of [.pointer s0, .int .u32 id1] [.sc .ptr, .sc (.int .i64)] fun (x_1 : (Option Addr) × Int) =>
  cond (x_1.2 != 0)
    (retW x_1.2)
    (callW Tryz.prog k_table_Table_Remove [.pointer x_1.1, .int .u32 id1] [.sc .sl, .sc (.int .i64)] fun (x_2 : Sl × Int) =>
  ptrW s0 fun x_3 =>
  ld (.sc .map) (Addr.add x_3 2) fun (x_4 : Option Nat) =>
  rawW Tryz.prog (Builtin.delete_ #[215, 31] 0 #[.map x_4, .int .u32 id1]) [] fun (_ : Unit) =>
  ptrW s0 fun x_6 =>
  ld (.sc .ptr) (Addr.add x_6 0) fun (x_7 : Option Addr) =>
  callW Tryz.prog k_slots_Slots_Free [.pointer x_7, .int .u32 id1] [.sc (.int .i64)] fun (x_8 : Int) =>
  retW x_8)
def H_store_Store_Despawn : Hints := {}
theorem E_store_Store_Despawn (s0 : Option Addr) (id1 : Int) : denF Tryz.prog H_store_Store_Despawn Tryz.f72 [.sc (.int .i64)] [.pointer s0, .int .u32 id1] = F_store_Store_Despawn s0 id1 := by kernel_rfl
theorem C_store_Store_Despawn {R : Type} (s0 : Option Addr) (id1 : Int) (K : Res [.sc (.int .i64)] → W R) (Q : R → World → Prop) (w : World) (h : F_store_Store_Despawn s0 id1 (fun r w => K r Q w) w) : callW Tryz.prog k_store_Store_Despawn [.pointer s0, .int .u32 id1] [.sc (.int .i64)] K Q w :=
  den_calls mix Tryz.func72 H_store_Store_Despawn (ts := [.sc (.int .i64)]) trivial (by rw [Tryz.ntmps72]; simp) (by rw [E_store_Store_Despawn]; exact h)

/-! 73 pinnace/pinnaceref11.Despawn -/
def F_pinnaceref11_Despawn (s0 : Option Addr) (id1 : Int) : W (Int) :=
  callW Tryz.prog k_pinnaceref11_Ent [.pointer s0, .int .u32 id1] [.agg [.int .u32, .sl], .sc (.int .i64)] fun (x_1 : (Int × Sl) × Int) =>
  newW 34 [.int .u32 0, .slice none 0 0] fun x_2 =>
  stoL x_2 [.int .u32 x_1.1.1, .slice x_1.1.2.a x_1.1.2.n x_1.1.2.c] 0 <|
  cond (x_1.2 != 0)
    (retW x_1.2)
    (callW Tryz.prog k_pinnaceref11_find [.pointer s0, .int .u32 id1] [.sc .ptr] fun (x_3 : (Option Addr)) =>
  callW Tryz.prog k_pinnaceref10_Remove [.pointer x_3, .int .u32 id1] [.sc .sl, .sc (.int .i64)] fun (x_4 : Sl × Int) =>
  ptrW s0 fun x_5 =>
  ld (.sc .ptr) (Addr.add x_5 0) fun (x_6 : Option Addr) =>
  callW Tryz.prog k_pinnaceref07_Free [.pointer x_6, .int .u32 id1] [.sc (.int .i64)] fun (x_7 : Int) =>
  retW x_7)
def H_pinnaceref11_Despawn : Hints := {}
theorem E_pinnaceref11_Despawn (s0 : Option Addr) (id1 : Int) : denF Tryz.prog H_pinnaceref11_Despawn Tryz.f73 [.sc (.int .i64)] [.pointer s0, .int .u32 id1] = F_pinnaceref11_Despawn s0 id1 := by kernel_rfl
theorem C_pinnaceref11_Despawn {R : Type} (s0 : Option Addr) (id1 : Int) (K : Res [.sc (.int .i64)] → W R) (Q : R → World → Prop) (w : World) (h : F_pinnaceref11_Despawn s0 id1 (fun r w => K r Q w) w) : callW Tryz.prog k_pinnaceref11_Despawn [.pointer s0, .int .u32 id1] [.sc (.int .i64)] K Q w :=
  den_calls mix Tryz.func73 H_pinnaceref11_Despawn (ts := [.sc (.int .i64)]) trivial (by rw [Tryz.ntmps73]; simp) (by rw [E_pinnaceref11_Despawn]; exact h)

/-! 78 pinnace/slots.Slot -/
def F_slots_Slot (id0 : Int) : W (Int) :=
  retW (IntKind.wrap .i64 (Int.tmod id0 1024))
def H_slots_Slot : Hints := {}
theorem E_slots_Slot (id0 : Int) : denF Tryz.prog H_slots_Slot Tryz.f78 [.sc (.int .i64)] [.int .u32 id0] = F_slots_Slot id0 := by kernel_rfl
theorem C_slots_Slot {R : Type} (id0 : Int) (K : Res [.sc (.int .i64)] → W R) (Q : R → World → Prop) (w : World) (h : F_slots_Slot id0 (fun r w => K r Q w) w) : callW Tryz.prog k_slots_Slot [.int .u32 id0] [.sc (.int .i64)] K Q w :=
  den_calls mix Tryz.func78 H_slots_Slot (ts := [.sc (.int .i64)]) trivial (by rw [Tryz.ntmps78]; simp) (by rw [E_slots_Slot]; exact h)

/-! 79 (*pinnace/store.Store).of -/
def F_store_Store_of (s0 : Option Addr) (id1 : Int) : W ((Option Addr) × Int) :=
  cond (Option.isNone s0)
    (retW (none, 10))
    (ptrW s0 fun x_1 =>
    ld (.sc .map) (Addr.add x_1 2) fun (x_2 : Option Nat) =>
    rawQ Tryz.prog (Instr.lookup 215 (.map x_2) (.int .u32 id1) false) [.sc .ptr] fun (x_3 : (Option Addr)) =>
    cond (Option.isNone x_3)
      (retW (none, 7))
      (ptrW s0 fun x_4 =>
  ld (.sc .map) (Addr.add x_4 2) fun (x_5 : Option Nat) =>
  rawQ Tryz.prog (Instr.lookup 215 (.map x_5) (.int .u32 id1) false) [.sc .ptr] fun (x_6 : (Option Addr)) =>
  retW (x_6, 0)))
def H_store_Store_of : Hints := {}
theorem E_store_Store_of (s0 : Option Addr) (id1 : Int) : denF Tryz.prog H_store_Store_of Tryz.f79 [.sc .ptr, .sc (.int .i64)] [.pointer s0, .int .u32 id1] = F_store_Store_of s0 id1 := by kernel_rfl
theorem C_store_Store_of {R : Type} (s0 : Option Addr) (id1 : Int) (K : Res [.sc .ptr, .sc (.int .i64)] → W R) (Q : R → World → Prop) (w : World) (h : F_store_Store_of s0 id1 (fun r w => K r Q w) w) : callW Tryz.prog k_store_Store_of [.pointer s0, .int .u32 id1] [.sc .ptr, .sc (.int .i64)] K Q w :=
  den_calls mix Tryz.func79 H_store_Store_of (ts := [.sc .ptr, .sc (.int .i64)]) trivial (by rw [Tryz.ntmps79]; simp) (by rw [E_store_Store_of]; exact h)

/-! 80 (*pinnace/table.Table).Row -/
def F_table_Table_Row (t0 : Option Addr) (id1 : Int) : W (Int × Bool) :=
  cond (Option.isNone t0)
    (retW (0, false))
    (ptrW t0 fun x_1 =>
  ld (.sc .map) (Addr.add x_1 9) fun (x_2 : Option Nat) =>
  rawQ Tryz.prog (Instr.lookup 241 (.map x_2) (.int .u32 id1) true) [.sc (.int .i64), .sc .bool] fun (x_3 : Int × Bool) =>
  retW (x_3.1, x_3.2))
def H_table_Table_Row : Hints := {}
theorem E_table_Table_Row (t0 : Option Addr) (id1 : Int) : denF Tryz.prog H_table_Table_Row Tryz.f80 [.sc (.int .i64), .sc .bool] [.pointer t0, .int .u32 id1] = F_table_Table_Row t0 id1 := by kernel_rfl
theorem C_table_Table_Row {R : Type} (t0 : Option Addr) (id1 : Int) (K : Res [.sc (.int .i64), .sc .bool] → W R) (Q : R → World → Prop) (w : World) (h : F_table_Table_Row t0 id1 (fun r w => K r Q w) w) : callW Tryz.prog k_table_Table_Row [.pointer t0, .int .u32 id1] [.sc (.int .i64), .sc .bool] K Q w :=
  den_calls mix Tryz.func80 H_table_Table_Row (ts := [.sc (.int .i64), .sc .bool]) trivial (by rw [Tryz.ntmps80]; simp) (by rw [E_table_Table_Row]; exact h)

/-! 81 (*pinnace/table.Table).At -/
def F_table_Table_At (t0 : Option Addr) (row1 : Int) : W ((Int × Sl) × Bool) :=
  newW 34 [.int .u32 0, .slice none 0 0] fun x_1 =>
  joinW (σ := Bool) (fun J_2 =>
    cond (decide (row1 < 0))
      (J_2 true)
      (callW Tryz.prog k_table_Table_Len [.pointer t0] [.sc (.int .i64)] fun (x_3 : Int) =>
          J_2 (decide (row1 ≥ x_3))))
  <| fun s_4 =>
  cond s_4
    (stoL x_1 [.int .u32 0, .slice none 0 0] 0 <|
    ld (.agg [.int .u32, .sl]) x_1 fun (x_5 : (Int × Sl)) =>
    retW (x_5, false))
    (ptrW t0 fun x_6 =>
  ld (.sc .sl) (Addr.add (Addr.add x_6 2) 0) fun (x_7 : Sl) =>
  idxW x_7.a x_7.n 1 row1 fun x_8 =>
  ld (.sc (.int .u32)) x_8 fun (x_9 : Int) =>
  newW 34 [.int .u32 0, .slice none 0 0] fun e_10 =>
  stoL e_10 [.int .u32 x_9, .slice none 0 0] 0 <|
  ptrW t0 fun x_11 =>
  ld (.sc .sl) (Addr.add x_11 1) fun (x_12 : Sl) =>
  loopW (σ := Int) (fun K_13 s_14 =>
    cond (decide (s_14 < (x_12.n : Int)))
      (idxW x_12.a x_12.n 1 s_14 fun x_15 =>
    ld (.sc (.int .u8)) x_15 fun (x_16 : Int) =>
    drawW <|
    ld (.sc .sl) (Addr.add e_10 1) fun (x_17 : Sl) =>
    callW Tryz.prog k_table_Table_comp [.pointer t0, .int .i64 row1, .int .u8 x_16] [.agg [.int .u8, .int .i32, .int .i32, .int .i32]] fun (x_18 : (Int × Int × Int × Int)) =>
    andW (fun w => Rd w (Addr.add e_10 1) (.sc .sl) x_17) <|
    newW 53 [.int .u8 x_18.1, .int .i32 x_18.2.1, .int .i32 x_18.2.2.1, .int .i32 x_18.2.2.2] fun x_19 =>
    rawW Tryz.prog (Builtin.append_ #[32, 32] 32 #[.slice x_17.a x_17.n x_17.c, .slice (some x_19) 1 1]) [.sc .sl] fun (x_20 : Sl) =>
    stoL (Addr.add e_10 1) [.slice x_20.a x_20.n x_20.c] 0 <|
    K_13 (IntKind.wrap .i64 (s_14 + 1)))
      (ld (.agg [.int .u32, .sl]) e_10 fun (x_21 : (Int × Sl)) =>
  stoL x_1 [.int .u32 x_21.1, .slice x_21.2.a x_21.2.n x_21.2.c] 0 <|
  ld (.agg [.int .u32, .sl]) x_1 fun (x_22 : (Int × Sl)) =>
  retW (x_22, true)))
    0)
def H_table_Table_At : Hints := { reg := [(1, [(16, .sc .bool)])], lop := [(0, [(32, .sc (.int .i64))])], dr := [(7, ([], [[(0, []), (1, []), (2, []), (3, []), (4, []), (5, [1]), (6, []), (7, []), (8, []), (9, [])]]))] }
theorem E_table_Table_At (t0 : Option Addr) (row1 : Int) : denF Tryz.prog H_table_Table_At Tryz.f81 [.agg [.int .u32, .sl], .sc .bool] [.pointer t0, .int .i64 row1] = F_table_Table_At t0 row1 := by kernel_rfl
theorem C_table_Table_At {R : Type} (t0 : Option Addr) (row1 : Int) (K : Res [.agg [.int .u32, .sl], .sc .bool] → W R) (Q : R → World → Prop) (w : World) (h : F_table_Table_At t0 row1 (fun r w => K r Q w) w) : callW Tryz.prog k_table_Table_At [.pointer t0, .int .i64 row1] [.agg [.int .u32, .sl], .sc .bool] K Q w :=
  den_calls mix Tryz.func81 H_table_Table_At (ts := [.agg [.int .u32, .sl], .sc .bool]) ⟨by kernel_rfl, trivial⟩ (by rw [Tryz.ntmps81]; simp) (by rw [E_table_Table_At]; exact h)

/-! 82 pinnace/pinnaceref07.List -/
def F_pinnaceref07_List (s0 : Option Addr) : W (Sl × Int) :=
  cond (Option.isNone s0)
    (retW ((⟨none, 0, 0⟩ : Sl), 0))
    (ptrW s0 fun x_1 =>
  ld (.sc .sl) (Addr.add x_1 1) fun (x_2 : Sl) =>
  loopW (σ := Sl × Int × Int) (fun K_3 s_4 =>
    cond (decide (s_4.2.2 < (x_2.n : Int)))
      (idxW x_2.a x_2.n 3 s_4.2.2 fun x_5 =>
    ld (.agg [.int .i64, .bool, .int .i64]) x_5 fun (x_6 : (Int × Bool × Int)) =>
    newW 249 [.int .i64 0, .bool false, .int .i64 0] fun x_7 =>
    stoL x_7 [.int .i64 x_6.1, .bool x_6.2.1, .int .i64 x_6.2.2] 0 <|
    ld (.sc .bool) (Addr.add x_7 1) fun (x_8 : Bool) =>
    joinW (σ := Sl × Int) (fun J_9 =>
      cond x_8
        (ld (.sc (.int .i64)) (Addr.add x_7 0) fun (x_10 : Int) =>
        callW Tryz.prog k_pinnaceref07_Make [.int .i64 s_4.2.2, .int .i64 x_10] [.sc (.int .u32), .sc (.int .i64)] fun (x_11 : Int × Int) =>
        newW 31 [.int .u32 x_11.1] fun x_12 =>
        rawW Tryz.prog (Builtin.append_ #[28, 28] 28 #[.slice s_4.1.a s_4.1.n s_4.1.c, .slice (some x_12) 1 1]) [.sc .sl] fun (x_13 : Sl) =>
        J_9 (x_13, s_4.2.1))
        (ld (.sc (.int .i64)) (Addr.add x_7 0) fun (x_14 : Int) =>
        joinW (σ := Int) (fun J_15 =>
          cond (decide (x_14 < 4194303))
            (J_15 (IntKind.wrap .i64 (s_4.2.1 + 1)))
            (J_15 s_4.2.1))
        <| fun s_16 =>
        J_9 (s_4.1, s_16)))
    <| fun s_17 =>
    K_3 (s_17.1, s_17.2, IntKind.wrap .i64 (s_4.2.2 + 1)))
      (retW (s_4.1, s_4.2.1)))
    ((⟨none, 0, 0⟩ : Sl), 0, 0))
def H_pinnaceref07_List : Hints := { con := [(13037, [(5, .sc (.int .i64))]), (10023, [(4, .sc .sl), (5, .sc (.int .i64))])], lop := [(0, [(4, .sc .sl), (5, .sc (.int .i64)), (17, .sc (.int .i64))])] }
theorem E_pinnaceref07_List (s0 : Option Addr) : denF Tryz.prog H_pinnaceref07_List Tryz.f82 [.sc .sl, .sc (.int .i64)] [.pointer s0] = F_pinnaceref07_List s0 := by kernel_rfl
theorem C_pinnaceref07_List {R : Type} (s0 : Option Addr) (K : Res [.sc .sl, .sc (.int .i64)] → W R) (Q : R → World → Prop) (w : World) (h : F_pinnaceref07_List s0 (fun r w => K r Q w) w) : callW Tryz.prog k_pinnaceref07_List [.pointer s0] [.sc .sl, .sc (.int .i64)] K Q w :=
  den_calls mix Tryz.func82 H_pinnaceref07_List (ts := [.sc .sl, .sc (.int .i64)]) trivial (by rw [Tryz.ntmps82]; simp) (by rw [E_pinnaceref07_List]; exact h)

/-! 83 pinnace/pinnaceref11.Ent -/
def F_pinnaceref11_Ent (s0 : Option Addr) (id1 : Int) : W ((Int × Sl) × Int) :=
  newW 34 [.int .u32 0, .slice none 0 0] fun x_1 =>
  cond (Option.isNone s0)
    (stoL x_1 [.int .u32 0, .slice none 0 0] 0 <|
    ld (.agg [.int .u32, .sl]) x_1 fun (x_2 : (Int × Sl)) =>
    retW (x_2, 10))
    (callW Tryz.prog k_pinnaceref11_find [.pointer s0, .int .u32 id1] [.sc .ptr] fun (x_3 : (Option Addr)) =>
  cond (Option.isNone x_3)
    (stoL x_1 [.int .u32 0, .slice none 0 0] 0 <|
    ld (.agg [.int .u32, .sl]) x_1 fun (x_4 : (Int × Sl)) =>
    retW (x_4, 7))
    (drawW <|
  ptrW x_3 fun x_5 =>
  ld (.sc .sl) (Addr.add x_5 1) fun (x_6 : Sl) =>
  callW Tryz.prog k_pinnaceref10_Row [.pointer x_3, .int .u32 id1] [.sc (.int .i64)] fun (x_7 : Int) =>
  andW (fun w => Rd w (Addr.add x_5 1) (.sc .sl) x_6) <|
  idxW x_6.a x_6.n 2 x_7 fun x_8 =>
  ld (.agg [.int .u32, .sl]) x_8 fun (x_9 : (Int × Sl)) =>
  stoL x_1 [.int .u32 x_9.1, .slice x_9.2.a x_9.2.n x_9.2.c] 0 <|
  ld (.agg [.int .u32, .sl]) x_1 fun (x_10 : (Int × Sl)) =>
  retW (x_10, 0)))
def H_pinnaceref11_Ent : Hints := { dr := [(6, ([], [[(0, []), (1, []), (2, []), (3, []), (4, []), (5, []), (6, [3]), (7, []), (8, []), (9, []), (10, [])]]))] }
theorem E_pinnaceref11_Ent (s0 : Option Addr) (id1 : Int) : denF Tryz.prog H_pinnaceref11_Ent Tryz.f83 [.agg [.int .u32, .sl], .sc (.int .i64)] [.pointer s0, .int .u32 id1] = F_pinnaceref11_Ent s0 id1 := by kernel_rfl
theorem C_pinnaceref11_Ent {R : Type} (s0 : Option Addr) (id1 : Int) (K : Res [.agg [.int .u32, .sl], .sc (.int .i64)] → W R) (Q : R → World → Prop) (w : World) (h : F_pinnaceref11_Ent s0 id1 (fun r w => K r Q w) w) : callW Tryz.prog k_pinnaceref11_Ent [.pointer s0, .int .u32 id1] [.agg [.int .u32, .sl], .sc (.int .i64)] K Q w :=
  den_calls mix Tryz.func83 H_pinnaceref11_Ent (ts := [.agg [.int .u32, .sl], .sc (.int .i64)]) ⟨by kernel_rfl, trivial⟩ (by rw [Tryz.ntmps83]; simp) (by rw [E_pinnaceref11_Ent]; exact h)

/-! 84 pinnace/schema.Range -/
def F_schema_Range (k0 : Int) (i1 : Int) : W (Int × Int × Int) :=
  callW Tryz.prog k_schema_at [.int .u8 k0, .int .i64 i1] [.agg [.str, .int .i32, .int .i32], .sc .bool] fun (x_1 : (ByteArray × Int × Int) × Bool) =>
  newW 253 [.string ⟨#[]⟩, .int .i32 0, .int .i32 0] fun f_2 =>
  stoL f_2 [.string x_1.1.1, .int .i32 x_1.1.2.1, .int .i32 x_1.1.2.2] 0 <|
  cond (!x_1.2)
    (retW (0, 0, 1))
    (drawW <|
  ld (.sc (.int .i32)) (Addr.add f_2 1) fun (x_3 : Int) =>
  ld (.sc (.int .i32)) (Addr.add f_2 2) fun (x_4 : Int) =>
  retW (x_3, x_4, 0))
def H_schema_Range : Hints := { dr := [(4, ([], [[(0, []), (1, []), (2, []), (3, []), (4, []), (5, []), (6, [])]]))] }
theorem E_schema_Range (k0 : Int) (i1 : Int) : denF Tryz.prog H_schema_Range Tryz.f84 [.sc (.int .i32), .sc (.int .i32), .sc (.int .i64)] [.int .u8 k0, .int .i64 i1] = F_schema_Range k0 i1 := by kernel_rfl
theorem C_schema_Range {R : Type} (k0 : Int) (i1 : Int) (K : Res [.sc (.int .i32), .sc (.int .i32), .sc (.int .i64)] → W R) (Q : R → World → Prop) (w : World) (h : F_schema_Range k0 i1 (fun r w => K r Q w) w) : callW Tryz.prog k_schema_Range [.int .u8 k0, .int .i64 i1] [.sc (.int .i32), .sc (.int .i32), .sc (.int .i64)] K Q w :=
  den_calls mix Tryz.func84 H_schema_Range (ts := [.sc (.int .i32), .sc (.int .i32), .sc (.int .i64)]) trivial (by rw [Tryz.ntmps84]; simp) (by rw [E_schema_Range]; exact h)

/-! 85 (*pinnace/store.Store).Get -/
def F_store_Store_Get (s0 : Option Addr) (id1 : Int) (kind2 : Int) : W ((Int × Int × Int × Int) × Int) :=
  newW 53 [.int .u8 0, .int .i32 0, .int .i32 0, .int .i32 0] fun x_1 =>
  callW Tryz.prog k_store_Store_of [.pointer s0, .int .u32 id1] [.sc .ptr, .sc (.int .i64)] fun (x_2 : (Option Addr) × Int) =>
  cond (x_2.2 != 0)
    (stoL x_1 [.int .u8 0, .int .i32 0, .int .i32 0, .int .i32 0] 0 <|
    ld (.agg [.int .u8, .int .i32, .int .i32, .int .i32]) x_1 fun (x_3 : (Int × Int × Int × Int)) =>
    retW (x_3, x_2.2))
    (callW Tryz.prog k_table_Table_Get [.pointer x_2.1, .int .u32 id1, .int .u8 kind2] [.agg [.int .u8, .int .i32, .int .i32, .int .i32], .sc (.int .i64)] fun (x_4 : (Int × Int × Int × Int) × Int) =>
  stoL x_1 [.int .u8 x_4.1.1, .int .i32 x_4.1.2.1, .int .i32 x_4.1.2.2.1, .int .i32 x_4.1.2.2.2] 0 <|
  ld (.agg [.int .u8, .int .i32, .int .i32, .int .i32]) x_1 fun (x_5 : (Int × Int × Int × Int)) =>
  retW (x_5, x_4.2))
def H_store_Store_Get : Hints := {}
theorem E_store_Store_Get (s0 : Option Addr) (id1 : Int) (kind2 : Int) : denF Tryz.prog H_store_Store_Get Tryz.f85 [.agg [.int .u8, .int .i32, .int .i32, .int .i32], .sc (.int .i64)] [.pointer s0, .int .u32 id1, .int .u8 kind2] = F_store_Store_Get s0 id1 kind2 := by kernel_rfl
theorem C_store_Store_Get {R : Type} (s0 : Option Addr) (id1 : Int) (kind2 : Int) (K : Res [.agg [.int .u8, .int .i32, .int .i32, .int .i32], .sc (.int .i64)] → W R) (Q : R → World → Prop) (w : World) (h : F_store_Store_Get s0 id1 kind2 (fun r w => K r Q w) w) : callW Tryz.prog k_store_Store_Get [.pointer s0, .int .u32 id1, .int .u8 kind2] [.agg [.int .u8, .int .i32, .int .i32, .int .i32], .sc (.int .i64)] K Q w :=
  den_calls mix Tryz.func85 H_store_Store_Get (ts := [.agg [.int .u8, .int .i32, .int .i32, .int .i32], .sc (.int .i64)]) ⟨by kernel_rfl, trivial⟩ (by rw [Tryz.ntmps85]; simp) (by rw [E_store_Store_Get]; exact h)

/-! 86 pinnace/pinnaceref05.Range -/
def F_pinnaceref05_Range (kind0 : Int) (i1 : Int) : W (Int × Int × Int) :=
  joinW (σ := Bool) (fun J_1 =>
    cond (decide (i1 < 0))
      (J_1 true)
      (callW Tryz.prog k_pinnaceref05_Count [.int .u8 kind0] [.sc (.int .i64)] fun (x_2 : Int) =>
          J_1 (decide (i1 ≥ x_2))))
  <| fun s_3 =>
  cond s_3
    (retW (0, 0, 1))
    (newW 21 [.int .i32 (-524288), .int .i32 (-524288)] fun x_4 =>
  newW 21 [.int .i32 (-32768), .int .i32 (-32768)] fun x_5 =>
  newW 21 [.int .i32 0] fun x_6 =>
  newW 21 [.int .i32 0, .int .i32 0, .int .i32 1] fun x_7 =>
  newW 21 [.int .i32 0, .int .i32 0, .int .i32 0] fun x_8 =>
  newW 21 [.int .i32 1, .int .i32 0, .int .i32 0] fun x_9 =>
  newW 256 [.slice (some x_4) 2 2, .slice (some x_5) 2 2, .slice (some x_6) 1 1, .slice (some x_7) 3 3, .slice (some x_8) 3 3, .slice (some x_9) 3 3] fun x_10 =>
  idxW (some x_10) 6 1 kind0 fun x_11 =>
  ld (.sc .sl) x_11 fun (x_12 : Sl) =>
  idxW x_12.a x_12.n 1 i1 fun x_13 =>
  ld (.sc (.int .i32)) x_13 fun (x_14 : Int) =>
  newW 21 [.int .i32 524287, .int .i32 524287] fun x_15 =>
  newW 21 [.int .i32 32767, .int .i32 32767] fun x_16 =>
  newW 21 [.int .i32 4095] fun x_17 =>
  newW 21 [.int .i32 15, .int .i32 1000, .int .i32 100] fun x_18 =>
  newW 21 [.int .i32 7, .int .i32 255, .int .i32 31] fun x_19 =>
  newW 21 [.int .i32 255, .int .i32 254, .int .i32 15] fun x_20 =>
  newW 256 [.slice (some x_15) 2 2, .slice (some x_16) 2 2, .slice (some x_17) 1 1, .slice (some x_18) 3 3, .slice (some x_19) 3 3, .slice (some x_20) 3 3] fun x_21 =>
  idxW (some x_21) 6 1 kind0 fun x_22 =>
  ld (.sc .sl) x_22 fun (x_23 : Sl) =>
  idxW x_23.a x_23.n 1 i1 fun x_24 =>
  ld (.sc (.int .i32)) x_24 fun (x_25 : Int) =>
  retW (x_14, x_25, 0))
def H_pinnaceref05_Range : Hints := { reg := [(1, [(16, .sc .bool)])] }
theorem E_pinnaceref05_Range (kind0 : Int) (i1 : Int) : denF Tryz.prog H_pinnaceref05_Range Tryz.f86 [.sc (.int .i32), .sc (.int .i32), .sc (.int .i64)] [.int .u8 kind0, .int .i64 i1] = F_pinnaceref05_Range kind0 i1 := by kernel_rfl
theorem C_pinnaceref05_Range {R : Type} (kind0 : Int) (i1 : Int) (K : Res [.sc (.int .i32), .sc (.int .i32), .sc (.int .i64)] → W R) (Q : R → World → Prop) (w : World) (h : F_pinnaceref05_Range kind0 i1 (fun r w => K r Q w) w) : callW Tryz.prog k_pinnaceref05_Range [.int .u8 kind0, .int .i64 i1] [.sc (.int .i32), .sc (.int .i32), .sc (.int .i64)] K Q w :=
  den_calls mix Tryz.func86 H_pinnaceref05_Range (ts := [.sc (.int .i32), .sc (.int .i32), .sc (.int .i64)]) trivial (by rw [Tryz.ntmps86]; simp) (by rw [E_pinnaceref05_Range]; exact h)

/-! 87 pinnace/pinnaceref05.Find -/
def F_pinnaceref05_Find (l0 : Sl) (kind1 : Int) : W (Int) :=
  loopW (σ := Int) (fun K_1 s_2 =>
    cond (decide (s_2 < (l0.n : Int)))
      (idxW l0.a l0.n 4 s_2 fun x_3 =>
    ld (.agg [.int .u8, .int .i32, .int .i32, .int .i32]) x_3 fun (x_4 : (Int × Int × Int × Int)) =>
    newW 53 [.int .u8 0, .int .i32 0, .int .i32 0, .int .i32 0] fun c_5 =>
    stoL c_5 [.int .u8 x_4.1, .int .i32 x_4.2.1, .int .i32 x_4.2.2.1, .int .i32 x_4.2.2.2] 0 <|
    ld (.sc (.int .u8)) (Addr.add c_5 0) fun (x_6 : Int) =>
    cond (x_6 == kind1)
      (retW s_2)
      (K_1 (IntKind.wrap .i64 (s_2 + 1))))
      (retW (-1)))
    0
def H_pinnaceref05_Find : Hints := { lop := [(0, [(9, .sc (.int .i64))])] }
theorem E_pinnaceref05_Find (l0 : Sl) (kind1 : Int) : denF Tryz.prog H_pinnaceref05_Find Tryz.f87 [.sc (.int .i64)] [.slice l0.a l0.n l0.c, .int .u8 kind1] = F_pinnaceref05_Find l0 kind1 := by kernel_rfl
theorem C_pinnaceref05_Find {R : Type} (l0 : Sl) (kind1 : Int) (K : Res [.sc (.int .i64)] → W R) (Q : R → World → Prop) (w : World) (h : F_pinnaceref05_Find l0 kind1 (fun r w => K r Q w) w) : callW Tryz.prog k_pinnaceref05_Find [.slice l0.a l0.n l0.c, .int .u8 kind1] [.sc (.int .i64)] K Q w :=
  den_calls mix Tryz.func87 H_pinnaceref05_Find (ts := [.sc (.int .i64)]) trivial (by rw [Tryz.ntmps87]; simp) (by rw [E_pinnaceref05_Find]; exact h)

/-! 89 pinnace/pinnaceref05.Count -/
def F_pinnaceref05_Count (kind0 : Int) : W (Int) :=
  cond (decide (kind0 > 5))
    (retW 0)
    (newW 3 [.int .i64 2, .int .i64 2, .int .i64 1, .int .i64 3, .int .i64 3, .int .i64 3] fun x_1 =>
  idxW (some x_1) 6 1 kind0 fun x_2 =>
  ld (.sc (.int .i64)) x_2 fun (x_3 : Int) =>
  retW x_3)
def H_pinnaceref05_Count : Hints := {}
theorem E_pinnaceref05_Count (kind0 : Int) : denF Tryz.prog H_pinnaceref05_Count Tryz.f89 [.sc (.int .i64)] [.int .u8 kind0] = F_pinnaceref05_Count kind0 := by kernel_rfl
theorem C_pinnaceref05_Count {R : Type} (kind0 : Int) (K : Res [.sc (.int .i64)] → W R) (Q : R → World → Prop) (w : World) (h : F_pinnaceref05_Count kind0 (fun r w => K r Q w) w) : callW Tryz.prog k_pinnaceref05_Count [.int .u8 kind0] [.sc (.int .i64)] K Q w :=
  den_calls mix Tryz.func89 H_pinnaceref05_Count (ts := [.sc (.int .i64)]) trivial (by rw [Tryz.ntmps89]; simp) (by rw [E_pinnaceref05_Count]; exact h)

/-! 94 (*pinnace/store.Store).Set -/
def F_store_Store_Set (s0 : Option Addr) (id1 : Int) (c2 : (Int × Int × Int × Int)) : W (Int) :=
  newW 53 [.int .u8 c2.1, .int .i32 c2.2.1, .int .i32 c2.2.2.1, .int .i32 c2.2.2.2] fun c_1 =>
  ld (.agg [.int .u8, .int .i32, .int .i32, .int .i32]) c_1 fun (x_2 : (Int × Int × Int × Int)) =>
  callW Tryz.prog k_schema_Check [.agg ⟨[.int .u8 x_2.1, .int .i32 x_2.2.1, .int .i32 x_2.2.2.1, .int .i32 x_2.2.2.2]⟩] [.sc (.int .i64)] fun (x_3 : Int) =>
  joinW (σ := Bool) (fun J_4 =>
    cond (x_3 != 0)
      (J_4 (!Option.isNone s0))
      (J_4 false))
  <| fun s_5 =>
  cond s_5
    (retW x_3)
    (callW Tryz.prog k_store_Store_of [.pointer s0, .int .u32 id1] [.sc .ptr, .sc (.int .i64)] fun (x_6 : (Option Addr) × Int) =>
  cond (x_6.2 != 0)
    (retW x_6.2)
    (ld (.agg [.int .u8, .int .i32, .int .i32, .int .i32]) c_1 fun (x_7 : (Int × Int × Int × Int)) =>
  callW Tryz.prog k_table_Table_Set [.pointer x_6.1, .int .u32 id1, .agg ⟨[.int .u8 x_7.1, .int .i32 x_7.2.1, .int .i32 x_7.2.2.1, .int .i32 x_7.2.2.2]⟩] [.sc (.int .i64)] fun (x_8 : Int) =>
  retW x_8))
def H_store_Store_Set : Hints := { reg := [(2, [(17, .sc .bool)])] }
theorem E_store_Store_Set (s0 : Option Addr) (id1 : Int) (c2 : (Int × Int × Int × Int)) : denF Tryz.prog H_store_Store_Set Tryz.f94 [.sc (.int .i64)] [.pointer s0, .int .u32 id1, .agg ⟨[.int .u8 c2.1, .int .i32 c2.2.1, .int .i32 c2.2.2.1, .int .i32 c2.2.2.2]⟩] = F_store_Store_Set s0 id1 c2 := by kernel_rfl
theorem C_store_Store_Set {R : Type} (s0 : Option Addr) (id1 : Int) (c2 : (Int × Int × Int × Int)) (K : Res [.sc (.int .i64)] → W R) (Q : R → World → Prop) (w : World) (h : F_store_Store_Set s0 id1 c2 (fun r w => K r Q w) w) : callW Tryz.prog k_store_Store_Set [.pointer s0, .int .u32 id1, .agg ⟨[.int .u8 c2.1, .int .i32 c2.2.1, .int .i32 c2.2.2.1, .int .i32 c2.2.2.2]⟩] [.sc (.int .i64)] K Q w :=
  den_calls mix Tryz.func94 H_store_Store_Set (ts := [.sc (.int .i64)]) trivial (by rw [Tryz.ntmps94]; simp) (by rw [E_store_Store_Set]; exact h)

/-! 96 pinnace/pinnaceref11.Set -/
def F_pinnaceref11_Set (s0 : Option Addr) (id1 : Int) (c2 : (Int × Int × Int × Int)) : W (Int) :=
  newW 53 [.int .u8 c2.1, .int .i32 c2.2.1, .int .i32 c2.2.2.1, .int .i32 c2.2.2.2] fun c_1 =>
  cond (Option.isNone s0)
    (retW 10)
    (ld (.agg [.int .u8, .int .i32, .int .i32, .int .i32]) c_1 fun (x_2 : (Int × Int × Int × Int)) =>
  callW Tryz.prog k_pinnaceref05_Check [.agg ⟨[.int .u8 x_2.1, .int .i32 x_2.2.1, .int .i32 x_2.2.2.1, .int .i32 x_2.2.2.2]⟩] [.sc (.int .i64)] fun (x_3 : Int) =>
  cond (x_3 != 0)
    (retW x_3)
    (ld (.sc (.int .u8)) (Addr.add c_1 0) fun (x_4 : Int) =>
  callW Tryz.prog k_pinnaceref11_Get [.pointer s0, .int .u32 id1, .int .u8 x_4] [.agg [.int .u8, .int .i32, .int .i32, .int .i32], .sc (.int .i64)] fun (x_5 : (Int × Int × Int × Int) × Int) =>
  newW 53 [.int .u8 0, .int .i32 0, .int .i32 0, .int .i32 0] fun x_6 =>
  stoL x_6 [.int .u8 x_5.1.1, .int .i32 x_5.1.2.1, .int .i32 x_5.1.2.2.1, .int .i32 x_5.1.2.2.2] 0 <|
  cond (x_5.2 != 0)
    (retW x_5.2)
    (drawW <|
  ld (.agg [.int .u8, .int .i32, .int .i32, .int .i32]) c_1 fun (x_7 : (Int × Int × Int × Int)) =>
  callW Tryz.prog k_pinnaceref11_find [.pointer s0, .int .u32 id1] [.sc .ptr] fun (x_8 : (Option Addr)) =>
  andW (fun w => Rd w c_1 (.agg [.int .u8, .int .i32, .int .i32, .int .i32]) x_7) <|
  callW Tryz.prog k_pinnaceref10_Set [.pointer x_8, .int .u32 id1, .agg ⟨[.int .u8 x_7.1, .int .i32 x_7.2.1, .int .i32 x_7.2.2.1, .int .i32 x_7.2.2.2]⟩] [.sc (.int .i64)] fun (x_9 : Int) =>
  retW x_9)))
def H_pinnaceref11_Set : Hints := { dr := [(9, ([], [[(0, []), (1, []), (3, []), (4, []), (2, [4]), (5, []), (6, [])]]))] }
theorem E_pinnaceref11_Set (s0 : Option Addr) (id1 : Int) (c2 : (Int × Int × Int × Int)) : denF Tryz.prog H_pinnaceref11_Set Tryz.f96 [.sc (.int .i64)] [.pointer s0, .int .u32 id1, .agg ⟨[.int .u8 c2.1, .int .i32 c2.2.1, .int .i32 c2.2.2.1, .int .i32 c2.2.2.2]⟩] = F_pinnaceref11_Set s0 id1 c2 := by kernel_rfl
theorem C_pinnaceref11_Set {R : Type} (s0 : Option Addr) (id1 : Int) (c2 : (Int × Int × Int × Int)) (K : Res [.sc (.int .i64)] → W R) (Q : R → World → Prop) (w : World) (h : F_pinnaceref11_Set s0 id1 c2 (fun r w => K r Q w) w) : callW Tryz.prog k_pinnaceref11_Set [.pointer s0, .int .u32 id1, .agg ⟨[.int .u8 c2.1, .int .i32 c2.2.1, .int .i32 c2.2.2.1, .int .i32 c2.2.2.2]⟩] [.sc (.int .i64)] K Q w :=
  den_calls mix Tryz.func96 H_pinnaceref11_Set (ts := [.sc (.int .i64)]) trivial (by rw [Tryz.ntmps96]; simp) (by rw [E_pinnaceref11_Set]; exact h)

/-! 97 (*pinnace/store.Store).Len -/
def F_store_Store_Len (s0 : Option Addr) : W (Int) :=
  callW Tryz.prog k_store_Store_numbers [.pointer s0] [.sc .ptr] fun (x_1 : (Option Addr)) =>
  callW Tryz.prog k_slots_Slots_Len [.pointer x_1] [.sc (.int .i64)] fun (x_2 : Int) =>
  retW x_2
def H_store_Store_Len : Hints := {}
theorem E_store_Store_Len (s0 : Option Addr) : denF Tryz.prog H_store_Store_Len Tryz.f97 [.sc (.int .i64)] [.pointer s0] = F_store_Store_Len s0 := by kernel_rfl
theorem C_store_Store_Len {R : Type} (s0 : Option Addr) (K : Res [.sc (.int .i64)] → W R) (Q : R → World → Prop) (w : World) (h : F_store_Store_Len s0 (fun r w => K r Q w) w) : callW Tryz.prog k_store_Store_Len [.pointer s0] [.sc (.int .i64)] K Q w :=
  den_calls mix Tryz.func97 H_store_Store_Len (ts := [.sc (.int .i64)]) trivial (by rw [Tryz.ntmps97]; simp) (by rw [E_store_Store_Len]; exact h)

/-! 98 pinnace/pinnaceref10.SameEnt -/
def F_pinnaceref10_SameEnt (a0 : (Int × Sl)) (b1 : (Int × Sl)) : W (Bool) :=
  newW 34 [.int .u32 a0.1, .slice a0.2.a a0.2.n a0.2.c] fun a_1 =>
  newW 34 [.int .u32 b1.1, .slice b1.2.a b1.2.n b1.2.c] fun b_2 =>
  joinW (σ := Bool) (fun J_3 =>
    ld (.sc (.int .u32)) (Addr.add a_1 0) fun (x_4 : Int) =>
    ld (.sc (.int .u32)) (Addr.add b_2 0) fun (x_5 : Int) =>
    cond (x_4 == x_5)
      (ld (.sc .sl) (Addr.add a_1 1) fun (x_6 : Sl) =>
        ld (.sc .sl) (Addr.add b_2 1) fun (x_7 : Sl) =>
            callW Tryz.prog k_pinnaceref05_Same [.slice x_6.a x_6.n x_6.c, .slice x_7.a x_7.n x_7.c] [.sc .bool] fun (x_8 : Bool) =>
              J_3 x_8)
      (J_3 false))
  <| fun s_9 =>
  retW s_9
def H_pinnaceref10_SameEnt : Hints := { reg := [(1, [(4, .sc .bool)])] }
theorem E_pinnaceref10_SameEnt (a0 : (Int × Sl)) (b1 : (Int × Sl)) : denF Tryz.prog H_pinnaceref10_SameEnt Tryz.f98 [.sc .bool] [.agg ⟨[.int .u32 a0.1, .slice a0.2.a a0.2.n a0.2.c]⟩, .agg ⟨[.int .u32 b1.1, .slice b1.2.a b1.2.n b1.2.c]⟩] = F_pinnaceref10_SameEnt a0 b1 := by kernel_rfl
theorem C_pinnaceref10_SameEnt {R : Type} (a0 : (Int × Sl)) (b1 : (Int × Sl)) (K : Res [.sc .bool] → W R) (Q : R → World → Prop) (w : World) (h : F_pinnaceref10_SameEnt a0 b1 (fun r w => K r Q w) w) : callW Tryz.prog k_pinnaceref10_SameEnt [.agg ⟨[.int .u32 a0.1, .slice a0.2.a a0.2.n a0.2.c]⟩, .agg ⟨[.int .u32 b1.1, .slice b1.2.a b1.2.n b1.2.c]⟩] [.sc .bool] K Q w :=
  den_calls mix Tryz.func98 H_pinnaceref10_SameEnt (ts := [.sc .bool]) trivial (by rw [Tryz.ntmps98]; simp) (by rw [E_pinnaceref10_SameEnt]; exact h)

/-! 99 (*pinnace/store.Store).numbers -/
def F_store_Store_numbers (s0 : Option Addr) : W ((Option Addr)) :=
  cond (Option.isNone s0)
    (retW none)
    (ptrW s0 fun x_1 =>
  ld (.sc .ptr) (Addr.add x_1 0) fun (x_2 : Option Addr) =>
  retW x_2)
def H_store_Store_numbers : Hints := {}
theorem E_store_Store_numbers (s0 : Option Addr) : denF Tryz.prog H_store_Store_numbers Tryz.f99 [.sc .ptr] [.pointer s0] = F_store_Store_numbers s0 := by kernel_rfl
theorem C_store_Store_numbers {R : Type} (s0 : Option Addr) (K : Res [.sc .ptr] → W R) (Q : R → World → Prop) (w : World) (h : F_store_Store_numbers s0 (fun r w => K r Q w) w) : callW Tryz.prog k_store_Store_numbers [.pointer s0] [.sc .ptr] K Q w :=
  den_calls mix Tryz.func99 H_store_Store_numbers (ts := [.sc .ptr]) trivial (by rw [Tryz.ntmps99]; simp) (by rw [E_store_Store_numbers]; exact h)

/-! 100 (*pinnace/slots.Slots).List -/
def F_slots_Slots_List (s0 : Option Addr) : W (Sl) :=
  cond (Option.isNone s0)
    (retW (⟨none, 0, 0⟩ : Sl))
    (ptrW s0 fun x_1 =>
  ld (.sc .sl) (Addr.add x_1 2) fun (x_2 : Sl) =>
  loopW (σ := Sl × Int) (fun K_3 s_4 =>
    cond (decide (s_4.2 < (x_2.n : Int)))
      (idxW x_2.a x_2.n 1 s_4.2 fun x_5 =>
    ld (.sc .bool) x_5 fun (x_6 : Bool) =>
    joinW (σ := Sl) (fun J_7 =>
      cond x_6
        (ptrW s0 fun x_8 =>
        ld (.sc .sl) (Addr.add x_8 1) fun (x_9 : Sl) =>
        idxW x_9.a x_9.n 1 s_4.2 fun x_10 =>
        ld (.sc (.int .i64)) x_10 fun (x_11 : Int) =>
        callW Tryz.prog k_slots_Make [.int .i64 s_4.2, .int .i64 x_11] [.sc (.int .u32), .sc (.int .i64)] fun (x_12 : Int × Int) =>
        newW 31 [.int .u32 x_12.1] fun x_13 =>
        rawW Tryz.prog (Builtin.append_ #[28, 28] 28 #[.slice s_4.1.a s_4.1.n s_4.1.c, .slice (some x_13) 1 1]) [.sc .sl] fun (x_14 : Sl) =>
        J_7 x_14)
        (J_7 s_4.1))
    <| fun s_15 =>
    K_3 (s_15, IntKind.wrap .i64 (s_4.2 + 1)))
      (callW Tryz.prog k_slices_Clip_ID [.slice s_4.1.a s_4.1.n s_4.1.c] [.sc .sl] fun (x_16 : Sl) =>
  retW x_16))
    ((⟨none, 0, 0⟩ : Sl), 0))
def H_slots_Slots_List : Hints := { con := [(9020, [(3, .sc .sl)])], lop := [(0, [(3, .sc .sl), (15, .sc (.int .i64))])] }
theorem E_slots_Slots_List (s0 : Option Addr) : denF Tryz.prog H_slots_Slots_List Tryz.f100 [.sc .sl] [.pointer s0] = F_slots_Slots_List s0 := by kernel_rfl
theorem C_slots_Slots_List {R : Type} (s0 : Option Addr) (K : Res [.sc .sl] → W R) (Q : R → World → Prop) (w : World) (h : F_slots_Slots_List s0 (fun r w => K r Q w) w) : callW Tryz.prog k_slots_Slots_List [.pointer s0] [.sc .sl] K Q w :=
  den_calls mix Tryz.func100 H_slots_Slots_List (ts := [.sc .sl]) trivial (by rw [Tryz.ntmps100]; simp) (by rw [E_slots_Slots_List]; exact h)

/-! 101 pinnace/pinnaceref07.Slot -/
def F_pinnaceref07_Slot (id0 : Int) : W (Int) :=
  retW (Int.tmod (IntKind.wrap .i64 id0) 1024)
def H_pinnaceref07_Slot : Hints := {}
theorem E_pinnaceref07_Slot (id0 : Int) : denF Tryz.prog H_pinnaceref07_Slot Tryz.f101 [.sc (.int .i64)] [.int .u32 id0] = F_pinnaceref07_Slot id0 := by kernel_rfl
theorem C_pinnaceref07_Slot {R : Type} (id0 : Int) (K : Res [.sc (.int .i64)] → W R) (Q : R → World → Prop) (w : World) (h : F_pinnaceref07_Slot id0 (fun r w => K r Q w) w) : callW Tryz.prog k_pinnaceref07_Slot [.int .u32 id0] [.sc (.int .i64)] K Q w :=
  den_calls mix Tryz.func101 H_pinnaceref07_Slot (ts := [.sc (.int .i64)]) trivial (by rw [Tryz.ntmps101]; simp) (by rw [E_pinnaceref07_Slot]; exact h)

/-! 103 pinnace/orders.New -/
def F_orders_New  : W ((Option Addr)) :=
  newW 270 [.slice none 0 0] fun x_1 =>
  retW (some x_1)
def H_orders_New : Hints := {}
theorem E_orders_New  : denF Tryz.prog H_orders_New Tryz.f103 [.sc .ptr] [] = F_orders_New := by kernel_rfl
theorem C_orders_New {R : Type}  (K : Res [.sc .ptr] → W R) (Q : R → World → Prop) (w : World) (h : F_orders_New (fun r w => K r Q w) w) : callW Tryz.prog k_orders_New [] [.sc .ptr] K Q w :=
  den_calls mix Tryz.func103 H_orders_New (ts := [.sc .ptr]) trivial (by rw [Tryz.ntmps103]; simp) (by rw [E_orders_New]; exact h)

/-! 104 (*pinnace/orders.Buffer).Push -/
def F_orders_Buffer_Push (b0 : Option Addr) (o1 : (Int × Int × Int × Sl)) : W (Int) :=
  newW 81 [.int .u8 o1.1, .int .u32 o1.2.1, .int .u8 o1.2.2.1, .slice o1.2.2.2.a o1.2.2.2.n o1.2.2.2.c] fun o_1 =>
  cond (Option.isNone b0)
    (retW 10)
    (ld (.agg [.int .u8, .int .u32, .int .u8, .sl]) o_1 fun (x_2 : (Int × Int × Int × Sl)) =>
  callW Tryz.prog k_orders_Check [.agg ⟨[.int .u8 x_2.1, .int .u32 x_2.2.1, .int .u8 x_2.2.2.1, .slice x_2.2.2.2.a x_2.2.2.2.n x_2.2.2.2.c]⟩] [.sc (.int .i64)] fun (x_3 : Int) =>
  cond (x_3 != 0)
    (retW x_3)
    (ptrW b0 fun x_4 =>
  ld (.sc .sl) (Addr.add x_4 0) fun (x_5 : Sl) =>
  cond (decide ((x_5.n : Int) ≥ 256))
    (retW 8)
    (ld (.sc .sl) (Addr.add o_1 3) fun (x_6 : Sl) =>
  callW Tryz.prog k_slices_Clone_Comp [.slice x_6.a x_6.n x_6.c] [.sc .sl] fun (x_7 : Sl) =>
  stoL (Addr.add o_1 3) [.slice x_7.a x_7.n x_7.c] 0 <|
  drawW <|
  ptrW b0 fun x_8 =>
  ld (.sc .sl) (Addr.add x_8 0) fun (x_9 : Sl) =>
  ld (.agg [.int .u8, .int .u32, .int .u8, .sl]) o_1 fun (x_10 : (Int × Int × Int × Sl)) =>
  newW 81 [.int .u8 x_10.1, .int .u32 x_10.2.1, .int .u8 x_10.2.2.1, .slice x_10.2.2.2.a x_10.2.2.2.n x_10.2.2.2.c] fun x_11 =>
  rawW Tryz.prog (Builtin.append_ #[76, 76] 76 #[.slice x_9.a x_9.n x_9.c, .slice (some x_11) 1 1]) [.sc .sl] fun (x_12 : Sl) =>
  ptrW b0 fun x_13 =>
  stoL (Addr.add x_13 0) [.slice x_12.a x_12.n x_12.c] 0 <|
  retW 0)))
def H_orders_Buffer_Push : Hints := { dr := [(9, ([], [[(0, []), (1, []), (2, []), (3, []), (4, []), (5, []), (6, []), (7, []), (8, []), (9, []), (10, [])]]))] }
theorem E_orders_Buffer_Push (b0 : Option Addr) (o1 : (Int × Int × Int × Sl)) : denF Tryz.prog H_orders_Buffer_Push Tryz.f104 [.sc (.int .i64)] [.pointer b0, .agg ⟨[.int .u8 o1.1, .int .u32 o1.2.1, .int .u8 o1.2.2.1, .slice o1.2.2.2.a o1.2.2.2.n o1.2.2.2.c]⟩] = F_orders_Buffer_Push b0 o1 := by kernel_rfl
theorem C_orders_Buffer_Push {R : Type} (b0 : Option Addr) (o1 : (Int × Int × Int × Sl)) (K : Res [.sc (.int .i64)] → W R) (Q : R → World → Prop) (w : World) (h : F_orders_Buffer_Push b0 o1 (fun r w => K r Q w) w) : callW Tryz.prog k_orders_Buffer_Push [.pointer b0, .agg ⟨[.int .u8 o1.1, .int .u32 o1.2.1, .int .u8 o1.2.2.1, .slice o1.2.2.2.a o1.2.2.2.n o1.2.2.2.c]⟩] [.sc (.int .i64)] K Q w :=
  den_calls mix Tryz.func104 H_orders_Buffer_Push (ts := [.sc (.int .i64)]) trivial (by rw [Tryz.ntmps104]; simp) (by rw [E_orders_Buffer_Push]; exact h)

/-! 105 pinnace/orders.All -/
def F_orders_All (s0 : Option Addr) (l1 : Sl) : W (Sl) :=
  loopW (σ := Sl × Int) (fun K_1 s_2 =>
    cond (decide (s_2.2 < (l1.n : Int)))
      (idxW l1.a l1.n 4 s_2.2 fun x_3 =>
    ld (.agg [.int .u8, .int .u32, .int .u8, .sl]) x_3 fun (x_4 : (Int × Int × Int × Sl)) =>
    newW 81 [.int .u8 0, .int .u32 0, .int .u8 0, .slice none 0 0] fun o_5 =>
    stoL o_5 [.int .u8 x_4.1, .int .u32 x_4.2.1, .int .u8 x_4.2.2.1, .slice x_4.2.2.2.a x_4.2.2.2.n x_4.2.2.2.c] 0 <|
    ld (.agg [.int .u8, .int .u32, .int .u8, .sl]) o_5 fun (x_6 : (Int × Int × Int × Sl)) =>
    callW Tryz.prog k_orders_Do [.pointer s0, .agg ⟨[.int .u8 x_6.1, .int .u32 x_6.2.1, .int .u8 x_6.2.2.1, .slice x_6.2.2.2.a x_6.2.2.2.n x_6.2.2.2.c]⟩] [.agg [.int .i64, .int .u32]] fun (x_7 : (Int × Int)) =>
    newW 107 [.int .i64 x_7.1, .int .u32 x_7.2] fun x_8 =>
    rawW Tryz.prog (Builtin.append_ #[83, 83] 83 #[.slice s_2.1.a s_2.1.n s_2.1.c, .slice (some x_8) 1 1]) [.sc .sl] fun (x_9 : Sl) =>
    K_1 (x_9, IntKind.wrap .i64 (s_2.2 + 1)))
      (retW s_2.1))
    ((⟨none, 0, 0⟩ : Sl), 0)
def H_orders_All : Hints := { lop := [(0, [(5, .sc .sl), (10, .sc (.int .i64))])] }
theorem E_orders_All (s0 : Option Addr) (l1 : Sl) : denF Tryz.prog H_orders_All Tryz.f105 [.sc .sl] [.pointer s0, .slice l1.a l1.n l1.c] = F_orders_All s0 l1 := by kernel_rfl
theorem C_orders_All {R : Type} (s0 : Option Addr) (l1 : Sl) (K : Res [.sc .sl] → W R) (Q : R → World → Prop) (w : World) (h : F_orders_All s0 l1 (fun r w => K r Q w) w) : callW Tryz.prog k_orders_All [.pointer s0, .slice l1.a l1.n l1.c] [.sc .sl] K Q w :=
  den_calls mix Tryz.func105 H_orders_All (ts := [.sc .sl]) trivial (by rw [Tryz.ntmps105]; simp) (by rw [E_orders_All]; exact h)

/-! 106 (*pinnace/orders.Buffer).Take -/
def F_orders_Buffer_Take (b0 : Option Addr) : W (Sl) :=
  cond (Option.isNone b0)
    (retW (⟨none, 0, 0⟩ : Sl))
    (ptrW b0 fun x_1 =>
  ld (.sc .sl) (Addr.add x_1 0) fun (x_2 : Sl) =>
  ptrW b0 fun x_3 =>
  stoL (Addr.add x_3 0) [.slice none 0 0] 0 <|
  callW Tryz.prog k_slices_Clip_Order [.slice x_2.a x_2.n x_2.c] [.sc .sl] fun (x_4 : Sl) =>
  retW x_4)
def H_orders_Buffer_Take : Hints := {}
theorem E_orders_Buffer_Take (b0 : Option Addr) : denF Tryz.prog H_orders_Buffer_Take Tryz.f106 [.sc .sl] [.pointer b0] = F_orders_Buffer_Take b0 := by kernel_rfl
theorem C_orders_Buffer_Take {R : Type} (b0 : Option Addr) (K : Res [.sc .sl] → W R) (Q : R → World → Prop) (w : World) (h : F_orders_Buffer_Take b0 (fun r w => K r Q w) w) : callW Tryz.prog k_orders_Buffer_Take [.pointer b0] [.sc .sl] K Q w :=
  den_calls mix Tryz.func106 H_orders_Buffer_Take (ts := [.sc .sl]) trivial (by rw [Tryz.ntmps106]; simp) (by rw [E_orders_Buffer_Take]; exact h)

/-! 111 (*pinnace/orders.Buffer).Len -/
def F_orders_Buffer_Len (b0 : Option Addr) : W (Int) :=
  cond (Option.isNone b0)
    (retW 0)
    (ptrW b0 fun x_1 =>
  ld (.sc .sl) (Addr.add x_1 0) fun (x_2 : Sl) =>
  retW (x_2.n : Int))
def H_orders_Buffer_Len : Hints := {}
theorem E_orders_Buffer_Len (b0 : Option Addr) : denF Tryz.prog H_orders_Buffer_Len Tryz.f111 [.sc (.int .i64)] [.pointer b0] = F_orders_Buffer_Len b0 := by kernel_rfl
theorem C_orders_Buffer_Len {R : Type} (b0 : Option Addr) (K : Res [.sc (.int .i64)] → W R) (Q : R → World → Prop) (w : World) (h : F_orders_Buffer_Len b0 (fun r w => K r Q w) w) : callW Tryz.prog k_orders_Buffer_Len [.pointer b0] [.sc (.int .i64)] K Q w :=
  den_calls mix Tryz.func111 H_orders_Buffer_Len (ts := [.sc (.int .i64)]) trivial (by rw [Tryz.ntmps111]; simp) (by rw [E_orders_Buffer_Len]; exact h)

/-! 114 pinnace/pinnaceref07.New -/
def F_pinnaceref07_New (n0 : Int) (first1 : Int) : W ((Option Addr) × Int) :=
  joinW (σ := Bool) (fun J_1 =>
    cond (decide (n0 < 1))
      (J_1 true)
      (cond (decide (n0 > 1024))
          (J_1 true)
          (cond (decide (first1 < 1))
              (J_1 true)
              (J_1 (decide (first1 > 4194303))))))
  <| fun s_2 =>
  cond s_2
    (retW (none, 1))
    (rawW Tryz.prog (Instr.makeSlice 245 (.int .i64 n0) (.int .i64 n0)) [.sc .sl] fun (x_3 : Sl) =>
  newW 247 [.int .i64 first1, .slice x_3.a x_3.n x_3.c, .int .i64 0] fun x_4 =>
  retW ((some x_4), 0))
def H_pinnaceref07_New : Hints := { reg := [(1, [(19, .sc .bool)])] }
theorem E_pinnaceref07_New (n0 : Int) (first1 : Int) : denF Tryz.prog H_pinnaceref07_New Tryz.f114 [.sc .ptr, .sc (.int .i64)] [.int .i64 n0, .int .i64 first1] = F_pinnaceref07_New n0 first1 := by kernel_rfl
theorem C_pinnaceref07_New {R : Type} (n0 : Int) (first1 : Int) (K : Res [.sc .ptr, .sc (.int .i64)] → W R) (Q : R → World → Prop) (w : World) (h : F_pinnaceref07_New n0 first1 (fun r w => K r Q w) w) : callW Tryz.prog k_pinnaceref07_New [.int .i64 n0, .int .i64 first1] [.sc .ptr, .sc (.int .i64)] K Q w :=
  den_calls mix Tryz.func114 H_pinnaceref07_New (ts := [.sc .ptr, .sc (.int .i64)]) trivial (by rw [Tryz.ntmps114]; simp) (by rw [E_pinnaceref07_New]; exact h)

/-! 115 pinnace/pinnaceref07.Take -/
def F_pinnaceref07_Take (d0 : Option Addr) : W (Int × Int) :=
  cond (Option.isNone d0)
    (retW (0, 10))
    (ptrW d0 fun x_1 =>
  ld (.sc .sl) (Addr.add x_1 1) fun (x_2 : Sl) =>
  loopW (σ := Int × Int) (fun K_3 s_4 =>
    cond (decide (s_4.2 < (x_2.n : Int)))
      (idxW x_2.a x_2.n 3 s_4.2 fun x_5 =>
    ld (.agg [.int .i64, .bool, .int .i64]) x_5 fun (x_6 : (Int × Bool × Int)) =>
    newW 249 [.int .i64 0, .bool false, .int .i64 0] fun x_7 =>
    stoL x_7 [.int .i64 x_6.1, .bool x_6.2.1, .int .i64 x_6.2.2] 0 <|
    joinW (σ := Bool) (fun J_8 =>
      drawW <|
      ld (.sc (.int .i64)) (Addr.add x_7 2) fun (x_9 : Int) =>
      cond (decide (x_9 > 0))
        (cond (decide (s_4.1 < 0))
              (J_8 true)
              (ld (.sc (.int .i64)) (Addr.add x_7 2) fun (x_10 : Int) =>
                ptrW d0 fun x_11 =>
                    ld (.sc .sl) (Addr.add x_11 1) fun (x_12 : Sl) =>
                        idxW x_12.a x_12.n 3 s_4.1 fun x_13 =>
                            ld (.sc (.int .i64)) (Addr.add x_13 2) fun (x_14 : Int) =>
                                J_8 (decide (x_10 > x_14))))
        (J_8 false))
    <| fun s_15 =>
    joinW (σ := Int) (fun J_16 =>
      cond s_15
        (J_16 s_4.2)
        (J_16 s_4.1))
    <| fun s_17 =>
    K_3 (s_17, IntKind.wrap .i64 (s_4.2 + 1)))
      (loopW (σ := Int × Int) (fun K_18 s_19 =>
    joinW (σ := Bool) (fun J_20 =>
      cond (decide (s_19.1 < 0))
        (ptrW d0 fun x_21 =>
            ld (.sc .sl) (Addr.add x_21 1) fun (x_22 : Sl) =>
                J_20 (decide (s_19.2 < (x_22.n : Int))))
        (J_20 false))
    <| fun s_23 =>
    cond s_23
      (ptrW d0 fun x_24 =>
    ld (.sc .sl) (Addr.add x_24 1) fun (x_25 : Sl) =>
    idxW x_25.a x_25.n 3 s_19.2 fun x_26 =>
    ld (.sc (.int .i64)) (Addr.add x_26 0) fun (x_27 : Int) =>
    joinW (σ := Int) (fun J_28 =>
      cond (x_27 == 0)
        (J_28 s_19.2)
        (J_28 s_19.1))
    <| fun s_29 =>
    K_18 (s_29, IntKind.wrap .i64 (s_19.2 + 1)))
      (cond (decide (s_19.1 < 0))
    (retW (0, 8))
    (ptrW d0 fun x_30 =>
  ld (.sc .sl) (Addr.add x_30 1) fun (x_31 : Sl) =>
  idxW x_31.a x_31.n 3 s_19.1 fun x_32 =>
  ld (.sc (.int .i64)) (Addr.add x_32 0) fun (x_33 : Int) =>
  joinW (σ := Int) (fun J_34 =>
    cond ((IntKind.wrap .i64 (x_33 + 1)) == 1)
      (ptrW d0 fun x_35 =>
      ld (.sc (.int .i64)) (Addr.add x_35 0) fun (x_36 : Int) =>
      J_34 x_36)
      (J_34 (IntKind.wrap .i64 (x_33 + 1))))
  <| fun s_37 =>
  ptrW d0 fun x_38 =>
  ld (.sc .sl) (Addr.add x_38 1) fun (x_39 : Sl) =>
  idxW x_39.a x_39.n 3 s_19.1 fun x_40 =>
  stoL x_40 [.int .i64 s_37, .bool true, .int .i64 0] 0 <|
  callW Tryz.prog k_pinnaceref07_Make [.int .i64 s_19.1, .int .i64 s_37] [.sc (.int .u32), .sc (.int .i64)] fun (x_41 : Int × Int) =>
  retW (x_41.1, x_41.2))))
    (s_4.1, 0)))
    ((-1), 0))
def H_pinnaceref07_Take : Hints := { reg := [(7, [(40, .sc .bool)]), (11, [(53, .sc .bool)])], con := [(9040, [(4, .sc (.int .i64))]), (15064, [(4, .sc (.int .i64))]), (20078, [(8, .sc (.int .i64))])], lop := [(0, [(4, .sc (.int .i64)), (16, .sc (.int .i64))]), (2, [(4, .sc (.int .i64)), (7, .sc (.int .i64))])], dr := [(7, ([], [[(0, []), (1, []), (2, []), (3, []), (4, []), (5, []), (6, []), (7, []), (8, []), (9, []), (10, []), (11, []), (12, []), (13, []), (14, []), (15, []), (16, []), (17, []), (18, []), (19, [])]]))] }
theorem E_pinnaceref07_Take (d0 : Option Addr) : denF Tryz.prog H_pinnaceref07_Take Tryz.f115 [.sc (.int .u32), .sc (.int .i64)] [.pointer d0] = F_pinnaceref07_Take d0 := by kernel_rfl
theorem C_pinnaceref07_Take {R : Type} (d0 : Option Addr) (K : Res [.sc (.int .u32), .sc (.int .i64)] → W R) (Q : R → World → Prop) (w : World) (h : F_pinnaceref07_Take d0 (fun r w => K r Q w) w) : callW Tryz.prog k_pinnaceref07_Take [.pointer d0] [.sc (.int .u32), .sc (.int .i64)] K Q w :=
  den_calls mix Tryz.func115 H_pinnaceref07_Take (ts := [.sc (.int .u32), .sc (.int .i64)]) trivial (by rw [Tryz.ntmps115]; simp) (by rw [E_pinnaceref07_Take]; exact h)

/-! 116 pinnace/pinnaceref11.put -/
def F_pinnaceref11_put (s0 : Option Addr) (id1 : Int) (l2 : Sl) : W (Unit) :=
  drawW <|
  ptrW s0 fun x_1 =>
  callW Tryz.prog k_pinnaceref05_Mask [.slice l2.a l2.n l2.c] [.sc (.int .u8)] fun (x_2 : Int) =>
  idxW (some (Addr.add x_1 1)) 64 2 x_2 fun x_3 =>
  callW Tryz.prog k_pinnaceref10_Add [.pointer (some x_3), .int .u32 id1, .slice l2.a l2.n l2.c] [.sc (.int .i64)] fun (x_4 : Int) =>
  retW ()
def H_pinnaceref11_put : Hints := { dr := [(0, ([], [[(0, []), (1, []), (3, []), (4, []), (6, []), (7, []), (2, []), (5, []), (8, [])]]))] }
theorem E_pinnaceref11_put (s0 : Option Addr) (id1 : Int) (l2 : Sl) : denF Tryz.prog H_pinnaceref11_put Tryz.f116 [] [.pointer s0, .int .u32 id1, .slice l2.a l2.n l2.c] = F_pinnaceref11_put s0 id1 l2 := by kernel_rfl
theorem C_pinnaceref11_put {R : Type} (s0 : Option Addr) (id1 : Int) (l2 : Sl) (K : Res [] → W R) (Q : R → World → Prop) (w : World) (h : F_pinnaceref11_put s0 id1 l2 (fun r w => K r Q w) w) : callW Tryz.prog k_pinnaceref11_put [.pointer s0, .int .u32 id1, .slice l2.a l2.n l2.c] [] K Q w :=
  den_calls mix Tryz.func116 H_pinnaceref11_put (ts := []) trivial (by rw [Tryz.ntmps116]; simp) (by rw [E_pinnaceref11_put]; exact h)

/-! 117 pinnace/pinnaceref13.Check -/
def F_pinnaceref13_Check (o0 : (Int × Int × Int × Sl)) : W (Int) :=
  newW 81 [.int .u8 o0.1, .int .u32 o0.2.1, .int .u8 o0.2.2.1, .slice o0.2.2.2.a o0.2.2.2.n o0.2.2.2.c] fun o_1 =>
  joinW (σ := Bool) (fun J_2 =>
    ld (.sc (.int .u8)) (Addr.add o_1 0) fun (x_3 : Int) =>
    cond (decide (x_3 < 1))
      (J_2 true)
      (ld (.sc (.int .u8)) (Addr.add o_1 0) fun (x_4 : Int) =>
        J_2 (decide (x_4 > 5))))
  <| fun s_5 =>
  cond s_5
    (retW 1)
    (ld (.sc (.int .u8)) (Addr.add o_1 0) fun (x_6 : Int) =>
  cond (x_6 == 1)
    (ld (.sc .sl) (Addr.add o_1 3) fun (x_7 : Sl) =>
    callW Tryz.prog k_pinnaceref05_List [.slice x_7.a x_7.n x_7.c] [.sc (.int .i64)] fun (x_8 : Int) =>
    retW x_8)
    (joinW (σ := Bool) (fun J_9 =>
    ld (.sc (.int .u8)) (Addr.add o_1 0) fun (x_10 : Int) =>
    cond (x_10 == 5)
      (ld (.sc (.int .u8)) (Addr.add o_1 2) fun (x_11 : Int) =>
        J_9 (decide (x_11 > 5)))
      (J_9 false))
  <| fun s_12 =>
  cond s_12
    (retW 1)
    (joinW (σ := Bool) (fun J_13 =>
    ld (.sc (.int .u8)) (Addr.add o_1 0) fun (x_14 : Int) =>
    cond (x_14 == 3)
      (J_13 true)
      (ld (.sc (.int .u8)) (Addr.add o_1 0) fun (x_15 : Int) =>
        J_13 (x_15 == 4)))
  <| fun s_16 =>
  joinW (σ := Int) (fun J_17 =>
    cond s_16
      (J_17 1)
      (J_17 0))
  <| fun s_18 =>
  ld (.sc .sl) (Addr.add o_1 3) fun (x_19 : Sl) =>
  cond ((x_19.n : Int) != s_18)
    (retW 4)
    (cond (s_18 == 1)
    (ld (.sc .sl) (Addr.add o_1 3) fun (x_20 : Sl) =>
    idxW x_20.a x_20.n 4 0 fun x_21 =>
    ld (.agg [.int .u8, .int .i32, .int .i32, .int .i32]) x_21 fun (x_22 : (Int × Int × Int × Int)) =>
    callW Tryz.prog k_pinnaceref05_Check [.agg ⟨[.int .u8 x_22.1, .int .i32 x_22.2.1, .int .i32 x_22.2.2.1, .int .i32 x_22.2.2.2]⟩] [.sc (.int .i64)] fun (x_23 : Int) =>
    retW x_23)
    (retW 0)))))
def H_pinnaceref13_Check : Hints := { reg := [(1, [(11, .sc .bool)]), (5, [(25, .sc .bool)]), (8, [(33, .sc .bool)])], con := [(10033, [(3, .sc (.int .i64))])] }
theorem E_pinnaceref13_Check (o0 : (Int × Int × Int × Sl)) : denF Tryz.prog H_pinnaceref13_Check Tryz.f117 [.sc (.int .i64)] [.agg ⟨[.int .u8 o0.1, .int .u32 o0.2.1, .int .u8 o0.2.2.1, .slice o0.2.2.2.a o0.2.2.2.n o0.2.2.2.c]⟩] = F_pinnaceref13_Check o0 := by kernel_rfl
theorem C_pinnaceref13_Check {R : Type} (o0 : (Int × Int × Int × Sl)) (K : Res [.sc (.int .i64)] → W R) (Q : R → World → Prop) (w : World) (h : F_pinnaceref13_Check o0 (fun r w => K r Q w) w) : callW Tryz.prog k_pinnaceref13_Check [.agg ⟨[.int .u8 o0.1, .int .u32 o0.2.1, .int .u8 o0.2.2.1, .slice o0.2.2.2.a o0.2.2.2.n o0.2.2.2.c]⟩] [.sc (.int .i64)] K Q w :=
  den_calls mix Tryz.func117 H_pinnaceref13_Check (ts := [.sc (.int .i64)]) trivial (by rw [Tryz.ntmps117]; simp) (by rw [E_pinnaceref13_Check]; exact h)

/-! 118 pinnace/pinnaceref11.Add -/
def F_pinnaceref11_Add (s0 : Option Addr) (id1 : Int) (c2 : (Int × Int × Int × Int)) : W (Int) :=
  newW 53 [.int .u8 c2.1, .int .i32 c2.2.1, .int .i32 c2.2.2.1, .int .i32 c2.2.2.2] fun c_1 =>
  cond (Option.isNone s0)
    (retW 10)
    (ld (.agg [.int .u8, .int .i32, .int .i32, .int .i32]) c_1 fun (x_2 : (Int × Int × Int × Int)) =>
  callW Tryz.prog k_pinnaceref05_Check [.agg ⟨[.int .u8 x_2.1, .int .i32 x_2.2.1, .int .i32 x_2.2.2.1, .int .i32 x_2.2.2.2]⟩] [.sc (.int .i64)] fun (x_3 : Int) =>
  cond (x_3 != 0)
    (retW x_3)
    (callW Tryz.prog k_pinnaceref11_Ent [.pointer s0, .int .u32 id1] [.agg [.int .u32, .sl], .sc (.int .i64)] fun (x_4 : (Int × Sl) × Int) =>
  newW 34 [.int .u32 0, .slice none 0 0] fun x_5 =>
  stoL x_5 [.int .u32 x_4.1.1, .slice x_4.1.2.a x_4.1.2.n x_4.1.2.c] 0 <|
  cond (x_4.2 != 0)
    (retW x_4.2)
    (ld (.sc .sl) (Addr.add x_5 1) fun (x_6 : Sl) =>
  ld (.sc (.int .u8)) (Addr.add c_1 0) fun (x_7 : Int) =>
  callW Tryz.prog k_pinnaceref05_Find [.slice x_6.a x_6.n x_6.c, .int .u8 x_7] [.sc (.int .i64)] fun (x_8 : Int) =>
  cond (decide (x_8 ≥ 0))
    (retW 9)
    (ld (.sc .sl) (Addr.add x_5 1) fun (x_9 : Sl) =>
  ld (.agg [.int .u8, .int .i32, .int .i32, .int .i32]) c_1 fun (x_10 : (Int × Int × Int × Int)) =>
  callW Tryz.prog k_pinnaceref05_With [.slice x_9.a x_9.n x_9.c, .agg ⟨[.int .u8 x_10.1, .int .i32 x_10.2.1, .int .i32 x_10.2.2.1, .int .i32 x_10.2.2.2]⟩] [.sc .sl] fun (x_11 : Sl) =>
  callW Tryz.prog k_pinnaceref11_turn [.pointer s0, .int .u32 id1, .slice x_11.a x_11.n x_11.c] [] fun (x_12 : Unit) =>
  retW 0))))
def H_pinnaceref11_Add : Hints := {}
theorem E_pinnaceref11_Add (s0 : Option Addr) (id1 : Int) (c2 : (Int × Int × Int × Int)) : denF Tryz.prog H_pinnaceref11_Add Tryz.f118 [.sc (.int .i64)] [.pointer s0, .int .u32 id1, .agg ⟨[.int .u8 c2.1, .int .i32 c2.2.1, .int .i32 c2.2.2.1, .int .i32 c2.2.2.2]⟩] = F_pinnaceref11_Add s0 id1 c2 := by kernel_rfl
theorem C_pinnaceref11_Add {R : Type} (s0 : Option Addr) (id1 : Int) (c2 : (Int × Int × Int × Int)) (K : Res [.sc (.int .i64)] → W R) (Q : R → World → Prop) (w : World) (h : F_pinnaceref11_Add s0 id1 c2 (fun r w => K r Q w) w) : callW Tryz.prog k_pinnaceref11_Add [.pointer s0, .int .u32 id1, .agg ⟨[.int .u8 c2.1, .int .i32 c2.2.1, .int .i32 c2.2.2.1, .int .i32 c2.2.2.2]⟩] [.sc (.int .i64)] K Q w :=
  den_calls mix Tryz.func118 H_pinnaceref11_Add (ts := [.sc (.int .i64)]) trivial (by rw [Tryz.ntmps118]; simp) (by rw [E_pinnaceref11_Add]; exact h)

/-! 119 pinnace/pinnaceref11.Remove -/
def F_pinnaceref11_Remove (s0 : Option Addr) (id1 : Int) (kind2 : Int) : W (Int) :=
  callW Tryz.prog k_pinnaceref11_Ent [.pointer s0, .int .u32 id1] [.agg [.int .u32, .sl], .sc (.int .i64)] fun (x_1 : (Int × Sl) × Int) =>
  newW 34 [.int .u32 0, .slice none 0 0] fun x_2 =>
  stoL x_2 [.int .u32 x_1.1.1, .slice x_1.1.2.a x_1.1.2.n x_1.1.2.c] 0 <|
  cond (x_1.2 != 0)
    (retW x_1.2)
    (ld (.sc .sl) (Addr.add x_2 1) fun (x_3 : Sl) =>
  callW Tryz.prog k_pinnaceref05_Find [.slice x_3.a x_3.n x_3.c, .int .u8 kind2] [.sc (.int .i64)] fun (x_4 : Int) =>
  cond (decide (x_4 < 0))
    (retW 10)
    (ld (.sc .sl) (Addr.add x_2 1) fun (x_5 : Sl) =>
  callW Tryz.prog k_pinnaceref05_Without [.slice x_5.a x_5.n x_5.c, .int .u8 kind2] [.sc .sl] fun (x_6 : Sl) =>
  callW Tryz.prog k_pinnaceref11_turn [.pointer s0, .int .u32 id1, .slice x_6.a x_6.n x_6.c] [] fun (x_7 : Unit) =>
  retW 0))
def H_pinnaceref11_Remove : Hints := {}
theorem E_pinnaceref11_Remove (s0 : Option Addr) (id1 : Int) (kind2 : Int) : denF Tryz.prog H_pinnaceref11_Remove Tryz.f119 [.sc (.int .i64)] [.pointer s0, .int .u32 id1, .int .u8 kind2] = F_pinnaceref11_Remove s0 id1 kind2 := by kernel_rfl
theorem C_pinnaceref11_Remove {R : Type} (s0 : Option Addr) (id1 : Int) (kind2 : Int) (K : Res [.sc (.int .i64)] → W R) (Q : R → World → Prop) (w : World) (h : F_pinnaceref11_Remove s0 id1 kind2 (fun r w => K r Q w) w) : callW Tryz.prog k_pinnaceref11_Remove [.pointer s0, .int .u32 id1, .int .u8 kind2] [.sc (.int .i64)] K Q w :=
  den_calls mix Tryz.func119 H_pinnaceref11_Remove (ts := [.sc (.int .i64)]) trivial (by rw [Tryz.ntmps119]; simp) (by rw [E_pinnaceref11_Remove]; exact h)

/-! 128 slices.Clip[[]pinnace/api.ID,pinnace/api.ID] -/
def F_slices_Clip_ID (s0 : Sl) : W (Sl) :=
  rawQ Tryz.prog (Instr.sliceAt 28 (.slice s0.a s0.n s0.c) none (some (.int .i64 (s0.n : Int))) (some (.int .i64 (s0.n : Int)))) [.sc .sl] fun (x_1 : Sl) =>
  retW x_1
def H_slices_Clip_ID : Hints := {}
theorem E_slices_Clip_ID (s0 : Sl) : denF Tryz.prog H_slices_Clip_ID Tryz.f128 [.sc .sl] [.slice s0.a s0.n s0.c] = F_slices_Clip_ID s0 := by kernel_rfl
theorem C_slices_Clip_ID {R : Type} (s0 : Sl) (K : Res [.sc .sl] → W R) (Q : R → World → Prop) (w : World) (h : F_slices_Clip_ID s0 (fun r w => K r Q w) w) : callW Tryz.prog k_slices_Clip_ID [.slice s0.a s0.n s0.c] [.sc .sl] K Q w :=
  den_calls mix Tryz.func128 H_slices_Clip_ID (ts := [.sc .sl]) trivial (by rw [Tryz.ntmps128]; simp) (by rw [E_slices_Clip_ID]; exact h)

/-! 129 pinnace/slots.New -/
def F_slots_New (n0 : Int) (first1 : Int) : W ((Option Addr) × Int) :=
  joinW (σ := Bool) (fun J_1 =>
    cond (decide (n0 < 1))
      (J_1 true)
      (cond (decide (n0 > 1024))
          (J_1 true)
          (cond (decide (first1 < 1))
              (J_1 true)
              (J_1 (decide (first1 > 4194303))))))
  <| fun s_2 =>
  cond s_2
    (retW (none, 1))
    (joinW (σ := (Option Addr) × Int) (fun J_3 =>
    drawW <|
    bothW
      (rawW Tryz.prog (Instr.makeSlice 258 (.int .i64 n0) (.int .i64 n0)) [.sc .sl] fun (x_4 : Sl) =>
      rawW Tryz.prog (Instr.makeSlice 265 (.int .i64 n0) (.int .i64 n0)) [.sc .sl] fun (x_5 : Sl) =>
      newW 267 [.int .i64 first1, .slice x_4.a x_4.n x_4.c, .slice x_5.a x_5.n x_5.c, .slice none 0 0, .int .i64 0, .int .i64 0] fun x_6 =>
      J_3 ((some x_6), 0))
      (rawW Tryz.prog (Instr.makeSlice 265 (.int .i64 n0) (.int .i64 n0)) [.sc .sl] fun (x_7 : Sl) =>
      rawW Tryz.prog (Instr.makeSlice 258 (.int .i64 n0) (.int .i64 n0)) [.sc .sl] fun (x_8 : Sl) =>
      newW 267 [.int .i64 first1, .slice x_8.a x_8.n x_8.c, .slice x_7.a x_7.n x_7.c, .slice none 0 0, .int .i64 0, .int .i64 0] fun x_9 =>
      J_3 ((some x_9), 0)))
  <| fun s_10 =>
  retW (s_10.1, s_10.2))
def H_slots_New : Hints := { reg := [(1, [(19, .sc .bool)]), (3, [(4, .sc .ptr), (5, .sc (.int .i64))])], dr := [(3, ([(2, 4)], [[(0, []), (1, []), (3, []), (2, []), (4, []), (5, []), (6, []), (7, []), (8, [])], [(0, []), (1, []), (3, []), (4, []), (2, []), (5, []), (6, []), (7, []), (8, [])]]))] }
theorem E_slots_New (n0 : Int) (first1 : Int) : denF Tryz.prog H_slots_New Tryz.f129 [.sc .ptr, .sc (.int .i64)] [.int .i64 n0, .int .i64 first1] = F_slots_New n0 first1 := by kernel_rfl
theorem C_slots_New {R : Type} (n0 : Int) (first1 : Int) (K : Res [.sc .ptr, .sc (.int .i64)] → W R) (Q : R → World → Prop) (w : World) (h : F_slots_New n0 first1 (fun r w => K r Q w) w) : callW Tryz.prog k_slots_New [.int .i64 n0, .int .i64 first1] [.sc .ptr, .sc (.int .i64)] K Q w :=
  den_calls mix Tryz.func129 H_slots_New (ts := [.sc .ptr, .sc (.int .i64)]) trivial (by rw [Tryz.ntmps129]; simp) (by rw [E_slots_New]; exact h)

/-! 130 pinnace/schema.List -/
def F_schema_List (l0 : Sl) : W (Int) :=
  loopW (σ := Int) (fun K_1 s_2 =>
    cond (decide (s_2 < (l0.n : Int)))
      (idxW l0.a l0.n 4 s_2 fun x_3 =>
    ld (.agg [.int .u8, .int .i32, .int .i32, .int .i32]) x_3 fun (x_4 : (Int × Int × Int × Int)) =>
    newW 53 [.int .u8 0, .int .i32 0, .int .i32 0, .int .i32 0] fun c_5 =>
    stoL c_5 [.int .u8 x_4.1, .int .i32 x_4.2.1, .int .i32 x_4.2.2.1, .int .i32 x_4.2.2.2] 0 <|
    ld (.agg [.int .u8, .int .i32, .int .i32, .int .i32]) c_5 fun (x_6 : (Int × Int × Int × Int)) =>
    callW Tryz.prog k_schema_Check [.agg ⟨[.int .u8 x_6.1, .int .i32 x_6.2.1, .int .i32 x_6.2.2.1, .int .i32 x_6.2.2.2]⟩] [.sc (.int .i64)] fun (x_7 : Int) =>
    cond (x_7 != 0)
      (retW x_7)
      (joinW (σ := Bool) (fun J_8 =>
      drawW <|
      cond (decide (s_2 > 0))
        (ld (.sc (.int .u8)) (Addr.add c_5 0) fun (x_9 : Int) =>
          idxW l0.a l0.n 4 (IntKind.wrap .i64 (s_2 - 1)) fun x_10 =>
                  ld (.sc (.int .u8)) (Addr.add x_10 0) fun (x_11 : Int) =>
                      J_8 (decide (x_9 ≤ x_11)))
        (J_8 false))
    <| fun s_12 =>
    cond s_12
      (retW 4)
      (K_1 (IntKind.wrap .i64 (s_2 + 1)))))
      (retW 0))
    0
def H_schema_List : Hints := { reg := [(7, [(30, .sc .bool)])], lop := [(0, [(8, .sc (.int .i64))])], dr := [(7, ([], [[(0, []), (1, []), (2, []), (3, []), (4, []), (5, []), (6, []), (7, []), (8, []), (9, []), (10, []), (11, []), (12, [])]]))] }
theorem E_schema_List (l0 : Sl) : denF Tryz.prog H_schema_List Tryz.f130 [.sc (.int .i64)] [.slice l0.a l0.n l0.c] = F_schema_List l0 := by kernel_rfl
theorem C_schema_List {R : Type} (l0 : Sl) (K : Res [.sc (.int .i64)] → W R) (Q : R → World → Prop) (w : World) (h : F_schema_List l0 (fun r w => K r Q w) w) : callW Tryz.prog k_schema_List [.slice l0.a l0.n l0.c] [.sc (.int .i64)] K Q w :=
  den_calls mix Tryz.func130 H_schema_List (ts := [.sc (.int .i64)]) trivial (by rw [Tryz.ntmps130]; simp) (by rw [E_schema_List]; exact h)

/-! 131 (*pinnace/slots.Slots).Take -/
def F_slots_Slots_Take (d0 : Option Addr) : W (Int × Int) :=
  cond (Option.isNone d0)
    (retW (0, 10))
    (ptrW d0 fun x_1 =>
    ld (.sc .sl) (Addr.add x_1 3) fun (x_2 : Sl) =>
    cond (decide ((x_2.n : Int) > 0))
      (drawW <|
      ptrW d0 fun x_3 =>
      ld (.sc .sl) (Addr.add x_3 3) fun (x_4 : Sl) =>
      ptrW d0 fun x_5 =>
      ld (.sc .sl) (Addr.add x_5 3) fun (x_6 : Sl) =>
      idxW x_4.a x_4.n 1 (IntKind.wrap .i64 ((x_6.n : Int) - 1)) fun x_7 =>
      ld (.sc (.int .i64)) x_7 fun (x_8 : Int) =>
      drawW <|
      ptrW d0 fun x_9 =>
      ld (.sc .sl) (Addr.add x_9 3) fun (x_10 : Sl) =>
      ptrW d0 fun x_11 =>
      ld (.sc .sl) (Addr.add x_11 3) fun (x_12 : Sl) =>
      slcW x_10.a x_10.n x_10.c 1 none (some (IntKind.wrap .i64 ((x_12.n : Int) - 1))) fun x_13 =>
      ptrW d0 fun x_14 =>
      stoL (Addr.add x_14 3) [.slice x_13.a x_13.n x_13.c] 0 <|
      ptrW d0 fun x_15 =>
      ld (.sc .sl) (Addr.add x_15 1) fun (x_16 : Sl) =>
      idxW x_16.a x_16.n 1 x_8 fun x_17 =>
      ld (.sc (.int .i64)) x_17 fun (x_18 : Int) =>
      callW Tryz.prog k_slots_Slots_use [.pointer d0, .int .i64 x_8, .int .i64 (IntKind.wrap .i64 (x_18 + 1))] [.sc (.int .u32), .sc (.int .i64)] fun (x_19 : Int × Int) =>
      retW (x_19.1, x_19.2))
      (drawW <|
      ptrW d0 fun x_20 =>
      ld (.sc (.int .i64)) (Addr.add x_20 4) fun (x_21 : Int) =>
      ptrW d0 fun x_22 =>
      ld (.sc .sl) (Addr.add x_22 1) fun (x_23 : Sl) =>
      cond (decide (x_21 < (x_23.n : Int)))
        (ptrW d0 fun x_24 =>
        ld (.sc (.int .i64)) (Addr.add x_24 4) fun (x_25 : Int) =>
        ptrW d0 fun x_26 =>
        stoL (Addr.add x_26 4) [.int .i64 (IntKind.wrap .i64 (x_25 + 1))] 0 <|
        drawW <|
        ptrW d0 fun x_27 =>
        ld (.sc (.int .i64)) (Addr.add x_27 4) fun (x_28 : Int) =>
        ptrW d0 fun x_29 =>
        ld (.sc (.int .i64)) (Addr.add x_29 0) fun (x_30 : Int) =>
        callW Tryz.prog k_slots_Slots_use [.pointer d0, .int .i64 (IntKind.wrap .i64 (x_28 - 1)), .int .i64 x_30] [.sc (.int .u32), .sc (.int .i64)] fun (x_31 : Int × Int) =>
        retW (x_31.1, x_31.2))
        (retW (0, 8))))
def H_slots_Slots_Take : Hints := { dr := [(4, ([], [[(0, []), (1, []), (2, []), (3, []), (4, []), (5, []), (6, []), (7, []), (8, []), (9, []), (10, []), (11, []), (12, [])]])), (5, ([], [[(0, []), (1, []), (2, []), (3, []), (4, []), (5, []), (6, []), (7, []), (8, []), (9, []), (10, []), (11, []), (12, []), (13, []), (14, [])]])), (7, ([], [[(0, []), (1, []), (2, []), (3, []), (4, []), (5, []), (6, []), (7, []), (8, []), (9, []), (10, [])]])), (9, ([], [[(0, []), (1, []), (2, []), (3, []), (4, []), (5, []), (6, []), (7, []), (8, []), (9, []), (10, []), (11, []), (12, []), (13, []), (14, [])]]))] }
theorem E_slots_Slots_Take (d0 : Option Addr) : denF Tryz.prog H_slots_Slots_Take Tryz.f131 [.sc (.int .u32), .sc (.int .i64)] [.pointer d0] = F_slots_Slots_Take d0 := by kernel_rfl
theorem C_slots_Slots_Take {R : Type} (d0 : Option Addr) (K : Res [.sc (.int .u32), .sc (.int .i64)] → W R) (Q : R → World → Prop) (w : World) (h : F_slots_Slots_Take d0 (fun r w => K r Q w) w) : callW Tryz.prog k_slots_Slots_Take [.pointer d0] [.sc (.int .u32), .sc (.int .i64)] K Q w :=
  den_calls mix Tryz.func131 H_slots_Slots_Take (ts := [.sc (.int .u32), .sc (.int .i64)]) trivial (by rw [Tryz.ntmps131]; simp) (by rw [E_slots_Slots_Take]; exact h)

/-! 132 (*pinnace/store.Store).put -/
def F_store_Store_put (s0 : Option Addr) (id1 : Int) (l2 : Sl) : W (Unit) :=
  callW Tryz.prog k_schema_Mask [.slice l2.a l2.n l2.c] [.sc (.int .u8)] fun (x_1 : Int) =>
  ptrW s0 fun x_2 =>
  ld (.sc .map) (Addr.add x_2 1) fun (x_3 : Option Nat) =>
  rawQ Tryz.prog (Instr.lookup 214 (.map x_3) (.int .u8 x_1) false) [.sc .ptr] fun (x_4 : (Option Addr)) =>
  joinW (σ := (Option Addr)) (fun J_5 =>
    cond (Option.isNone x_4)
      (callW Tryz.prog k_table_New [.int .u8 x_1] [.sc .ptr, .sc (.int .i64)] fun (x_6 : (Option Addr) × Int) =>
      ptrW s0 fun x_7 =>
      ld (.sc .map) (Addr.add x_7 1) fun (x_8 : Option Nat) =>
      rawU Tryz.prog (Instr.mapUpdate 214 (.map x_8) (.int .u8 x_1) (.pointer x_6.1)) <|
      J_5 x_6.1)
      (J_5 x_4))
  <| fun s_9 =>
  callW Tryz.prog k_table_Table_Add [.pointer s_9, .int .u32 id1, .slice l2.a l2.n l2.c] [.sc (.int .i64)] fun (x_10 : Int) =>
  ptrW s0 fun x_11 =>
  ld (.sc .map) (Addr.add x_11 2) fun (x_12 : Option Nat) =>
  rawU Tryz.prog (Instr.mapUpdate 215 (.map x_12) (.int .u32 id1) (.pointer s_9)) <|
  retW ()
def H_store_Store_put : Hints := { con := [(4017, [(7, .sc .ptr)])] }
theorem E_store_Store_put (s0 : Option Addr) (id1 : Int) (l2 : Sl) : denF Tryz.prog H_store_Store_put Tryz.f132 [] [.pointer s0, .int .u32 id1, .slice l2.a l2.n l2.c] = F_store_Store_put s0 id1 l2 := by kernel_rfl
theorem C_store_Store_put {R : Type} (s0 : Option Addr) (id1 : Int) (l2 : Sl) (K : Res [] → W R) (Q : R → World → Prop) (w : World) (h : F_store_Store_put s0 id1 l2 (fun r w => K r Q w) w) : callW Tryz.prog k_store_Store_put [.pointer s0, .int .u32 id1, .slice l2.a l2.n l2.c] [] K Q w :=
  den_calls mix Tryz.func132 H_store_Store_put (ts := []) trivial (by rw [Tryz.ntmps132]; simp) (by rw [E_store_Store_put]; exact h)

/-! 133 (*pinnace/table.Table).Remove -/
def F_table_Table_Remove (d0 : Option Addr) (o1 : Int) : W (Sl × Int) :=
  callW Tryz.prog k_table_Table_Row [.pointer d0, .int .u32 o1] [.sc (.int .i64), .sc .bool] fun (x_1 : Int × Bool) =>
  cond (Option.isNone d0)
    (retW ((⟨none, 0, 0⟩ : Sl), 10))
    (cond (!x_1.2)
      (retW ((⟨none, 0, 0⟩ : Sl), 7))
      (callW Tryz.prog k_table_Table_At [.pointer d0, .int .i64 x_1.1] [.agg [.int .u32, .sl], .sc .bool] fun (x_2 : (Int × Sl) × Bool) =>
  newW 34 [.int .u32 0, .slice none 0 0] fun x_3 =>
  stoL x_3 [.int .u32 x_2.1.1, .slice x_2.1.2.a x_2.1.2.n x_2.1.2.c] 0 <|
  ptrW d0 fun x_4 =>
  callW Tryz.prog k_table_column_ID_take [.pointer (some (Addr.add x_4 2)), .int .i64 x_1.1] [.sc (.int .u32)] fun (x_5 : Int) =>
  ptrW d0 fun x_6 =>
  ld (.sc .sl) (Addr.add x_6 1) fun (x_7 : Sl) =>
  loopW (σ := Int) (fun K_8 s_9 =>
    cond (decide (s_9 < (x_7.n : Int)))
      (idxW x_7.a x_7.n 1 s_9 fun x_10 =>
    ld (.sc (.int .u8)) x_10 fun (x_11 : Int) =>
    ptrW d0 fun x_12 =>
    idxW (some (Addr.add x_12 3)) 6 1 x_11 fun x_13 =>
    callW Tryz.prog k_table_column_fields_take [.pointer (some x_13), .int .i64 x_1.1] [.agg [.int .i32, .int .i32, .int .i32]] fun (x_14 : (Int × Int × Int)) =>
    K_8 (IntKind.wrap .i64 (s_9 + 1)))
      (ptrW d0 fun x_15 =>
  ld (.sc .sl) (Addr.add (Addr.add x_15 2) 0) fun (x_16 : Sl) =>
  joinW (σ := Unit) (fun J_17 =>
    cond (decide (x_1.1 < (x_16.n : Int)))
      (drawW <|
      ptrW d0 fun x_18 =>
      ld (.sc .map) (Addr.add x_18 9) fun (x_19 : Option Nat) =>
      ptrW d0 fun x_20 =>
      ld (.sc .sl) (Addr.add (Addr.add x_20 2) 0) fun (x_21 : Sl) =>
      idxW x_21.a x_21.n 1 x_1.1 fun x_22 =>
      ld (.sc (.int .u32)) x_22 fun (x_23 : Int) =>
      rawU Tryz.prog (Instr.mapUpdate 241 (.map x_19) (.int .u32 x_23) (.int .i64 x_1.1)) <|
      J_17 ())
      (J_17 ()))
  <| fun s_24 =>
  ptrW d0 fun x_25 =>
  ld (.sc .map) (Addr.add x_25 9) fun (x_26 : Option Nat) =>
  rawW Tryz.prog (Builtin.delete_ #[241, 31] 0 #[.map x_26, .int .u32 o1]) [] fun (_ : Unit) =>
  ld (.sc .sl) (Addr.add x_3 1) fun (x_28 : Sl) =>
  retW (x_28, 0)))
    0))
def H_table_Table_Remove : Hints := { con := [(15059, [])], lop := [(1, [(40, .sc (.int .i64))])], dr := [(14, ([], [[(0, []), (1, []), (2, []), (3, []), (4, []), (5, []), (6, []), (7, []), (8, []), (9, []), (10, []), (11, []), (12, []), (13, [])]]))] }
theorem E_table_Table_Remove (d0 : Option Addr) (o1 : Int) : denF Tryz.prog H_table_Table_Remove Tryz.f133 [.sc .sl, .sc (.int .i64)] [.pointer d0, .int .u32 o1] = F_table_Table_Remove d0 o1 := by kernel_rfl
theorem C_table_Table_Remove {R : Type} (d0 : Option Addr) (o1 : Int) (K : Res [.sc .sl, .sc (.int .i64)] → W R) (Q : R → World → Prop) (w : World) (h : F_table_Table_Remove d0 o1 (fun r w => K r Q w) w) : callW Tryz.prog k_table_Table_Remove [.pointer d0, .int .u32 o1] [.sc .sl, .sc (.int .i64)] K Q w :=
  den_calls mix Tryz.func133 H_table_Table_Remove (ts := [.sc .sl, .sc (.int .i64)]) trivial (by rw [Tryz.ntmps133]; simp) (by rw [E_table_Table_Remove]; exact h)

/-! 134 (*pinnace/slots.Slots).Free -/
def F_slots_Slots_Free (s0 : Option Addr) (id1 : Int) : W (Int) :=
  cond (Option.isNone s0)
    (retW 10)
    (callW Tryz.prog k_slots_Slots_Live [.pointer s0, .int .u32 id1] [.sc .bool] fun (x_1 : Bool) =>
    cond (!x_1)
      (retW 7)
      (drawW <|
  ptrW s0 fun x_2 =>
  ld (.sc .sl) (Addr.add x_2 2) fun (x_3 : Sl) =>
  callW Tryz.prog k_slots_Slot [.int .u32 id1] [.sc (.int .i64)] fun (x_4 : Int) =>
  andW (fun w => Rd w (Addr.add x_2 2) (.sc .sl) x_3) <|
  idxW x_3.a x_3.n 1 x_4 fun x_5 =>
  stoL x_5 [.bool false] 0 <|
  ptrW s0 fun x_6 =>
  ld (.sc (.int .i64)) (Addr.add x_6 5) fun (x_7 : Int) =>
  ptrW s0 fun x_8 =>
  stoL (Addr.add x_8 5) [.int .i64 (IntKind.wrap .i64 (x_7 - 1))] 0 <|
  callW Tryz.prog k_slots_Gen [.int .u32 id1] [.sc (.int .i64)] fun (x_9 : Int) =>
  joinW (σ := Unit) (fun J_10 =>
    cond (decide (x_9 < 4194303))
      (drawW <|
      ptrW s0 fun x_11 =>
      ld (.sc .sl) (Addr.add x_11 3) fun (x_12 : Sl) =>
      callW Tryz.prog k_slots_Slot [.int .u32 id1] [.sc (.int .i64)] fun (x_13 : Int) =>
      andW (fun w => Rd w (Addr.add x_11 3) (.sc .sl) x_12) <|
      newW 3 [.int .i64 x_13] fun x_14 =>
      rawW Tryz.prog (Builtin.append_ #[258, 258] 258 #[.slice x_12.a x_12.n x_12.c, .slice (some x_14) 1 1]) [.sc .sl] fun (x_15 : Sl) =>
      ptrW s0 fun x_16 =>
      stoL (Addr.add x_16 3) [.slice x_15.a x_15.n x_15.c] 0 <|
      J_10 ())
      (J_10 ()))
  <| fun s_17 =>
  retW 0))
def H_slots_Slots_Free : Hints := { con := [(9029, [])], dr := [(5, ([], [[(0, []), (1, []), (2, []), (3, []), (4, []), (5, [3]), (6, []), (7, [])]])), (8, ([], [[(0, []), (1, []), (2, []), (3, []), (4, []), (5, []), (6, [4]), (7, []), (8, []), (9, []), (10, []), (11, [])]]))] }
theorem E_slots_Slots_Free (s0 : Option Addr) (id1 : Int) : denF Tryz.prog H_slots_Slots_Free Tryz.f134 [.sc (.int .i64)] [.pointer s0, .int .u32 id1] = F_slots_Slots_Free s0 id1 := by kernel_rfl
theorem C_slots_Slots_Free {R : Type} (s0 : Option Addr) (id1 : Int) (K : Res [.sc (.int .i64)] → W R) (Q : R → World → Prop) (w : World) (h : F_slots_Slots_Free s0 id1 (fun r w => K r Q w) w) : callW Tryz.prog k_slots_Slots_Free [.pointer s0, .int .u32 id1] [.sc (.int .i64)] K Q w :=
  den_calls mix Tryz.func134 H_slots_Slots_Free (ts := [.sc (.int .i64)]) trivial (by rw [Tryz.ntmps134]; simp) (by rw [E_slots_Slots_Free]; exact h)

/-! 135 pinnace/pinnaceref10.Remove -/
def F_pinnaceref10_Remove (d0 : Option Addr) (o1 : Int) : W (Sl × Int) :=
  cond (Option.isNone d0)
    (retW ((⟨none, 0, 0⟩ : Sl), 10))
    (callW Tryz.prog k_pinnaceref10_Row [.pointer d0, .int .u32 o1] [.sc (.int .i64)] fun (x_1 : Int) =>
  cond (decide (x_1 < 0))
    (retW ((⟨none, 0, 0⟩ : Sl), 7))
    (ptrW d0 fun x_2 =>
  ld (.sc .sl) (Addr.add x_2 1) fun (x_3 : Sl) =>
  idxW x_3.a x_3.n 2 x_1 fun x_4 =>
  ld (.sc .sl) (Addr.add x_4 1) fun (x_5 : Sl) =>
  ptrW d0 fun x_6 =>
  ld (.sc .sl) (Addr.add x_6 1) fun (x_7 : Sl) =>
  ptrW d0 fun x_8 =>
  ld (.sc .sl) (Addr.add x_8 1) fun (x_9 : Sl) =>
  slcW x_9.a x_9.n x_9.c 2 none (some (IntKind.wrap .i64 ((x_7.n : Int) - 1))) fun x_10 =>
  loopW (σ := Sl × Int) (fun K_11 s_12 =>
    cond (decide (s_12.2 < (x_10.n : Int)))
      (idxW x_10.a x_10.n 2 s_12.2 fun x_13 =>
    ld (.agg [.int .u32, .sl]) x_13 fun (x_14 : (Int × Sl)) =>
    newW 34 [.int .u32 0, .slice none 0 0] fun x_15 =>
    stoL x_15 [.int .u32 x_14.1, .slice x_14.2.a x_14.2.n x_14.2.c] 0 <|
    joinW (σ := Unit) (fun J_16 =>
      cond (s_12.2 == x_1)
        (ptrW d0 fun x_17 =>
        ld (.sc .sl) (Addr.add x_17 1) fun (x_18 : Sl) =>
        idxW x_18.a x_18.n 2 (IntKind.wrap .i64 ((x_7.n : Int) - 1)) fun x_19 =>
        ld (.agg [.int .u32, .sl]) x_19 fun (x_20 : (Int × Sl)) =>
        stoL x_15 [.int .u32 x_20.1, .slice x_20.2.a x_20.2.n x_20.2.c] 0 <|
        J_16 ())
        (J_16 ()))
    <| fun s_21 =>
    ld (.agg [.int .u32, .sl]) x_15 fun (x_22 : (Int × Sl)) =>
    newW 34 [.int .u32 x_22.1, .slice x_22.2.a x_22.2.n x_22.2.c] fun x_23 =>
    rawW Tryz.prog (Builtin.append_ #[39, 39] 39 #[.slice s_12.1.a s_12.1.n s_12.1.c, .slice (some x_23) 1 1]) [.sc .sl] fun (x_24 : Sl) =>
    K_11 (x_24, IntKind.wrap .i64 (s_12.2 + 1)))
      (ptrW d0 fun x_25 =>
  stoL (Addr.add x_25 1) [.slice s_12.1.a s_12.1.n s_12.1.c] 0 <|
  retW (x_5, 0)))
    ((⟨none, 0, 0⟩ : Sl), 0)))
def H_pinnaceref10_Remove : Hints := { con := [(14047, [])], lop := [(0, [(9, .sc .sl), (40, .sc (.int .i64))])] }
theorem E_pinnaceref10_Remove (d0 : Option Addr) (o1 : Int) : denF Tryz.prog H_pinnaceref10_Remove Tryz.f135 [.sc .sl, .sc (.int .i64)] [.pointer d0, .int .u32 o1] = F_pinnaceref10_Remove d0 o1 := by kernel_rfl
theorem C_pinnaceref10_Remove {R : Type} (d0 : Option Addr) (o1 : Int) (K : Res [.sc .sl, .sc (.int .i64)] → W R) (Q : R → World → Prop) (w : World) (h : F_pinnaceref10_Remove d0 o1 (fun r w => K r Q w) w) : callW Tryz.prog k_pinnaceref10_Remove [.pointer d0, .int .u32 o1] [.sc .sl, .sc (.int .i64)] K Q w :=
  den_calls mix Tryz.func135 H_pinnaceref10_Remove (ts := [.sc .sl, .sc (.int .i64)]) trivial (by rw [Tryz.ntmps135]; simp) (by rw [E_pinnaceref10_Remove]; exact h)

/-! 136 pinnace/pinnaceref11.find -/
def F_pinnaceref11_find (s0 : Option Addr) (id1 : Int) : W ((Option Addr)) :=
  loopW (σ := Int) (fun K_1 s_2 =>
    cond (decide (s_2 < 64))
      (ptrW s0 fun x_3 =>
    idxW (some (Addr.add x_3 1)) 64 2 s_2 fun x_4 =>
    callW Tryz.prog k_pinnaceref10_Row [.pointer (some x_4), .int .u32 id1] [.sc (.int .i64)] fun (x_5 : Int) =>
    cond (decide (x_5 ≥ 0))
      (ptrW s0 fun x_6 =>
      idxW (some (Addr.add x_6 1)) 64 2 s_2 fun x_7 =>
      retW (some x_7))
      (K_1 (IntKind.wrap .i64 (s_2 + 1))))
      (retW none))
    0
def H_pinnaceref11_find : Hints := { lop := [(0, [(6, .sc (.int .i64))])] }
theorem E_pinnaceref11_find (s0 : Option Addr) (id1 : Int) : denF Tryz.prog H_pinnaceref11_find Tryz.f136 [.sc .ptr] [.pointer s0, .int .u32 id1] = F_pinnaceref11_find s0 id1 := by kernel_rfl
theorem C_pinnaceref11_find {R : Type} (s0 : Option Addr) (id1 : Int) (K : Res [.sc .ptr] → W R) (Q : R → World → Prop) (w : World) (h : F_pinnaceref11_find s0 id1 (fun r w => K r Q w) w) : callW Tryz.prog k_pinnaceref11_find [.pointer s0, .int .u32 id1] [.sc .ptr] K Q w :=
  den_calls mix Tryz.func136 H_pinnaceref11_find (ts := [.sc .ptr]) trivial (by rw [Tryz.ntmps136]; simp) (by rw [E_pinnaceref11_find]; exact h)

/-! 137 pinnace/pinnaceref07.Free -/
def F_pinnaceref07_Free (s0 : Option Addr) (id1 : Int) : W (Int) :=
  cond (Option.isNone s0)
    (retW 10)
    (callW Tryz.prog k_pinnaceref07_Live [.pointer s0, .int .u32 id1] [.sc .bool] fun (x_1 : Bool) =>
  cond (!x_1)
    (retW 7)
    (callW Tryz.prog k_pinnaceref07_Slot [.int .u32 id1] [.sc (.int .i64)] fun (x_2 : Int) =>
  ptrW s0 fun x_3 =>
  ld (.sc .sl) (Addr.add x_3 1) fun (x_4 : Sl) =>
  idxW x_4.a x_4.n 3 x_2 fun x_5 =>
  stoL (Addr.add x_5 1) [.bool false] 0 <|
  ptrW s0 fun x_6 =>
  ld (.sc .sl) (Addr.add x_6 1) fun (x_7 : Sl) =>
  idxW x_7.a x_7.n 3 x_2 fun x_8 =>
  ld (.sc (.int .i64)) (Addr.add x_8 0) fun (x_9 : Int) =>
  joinW (σ := Unit) (fun J_10 =>
    cond (decide (x_9 < 4194303))
      (ptrW s0 fun x_11 =>
      ld (.sc (.int .i64)) (Addr.add x_11 2) fun (x_12 : Int) =>
      ptrW s0 fun x_13 =>
      stoL (Addr.add x_13 2) [.int .i64 (IntKind.wrap .i64 (x_12 + 1))] 0 <|
      drawW <|
      ptrW s0 fun x_14 =>
      ld (.sc .sl) (Addr.add x_14 1) fun (x_15 : Sl) =>
      ptrW s0 fun x_16 =>
      ld (.sc (.int .i64)) (Addr.add x_16 2) fun (x_17 : Int) =>
      idxW x_15.a x_15.n 3 x_2 fun x_18 =>
      stoL (Addr.add x_18 2) [.int .i64 x_17] 0 <|
      J_10 ())
      (J_10 ()))
  <| fun s_19 =>
  retW 0))
def H_pinnaceref07_Free : Hints := { con := [(9029, [])], dr := [(9, ([], [[(0, []), (1, []), (2, []), (3, []), (4, []), (5, []), (6, []), (7, []), (8, []), (9, []), (10, []), (11, [])]]))] }
theorem E_pinnaceref07_Free (s0 : Option Addr) (id1 : Int) : denF Tryz.prog H_pinnaceref07_Free Tryz.f137 [.sc (.int .i64)] [.pointer s0, .int .u32 id1] = F_pinnaceref07_Free s0 id1 := by kernel_rfl
theorem C_pinnaceref07_Free {R : Type} (s0 : Option Addr) (id1 : Int) (K : Res [.sc (.int .i64)] → W R) (Q : R → World → Prop) (w : World) (h : F_pinnaceref07_Free s0 id1 (fun r w => K r Q w) w) : callW Tryz.prog k_pinnaceref07_Free [.pointer s0, .int .u32 id1] [.sc (.int .i64)] K Q w :=
  den_calls mix Tryz.func137 H_pinnaceref07_Free (ts := [.sc (.int .i64)]) trivial (by rw [Tryz.ntmps137]; simp) (by rw [E_pinnaceref07_Free]; exact h)

/-! 141 (*pinnace/store.Store).Groups -/
def F_store_Store_Groups (s0 : Option Addr) : W (Sl) :=
  cond (Option.isNone s0)
    (retW (⟨none, 0, 0⟩ : Sl))
    (ptrW s0 fun x_1 =>
  ld (.sc .map) (Addr.add x_1 1) fun (x_2 : Option Nat) =>
  callW Tryz.prog k_maps_Keys_Table [.map x_2] [.sc .raw] fun (x_3 : Value) =>
  callW Tryz.prog k_slices_Sorted_byte [x_3] [.sc .sl] fun (x_4 : Sl) =>
  loopW (σ := Sl × Int) (fun K_5 s_6 =>
    cond (decide (s_6.2 < (x_4.n : Int)))
      (idxW x_4.a x_4.n 1 s_6.2 fun x_7 =>
    ld (.sc (.int .u8)) x_7 fun (x_8 : Int) =>
    ptrW s0 fun x_9 =>
    ld (.sc .map) (Addr.add x_9 1) fun (x_10 : Option Nat) =>
    rawQ Tryz.prog (Instr.lookup 214 (.map x_10) (.int .u8 x_8) false) [.sc .ptr] fun (x_11 : (Option Addr)) =>
    callW Tryz.prog k_table_Table_Len [.pointer x_11] [.sc (.int .i64)] fun (x_12 : Int) =>
    joinW (σ := Sl) (fun J_13 =>
      cond (decide (x_12 > 0))
        (callW Tryz.prog k_table_Table_IDs [.pointer x_11] [.sc .sl] fun (x_14 : Sl) =>
        newW 233 [.int .u8 x_8, .slice x_14.a x_14.n x_14.c] fun x_15 =>
        rawW Tryz.prog (Builtin.append_ #[230, 230] 230 #[.slice s_6.1.a s_6.1.n s_6.1.c, .slice (some x_15) 1 1]) [.sc .sl] fun (x_16 : Sl) =>
        J_13 x_16)
        (J_13 s_6.1))
    <| fun s_17 =>
    K_5 (s_17, IntKind.wrap .i64 (s_6.2 + 1)))
      (retW s_6.1))
    ((⟨none, 0, 0⟩ : Sl), 0))
def H_store_Store_Groups : Hints := { con := [(10028, [(3, .sc .sl)])], lop := [(0, [(3, .sc .sl), (16, .sc (.int .i64))])] }
theorem E_store_Store_Groups (s0 : Option Addr) : denF Tryz.prog H_store_Store_Groups Tryz.f141 [.sc .sl] [.pointer s0] = F_store_Store_Groups s0 := by kernel_rfl
theorem C_store_Store_Groups {R : Type} (s0 : Option Addr) (K : Res [.sc .sl] → W R) (Q : R → World → Prop) (w : World) (h : F_store_Store_Groups s0 (fun r w => K r Q w) w) : callW Tryz.prog k_store_Store_Groups [.pointer s0] [.sc .sl] K Q w :=
  den_calls mix Tryz.func141 H_store_Store_Groups (ts := [.sc .sl]) trivial (by rw [Tryz.ntmps141]; simp) (by rw [E_store_Store_Groups]; exact h)

/-! 143 (*pinnace/table.Table).Len -/
def F_table_Table_Len (t0 : Option Addr) : W (Int) :=
  cond (Option.isNone t0)
    (retW 0)
    (ptrW t0 fun x_1 =>
  ld (.sc .sl) (Addr.add (Addr.add x_1 2) 0) fun (x_2 : Sl) =>
  retW (x_2.n : Int))
def H_table_Table_Len : Hints := {}
theorem E_table_Table_Len (t0 : Option Addr) : denF Tryz.prog H_table_Table_Len Tryz.f143 [.sc (.int .i64)] [.pointer t0] = F_table_Table_Len t0 := by kernel_rfl
theorem C_table_Table_Len {R : Type} (t0 : Option Addr) (K : Res [.sc (.int .i64)] → W R) (Q : R → World → Prop) (w : World) (h : F_table_Table_Len t0 (fun r w => K r Q w) w) : callW Tryz.prog k_table_Table_Len [.pointer t0] [.sc (.int .i64)] K Q w :=
  den_calls mix Tryz.func143 H_table_Table_Len (ts := [.sc (.int .i64)]) trivial (by rw [Tryz.ntmps143]; simp) (by rw [E_table_Table_Len]; exact h)

/-! 144 (*pinnace/table.Table).comp -/
def F_table_Table_comp (t0 : Option Addr) (row1 : Int) (kind2 : Int) : W ((Int × Int × Int × Int)) :=
  newW 53 [.int .u8 0, .int .i32 0, .int .i32 0, .int .i32 0] fun x_1 =>
  ptrW t0 fun x_2 =>
  idxW (some (Addr.add x_2 3)) 6 1 kind2 fun x_3 =>
  ld (.sc .sl) (Addr.add x_3 0) fun (x_4 : Sl) =>
  idxW x_4.a x_4.n 3 row1 fun x_5 =>
  ld (.agg [.int .i32, .int .i32, .int .i32]) x_5 fun (x_6 : (Int × Int × Int)) =>
  stoL x_1 [.int .u8 kind2, .int .i32 x_6.1, .int .i32 x_6.2.1, .int .i32 x_6.2.2] 0 <|
  ld (.agg [.int .u8, .int .i32, .int .i32, .int .i32]) x_1 fun (x_7 : (Int × Int × Int × Int)) =>
  retW x_7
def H_table_Table_comp : Hints := {}
theorem E_table_Table_comp (t0 : Option Addr) (row1 : Int) (kind2 : Int) : denF Tryz.prog H_table_Table_comp Tryz.f144 [.agg [.int .u8, .int .i32, .int .i32, .int .i32]] [.pointer t0, .int .i64 row1, .int .u8 kind2] = F_table_Table_comp t0 row1 kind2 := by kernel_rfl
theorem C_table_Table_comp {R : Type} (t0 : Option Addr) (row1 : Int) (kind2 : Int) (K : Res [.agg [.int .u8, .int .i32, .int .i32, .int .i32]] → W R) (Q : R → World → Prop) (w : World) (h : F_table_Table_comp t0 row1 kind2 (fun r w => K r Q w) w) : callW Tryz.prog k_table_Table_comp [.pointer t0, .int .i64 row1, .int .u8 kind2] [.agg [.int .u8, .int .i32, .int .i32, .int .i32]] K Q w :=
  den_calls mix Tryz.func144 H_table_Table_comp (ts := [.agg [.int .u8, .int .i32, .int .i32, .int .i32]]) ⟨by kernel_rfl, trivial⟩ (by rw [Tryz.ntmps144]; simp) (by rw [E_table_Table_comp]; exact h)

/-! 145 pinnace/pinnaceref07.Make -/
def F_pinnaceref07_Make (slot0 : Int) (gen1 : Int) : W (Int × Int) :=
  joinW (σ := Bool) (fun J_1 =>
    cond (decide (slot0 < 0))
      (J_1 true)
      (cond (decide (slot0 > 1023))
          (J_1 true)
          (cond (decide (gen1 < 1))
              (J_1 true)
              (J_1 (decide (gen1 > 4194303))))))
  <| fun s_2 =>
  cond s_2
    (retW (0, 1))
    (retW (IntKind.wrap .u32 ((IntKind.wrap .u32 ((IntKind.wrap .u32 gen1) * 1024)) + (IntKind.wrap .u32 slot0)), 0))
def H_pinnaceref07_Make : Hints := { reg := [(1, [(19, .sc .bool)])] }
theorem E_pinnaceref07_Make (slot0 : Int) (gen1 : Int) : denF Tryz.prog H_pinnaceref07_Make Tryz.f145 [.sc (.int .u32), .sc (.int .i64)] [.int .i64 slot0, .int .i64 gen1] = F_pinnaceref07_Make slot0 gen1 := by kernel_rfl
theorem C_pinnaceref07_Make {R : Type} (slot0 : Int) (gen1 : Int) (K : Res [.sc (.int .u32), .sc (.int .i64)] → W R) (Q : R → World → Prop) (w : World) (h : F_pinnaceref07_Make slot0 gen1 (fun r w => K r Q w) w) : callW Tryz.prog k_pinnaceref07_Make [.int .i64 slot0, .int .i64 gen1] [.sc (.int .u32), .sc (.int .i64)] K Q w :=
  den_calls mix Tryz.func145 H_pinnaceref07_Make (ts := [.sc (.int .u32), .sc (.int .i64)]) trivial (by rw [Tryz.ntmps145]; simp) (by rw [E_pinnaceref07_Make]; exact h)

/-! 146 pinnace/pinnaceref10.Row -/
def F_pinnaceref10_Row (t0 : Option Addr) (id1 : Int) : W (Int) :=
  joinW (σ := Unit) (fun J_1 =>
    cond (!Option.isNone t0)
      (ptrW t0 fun x_2 =>
      ld (.sc .sl) (Addr.add x_2 1) fun (x_3 : Sl) =>
      loopW (σ := Int) (fun K_4 s_5 =>
        cond (decide (s_5 < (x_3.n : Int)))
          (idxW x_3.a x_3.n 2 s_5 fun x_6 =>
        ld (.agg [.int .u32, .sl]) x_6 fun (x_7 : (Int × Sl)) =>
        newW 34 [.int .u32 0, .slice none 0 0] fun e_8 =>
        stoL e_8 [.int .u32 x_7.1, .slice x_7.2.a x_7.2.n x_7.2.c] 0 <|
        ld (.sc (.int .u32)) (Addr.add e_8 0) fun (x_9 : Int) =>
        cond (x_9 == id1)
          (retW s_5)
          (K_4 (IntKind.wrap .i64 (s_5 + 1))))
          (J_1 ()))
        0)
      (J_1 ()))
  <| fun s_10 =>
  retW (-1)
def H_pinnaceref10_Row : Hints := { con := [(3008, [])], lop := [(0, [(14, .sc (.int .i64))])] }
theorem E_pinnaceref10_Row (t0 : Option Addr) (id1 : Int) : denF Tryz.prog H_pinnaceref10_Row Tryz.f146 [.sc (.int .i64)] [.pointer t0, .int .u32 id1] = F_pinnaceref10_Row t0 id1 := by kernel_rfl
theorem C_pinnaceref10_Row {R : Type} (t0 : Option Addr) (id1 : Int) (K : Res [.sc (.int .i64)] → W R) (Q : R → World → Prop) (w : World) (h : F_pinnaceref10_Row t0 id1 (fun r w => K r Q w) w) : callW Tryz.prog k_pinnaceref10_Row [.pointer t0, .int .u32 id1] [.sc (.int .i64)] K Q w :=
  den_calls mix Tryz.func146 H_pinnaceref10_Row (ts := [.sc (.int .i64)]) trivial (by rw [Tryz.ntmps146]; simp) (by rw [E_pinnaceref10_Row]; exact h)

/-! 147 pinnace/schema.at -/
def F_schema_at (k0 : Int) (i1 : Int) : W ((ByteArray × Int × Int) × Bool) :=
  newW 253 [.string ⟨#[]⟩, .int .i32 0, .int .i32 0] fun x_1 =>
  callW Tryz.prog k_schema_of [.int .u8 k0] [.agg [.str, .bool, .sl]] fun (x_2 : (ByteArray × Bool × Sl)) =>
  joinW (σ := Bool) (fun J_3 =>
    cond (decide (i1 < 0))
      (J_3 true)
      (J_3 (decide (i1 ≥ (x_2.2.2.n : Int)))))
  <| fun s_4 =>
  cond s_4
    (stoL x_1 [.string ⟨#[]⟩, .int .i32 0, .int .i32 0] 0 <|
    ld (.agg [.str, .int .i32, .int .i32]) x_1 fun (x_5 : (ByteArray × Int × Int)) =>
    retW (x_5, false))
    (idxW x_2.2.2.a x_2.2.2.n 3 i1 fun x_6 =>
  ld (.agg [.str, .int .i32, .int .i32]) x_6 fun (x_7 : (ByteArray × Int × Int)) =>
  stoL x_1 [.string x_7.1, .int .i32 x_7.2.1, .int .i32 x_7.2.2] 0 <|
  ld (.agg [.str, .int .i32, .int .i32]) x_1 fun (x_8 : (ByteArray × Int × Int)) =>
  retW (x_8, true))
def H_schema_at : Hints := { reg := [(2, [(17, .sc .bool)])] }
theorem E_schema_at (k0 : Int) (i1 : Int) : denF Tryz.prog H_schema_at Tryz.f147 [.agg [.str, .int .i32, .int .i32], .sc .bool] [.int .u8 k0, .int .i64 i1] = F_schema_at k0 i1 := by kernel_rfl
theorem C_schema_at {R : Type} (k0 : Int) (i1 : Int) (K : Res [.agg [.str, .int .i32, .int .i32], .sc .bool] → W R) (Q : R → World → Prop) (w : World) (h : F_schema_at k0 i1 (fun r w => K r Q w) w) : callW Tryz.prog k_schema_at [.int .u8 k0, .int .i64 i1] [.agg [.str, .int .i32, .int .i32], .sc .bool] K Q w :=
  den_calls mix Tryz.func147 H_schema_at (ts := [.agg [.str, .int .i32, .int .i32], .sc .bool]) ⟨by kernel_rfl, trivial⟩ (by rw [Tryz.ntmps147]; simp) (by rw [E_schema_at]; exact h)

/-! 148 (*pinnace/table.Table).Get -/
def F_table_Table_Get (t0 : Option Addr) (id1 : Int) (kind2 : Int) : W ((Int × Int × Int × Int) × Int) :=
  newW 53 [.int .u8 0, .int .i32 0, .int .i32 0, .int .i32 0] fun x_1 =>
  callW Tryz.prog k_table_Table_find [.pointer t0, .int .u32 id1, .int .u8 kind2] [.sc (.int .i64), .sc (.int .i64)] fun (x_2 : Int × Int) =>
  cond (x_2.2 != 0)
    (stoL x_1 [.int .u8 0, .int .i32 0, .int .i32 0, .int .i32 0] 0 <|
    ld (.agg [.int .u8, .int .i32, .int .i32, .int .i32]) x_1 fun (x_3 : (Int × Int × Int × Int)) =>
    retW (x_3, x_2.2))
    (callW Tryz.prog k_table_Table_comp [.pointer t0, .int .i64 x_2.1, .int .u8 kind2] [.agg [.int .u8, .int .i32, .int .i32, .int .i32]] fun (x_4 : (Int × Int × Int × Int)) =>
  stoL x_1 [.int .u8 x_4.1, .int .i32 x_4.2.1, .int .i32 x_4.2.2.1, .int .i32 x_4.2.2.2] 0 <|
  ld (.agg [.int .u8, .int .i32, .int .i32, .int .i32]) x_1 fun (x_5 : (Int × Int × Int × Int)) =>
  retW (x_5, 0))
def H_table_Table_Get : Hints := {}
theorem E_table_Table_Get (t0 : Option Addr) (id1 : Int) (kind2 : Int) : denF Tryz.prog H_table_Table_Get Tryz.f148 [.agg [.int .u8, .int .i32, .int .i32, .int .i32], .sc (.int .i64)] [.pointer t0, .int .u32 id1, .int .u8 kind2] = F_table_Table_Get t0 id1 kind2 := by kernel_rfl
theorem C_table_Table_Get {R : Type} (t0 : Option Addr) (id1 : Int) (kind2 : Int) (K : Res [.agg [.int .u8, .int .i32, .int .i32, .int .i32], .sc (.int .i64)] → W R) (Q : R → World → Prop) (w : World) (h : F_table_Table_Get t0 id1 kind2 (fun r w => K r Q w) w) : callW Tryz.prog k_table_Table_Get [.pointer t0, .int .u32 id1, .int .u8 kind2] [.agg [.int .u8, .int .i32, .int .i32, .int .i32], .sc (.int .i64)] K Q w :=
  den_calls mix Tryz.func148 H_table_Table_Get (ts := [.agg [.int .u8, .int .i32, .int .i32, .int .i32], .sc (.int .i64)]) ⟨by kernel_rfl, trivial⟩ (by rw [Tryz.ntmps148]; simp) (by rw [E_table_Table_Get]; exact h)

/-! 151 pinnace/schema.Check -/
def F_schema_Check (c0 : (Int × Int × Int × Int)) : W (Int) :=
  newW 53 [.int .u8 c0.1, .int .i32 c0.2.1, .int .i32 c0.2.2.1, .int .i32 c0.2.2.2] fun c_1 =>
  ld (.sc (.int .u8)) (Addr.add c_1 0) fun (x_2 : Int) =>
  callW Tryz.prog k_schema_of [.int .u8 x_2] [.agg [.str, .bool, .sl]] fun (x_3 : (ByteArray × Bool × Sl)) =>
  cond ((x_3.2.2.n : Int) == 0)
    (retW 1)
    (slcW (some (Addr.add c_1 1)) 3 3 1 (some (x_3.2.2.n : Int)) none fun x_4 =>
  loopW (σ := Int) (fun K_5 s_6 =>
    cond (decide (s_6 < (x_4.n : Int)))
      (idxW x_4.a x_4.n 1 s_6 fun x_7 =>
    ld (.sc (.int .i32)) x_7 fun (x_8 : Int) =>
    cond (x_8 != 0)
      (retW 4)
      (K_5 (IntKind.wrap .i64 (s_6 + 1))))
      (loopW (σ := Int) (fun K_9 s_10 =>
    cond (decide (s_10 < (x_3.2.2.n : Int)))
      (idxW x_3.2.2.a x_3.2.2.n 3 s_10 fun x_11 =>
    ld (.agg [.str, .int .i32, .int .i32]) x_11 fun (x_12 : (ByteArray × Int × Int)) =>
    newW 253 [.string ⟨#[]⟩, .int .i32 0, .int .i32 0] fun f_13 =>
    stoL f_13 [.string x_12.1, .int .i32 x_12.2.1, .int .i32 x_12.2.2] 0 <|
    joinW (σ := Bool) (fun J_14 =>
      drawW <|
      idxW (some (Addr.add c_1 1)) 3 1 s_10 fun x_15 =>
      ld (.sc (.int .i32)) x_15 fun (x_16 : Int) =>
      ld (.sc (.int .i32)) (Addr.add f_13 1) fun (x_17 : Int) =>
      cond (decide (x_16 < x_17))
        (J_14 true)
        (idxW (some (Addr.add c_1 1)) 3 1 s_10 fun x_18 =>
            ld (.sc (.int .i32)) x_18 fun (x_19 : Int) =>
              ld (.sc (.int .i32)) (Addr.add f_13 2) fun (x_20 : Int) =>
                  J_14 (decide (x_19 > x_20))))
    <| fun s_21 =>
    cond s_21
      (retW 5)
      (K_9 (IntKind.wrap .i64 (s_10 + 1))))
      (retW 0))
    0))
    0)
def H_schema_Check : Hints := { reg := [(13, [(49, .sc .bool)])], lop := [(0, [(20, .sc (.int .i64))]), (2, [(29, .sc (.int .i64))])], dr := [(13, ([], [[(0, []), (1, []), (2, []), (3, []), (4, []), (5, []), (6, []), (7, []), (8, []), (9, []), (10, []), (11, []), (12, []), (13, []), (14, []), (15, [])]]))] }
theorem E_schema_Check (c0 : (Int × Int × Int × Int)) : denF Tryz.prog H_schema_Check Tryz.f151 [.sc (.int .i64)] [.agg ⟨[.int .u8 c0.1, .int .i32 c0.2.1, .int .i32 c0.2.2.1, .int .i32 c0.2.2.2]⟩] = F_schema_Check c0 := by kernel_rfl
theorem C_schema_Check {R : Type} (c0 : (Int × Int × Int × Int)) (K : Res [.sc (.int .i64)] → W R) (Q : R → World → Prop) (w : World) (h : F_schema_Check c0 (fun r w => K r Q w) w) : callW Tryz.prog k_schema_Check [.agg ⟨[.int .u8 c0.1, .int .i32 c0.2.1, .int .i32 c0.2.2.1, .int .i32 c0.2.2.2]⟩] [.sc (.int .i64)] K Q w :=
  den_calls mix Tryz.func151 H_schema_Check (ts := [.sc (.int .i64)]) trivial (by rw [Tryz.ntmps151]; simp) (by rw [E_schema_Check]; exact h)

/-! 152 (*pinnace/table.Table).Set -/
def F_table_Table_Set (t0 : Option Addr) (id1 : Int) (c2 : (Int × Int × Int × Int)) : W (Int) :=
  newW 53 [.int .u8 c2.1, .int .i32 c2.2.1, .int .i32 c2.2.2.1, .int .i32 c2.2.2.2] fun c_1 =>
  cond (Option.isNone t0)
    (retW 10)
    (ld (.agg [.int .u8, .int .i32, .int .i32, .int .i32]) c_1 fun (x_2 : (Int × Int × Int × Int)) =>
  callW Tryz.prog k_schema_Check [.agg ⟨[.int .u8 x_2.1, .int .i32 x_2.2.1, .int .i32 x_2.2.2.1, .int .i32 x_2.2.2.2]⟩] [.sc (.int .i64)] fun (x_3 : Int) =>
  cond (x_3 != 0)
    (retW x_3)
    (ld (.sc (.int .u8)) (Addr.add c_1 0) fun (x_4 : Int) =>
  callW Tryz.prog k_table_Table_find [.pointer t0, .int .u32 id1, .int .u8 x_4] [.sc (.int .i64), .sc (.int .i64)] fun (x_5 : Int × Int) =>
  joinW (σ := Unit) (fun J_6 =>
    cond (x_5.2 == 0)
      (drawW <|
      ld (.sc (.int .u8)) (Addr.add c_1 0) fun (x_7 : Int) =>
      ptrW t0 fun x_8 =>
      idxW (some (Addr.add x_8 3)) 6 1 x_7 fun x_9 =>
      ld (.sc .sl) (Addr.add x_9 0) fun (x_10 : Sl) =>
      ld (.agg [.int .i32, .int .i32, .int .i32]) (Addr.add c_1 1) fun (x_11 : (Int × Int × Int)) =>
      idxW x_10.a x_10.n 3 x_5.1 fun x_12 =>
      stoL x_12 [.int .i32 x_11.1, .int .i32 x_11.2.1, .int .i32 x_11.2.2] 0 <|
      J_6 ())
      (J_6 ()))
  <| fun s_13 =>
  retW x_5.2))
def H_table_Table_Set : Hints := { con := [(9026, [])], dr := [(8, ([], [[(0, []), (1, []), (2, []), (3, []), (4, []), (5, []), (6, []), (7, []), (8, []), (9, []), (10, []), (11, []), (12, [])]]))] }
theorem E_table_Table_Set (t0 : Option Addr) (id1 : Int) (c2 : (Int × Int × Int × Int)) : denF Tryz.prog H_table_Table_Set Tryz.f152 [.sc (.int .i64)] [.pointer t0, .int .u32 id1, .agg ⟨[.int .u8 c2.1, .int .i32 c2.2.1, .int .i32 c2.2.2.1, .int .i32 c2.2.2.2]⟩] = F_table_Table_Set t0 id1 c2 := by kernel_rfl
theorem C_table_Table_Set {R : Type} (t0 : Option Addr) (id1 : Int) (c2 : (Int × Int × Int × Int)) (K : Res [.sc (.int .i64)] → W R) (Q : R → World → Prop) (w : World) (h : F_table_Table_Set t0 id1 c2 (fun r w => K r Q w) w) : callW Tryz.prog k_table_Table_Set [.pointer t0, .int .u32 id1, .agg ⟨[.int .u8 c2.1, .int .i32 c2.2.1, .int .i32 c2.2.2.1, .int .i32 c2.2.2.2]⟩] [.sc (.int .i64)] K Q w :=
  den_calls mix Tryz.func152 H_table_Table_Set (ts := [.sc (.int .i64)]) trivial (by rw [Tryz.ntmps152]; simp) (by rw [E_table_Table_Set]; exact h)

/-! 153 pinnace/pinnaceref11.Get -/
def F_pinnaceref11_Get (s0 : Option Addr) (id1 : Int) (kind2 : Int) : W ((Int × Int × Int × Int) × Int) :=
  newW 53 [.int .u8 0, .int .i32 0, .int .i32 0, .int .i32 0] fun x_1 =>
  callW Tryz.prog k_pinnaceref11_Ent [.pointer s0, .int .u32 id1] [.agg [.int .u32, .sl], .sc (.int .i64)] fun (x_2 : (Int × Sl) × Int) =>
  newW 34 [.int .u32 0, .slice none 0 0] fun x_3 =>
  stoL x_3 [.int .u32 x_2.1.1, .slice x_2.1.2.a x_2.1.2.n x_2.1.2.c] 0 <|
  cond (x_2.2 != 0)
    (stoL x_1 [.int .u8 0, .int .i32 0, .int .i32 0, .int .i32 0] 0 <|
    ld (.agg [.int .u8, .int .i32, .int .i32, .int .i32]) x_1 fun (x_4 : (Int × Int × Int × Int)) =>
    retW (x_4, x_2.2))
    (ld (.sc .sl) (Addr.add x_3 1) fun (x_5 : Sl) =>
  callW Tryz.prog k_pinnaceref05_Find [.slice x_5.a x_5.n x_5.c, .int .u8 kind2] [.sc (.int .i64)] fun (x_6 : Int) =>
  cond (decide (x_6 < 0))
    (stoL x_1 [.int .u8 0, .int .i32 0, .int .i32 0, .int .i32 0] 0 <|
    ld (.agg [.int .u8, .int .i32, .int .i32, .int .i32]) x_1 fun (x_7 : (Int × Int × Int × Int)) =>
    retW (x_7, 10))
    (ld (.sc .sl) (Addr.add x_3 1) fun (x_8 : Sl) =>
  idxW x_8.a x_8.n 4 x_6 fun x_9 =>
  ld (.agg [.int .u8, .int .i32, .int .i32, .int .i32]) x_9 fun (x_10 : (Int × Int × Int × Int)) =>
  stoL x_1 [.int .u8 x_10.1, .int .i32 x_10.2.1, .int .i32 x_10.2.2.1, .int .i32 x_10.2.2.2] 0 <|
  ld (.agg [.int .u8, .int .i32, .int .i32, .int .i32]) x_1 fun (x_11 : (Int × Int × Int × Int)) =>
  retW (x_11, 0)))
def H_pinnaceref11_Get : Hints := {}
theorem E_pinnaceref11_Get (s0 : Option Addr) (id1 : Int) (kind2 : Int) : denF Tryz.prog H_pinnaceref11_Get Tryz.f153 [.agg [.int .u8, .int .i32, .int .i32, .int .i32], .sc (.int .i64)] [.pointer s0, .int .u32 id1, .int .u8 kind2] = F_pinnaceref11_Get s0 id1 kind2 := by kernel_rfl
theorem C_pinnaceref11_Get {R : Type} (s0 : Option Addr) (id1 : Int) (kind2 : Int) (K : Res [.agg [.int .u8, .int .i32, .int .i32, .int .i32], .sc (.int .i64)] → W R) (Q : R → World → Prop) (w : World) (h : F_pinnaceref11_Get s0 id1 kind2 (fun r w => K r Q w) w) : callW Tryz.prog k_pinnaceref11_Get [.pointer s0, .int .u32 id1, .int .u8 kind2] [.agg [.int .u8, .int .i32, .int .i32, .int .i32], .sc (.int .i64)] K Q w :=
  den_calls mix Tryz.func153 H_pinnaceref11_Get (ts := [.agg [.int .u8, .int .i32, .int .i32, .int .i32], .sc (.int .i64)]) ⟨by kernel_rfl, trivial⟩ (by rw [Tryz.ntmps153]; simp) (by rw [E_pinnaceref11_Get]; exact h)

/-! 154 pinnace/pinnaceref10.Set -/
def F_pinnaceref10_Set (t0 : Option Addr) (id1 : Int) (c2 : (Int × Int × Int × Int)) : W (Int) :=
  newW 53 [.int .u8 c2.1, .int .i32 c2.2.1, .int .i32 c2.2.2.1, .int .i32 c2.2.2.2] fun c_1 =>
  cond (Option.isNone t0)
    (retW 10)
    (ld (.agg [.int .u8, .int .i32, .int .i32, .int .i32]) c_1 fun (x_2 : (Int × Int × Int × Int)) =>
  callW Tryz.prog k_pinnaceref05_Check [.agg ⟨[.int .u8 x_2.1, .int .i32 x_2.2.1, .int .i32 x_2.2.2.1, .int .i32 x_2.2.2.2]⟩] [.sc (.int .i64)] fun (x_3 : Int) =>
  cond (x_3 != 0)
    (retW x_3)
    (ld (.sc (.int .u8)) (Addr.add c_1 0) fun (x_4 : Int) =>
  callW Tryz.prog k_pinnaceref10_Get [.pointer t0, .int .u32 id1, .int .u8 x_4] [.agg [.int .u8, .int .i32, .int .i32, .int .i32], .sc (.int .i64)] fun (x_5 : (Int × Int × Int × Int) × Int) =>
  newW 53 [.int .u8 0, .int .i32 0, .int .i32 0, .int .i32 0] fun x_6 =>
  stoL x_6 [.int .u8 x_5.1.1, .int .i32 x_5.1.2.1, .int .i32 x_5.1.2.2.1, .int .i32 x_5.1.2.2.2] 0 <|
  cond (x_5.2 != 0)
    (retW x_5.2)
    (callW Tryz.prog k_pinnaceref10_Row [.pointer t0, .int .u32 id1] [.sc (.int .i64)] fun (x_7 : Int) =>
  drawW <|
  ptrW t0 fun x_8 =>
  ld (.sc .sl) (Addr.add x_8 1) fun (x_9 : Sl) =>
  ptrW t0 fun x_10 =>
  ld (.sc .sl) (Addr.add x_10 1) fun (x_11 : Sl) =>
  idxW x_11.a x_11.n 2 x_7 fun x_12 =>
  ld (.sc .sl) (Addr.add x_12 1) fun (x_13 : Sl) =>
  ld (.agg [.int .u8, .int .i32, .int .i32, .int .i32]) c_1 fun (x_14 : (Int × Int × Int × Int)) =>
  callW Tryz.prog k_pinnaceref05_With [.slice x_13.a x_13.n x_13.c, .agg ⟨[.int .u8 x_14.1, .int .i32 x_14.2.1, .int .i32 x_14.2.2.1, .int .i32 x_14.2.2.2]⟩] [.sc .sl] fun (x_15 : Sl) =>
  andW (fun w => Rd w (Addr.add x_8 1) (.sc .sl) x_9) <|
  idxW x_9.a x_9.n 2 x_7 fun x_16 =>
  stoL (Addr.add x_16 1) [.slice x_15.a x_15.n x_15.c] 0 <|
  retW 0)))
def H_pinnaceref10_Set : Hints := { dr := [(10, ([], [[(0, []), (1, []), (2, []), (3, []), (4, []), (5, []), (6, []), (7, []), (8, []), (9, []), (10, []), (11, []), (12, []), (13, []), (14, [3]), (15, []), (16, []), (17, [])]]))] }
theorem E_pinnaceref10_Set (t0 : Option Addr) (id1 : Int) (c2 : (Int × Int × Int × Int)) : denF Tryz.prog H_pinnaceref10_Set Tryz.f154 [.sc (.int .i64)] [.pointer t0, .int .u32 id1, .agg ⟨[.int .u8 c2.1, .int .i32 c2.2.1, .int .i32 c2.2.2.1, .int .i32 c2.2.2.2]⟩] = F_pinnaceref10_Set t0 id1 c2 := by kernel_rfl
theorem C_pinnaceref10_Set {R : Type} (t0 : Option Addr) (id1 : Int) (c2 : (Int × Int × Int × Int)) (K : Res [.sc (.int .i64)] → W R) (Q : R → World → Prop) (w : World) (h : F_pinnaceref10_Set t0 id1 c2 (fun r w => K r Q w) w) : callW Tryz.prog k_pinnaceref10_Set [.pointer t0, .int .u32 id1, .agg ⟨[.int .u8 c2.1, .int .i32 c2.2.1, .int .i32 c2.2.2.1, .int .i32 c2.2.2.2]⟩] [.sc (.int .i64)] K Q w :=
  den_calls mix Tryz.func154 H_pinnaceref10_Set (ts := [.sc (.int .i64)]) trivial (by rw [Tryz.ntmps154]; simp) (by rw [E_pinnaceref10_Set]; exact h)

/-! 155 (*pinnace/slots.Slots).Len -/
def F_slots_Slots_Len (s0 : Option Addr) : W (Int) :=
  cond (Option.isNone s0)
    (retW 0)
    (ptrW s0 fun x_1 =>
  ld (.sc (.int .i64)) (Addr.add x_1 5) fun (x_2 : Int) =>
  retW x_2)
def H_slots_Slots_Len : Hints := {}
theorem E_slots_Slots_Len (s0 : Option Addr) : denF Tryz.prog H_slots_Slots_Len Tryz.f155 [.sc (.int .i64)] [.pointer s0] = F_slots_Slots_Len s0 := by kernel_rfl
theorem C_slots_Slots_Len {R : Type} (s0 : Option Addr) (K : Res [.sc (.int .i64)] → W R) (Q : R → World → Prop) (w : World) (h : F_slots_Slots_Len s0 (fun r w => K r Q w) w) : callW Tryz.prog k_slots_Slots_Len [.pointer s0] [.sc (.int .i64)] K Q w :=
  den_calls mix Tryz.func155 H_slots_Slots_Len (ts := [.sc (.int .i64)]) trivial (by rw [Tryz.ntmps155]; simp) (by rw [E_slots_Slots_Len]; exact h)

/-! 156 pinnace/slots.Make -/
def F_slots_Make (slot0 : Int) (gen1 : Int) : W (Int × Int) :=
  joinW (σ := Bool) (fun J_1 =>
    cond (decide (slot0 < 0))
      (J_1 true)
      (cond (decide (slot0 ≥ 1024))
          (J_1 true)
          (cond (decide (gen1 < 1))
              (J_1 true)
              (J_1 (decide (gen1 > 4194303))))))
  <| fun s_2 =>
  cond s_2
    (retW (0, 1))
    (retW (IntKind.wrap .u32 (IntKind.wrap .i64 ((IntKind.wrap .i64 (gen1 * 1024)) + slot0)), 0))
def H_slots_Make : Hints := { reg := [(1, [(19, .sc .bool)])] }
theorem E_slots_Make (slot0 : Int) (gen1 : Int) : denF Tryz.prog H_slots_Make Tryz.f156 [.sc (.int .u32), .sc (.int .i64)] [.int .i64 slot0, .int .i64 gen1] = F_slots_Make slot0 gen1 := by kernel_rfl
theorem C_slots_Make {R : Type} (slot0 : Int) (gen1 : Int) (K : Res [.sc (.int .u32), .sc (.int .i64)] → W R) (Q : R → World → Prop) (w : World) (h : F_slots_Make slot0 gen1 (fun r w => K r Q w) w) : callW Tryz.prog k_slots_Make [.int .i64 slot0, .int .i64 gen1] [.sc (.int .u32), .sc (.int .i64)] K Q w :=
  den_calls mix Tryz.func156 H_slots_Make (ts := [.sc (.int .u32), .sc (.int .i64)]) trivial (by rw [Tryz.ntmps156]; simp) (by rw [E_slots_Make]; exact h)

/-! 157 pinnace/orders.Check -/
def F_orders_Check (o0 : (Int × Int × Int × Sl)) : W (Int) :=
  newW 81 [.int .u8 o0.1, .int .u32 o0.2.1, .int .u8 o0.2.2.1, .slice o0.2.2.2.a o0.2.2.2.n o0.2.2.2.c] fun o_1 =>
  ld (.sc (.int .u8)) (Addr.add o_1 0) fun (x_2 : Int) =>
  cond (x_2 == 1)
    (ld (.sc .sl) (Addr.add o_1 3) fun (x_3 : Sl) =>
    callW Tryz.prog k_schema_List [.slice x_3.a x_3.n x_3.c] [.sc (.int .i64)] fun (x_4 : Int) =>
    retW x_4)
    (cond (x_2 == 2)
      (ld (.sc .sl) (Addr.add o_1 3) fun (x_5 : Sl) =>
      callW Tryz.prog k_orders_none [.slice x_5.a x_5.n x_5.c] [.sc (.int .i64)] fun (x_6 : Int) =>
      retW x_6)
      (joinW (σ := Bool) (fun J_7 =>
        cond (x_2 == 3)
          (J_7 (x_2 == 3))
          (J_7 (x_2 == 4)))
      <| fun s_8 =>
      cond s_8
        (ld (.sc .sl) (Addr.add o_1 3) fun (x_9 : Sl) =>
        callW Tryz.prog k_orders_one [.slice x_9.a x_9.n x_9.c] [.sc (.int .i64)] fun (x_10 : Int) =>
        retW x_10)
        (joinW (σ := Unit) (fun J_11 =>
          cond (x_2 == 5)
            (ld (.sc (.int .u8)) (Addr.add o_1 2) fun (x_12 : Int) =>
            cond (decide (x_12 < 6))
              (ld (.sc .sl) (Addr.add o_1 3) fun (x_13 : Sl) =>
              callW Tryz.prog k_orders_none [.slice x_13.a x_13.n x_13.c] [.sc (.int .i64)] fun (x_14 : Int) =>
              retW x_14)
              (J_11 ()))
            (J_11 ()))
        <| fun s_15 =>
        retW 1)))
def H_orders_Check : Hints := { con := [(8015, [(15, .sc .bool)]), (11021, [])] }
theorem E_orders_Check (o0 : (Int × Int × Int × Sl)) : denF Tryz.prog H_orders_Check Tryz.f157 [.sc (.int .i64)] [.agg ⟨[.int .u8 o0.1, .int .u32 o0.2.1, .int .u8 o0.2.2.1, .slice o0.2.2.2.a o0.2.2.2.n o0.2.2.2.c]⟩] = F_orders_Check o0 := by kernel_rfl
theorem C_orders_Check {R : Type} (o0 : (Int × Int × Int × Sl)) (K : Res [.sc (.int .i64)] → W R) (Q : R → World → Prop) (w : World) (h : F_orders_Check o0 (fun r w => K r Q w) w) : callW Tryz.prog k_orders_Check [.agg ⟨[.int .u8 o0.1, .int .u32 o0.2.1, .int .u8 o0.2.2.1, .slice o0.2.2.2.a o0.2.2.2.n o0.2.2.2.c]⟩] [.sc (.int .i64)] K Q w :=
  den_calls mix Tryz.func157 H_orders_Check (ts := [.sc (.int .i64)]) trivial (by rw [Tryz.ntmps157]; simp) (by rw [E_orders_Check]; exact h)

/-! 158 slices.Clone[[]pinnace/api.Comp,pinnace/api.Comp] -/
def F_slices_Clone_Comp (s0 : Sl) : W (Sl) :=
  cond (Option.isNone s0.a)
    (retW (⟨none, 0, 0⟩ : Sl))
    (newW 53 [] fun x_1 =>
  rawW Tryz.prog (Builtin.append_ #[32, 32] 32 #[.slice (some x_1) 0 0, .slice s0.a s0.n s0.c]) [.sc .sl] fun (x_2 : Sl) =>
  retW x_2)
def H_slices_Clone_Comp : Hints := {}
theorem E_slices_Clone_Comp (s0 : Sl) : denF Tryz.prog H_slices_Clone_Comp Tryz.f158 [.sc .sl] [.slice s0.a s0.n s0.c] = F_slices_Clone_Comp s0 := by kernel_rfl
theorem C_slices_Clone_Comp {R : Type} (s0 : Sl) (K : Res [.sc .sl] → W R) (Q : R → World → Prop) (w : World) (h : F_slices_Clone_Comp s0 (fun r w => K r Q w) w) : callW Tryz.prog k_slices_Clone_Comp [.slice s0.a s0.n s0.c] [.sc .sl] K Q w :=
  den_calls mix Tryz.func158 H_slices_Clone_Comp (ts := [.sc .sl]) trivial (by rw [Tryz.ntmps158]; simp) (by rw [E_slices_Clone_Comp]; exact h)

/-! 159 pinnace/orders.Do -/
def F_orders_Do (s0 : Option Addr) (o1 : (Int × Int × Int × Sl)) : W ((Int × Int)) :=
  newW 81 [.int .u8 o1.1, .int .u32 o1.2.1, .int .u8 o1.2.2.1, .slice o1.2.2.2.a o1.2.2.2.n o1.2.2.2.c] fun o_1 =>
  newW 107 [.int .i64 0, .int .u32 0] fun x_2 =>
  ld (.agg [.int .u8, .int .u32, .int .u8, .sl]) o_1 fun (x_3 : (Int × Int × Int × Sl)) =>
  callW Tryz.prog k_orders_Check [.agg ⟨[.int .u8 x_3.1, .int .u32 x_3.2.1, .int .u8 x_3.2.2.1, .slice x_3.2.2.2.a x_3.2.2.2.n x_3.2.2.2.c]⟩] [.sc (.int .i64)] fun (x_4 : Int) =>
  cond (x_4 != 0)
    (stoL x_2 [.int .i64 x_4, .int .u32 0] 0 <|
    ld (.agg [.int .i64, .int .u32]) x_2 fun (x_5 : (Int × Int)) =>
    retW x_5)
    (ld (.agg [.int .u8, .int .u32, .int .u8, .sl]) o_1 fun (x_6 : (Int × Int × Int × Sl)) =>
  callW Tryz.prog k_orders_work [.pointer s0, .agg ⟨[.int .u8 x_6.1, .int .u32 x_6.2.1, .int .u8 x_6.2.2.1, .slice x_6.2.2.2.a x_6.2.2.2.n x_6.2.2.2.c]⟩] [.sc (.int .u32), .sc (.int .i64)] fun (x_7 : Int × Int) =>
  cond (x_7.2 != 0)
    (stoL x_2 [.int .i64 x_7.2, .int .u32 0] 0 <|
    ld (.agg [.int .i64, .int .u32]) x_2 fun (x_8 : (Int × Int)) =>
    retW x_8)
    (stoL x_2 [.int .i64 0, .int .u32 x_7.1] 0 <|
  ld (.agg [.int .i64, .int .u32]) x_2 fun (x_9 : (Int × Int)) =>
  retW x_9))
def H_orders_Do : Hints := {}
theorem E_orders_Do (s0 : Option Addr) (o1 : (Int × Int × Int × Sl)) : denF Tryz.prog H_orders_Do Tryz.f159 [.agg [.int .i64, .int .u32]] [.pointer s0, .agg ⟨[.int .u8 o1.1, .int .u32 o1.2.1, .int .u8 o1.2.2.1, .slice o1.2.2.2.a o1.2.2.2.n o1.2.2.2.c]⟩] = F_orders_Do s0 o1 := by kernel_rfl
theorem C_orders_Do {R : Type} (s0 : Option Addr) (o1 : (Int × Int × Int × Sl)) (K : Res [.agg [.int .i64, .int .u32]] → W R) (Q : R → World → Prop) (w : World) (h : F_orders_Do s0 o1 (fun r w => K r Q w) w) : callW Tryz.prog k_orders_Do [.pointer s0, .agg ⟨[.int .u8 o1.1, .int .u32 o1.2.1, .int .u8 o1.2.2.1, .slice o1.2.2.2.a o1.2.2.2.n o1.2.2.2.c]⟩] [.agg [.int .i64, .int .u32]] K Q w :=
  den_calls mix Tryz.func159 H_orders_Do (ts := [.agg [.int .i64, .int .u32]]) ⟨by kernel_rfl, trivial⟩ (by rw [Tryz.ntmps159]; simp) (by rw [E_orders_Do]; exact h)

/-! 160 slices.Clip[[]pinnace/api.Order,pinnace/api.Order] -/
def F_slices_Clip_Order (s0 : Sl) : W (Sl) :=
  rawQ Tryz.prog (Instr.sliceAt 76 (.slice s0.a s0.n s0.c) none (some (.int .i64 (s0.n : Int))) (some (.int .i64 (s0.n : Int)))) [.sc .sl] fun (x_1 : Sl) =>
  retW x_1
def H_slices_Clip_Order : Hints := {}
theorem E_slices_Clip_Order (s0 : Sl) : denF Tryz.prog H_slices_Clip_Order Tryz.f160 [.sc .sl] [.slice s0.a s0.n s0.c] = F_slices_Clip_Order s0 := by kernel_rfl
theorem C_slices_Clip_Order {R : Type} (s0 : Sl) (K : Res [.sc .sl] → W R) (Q : R → World → Prop) (w : World) (h : F_slices_Clip_Order s0 (fun r w => K r Q w) w) : callW Tryz.prog k_slices_Clip_Order [.slice s0.a s0.n s0.c] [.sc .sl] K Q w :=
  den_calls mix Tryz.func160 H_slices_Clip_Order (ts := [.sc .sl]) trivial (by rw [Tryz.ntmps160]; simp) (by rw [E_slices_Clip_Order]; exact h)

/-! 164 slices.IndexFunc[[]pinnace/api.Comp,pinnace/api.Comp] -/
def F_slices_IndexFunc_Comp__store_Store_Add_c1_c1 (s0 : Sl) (f1c0 : Option Addr) : W (Int) :=
  loopW (σ := Int) (fun K_1 s_2 =>
    cond (decide (s_2 < (s0.n : Int)))
      (idxW s0.a s0.n 4 s_2 fun x_3 =>
    ld (.agg [.int .u8, .int .i32, .int .i32, .int .i32]) x_3 fun (x_4 : (Int × Int × Int × Int)) =>
    callW Tryz.prog k_store_Store_Add_c1_c1 [.agg ⟨[.int .u8 x_4.1, .int .i32 x_4.2.1, .int .i32 x_4.2.2.1, .int .i32 x_4.2.2.2]⟩, .pointer f1c0] [.sc .bool] fun (x_5 : Bool) =>
    cond x_5
      (retW s_2)
      (K_1 (IntKind.wrap .i64 (s_2 + 1))))
      (retW (-1)))
    0
def H_slices_IndexFunc_Comp__store_Store_Add_c1_c1 : Hints := { lop := [(0, [(8, .sc (.int .i64))])] }
theorem E_slices_IndexFunc_Comp__store_Store_Add_c1_c1 (s0 : Sl) (f1c0 : Option Addr) : denF Tryz.prog H_slices_IndexFunc_Comp__store_Store_Add_c1_c1 Tryz.f164 [.sc (.int .i64)] [.slice s0.a s0.n s0.c, .func (.func 233) #[] #[.pointer f1c0]] = F_slices_IndexFunc_Comp__store_Store_Add_c1_c1 s0 f1c0 := by kernel_rfl
theorem C_slices_IndexFunc_Comp__store_Store_Add_c1_c1 {R : Type} (s0 : Sl) (f1c0 : Option Addr) (K : Res [.sc (.int .i64)] → W R) (Q : R → World → Prop) (w : World) (h : F_slices_IndexFunc_Comp__store_Store_Add_c1_c1 s0 f1c0 (fun r w => K r Q w) w) : callW Tryz.prog k_slices_IndexFunc_Comp [.slice s0.a s0.n s0.c, .func (.func 233) #[] #[.pointer f1c0]] [.sc (.int .i64)] K Q w :=
  den_calls mix Tryz.func164 H_slices_IndexFunc_Comp__store_Store_Add_c1_c1 (ts := [.sc (.int .i64)]) trivial (by rw [Tryz.ntmps164]; simp) (by rw [E_slices_IndexFunc_Comp__store_Store_Add_c1_c1]; exact h)

/-! 164 slices.IndexFunc[[]pinnace/api.Comp,pinnace/api.Comp] -/
def F_slices_IndexFunc_Comp__store_Store_Remove_c1_c1 (s0 : Sl) (f1c0 : Option Addr) : W (Int) :=
  loopW (σ := Int) (fun K_1 s_2 =>
    cond (decide (s_2 < (s0.n : Int)))
      (idxW s0.a s0.n 4 s_2 fun x_3 =>
    ld (.agg [.int .u8, .int .i32, .int .i32, .int .i32]) x_3 fun (x_4 : (Int × Int × Int × Int)) =>
    callW Tryz.prog k_store_Store_Remove_c1_c1 [.agg ⟨[.int .u8 x_4.1, .int .i32 x_4.2.1, .int .i32 x_4.2.2.1, .int .i32 x_4.2.2.2]⟩, .pointer f1c0] [.sc .bool] fun (x_5 : Bool) =>
    cond x_5
      (retW s_2)
      (K_1 (IntKind.wrap .i64 (s_2 + 1))))
      (retW (-1)))
    0
def H_slices_IndexFunc_Comp__store_Store_Remove_c1_c1 : Hints := { lop := [(0, [(8, .sc (.int .i64))])] }
theorem E_slices_IndexFunc_Comp__store_Store_Remove_c1_c1 (s0 : Sl) (f1c0 : Option Addr) : denF Tryz.prog H_slices_IndexFunc_Comp__store_Store_Remove_c1_c1 Tryz.f164 [.sc (.int .i64)] [.slice s0.a s0.n s0.c, .func (.func 237) #[] #[.pointer f1c0]] = F_slices_IndexFunc_Comp__store_Store_Remove_c1_c1 s0 f1c0 := by kernel_rfl
theorem C_slices_IndexFunc_Comp__store_Store_Remove_c1_c1 {R : Type} (s0 : Sl) (f1c0 : Option Addr) (K : Res [.sc (.int .i64)] → W R) (Q : R → World → Prop) (w : World) (h : F_slices_IndexFunc_Comp__store_Store_Remove_c1_c1 s0 f1c0 (fun r w => K r Q w) w) : callW Tryz.prog k_slices_IndexFunc_Comp [.slice s0.a s0.n s0.c, .func (.func 237) #[] #[.pointer f1c0]] [.sc (.int .i64)] K Q w :=
  den_calls mix Tryz.func164 H_slices_IndexFunc_Comp__store_Store_Remove_c1_c1 (ts := [.sc (.int .i64)]) trivial (by rw [Tryz.ntmps164]; simp) (by rw [E_slices_IndexFunc_Comp__store_Store_Remove_c1_c1]; exact h)

/-! 165 pinnace/pinnaceref10.Add -/
def F_pinnaceref10_Add (t0 : Option Addr) (id1 : Int) (l2 : Sl) : W (Int) :=
  cond (Option.isNone t0)
    (retW 10)
    (callW Tryz.prog k_pinnaceref05_List [.slice l2.a l2.n l2.c] [.sc (.int .i64)] fun (x_1 : Int) =>
  cond (x_1 != 0)
    (retW x_1)
    (drawW <|
  ptrW t0 fun x_2 =>
  ld (.sc (.int .u8)) (Addr.add x_2 0) fun (x_3 : Int) =>
  callW Tryz.prog k_pinnaceref05_Mask [.slice l2.a l2.n l2.c] [.sc (.int .u8)] fun (x_4 : Int) =>
  andW (fun w => Rd w (Addr.add x_2 0) (.sc (.int .u8)) x_3) <|
  cond (x_4 != x_3)
    (retW 4)
    (callW Tryz.prog k_pinnaceref10_Row [.pointer t0, .int .u32 id1] [.sc (.int .i64)] fun (x_5 : Int) =>
  cond (decide (x_5 ≥ 0))
    (retW 9)
    (drawW <|
  ptrW t0 fun x_6 =>
  ld (.sc .sl) (Addr.add x_6 1) fun (x_7 : Sl) =>
  callW Tryz.prog k_pinnaceref05_Twin [.slice l2.a l2.n l2.c] [.sc .sl] fun (x_8 : Sl) =>
  andW (fun w => Rd w (Addr.add x_6 1) (.sc .sl) x_7) <|
  newW 34 [.int .u32 id1, .slice x_8.a x_8.n x_8.c] fun x_9 =>
  rawW Tryz.prog (Builtin.append_ #[39, 39] 39 #[.slice x_7.a x_7.n x_7.c, .slice (some x_9) 1 1]) [.sc .sl] fun (x_10 : Sl) =>
  ptrW t0 fun x_11 =>
  stoL (Addr.add x_11 1) [.slice x_10.a x_10.n x_10.c] 0 <|
  retW 0))))
def H_pinnaceref10_Add : Hints := { dr := [(6, ([], [[(0, []), (2, []), (3, []), (4, []), (5, []), (1, [5]), (6, [])]])), (10, ([], [[(0, []), (1, []), (2, []), (3, []), (4, []), (5, []), (6, []), (7, [4]), (8, []), (9, []), (10, []), (11, []), (12, []), (13, [])]]))] }
theorem E_pinnaceref10_Add (t0 : Option Addr) (id1 : Int) (l2 : Sl) : denF Tryz.prog H_pinnaceref10_Add Tryz.f165 [.sc (.int .i64)] [.pointer t0, .int .u32 id1, .slice l2.a l2.n l2.c] = F_pinnaceref10_Add t0 id1 l2 := by kernel_rfl
theorem C_pinnaceref10_Add {R : Type} (t0 : Option Addr) (id1 : Int) (l2 : Sl) (K : Res [.sc (.int .i64)] → W R) (Q : R → World → Prop) (w : World) (h : F_pinnaceref10_Add t0 id1 l2 (fun r w => K r Q w) w) : callW Tryz.prog k_pinnaceref10_Add [.pointer t0, .int .u32 id1, .slice l2.a l2.n l2.c] [.sc (.int .i64)] K Q w :=
  den_calls mix Tryz.func165 H_pinnaceref10_Add (ts := [.sc (.int .i64)]) trivial (by rw [Tryz.ntmps165]; simp) (by rw [E_pinnaceref10_Add]; exact h)

/-! 166 pinnace/pinnaceref11.turn -/
def F_pinnaceref11_turn (s0 : Option Addr) (id1 : Int) (l2 : Sl) : W (Unit) :=
  callW Tryz.prog k_pinnaceref11_find [.pointer s0, .int .u32 id1] [.sc .ptr] fun (x_1 : (Option Addr)) =>
  callW Tryz.prog k_pinnaceref10_Remove [.pointer x_1, .int .u32 id1] [.sc .sl, .sc (.int .i64)] fun (x_2 : Sl × Int) =>
  callW Tryz.prog k_pinnaceref11_put [.pointer s0, .int .u32 id1, .slice l2.a l2.n l2.c] [] fun (x_3 : Unit) =>
  retW ()
def H_pinnaceref11_turn : Hints := {}
theorem E_pinnaceref11_turn (s0 : Option Addr) (id1 : Int) (l2 : Sl) : denF Tryz.prog H_pinnaceref11_turn Tryz.f166 [] [.pointer s0, .int .u32 id1, .slice l2.a l2.n l2.c] = F_pinnaceref11_turn s0 id1 l2 := by kernel_rfl
theorem C_pinnaceref11_turn {R : Type} (s0 : Option Addr) (id1 : Int) (l2 : Sl) (K : Res [] → W R) (Q : R → World → Prop) (w : World) (h : F_pinnaceref11_turn s0 id1 l2 (fun r w => K r Q w) w) : callW Tryz.prog k_pinnaceref11_turn [.pointer s0, .int .u32 id1, .slice l2.a l2.n l2.c] [] K Q w :=
  den_calls mix Tryz.func166 H_pinnaceref11_turn (ts := []) trivial (by rw [Tryz.ntmps166]; simp) (by rw [E_pinnaceref11_turn]; exact h)

/-! 167 pinnace/pinnaceref05.With -/
def F_pinnaceref05_With (l0 : Sl) (c1 : (Int × Int × Int × Int)) : W (Sl) :=
  newW 53 [.int .u8 c1.1, .int .i32 c1.2.1, .int .i32 c1.2.2.1, .int .i32 c1.2.2.2] fun c_1 =>
  loopW (σ := Sl × Bool × Int) (fun K_2 s_3 =>
    cond (decide (s_3.2.2 < (l0.n : Int)))
      (idxW l0.a l0.n 4 s_3.2.2 fun x_4 =>
    ld (.agg [.int .u8, .int .i32, .int .i32, .int .i32]) x_4 fun (x_5 : (Int × Int × Int × Int)) =>
    newW 53 [.int .u8 0, .int .i32 0, .int .i32 0, .int .i32 0] fun x_6 =>
    stoL x_6 [.int .u8 x_5.1, .int .i32 x_5.2.1, .int .i32 x_5.2.2.1, .int .i32 x_5.2.2.2] 0 <|
    joinW (σ := Bool) (fun J_7 =>
      cond (!s_3.2.1)
        (ld (.sc (.int .u8)) (Addr.add x_6 0) fun (x_8 : Int) =>
          ld (.sc (.int .u8)) (Addr.add c_1 0) fun (x_9 : Int) =>
              J_7 (decide (x_8 ≥ x_9)))
        (J_7 false))
    <| fun s_10 =>
    joinW (σ := Sl × Bool) (fun J_11 =>
      cond s_10
        (ld (.agg [.int .u8, .int .i32, .int .i32, .int .i32]) c_1 fun (x_12 : (Int × Int × Int × Int)) =>
        newW 53 [.int .u8 x_12.1, .int .i32 x_12.2.1, .int .i32 x_12.2.2.1, .int .i32 x_12.2.2.2] fun x_13 =>
        rawW Tryz.prog (Builtin.append_ #[32, 32] 32 #[.slice s_3.1.a s_3.1.n s_3.1.c, .slice (some x_13) 1 1]) [.sc .sl] fun (x_14 : Sl) =>
        J_11 (x_14, true))
        (J_11 (s_3.1, s_3.2.1)))
    <| fun s_15 =>
    ld (.sc (.int .u8)) (Addr.add x_6 0) fun (x_16 : Int) =>
    ld (.sc (.int .u8)) (Addr.add c_1 0) fun (x_17 : Int) =>
    joinW (σ := Sl) (fun J_18 =>
      cond (x_16 != x_17)
        (ld (.agg [.int .u8, .int .i32, .int .i32, .int .i32]) x_6 fun (x_19 : (Int × Int × Int × Int)) =>
        newW 53 [.int .u8 x_19.1, .int .i32 x_19.2.1, .int .i32 x_19.2.2.1, .int .i32 x_19.2.2.2] fun x_20 =>
        rawW Tryz.prog (Builtin.append_ #[32, 32] 32 #[.slice s_15.1.a s_15.1.n s_15.1.c, .slice (some x_20) 1 1]) [.sc .sl] fun (x_21 : Sl) =>
        J_18 x_21)
        (J_18 s_15.1))
    <| fun s_22 =>
    K_2 (s_22, s_15.2, IntKind.wrap .i64 (s_3.2.2 + 1)))
      (joinW (σ := Sl) (fun J_23 =>
    cond (!s_3.2.1)
      (ld (.agg [.int .u8, .int .i32, .int .i32, .int .i32]) c_1 fun (x_24 : (Int × Int × Int × Int)) =>
      newW 53 [.int .u8 x_24.1, .int .i32 x_24.2.1, .int .i32 x_24.2.2.1, .int .i32 x_24.2.2.2] fun x_25 =>
      rawW Tryz.prog (Builtin.append_ #[32, 32] 32 #[.slice s_3.1.a s_3.1.n s_3.1.c, .slice (some x_25) 1 1]) [.sc .sl] fun (x_26 : Sl) =>
      J_23 x_26)
      (J_23 s_3.1))
  <| fun s_27 =>
  retW s_27))
    ((⟨none, 0, 0⟩ : Sl), false, 0)
def H_pinnaceref05_With : Hints := { reg := [(6, [(23, .sc .bool)])], con := [(8023, [(5, .sc .sl), (6, .sc .bool)]), (11032, [(5, .sc .sl)]), (14039, [(5, .sc .sl)])], lop := [(0, [(5, .sc .sl), (6, .sc .bool), (11, .sc (.int .i64))])] }
theorem E_pinnaceref05_With (l0 : Sl) (c1 : (Int × Int × Int × Int)) : denF Tryz.prog H_pinnaceref05_With Tryz.f167 [.sc .sl] [.slice l0.a l0.n l0.c, .agg ⟨[.int .u8 c1.1, .int .i32 c1.2.1, .int .i32 c1.2.2.1, .int .i32 c1.2.2.2]⟩] = F_pinnaceref05_With l0 c1 := by kernel_rfl
theorem C_pinnaceref05_With {R : Type} (l0 : Sl) (c1 : (Int × Int × Int × Int)) (K : Res [.sc .sl] → W R) (Q : R → World → Prop) (w : World) (h : F_pinnaceref05_With l0 c1 (fun r w => K r Q w) w) : callW Tryz.prog k_pinnaceref05_With [.slice l0.a l0.n l0.c, .agg ⟨[.int .u8 c1.1, .int .i32 c1.2.1, .int .i32 c1.2.2.1, .int .i32 c1.2.2.2]⟩] [.sc .sl] K Q w :=
  den_calls mix Tryz.func167 H_pinnaceref05_With (ts := [.sc .sl]) trivial (by rw [Tryz.ntmps167]; simp) (by rw [E_pinnaceref05_With]; exact h)

/-! 168 pinnace/pinnaceref05.Without -/
def F_pinnaceref05_Without (l0 : Sl) (kind1 : Int) : W (Sl) :=
  loopW (σ := Sl × Int) (fun K_1 s_2 =>
    cond (decide (s_2.2 < (l0.n : Int)))
      (idxW l0.a l0.n 4 s_2.2 fun x_3 =>
    ld (.agg [.int .u8, .int .i32, .int .i32, .int .i32]) x_3 fun (x_4 : (Int × Int × Int × Int)) =>
    newW 53 [.int .u8 0, .int .i32 0, .int .i32 0, .int .i32 0] fun x_5 =>
    stoL x_5 [.int .u8 x_4.1, .int .i32 x_4.2.1, .int .i32 x_4.2.2.1, .int .i32 x_4.2.2.2] 0 <|
    ld (.sc (.int .u8)) (Addr.add x_5 0) fun (x_6 : Int) =>
    joinW (σ := Sl) (fun J_7 =>
      cond (x_6 != kind1)
        (ld (.agg [.int .u8, .int .i32, .int .i32, .int .i32]) x_5 fun (x_8 : (Int × Int × Int × Int)) =>
        newW 53 [.int .u8 x_8.1, .int .i32 x_8.2.1, .int .i32 x_8.2.2.1, .int .i32 x_8.2.2.2] fun x_9 =>
        rawW Tryz.prog (Builtin.append_ #[32, 32] 32 #[.slice s_2.1.a s_2.1.n s_2.1.c, .slice (some x_9) 1 1]) [.sc .sl] fun (x_10 : Sl) =>
        J_7 x_10)
        (J_7 s_2.1))
    <| fun s_11 =>
    K_1 (s_11, IntKind.wrap .i64 (s_2.2 + 1)))
      (retW s_2.1))
    ((⟨none, 0, 0⟩ : Sl), 0)
def H_pinnaceref05_Without : Hints := { con := [(7017, [(5, .sc .sl)])], lop := [(0, [(5, .sc .sl), (10, .sc (.int .i64))])] }
theorem E_pinnaceref05_Without (l0 : Sl) (kind1 : Int) : denF Tryz.prog H_pinnaceref05_Without Tryz.f168 [.sc .sl] [.slice l0.a l0.n l0.c, .int .u8 kind1] = F_pinnaceref05_Without l0 kind1 := by kernel_rfl
theorem C_pinnaceref05_Without {R : Type} (l0 : Sl) (kind1 : Int) (K : Res [.sc .sl] → W R) (Q : R → World → Prop) (w : World) (h : F_pinnaceref05_Without l0 kind1 (fun r w => K r Q w) w) : callW Tryz.prog k_pinnaceref05_Without [.slice l0.a l0.n l0.c, .int .u8 kind1] [.sc .sl] K Q w :=
  den_calls mix Tryz.func168 H_pinnaceref05_Without (ts := [.sc .sl]) trivial (by rw [Tryz.ntmps168]; simp) (by rw [E_pinnaceref05_Without]; exact h)

/-! 170 (*pinnace/store.Store).Live -/
def F_store_Store_Live (s0 : Option Addr) (id1 : Int) : W (Bool) :=
  callW Tryz.prog k_store_Store_numbers [.pointer s0] [.sc .ptr] fun (x_1 : (Option Addr)) =>
  callW Tryz.prog k_slots_Slots_Live [.pointer x_1, .int .u32 id1] [.sc .bool] fun (x_2 : Bool) =>
  retW x_2
def H_store_Store_Live : Hints := {}
theorem E_store_Store_Live (s0 : Option Addr) (id1 : Int) : denF Tryz.prog H_store_Store_Live Tryz.f170 [.sc .bool] [.pointer s0, .int .u32 id1] = F_store_Store_Live s0 id1 := by kernel_rfl
theorem C_store_Store_Live {R : Type} (s0 : Option Addr) (id1 : Int) (K : Res [.sc .bool] → W R) (Q : R → World → Prop) (w : World) (h : F_store_Store_Live s0 id1 (fun r w => K r Q w) w) : callW Tryz.prog k_store_Store_Live [.pointer s0, .int .u32 id1] [.sc .bool] K Q w :=
  den_calls mix Tryz.func170 H_store_Store_Live (ts := [.sc .bool]) trivial (by rw [Tryz.ntmps170]; simp) (by rw [E_store_Store_Live]; exact h)

/-! 171 (*pinnace/slots.Slots).use -/
def F_slots_Slots_use (s0 : Option Addr) (slot1 : Int) (gen2 : Int) : W (Int × Int) :=
  drawW <|
  ptrW s0 fun x_1 =>
  ld (.sc .sl) (Addr.add x_1 1) fun (x_2 : Sl) =>
  ptrW s0 fun x_3 =>
  ld (.sc .sl) (Addr.add x_3 2) fun (x_4 : Sl) =>
  idxW x_2.a x_2.n 1 slot1 fun x_5 =>
  stoL x_5 [.int .i64 gen2] 0 <|
  idxW x_4.a x_4.n 1 slot1 fun x_6 =>
  stoL x_6 [.bool true] 0 <|
  ptrW s0 fun x_7 =>
  ld (.sc (.int .i64)) (Addr.add x_7 5) fun (x_8 : Int) =>
  ptrW s0 fun x_9 =>
  stoL (Addr.add x_9 5) [.int .i64 (IntKind.wrap .i64 (x_8 + 1))] 0 <|
  callW Tryz.prog k_slots_Make [.int .i64 slot1, .int .i64 gen2] [.sc (.int .u32), .sc (.int .i64)] fun (x_10 : Int × Int) =>
  retW (x_10.1, x_10.2)
def H_slots_Slots_use : Hints := { dr := [(1, ([], [[(0, []), (1, []), (2, []), (3, []), (4, []), (5, []), (6, []), (7, []), (8, []), (9, []), (10, []), (11, []), (12, []), (13, []), (14, [])]]))] }
theorem E_slots_Slots_use (s0 : Option Addr) (slot1 : Int) (gen2 : Int) : denF Tryz.prog H_slots_Slots_use Tryz.f171 [.sc (.int .u32), .sc (.int .i64)] [.pointer s0, .int .i64 slot1, .int .i64 gen2] = F_slots_Slots_use s0 slot1 gen2 := by kernel_rfl
theorem C_slots_Slots_use {R : Type} (s0 : Option Addr) (slot1 : Int) (gen2 : Int) (K : Res [.sc (.int .u32), .sc (.int .i64)] → W R) (Q : R → World → Prop) (w : World) (h : F_slots_Slots_use s0 slot1 gen2 (fun r w => K r Q w) w) : callW Tryz.prog k_slots_Slots_use [.pointer s0, .int .i64 slot1, .int .i64 gen2] [.sc (.int .u32), .sc (.int .i64)] K Q w :=
  den_calls mix Tryz.func171 H_slots_Slots_use (ts := [.sc (.int .u32), .sc (.int .i64)]) trivial (by rw [Tryz.ntmps171]; simp) (by rw [E_slots_Slots_use]; exact h)

/-! 172 pinnace/schema.Mask -/
def F_schema_Mask (l0 : Sl) : W (Int) :=
  loopW (σ := Int × Int) (fun K_1 s_2 =>
    cond (decide (s_2.2 < (l0.n : Int)))
      (idxW l0.a l0.n 4 s_2.2 fun x_3 =>
    ld (.agg [.int .u8, .int .i32, .int .i32, .int .i32]) x_3 fun (x_4 : (Int × Int × Int × Int)) =>
    newW 53 [.int .u8 0, .int .i32 0, .int .i32 0, .int .i32 0] fun c_5 =>
    stoL c_5 [.int .u8 x_4.1, .int .i32 x_4.2.1, .int .i32 x_4.2.2.1, .int .i32 x_4.2.2.2] 0 <|
    ld (.sc (.int .u8)) (Addr.add c_5 0) fun (x_6 : Int) =>
    joinW (σ := Int) (fun J_7 =>
      cond (decide (x_6 < 6))
        (ld (.sc (.int .u8)) (Addr.add c_5 0) fun (x_8 : Int) =>
        chkW (0 ≤ x_8) <|
        J_7 (bOr .u8 s_2.1 (shL .u8 1 x_8)))
        (J_7 s_2.1))
    <| fun s_9 =>
    K_1 (s_9, IntKind.wrap .i64 (s_2.2 + 1)))
      (retW s_2.1))
    (0, 0)
def H_schema_Mask : Hints := { con := [(7014, [(3, .sc (.int .u8))])], lop := [(0, [(3, .sc (.int .u8)), (8, .sc (.int .i64))])] }
theorem E_schema_Mask (l0 : Sl) : denF Tryz.prog H_schema_Mask Tryz.f172 [.sc (.int .u8)] [.slice l0.a l0.n l0.c] = F_schema_Mask l0 := by kernel_rfl
theorem C_schema_Mask {R : Type} (l0 : Sl) (K : Res [.sc (.int .u8)] → W R) (Q : R → World → Prop) (w : World) (h : F_schema_Mask l0 (fun r w => K r Q w) w) : callW Tryz.prog k_schema_Mask [.slice l0.a l0.n l0.c] [.sc (.int .u8)] K Q w :=
  den_calls mix Tryz.func172 H_schema_Mask (ts := [.sc (.int .u8)]) trivial (by rw [Tryz.ntmps172]; simp) (by rw [E_schema_Mask]; exact h)

/-! 173 pinnace/table.New -/
def F_table_New (mask0 : Int) : W ((Option Addr) × Int) :=
  cond (decide (mask0 ≥ 64))
    (retW (none, 1))
    (rawW Tryz.prog (Instr.makeMap 241 none) [.sc .map] fun (x_1 : Option Nat) =>
  newW 243 [.int .u8 mask0, .slice none 0 0, .slice none 0 0, .slice none 0 0, .slice none 0 0, .slice none 0 0, .slice none 0 0, .slice none 0 0, .slice none 0 0, .map x_1] fun x_2 =>
  loopW (σ := Int) (fun K_3 s_4 =>
    cond (decide (s_4 < 6))
      (chkW (0 ≤ s_4) <|
    joinW (σ := Unit) (fun J_5 =>
      cond ((bAnd .u8 (shR .u8 mask0 s_4) 1) == 1)
        (ld (.sc .sl) (Addr.add x_2 1) fun (x_6 : Sl) =>
        newW 5 [.int .u8 s_4] fun x_7 =>
        rawW Tryz.prog (Builtin.append_ #[67, 67] 67 #[.slice x_6.a x_6.n x_6.c, .slice (some x_7) 1 1]) [.sc .sl] fun (x_8 : Sl) =>
        stoL (Addr.add x_2 1) [.slice x_8.a x_8.n x_8.c] 0 <|
        J_5 ())
        (J_5 ()))
    <| fun s_9 =>
    K_3 (IntKind.wrap .u8 (s_4 + 1)))
      (retW ((some x_2), 0)))
    0)
def H_table_New : Hints := { con := [(9019, [])], lop := [(0, [(12, .sc (.int .u8))])] }
theorem E_table_New (mask0 : Int) : denF Tryz.prog H_table_New Tryz.f173 [.sc .ptr, .sc (.int .i64)] [.int .u8 mask0] = F_table_New mask0 := by kernel_rfl
theorem C_table_New {R : Type} (mask0 : Int) (K : Res [.sc .ptr, .sc (.int .i64)] → W R) (Q : R → World → Prop) (w : World) (h : F_table_New mask0 (fun r w => K r Q w) w) : callW Tryz.prog k_table_New [.int .u8 mask0] [.sc .ptr, .sc (.int .i64)] K Q w :=
  den_calls mix Tryz.func173 H_table_New (ts := [.sc .ptr, .sc (.int .i64)]) trivial (by rw [Tryz.ntmps173]; simp) (by rw [E_table_New]; exact h)

/-! 174 (*pinnace/table.Table).Add -/
def F_table_Table_Add (d0 : Option Addr) (o1 : Int) (p2 : Sl) : W (Int) :=
  cond (Option.isNone d0)
    (retW 10)
    (callW Tryz.prog k_schema_List [.slice p2.a p2.n p2.c] [.sc (.int .i64)] fun (x_1 : Int) =>
  cond (x_1 != 0)
    (retW x_1)
    (drawW <|
  ptrW d0 fun x_2 =>
  ld (.sc (.int .u8)) (Addr.add x_2 0) fun (x_3 : Int) =>
  callW Tryz.prog k_schema_Mask [.slice p2.a p2.n p2.c] [.sc (.int .u8)] fun (x_4 : Int) =>
  andW (fun w => Rd w (Addr.add x_2 0) (.sc (.int .u8)) x_3) <|
  cond (x_4 != x_3)
    (retW 4)
    (callW Tryz.prog k_table_Table_Row [.pointer d0, .int .u32 o1] [.sc (.int .i64), .sc .bool] fun (x_5 : Int × Bool) =>
  cond x_5.2
    (retW 9)
    (drawW <|
  ptrW d0 fun x_6 =>
  ld (.sc .map) (Addr.add x_6 9) fun (x_7 : Option Nat) =>
  ptrW d0 fun x_8 =>
  ld (.sc .sl) (Addr.add (Addr.add x_8 2) 0) fun (x_9 : Sl) =>
  rawU Tryz.prog (Instr.mapUpdate 241 (.map x_7) (.int .u32 o1) (.int .i64 (x_9.n : Int))) <|
  ptrW d0 fun x_10 =>
  callW Tryz.prog k_table_column_ID_add [.pointer (some (Addr.add x_10 2)), .int .u32 o1] [] fun (x_11 : Unit) =>
  loopW (σ := Int) (fun K_12 s_13 =>
    cond (decide (s_13 < (p2.n : Int)))
      (idxW p2.a p2.n 4 s_13 fun x_14 =>
    ld (.agg [.int .u8, .int .i32, .int .i32, .int .i32]) x_14 fun (x_15 : (Int × Int × Int × Int)) =>
    newW 53 [.int .u8 0, .int .i32 0, .int .i32 0, .int .i32 0] fun x_16 =>
    stoL x_16 [.int .u8 x_15.1, .int .i32 x_15.2.1, .int .i32 x_15.2.2.1, .int .i32 x_15.2.2.2] 0 <|
    drawW <|
    ld (.sc (.int .u8)) (Addr.add x_16 0) fun (x_17 : Int) =>
    ptrW d0 fun x_18 =>
    idxW (some (Addr.add x_18 3)) 6 1 x_17 fun x_19 =>
    ld (.agg [.int .i32, .int .i32, .int .i32]) (Addr.add x_16 1) fun (x_20 : (Int × Int × Int)) =>
    callW Tryz.prog k_table_column_fields_add [.pointer (some x_19), .agg ⟨[.int .i32 x_20.1, .int .i32 x_20.2.1, .int .i32 x_20.2.2]⟩] [] fun (x_21 : Unit) =>
    K_12 (IntKind.wrap .i64 (s_13 + 1)))
      (retW 0))
    0))))
def H_table_Table_Add : Hints := { lop := [(0, [(51, .sc (.int .i64))])], dr := [(6, ([], [[(0, []), (2, []), (3, []), (4, []), (5, []), (1, [5]), (6, [])]])), (11, ([], [[(0, []), (1, []), (2, []), (3, []), (4, []), (5, []), (6, []), (7, []), (8, []), (9, []), (10, []), (11, [])]])), (16, ([], [[(0, []), (1, []), (2, []), (3, []), (4, []), (5, []), (6, []), (7, []), (8, [])]]))] }
theorem E_table_Table_Add (d0 : Option Addr) (o1 : Int) (p2 : Sl) : denF Tryz.prog H_table_Table_Add Tryz.f174 [.sc (.int .i64)] [.pointer d0, .int .u32 o1, .slice p2.a p2.n p2.c] = F_table_Table_Add d0 o1 p2 := by kernel_rfl
theorem C_table_Table_Add {R : Type} (d0 : Option Addr) (o1 : Int) (p2 : Sl) (K : Res [.sc (.int .i64)] → W R) (Q : R → World → Prop) (w : World) (h : F_table_Table_Add d0 o1 p2 (fun r w => K r Q w) w) : callW Tryz.prog k_table_Table_Add [.pointer d0, .int .u32 o1, .slice p2.a p2.n p2.c] [.sc (.int .i64)] K Q w :=
  den_calls mix Tryz.func174 H_table_Table_Add (ts := [.sc (.int .i64)]) trivial (by rw [Tryz.ntmps174]; simp) (by rw [E_table_Table_Add]; exact h)

/-! 175 (*pinnace/table.column[pinnace/api.ID]).take -/
def F_table_column_ID_take (c0 : Option Addr) (row1 : Int) : W (Int) :=
  ptrW c0 fun x_1 =>
  ld (.sc .sl) (Addr.add x_1 0) fun (x_2 : Sl) =>
  idxW x_2.a x_2.n 1 row1 fun x_3 =>
  ld (.sc (.int .u32)) x_3 fun (x_4 : Int) =>
  ptrW c0 fun x_5 =>
  ld (.sc .sl) (Addr.add x_5 0) fun (x_6 : Sl) =>
  drawW <|
  ptrW c0 fun x_7 =>
  ld (.sc .sl) (Addr.add x_7 0) fun (x_8 : Sl) =>
  ptrW c0 fun x_9 =>
  ld (.sc .sl) (Addr.add x_9 0) fun (x_10 : Sl) =>
  idxW x_10.a x_10.n 1 (IntKind.wrap .i64 ((x_6.n : Int) - 1)) fun x_11 =>
  ld (.sc (.int .u32)) x_11 fun (x_12 : Int) =>
  idxW x_8.a x_8.n 1 row1 fun x_13 =>
  stoL x_13 [.int .u32 x_12] 0 <|
  ptrW c0 fun x_14 =>
  ld (.sc .sl) (Addr.add x_14 0) fun (x_15 : Sl) =>
  slcW x_15.a x_15.n x_15.c 1 none (some (IntKind.wrap .i64 ((x_6.n : Int) - 1))) fun x_16 =>
  ptrW c0 fun x_17 =>
  stoL (Addr.add x_17 0) [.slice x_16.a x_16.n x_16.c] 0 <|
  retW x_4
def H_table_column_ID_take : Hints := { dr := [(3, ([], [[(0, []), (1, []), (2, []), (3, []), (4, []), (5, []), (6, []), (7, []), (8, []), (9, []), (10, []), (11, []), (12, []), (13, [])]]))] }
theorem E_table_column_ID_take (c0 : Option Addr) (row1 : Int) : denF Tryz.prog H_table_column_ID_take Tryz.f175 [.sc (.int .u32)] [.pointer c0, .int .i64 row1] = F_table_column_ID_take c0 row1 := by kernel_rfl
theorem C_table_column_ID_take {R : Type} (c0 : Option Addr) (row1 : Int) (K : Res [.sc (.int .u32)] → W R) (Q : R → World → Prop) (w : World) (h : F_table_column_ID_take c0 row1 (fun r w => K r Q w) w) : callW Tryz.prog k_table_column_ID_take [.pointer c0, .int .i64 row1] [.sc (.int .u32)] K Q w :=
  den_calls mix Tryz.func175 H_table_column_ID_take (ts := [.sc (.int .u32)]) trivial (by rw [Tryz.ntmps175]; simp) (by rw [E_table_column_ID_take]; exact h)

/-! 176 (*pinnace/table.column[pinnace/table.fields]).take -/
def F_table_column_fields_take (c0 : Option Addr) (row1 : Int) : W ((Int × Int × Int)) :=
  newW 283 [.int .i32 0, .int .i32 0, .int .i32 0] fun x_1 =>
  ptrW c0 fun x_2 =>
  ld (.sc .sl) (Addr.add x_2 0) fun (x_3 : Sl) =>
  idxW x_3.a x_3.n 3 row1 fun x_4 =>
  ld (.agg [.int .i32, .int .i32, .int .i32]) x_4 fun (x_5 : (Int × Int × Int)) =>
  newW 283 [.int .i32 0, .int .i32 0, .int .i32 0] fun x_6 =>
  stoL x_6 [.int .i32 x_5.1, .int .i32 x_5.2.1, .int .i32 x_5.2.2] 0 <|
  ptrW c0 fun x_7 =>
  ld (.sc .sl) (Addr.add x_7 0) fun (x_8 : Sl) =>
  drawW <|
  ptrW c0 fun x_9 =>
  ld (.sc .sl) (Addr.add x_9 0) fun (x_10 : Sl) =>
  ptrW c0 fun x_11 =>
  ld (.sc .sl) (Addr.add x_11 0) fun (x_12 : Sl) =>
  idxW x_12.a x_12.n 3 (IntKind.wrap .i64 ((x_8.n : Int) - 1)) fun x_13 =>
  ld (.agg [.int .i32, .int .i32, .int .i32]) x_13 fun (x_14 : (Int × Int × Int)) =>
  idxW x_10.a x_10.n 3 row1 fun x_15 =>
  stoL x_15 [.int .i32 x_14.1, .int .i32 x_14.2.1, .int .i32 x_14.2.2] 0 <|
  ptrW c0 fun x_16 =>
  ld (.sc .sl) (Addr.add x_16 0) fun (x_17 : Sl) =>
  slcW x_17.a x_17.n x_17.c 3 none (some (IntKind.wrap .i64 ((x_8.n : Int) - 1))) fun x_18 =>
  ptrW c0 fun x_19 =>
  stoL (Addr.add x_19 0) [.slice x_18.a x_18.n x_18.c] 0 <|
  ld (.agg [.int .i32, .int .i32, .int .i32]) x_6 fun (x_20 : (Int × Int × Int)) =>
  stoL x_1 [.int .i32 x_20.1, .int .i32 x_20.2.1, .int .i32 x_20.2.2] 0 <|
  ld (.agg [.int .i32, .int .i32, .int .i32]) x_1 fun (x_21 : (Int × Int × Int)) =>
  retW x_21
def H_table_column_fields_take : Hints := { dr := [(3, ([], [[(0, []), (1, []), (2, []), (3, []), (4, []), (5, []), (6, []), (7, []), (8, []), (9, []), (10, []), (11, []), (12, []), (13, [])]]))] }
theorem E_table_column_fields_take (c0 : Option Addr) (row1 : Int) : denF Tryz.prog H_table_column_fields_take Tryz.f176 [.agg [.int .i32, .int .i32, .int .i32]] [.pointer c0, .int .i64 row1] = F_table_column_fields_take c0 row1 := by kernel_rfl
theorem C_table_column_fields_take {R : Type} (c0 : Option Addr) (row1 : Int) (K : Res [.agg [.int .i32, .int .i32, .int .i32]] → W R) (Q : R → World → Prop) (w : World) (h : F_table_column_fields_take c0 row1 (fun r w => K r Q w) w) : callW Tryz.prog k_table_column_fields_take [.pointer c0, .int .i64 row1] [.agg [.int .i32, .int .i32, .int .i32]] K Q w :=
  den_calls mix Tryz.func176 H_table_column_fields_take (ts := [.agg [.int .i32, .int .i32, .int .i32]]) ⟨by kernel_rfl, trivial⟩ (by rw [Tryz.ntmps176]; simp) (by rw [E_table_column_fields_take]; exact h)

/-! 177 (*pinnace/slots.Slots).Live -/
def F_slots_Slots_Live (s0 : Option Addr) (id1 : Int) : W (Bool) :=
  joinW (σ := Bool) (fun J_1 =>
    drawW <|
    bothW
      (cond (!Option.isNone s0)
        (ptrW s0 fun x_2 =>
            ld (.sc .sl) (Addr.add x_2 1) fun (x_3 : Sl) =>
                callW Tryz.prog k_slots_Slot [.int .u32 id1] [.sc (.int .i64)] fun (x_4 : Int) =>
                  andW (fun w => Rd w (Addr.add x_2 1) (.sc .sl) x_3) <|
                  cond (decide (x_4 < (x_3.n : Int)))
                        (ptrW s0 fun x_5 =>
                          ld (.sc .sl) (Addr.add x_5 2) fun (x_6 : Sl) =>
                              callW Tryz.prog k_slots_Slot [.int .u32 id1] [.sc (.int .i64)] fun (x_7 : Int) =>
                                  andW (fun w => Rd w (Addr.add x_5 2) (.sc .sl) x_6) <|
                                  idxW x_6.a x_6.n 1 x_7 fun x_8 =>
                                    ld (.sc .bool) x_8 fun (x_9 : Bool) =>
                                      cond x_9
                                        (ptrW s0 fun x_10 =>
                                          ld (.sc .sl) (Addr.add x_10 1) fun (x_11 : Sl) =>
                                              callW Tryz.prog k_slots_Slot [.int .u32 id1] [.sc (.int .i64)] fun (x_12 : Int) =>
                                                    andW (fun w => Rd w (Addr.add x_10 1) (.sc .sl) x_11) <|
                                                    idxW x_11.a x_11.n 1 x_12 fun x_13 =>
                                                      ld (.sc (.int .i64)) x_13 fun (x_14 : Int) =>
                                                        callW Tryz.prog k_slots_Gen [.int .u32 id1] [.sc (.int .i64)] fun (x_15 : Int) =>
                                                          andW (fun w => Rd w x_13 (.sc (.int .i64)) x_14) <|
                                                          andW (fun w => Rd w (Addr.add x_10 1) (.sc .sl) x_11) <|
                                                          J_1 (x_14 == x_15))
                                        (J_1 false))
                        (J_1 false))
        (J_1 false))
      (cond (!Option.isNone s0)
        (ptrW s0 fun x_16 =>
            ld (.sc .sl) (Addr.add x_16 1) fun (x_17 : Sl) =>
                callW Tryz.prog k_slots_Slot [.int .u32 id1] [.sc (.int .i64)] fun (x_18 : Int) =>
                    andW (fun w => Rd w (Addr.add x_16 1) (.sc .sl) x_17) <|
                    cond (decide (x_18 < (x_17.n : Int)))
                        (ptrW s0 fun x_19 =>
                          ld (.sc .sl) (Addr.add x_19 2) fun (x_20 : Sl) =>
                              callW Tryz.prog k_slots_Slot [.int .u32 id1] [.sc (.int .i64)] fun (x_21 : Int) =>
                                  andW (fun w => Rd w (Addr.add x_19 2) (.sc .sl) x_20) <|
                                  idxW x_20.a x_20.n 1 x_21 fun x_22 =>
                                    ld (.sc .bool) x_22 fun (x_23 : Bool) =>
                                      cond x_23
                                        (ptrW s0 fun x_24 =>
                                          ld (.sc .sl) (Addr.add x_24 1) fun (x_25 : Sl) =>
                                              callW Tryz.prog k_slots_Slot [.int .u32 id1] [.sc (.int .i64)] fun (x_26 : Int) =>
                                                    andW (fun w => Rd w (Addr.add x_24 1) (.sc .sl) x_25) <|
                                                    idxW x_25.a x_25.n 1 x_26 fun x_27 =>
                                                      ld (.sc (.int .i64)) x_27 fun (x_28 : Int) =>
                                                        callW Tryz.prog k_slots_Gen [.int .u32 id1] [.sc (.int .i64)] fun (x_29 : Int) =>
                                                          andW (fun w => Rd w x_27 (.sc (.int .i64)) x_28) <|
                                                          andW (fun w => Rd w (Addr.add x_24 1) (.sc .sl) x_25) <|
                                                          J_1 (x_28 == x_29))
                                        (J_1 false))
                        (J_1 false))
        (J_1 false)))
  <| fun s_30 =>
  retW s_30
def H_slots_Slots_Live : Hints := { reg := [(1, [(4, .sc .bool)])], dr := [(1, ([(4, 9)], [[(0, []), (1, []), (2, []), (3, []), (5, []), (6, []), (7, []), (8, []), (4, [8]), (9, []), (10, []), (11, []), (12, []), (13, []), (14, []), (15, []), (16, []), (17, []), (18, [16]), (19, []), (20, []), (21, []), (22, []), (23, []), (24, []), (25, []), (26, []), (27, []), (31, []), (28, [26]), (29, []), (30, []), (32, [26, 30]), (33, []), (34, []), (35, [])], [(0, []), (1, []), (2, []), (3, []), (5, []), (6, []), (7, []), (8, []), (9, []), (4, [8]), (10, []), (11, []), (12, []), (13, []), (14, []), (15, []), (16, []), (17, []), (18, [16]), (19, []), (20, []), (21, []), (22, []), (23, []), (24, []), (25, []), (26, []), (27, []), (31, []), (28, [26]), (29, []), (30, []), (32, [26, 30]), (33, []), (34, []), (35, [])]]))] }
theorem E_slots_Slots_Live (s0 : Option Addr) (id1 : Int) : denF Tryz.prog H_slots_Slots_Live Tryz.f177 [.sc .bool] [.pointer s0, .int .u32 id1] = F_slots_Slots_Live s0 id1 := by kernel_rfl
theorem C_slots_Slots_Live {R : Type} (s0 : Option Addr) (id1 : Int) (K : Res [.sc .bool] → W R) (Q : R → World → Prop) (w : World) (h : F_slots_Slots_Live s0 id1 (fun r w => K r Q w) w) : callW Tryz.prog k_slots_Slots_Live [.pointer s0, .int .u32 id1] [.sc .bool] K Q w :=
  den_calls mix Tryz.func177 H_slots_Slots_Live (ts := [.sc .bool]) trivial (by rw [Tryz.ntmps177]; simp) (by rw [E_slots_Slots_Live]; exact h)

/-! 178 pinnace/slots.Gen -/
def F_slots_Gen (id0 : Int) : W (Int) :=
  retW (IntKind.wrap .i64 (IntKind.wrap .u32 (Int.tdiv id0 1024)))
def H_slots_Gen : Hints := {}
theorem E_slots_Gen (id0 : Int) : denF Tryz.prog H_slots_Gen Tryz.f178 [.sc (.int .i64)] [.int .u32 id0] = F_slots_Gen id0 := by kernel_rfl
theorem C_slots_Gen {R : Type} (id0 : Int) (K : Res [.sc (.int .i64)] → W R) (Q : R → World → Prop) (w : World) (h : F_slots_Gen id0 (fun r w => K r Q w) w) : callW Tryz.prog k_slots_Gen [.int .u32 id0] [.sc (.int .i64)] K Q w :=
  den_calls mix Tryz.func178 H_slots_Gen (ts := [.sc (.int .i64)]) trivial (by rw [Tryz.ntmps178]; simp) (by rw [E_slots_Gen]; exact h)

/-! 179 pinnace/pinnaceref07.Live -/
def F_pinnaceref07_Live (s0 : Option Addr) (id1 : Int) : W (Bool) :=
  cond (Option.isNone s0)
    (retW false)
    (ptrW s0 fun x_1 =>
  ld (.sc .sl) (Addr.add x_1 1) fun (x_2 : Sl) =>
  loopW (σ := Int) (fun K_3 s_4 =>
    cond (decide (s_4 < (x_2.n : Int)))
      (idxW x_2.a x_2.n 3 s_4 fun x_5 =>
    ld (.agg [.int .i64, .bool, .int .i64]) x_5 fun (x_6 : (Int × Bool × Int)) =>
    newW 249 [.int .i64 0, .bool false, .int .i64 0] fun x_7 =>
    stoL x_7 [.int .i64 x_6.1, .bool x_6.2.1, .int .i64 x_6.2.2] 0 <|
    joinW (σ := Bool) (fun J_8 =>
      drawW <|
      ld (.sc .bool) (Addr.add x_7 1) fun (x_9 : Bool) =>
      cond x_9
        (callW Tryz.prog k_pinnaceref07_Slot [.int .u32 id1] [.sc (.int .i64)] fun (x_10 : Int) =>
            cond (s_4 == x_10)
                (ld (.sc (.int .i64)) (Addr.add x_7 0) fun (x_11 : Int) =>
                  callW Tryz.prog k_pinnaceref07_Gen [.int .u32 id1] [.sc (.int .i64)] fun (x_12 : Int) =>
                      andW (fun w => Rd w (Addr.add x_7 0) (.sc (.int .i64)) x_11) <|
                      J_8 (x_11 == x_12))
                (J_8 false))
        (J_8 false))
    <| fun s_13 =>
    cond s_13
      (retW true)
      (K_3 (IntKind.wrap .i64 (s_4 + 1))))
      (retW false))
    0)
def H_pinnaceref07_Live : Hints := { reg := [(6, [(33, .sc .bool)])], lop := [(0, [(14, .sc (.int .i64))])], dr := [(6, ([], [[(0, []), (1, []), (2, []), (3, []), (4, []), (5, []), (6, []), (7, []), (8, []), (9, []), (10, []), (11, []), (12, [10]), (13, []), (14, [])]]))] }
theorem E_pinnaceref07_Live (s0 : Option Addr) (id1 : Int) : denF Tryz.prog H_pinnaceref07_Live Tryz.f179 [.sc .bool] [.pointer s0, .int .u32 id1] = F_pinnaceref07_Live s0 id1 := by kernel_rfl
theorem C_pinnaceref07_Live {R : Type} (s0 : Option Addr) (id1 : Int) (K : Res [.sc .bool] → W R) (Q : R → World → Prop) (w : World) (h : F_pinnaceref07_Live s0 id1 (fun r w => K r Q w) w) : callW Tryz.prog k_pinnaceref07_Live [.pointer s0, .int .u32 id1] [.sc .bool] K Q w :=
  den_calls mix Tryz.func179 H_pinnaceref07_Live (ts := [.sc .bool]) trivial (by rw [Tryz.ntmps179]; simp) (by rw [E_pinnaceref07_Live]; exact h)

/-! 184 maps.Keys[map[byte]*pinnace/table.Table,byte,*pinnace/table.Table] -/
def F_maps_Keys_Table (m0 : Option Nat) : W (Value) :=
  newW 214 [.map m0] fun m_1 =>
  retW (.func (.func 209) #[] #[.pointer (some m_1)] : Value)
def H_maps_Keys_Table : Hints := {}
theorem E_maps_Keys_Table (m0 : Option Nat) : denF Tryz.prog H_maps_Keys_Table Tryz.f184 [.sc .raw] [.map m0] = F_maps_Keys_Table m0 := by kernel_rfl
theorem C_maps_Keys_Table {R : Type} (m0 : Option Nat) (K : Res [.sc .raw] → W R) (Q : R → World → Prop) (w : World) (h : F_maps_Keys_Table m0 (fun r w => K r Q w) w) : callW Tryz.prog k_maps_Keys_Table [.map m0] [.sc .raw] K Q w :=
  den_calls mix Tryz.func184 H_maps_Keys_Table (ts := [.sc .raw]) trivial (by rw [Tryz.ntmps184]; simp) (by rw [E_maps_Keys_Table]; exact h)

/-! 185 (*pinnace/table.Table).IDs -/
def F_table_Table_IDs (t0 : Option Addr) : W (Sl) :=
  cond (Option.isNone t0)
    (retW (⟨none, 0, 0⟩ : Sl))
    (ptrW t0 fun x_1 =>
  ld (.sc .sl) (Addr.add (Addr.add x_1 2) 0) fun (x_2 : Sl) =>
  callW Tryz.prog k_slices_Clone_ID [.slice x_2.a x_2.n x_2.c] [.sc .sl] fun (x_3 : Sl) =>
  retW x_3)
def H_table_Table_IDs : Hints := {}
theorem E_table_Table_IDs (t0 : Option Addr) : denF Tryz.prog H_table_Table_IDs Tryz.f185 [.sc .sl] [.pointer t0] = F_table_Table_IDs t0 := by kernel_rfl
theorem C_table_Table_IDs {R : Type} (t0 : Option Addr) (K : Res [.sc .sl] → W R) (Q : R → World → Prop) (w : World) (h : F_table_Table_IDs t0 (fun r w => K r Q w) w) : callW Tryz.prog k_table_Table_IDs [.pointer t0] [.sc .sl] K Q w :=
  den_calls mix Tryz.func185 H_table_Table_IDs (ts := [.sc .sl]) trivial (by rw [Tryz.ntmps185]; simp) (by rw [E_table_Table_IDs]; exact h)

/-! 186 pinnace/schema.of -/
def F_schema_of (k0 : Int) : W ((ByteArray × Bool × Sl)) :=
  newW 296 [.string ⟨#[]⟩, .bool false, .slice none 0 0] fun x_1 =>
  cond (k0 == 0)
    (newW 253 [.string ⟨#[120]⟩, .int .i32 (-524288), .int .i32 524287, .string ⟨#[121]⟩, .int .i32 (-524288), .int .i32 524287] fun x_2 =>
    stoL x_1 [.string ⟨#[112, 111, 115]⟩, .bool true, .slice (some x_2) 2 2] 0 <|
    ld (.agg [.str, .bool, .sl]) x_1 fun (x_3 : (ByteArray × Bool × Sl)) =>
    retW x_3)
    (cond (k0 == 1)
      (newW 253 [.string ⟨#[100, 120]⟩, .int .i32 (-32768), .int .i32 32767, .string ⟨#[100, 121]⟩, .int .i32 (-32768), .int .i32 32767] fun x_4 =>
      stoL x_1 [.string ⟨#[118, 101, 108]⟩, .bool true, .slice (some x_4) 2 2] 0 <|
      ld (.agg [.str, .bool, .sl]) x_1 fun (x_5 : (ByteArray × Bool × Sl)) =>
      retW x_5)
      (cond (k0 == 2)
        (newW 253 [.string ⟨#[108, 101, 102, 116]⟩, .int .i32 0, .int .i32 4095] fun x_6 =>
        stoL x_1 [.string ⟨#[108, 105, 102, 101]⟩, .bool true, .slice (some x_6) 1 1] 0 <|
        ld (.agg [.str, .bool, .sl]) x_1 fun (x_7 : (ByteArray × Bool × Sl)) =>
        retW x_7)
        (cond (k0 == 3)
          (newW 253 [.string ⟨#[115, 104, 97, 112, 101]⟩, .int .i32 0, .int .i32 15, .string ⟨#[104, 112]⟩, .int .i32 0, .int .i32 1000, .string ⟨#[115, 105, 122, 101]⟩, .int .i32 1, .int .i32 100] fun x_8 =>
          stoL x_1 [.string ⟨#[98, 111, 100, 121]⟩, .bool true, .slice (some x_8) 3 3] 0 <|
          ld (.agg [.str, .bool, .sl]) x_1 fun (x_9 : (ByteArray × Bool × Sl)) =>
          retW x_9)
          (cond (k0 == 4)
            (newW 253 [.string ⟨#[116, 101, 97, 109]⟩, .int .i32 0, .int .i32 7, .string ⟨#[99, 111, 108, 111, 114]⟩, .int .i32 0, .int .i32 255, .string ⟨#[102, 108, 97, 103, 115]⟩, .int .i32 0, .int .i32 31] fun x_10 =>
            stoL x_1 [.string ⟨#[116, 97, 103]⟩, .bool true, .slice (some x_10) 3 3] 0 <|
            ld (.agg [.str, .bool, .sl]) x_1 fun (x_11 : (ByteArray × Bool × Sl)) =>
            retW x_11)
            (cond (k0 == 5)
              (newW 253 [.string ⟨#[101, 118, 101, 114, 121]⟩, .int .i32 1, .int .i32 255, .string ⟨#[108, 101, 102, 116]⟩, .int .i32 0, .int .i32 254, .string ⟨#[115, 104, 97, 112, 101]⟩, .int .i32 0, .int .i32 15] fun x_12 =>
              stoL x_1 [.string ⟨#[115, 112, 97, 119, 110]⟩, .bool false, .slice (some x_12) 3 3] 0 <|
              ld (.agg [.str, .bool, .sl]) x_1 fun (x_13 : (ByteArray × Bool × Sl)) =>
              retW x_13)
              (stoL x_1 [.string ⟨#[]⟩, .bool false, .slice none 0 0] 0 <|
  ld (.agg [.str, .bool, .sl]) x_1 fun (x_14 : (ByteArray × Bool × Sl)) =>
  retW x_14))))))
def H_schema_of : Hints := {}
theorem E_schema_of (k0 : Int) : denF Tryz.prog H_schema_of Tryz.f186 [.agg [.str, .bool, .sl]] [.int .u8 k0] = F_schema_of k0 := by kernel_rfl
theorem C_schema_of {R : Type} (k0 : Int) (K : Res [.agg [.str, .bool, .sl]] → W R) (Q : R → World → Prop) (w : World) (h : F_schema_of k0 (fun r w => K r Q w) w) : callW Tryz.prog k_schema_of [.int .u8 k0] [.agg [.str, .bool, .sl]] K Q w :=
  den_calls mix Tryz.func186 H_schema_of (ts := [.agg [.str, .bool, .sl]]) ⟨by kernel_rfl, trivial⟩ (by rw [Tryz.ntmps186]; simp) (by rw [E_schema_of]; exact h)

/-! 187 (*pinnace/table.Table).find -/
def F_table_Table_find (t0 : Option Addr) (id1 : Int) (kind2 : Int) : W (Int × Int) :=
  callW Tryz.prog k_table_Table_Row [.pointer t0, .int .u32 id1] [.sc (.int .i64), .sc .bool] fun (x_1 : Int × Bool) =>
  cond (Option.isNone t0)
    (retW (0, 10))
    (cond (!x_1.2)
      (retW (0, 7))
      (ptrW t0 fun x_2 =>
      ld (.sc .sl) (Addr.add x_2 1) fun (x_3 : Sl) =>
      callW Tryz.prog k_slices_Contains_byte [.slice x_3.a x_3.n x_3.c, .int .u8 kind2] [.sc .bool] fun (x_4 : Bool) =>
      cond (!x_4)
        (retW (0, 10))
        (retW (x_1.1, 0))))
def H_table_Table_find : Hints := {}
theorem E_table_Table_find (t0 : Option Addr) (id1 : Int) (kind2 : Int) : denF Tryz.prog H_table_Table_find Tryz.f187 [.sc (.int .i64), .sc (.int .i64)] [.pointer t0, .int .u32 id1, .int .u8 kind2] = F_table_Table_find t0 id1 kind2 := by kernel_rfl
theorem C_table_Table_find {R : Type} (t0 : Option Addr) (id1 : Int) (kind2 : Int) (K : Res [.sc (.int .i64), .sc (.int .i64)] → W R) (Q : R → World → Prop) (w : World) (h : F_table_Table_find t0 id1 kind2 (fun r w => K r Q w) w) : callW Tryz.prog k_table_Table_find [.pointer t0, .int .u32 id1, .int .u8 kind2] [.sc (.int .i64), .sc (.int .i64)] K Q w :=
  den_calls mix Tryz.func187 H_table_Table_find (ts := [.sc (.int .i64), .sc (.int .i64)]) trivial (by rw [Tryz.ntmps187]; simp) (by rw [E_table_Table_find]; exact h)

/-! 188 pinnace/pinnaceref10.Get -/
def F_pinnaceref10_Get (t0 : Option Addr) (id1 : Int) (kind2 : Int) : W ((Int × Int × Int × Int) × Int) :=
  newW 53 [.int .u8 0, .int .i32 0, .int .i32 0, .int .i32 0] fun x_1 =>
  cond (Option.isNone t0)
    (stoL x_1 [.int .u8 0, .int .i32 0, .int .i32 0, .int .i32 0] 0 <|
    ld (.agg [.int .u8, .int .i32, .int .i32, .int .i32]) x_1 fun (x_2 : (Int × Int × Int × Int)) =>
    retW (x_2, 10))
    (callW Tryz.prog k_pinnaceref10_Row [.pointer t0, .int .u32 id1] [.sc (.int .i64)] fun (x_3 : Int) =>
  cond (decide (x_3 < 0))
    (stoL x_1 [.int .u8 0, .int .i32 0, .int .i32 0, .int .i32 0] 0 <|
    ld (.agg [.int .u8, .int .i32, .int .i32, .int .i32]) x_1 fun (x_4 : (Int × Int × Int × Int)) =>
    retW (x_4, 7))
    (ptrW t0 fun x_5 =>
  ld (.sc .sl) (Addr.add x_5 1) fun (x_6 : Sl) =>
  idxW x_6.a x_6.n 2 x_3 fun x_7 =>
  ld (.sc .sl) (Addr.add x_7 1) fun (x_8 : Sl) =>
  callW Tryz.prog k_pinnaceref05_Find [.slice x_8.a x_8.n x_8.c, .int .u8 kind2] [.sc (.int .i64)] fun (x_9 : Int) =>
  cond (decide (x_9 < 0))
    (stoL x_1 [.int .u8 0, .int .i32 0, .int .i32 0, .int .i32 0] 0 <|
    ld (.agg [.int .u8, .int .i32, .int .i32, .int .i32]) x_1 fun (x_10 : (Int × Int × Int × Int)) =>
    retW (x_10, 10))
    (ptrW t0 fun x_11 =>
  ld (.sc .sl) (Addr.add x_11 1) fun (x_12 : Sl) =>
  idxW x_12.a x_12.n 2 x_3 fun x_13 =>
  ld (.sc .sl) (Addr.add x_13 1) fun (x_14 : Sl) =>
  idxW x_14.a x_14.n 4 x_9 fun x_15 =>
  ld (.agg [.int .u8, .int .i32, .int .i32, .int .i32]) x_15 fun (x_16 : (Int × Int × Int × Int)) =>
  stoL x_1 [.int .u8 x_16.1, .int .i32 x_16.2.1, .int .i32 x_16.2.2.1, .int .i32 x_16.2.2.2] 0 <|
  ld (.agg [.int .u8, .int .i32, .int .i32, .int .i32]) x_1 fun (x_17 : (Int × Int × Int × Int)) =>
  retW (x_17, 0))))
def H_pinnaceref10_Get : Hints := {}
theorem E_pinnaceref10_Get (t0 : Option Addr) (id1 : Int) (kind2 : Int) : denF Tryz.prog H_pinnaceref10_Get Tryz.f188 [.agg [.int .u8, .int .i32, .int .i32, .int .i32], .sc (.int .i64)] [.pointer t0, .int .u32 id1, .int .u8 kind2] = F_pinnaceref10_Get t0 id1 kind2 := by kernel_rfl
theorem C_pinnaceref10_Get {R : Type} (t0 : Option Addr) (id1 : Int) (kind2 : Int) (K : Res [.agg [.int .u8, .int .i32, .int .i32, .int .i32], .sc (.int .i64)] → W R) (Q : R → World → Prop) (w : World) (h : F_pinnaceref10_Get t0 id1 kind2 (fun r w => K r Q w) w) : callW Tryz.prog k_pinnaceref10_Get [.pointer t0, .int .u32 id1, .int .u8 kind2] [.agg [.int .u8, .int .i32, .int .i32, .int .i32], .sc (.int .i64)] K Q w :=
  den_calls mix Tryz.func188 H_pinnaceref10_Get (ts := [.agg [.int .u8, .int .i32, .int .i32, .int .i32], .sc (.int .i64)]) ⟨by kernel_rfl, trivial⟩ (by rw [Tryz.ntmps188]; simp) (by rw [E_pinnaceref10_Get]; exact h)

/-! 189 pinnace/orders.none -/
def F_orders_none (l0 : Sl) : W (Int) :=
  cond (decide ((l0.n : Int) > 0))
    (retW 4)
    (retW 0)
def H_orders_none : Hints := {}
theorem E_orders_none (l0 : Sl) : denF Tryz.prog H_orders_none Tryz.f189 [.sc (.int .i64)] [.slice l0.a l0.n l0.c] = F_orders_none l0 := by kernel_rfl
theorem C_orders_none {R : Type} (l0 : Sl) (K : Res [.sc (.int .i64)] → W R) (Q : R → World → Prop) (w : World) (h : F_orders_none l0 (fun r w => K r Q w) w) : callW Tryz.prog k_orders_none [.slice l0.a l0.n l0.c] [.sc (.int .i64)] K Q w :=
  den_calls mix Tryz.func189 H_orders_none (ts := [.sc (.int .i64)]) trivial (by rw [Tryz.ntmps189]; simp) (by rw [E_orders_none]; exact h)

/-! 190 pinnace/orders.one -/
def F_orders_one (l0 : Sl) : W (Int) :=
  cond ((l0.n : Int) != 1)
    (retW 4)
    (idxW l0.a l0.n 4 0 fun x_1 =>
  ld (.agg [.int .u8, .int .i32, .int .i32, .int .i32]) x_1 fun (x_2 : (Int × Int × Int × Int)) =>
  callW Tryz.prog k_schema_Check [.agg ⟨[.int .u8 x_2.1, .int .i32 x_2.2.1, .int .i32 x_2.2.2.1, .int .i32 x_2.2.2.2]⟩] [.sc (.int .i64)] fun (x_3 : Int) =>
  retW x_3)
def H_orders_one : Hints := {}
theorem E_orders_one (l0 : Sl) : denF Tryz.prog H_orders_one Tryz.f190 [.sc (.int .i64)] [.slice l0.a l0.n l0.c] = F_orders_one l0 := by kernel_rfl
theorem C_orders_one {R : Type} (l0 : Sl) (K : Res [.sc (.int .i64)] → W R) (Q : R → World → Prop) (w : World) (h : F_orders_one l0 (fun r w => K r Q w) w) : callW Tryz.prog k_orders_one [.slice l0.a l0.n l0.c] [.sc (.int .i64)] K Q w :=
  den_calls mix Tryz.func190 H_orders_one (ts := [.sc (.int .i64)]) trivial (by rw [Tryz.ntmps190]; simp) (by rw [E_orders_one]; exact h)

/-! 191 pinnace/orders.work -/
def F_orders_work (s0 : Option Addr) (o1 : (Int × Int × Int × Sl)) : W (Int × Int) :=
  newW 81 [.int .u8 o1.1, .int .u32 o1.2.1, .int .u8 o1.2.2.1, .slice o1.2.2.2.a o1.2.2.2.n o1.2.2.2.c] fun o_1 =>
  ld (.sc (.int .u8)) (Addr.add o_1 0) fun (x_2 : Int) =>
  cond (x_2 == 1)
    (ld (.sc .sl) (Addr.add o_1 3) fun (x_3 : Sl) =>
    callW Tryz.prog k_store_Store_Spawn [.pointer s0, .slice x_3.a x_3.n x_3.c] [.sc (.int .u32), .sc (.int .i64)] fun (x_4 : Int × Int) =>
    retW (x_4.1, x_4.2))
    (cond (x_2 == 2)
      (drawW <|
      ld (.sc (.int .u32)) (Addr.add o_1 1) fun (x_5 : Int) =>
      ld (.sc (.int .u32)) (Addr.add o_1 1) fun (x_6 : Int) =>
      callW Tryz.prog k_store_Store_Despawn [.pointer s0, .int .u32 x_6] [.sc (.int .i64)] fun (x_7 : Int) =>
      andW (fun w => Rd w (Addr.add o_1 1) (.sc (.int .u32)) x_5) <|
      retW (x_5, x_7))
      (cond (x_2 == 3)
        (drawW <|
        ld (.sc (.int .u32)) (Addr.add o_1 1) fun (x_8 : Int) =>
        ld (.sc (.int .u32)) (Addr.add o_1 1) fun (x_9 : Int) =>
        ld (.sc .sl) (Addr.add o_1 3) fun (x_10 : Sl) =>
        idxW x_10.a x_10.n 4 0 fun x_11 =>
        ld (.agg [.int .u8, .int .i32, .int .i32, .int .i32]) x_11 fun (x_12 : (Int × Int × Int × Int)) =>
        callW Tryz.prog k_store_Store_Set [.pointer s0, .int .u32 x_9, .agg ⟨[.int .u8 x_12.1, .int .i32 x_12.2.1, .int .i32 x_12.2.2.1, .int .i32 x_12.2.2.2]⟩] [.sc (.int .i64)] fun (x_13 : Int) =>
        andW (fun w => Rd w (Addr.add o_1 1) (.sc (.int .u32)) x_8) <|
        retW (x_8, x_13))
        (cond (x_2 == 4)
          (drawW <|
          ld (.sc (.int .u32)) (Addr.add o_1 1) fun (x_14 : Int) =>
          ld (.sc (.int .u32)) (Addr.add o_1 1) fun (x_15 : Int) =>
          ld (.sc .sl) (Addr.add o_1 3) fun (x_16 : Sl) =>
          idxW x_16.a x_16.n 4 0 fun x_17 =>
          ld (.agg [.int .u8, .int .i32, .int .i32, .int .i32]) x_17 fun (x_18 : (Int × Int × Int × Int)) =>
          callW Tryz.prog k_store_Store_Add [.pointer s0, .int .u32 x_15, .agg ⟨[.int .u8 x_18.1, .int .i32 x_18.2.1, .int .i32 x_18.2.2.1, .int .i32 x_18.2.2.2]⟩] [.sc (.int .i64)] fun (x_19 : Int) =>
          andW (fun w => Rd w (Addr.add o_1 1) (.sc (.int .u32)) x_14) <|
          retW (x_14, x_19))
          (drawW <|
  ld (.sc (.int .u32)) (Addr.add o_1 1) fun (x_20 : Int) =>
  ld (.sc (.int .u32)) (Addr.add o_1 1) fun (x_21 : Int) =>
  ld (.sc (.int .u8)) (Addr.add o_1 2) fun (x_22 : Int) =>
  callW Tryz.prog k_store_Store_Remove [.pointer s0, .int .u32 x_21, .int .u8 x_22] [.sc (.int .i64)] fun (x_23 : Int) =>
  andW (fun w => Rd w (Addr.add o_1 1) (.sc (.int .u32)) x_20) <|
  retW (x_20, x_23)))))
def H_orders_work : Hints := { dr := [(5, ([], [[(0, []), (1, []), (2, []), (3, []), (4, []), (5, [1]), (6, []), (7, [])]])), (7, ([], [[(0, []), (1, []), (2, []), (3, []), (4, []), (5, []), (6, []), (7, []), (8, []), (9, [1]), (10, []), (11, [])]])), (9, ([], [[(0, []), (1, []), (2, []), (3, []), (4, []), (5, []), (6, []), (7, []), (8, []), (9, [1]), (10, []), (11, [])]])), (10, ([], [[(0, []), (1, []), (2, []), (3, []), (4, []), (5, []), (6, []), (7, [1]), (8, []), (9, [])]]))] }
theorem E_orders_work (s0 : Option Addr) (o1 : (Int × Int × Int × Sl)) : denF Tryz.prog H_orders_work Tryz.f191 [.sc (.int .u32), .sc (.int .i64)] [.pointer s0, .agg ⟨[.int .u8 o1.1, .int .u32 o1.2.1, .int .u8 o1.2.2.1, .slice o1.2.2.2.a o1.2.2.2.n o1.2.2.2.c]⟩] = F_orders_work s0 o1 := by kernel_rfl
theorem C_orders_work {R : Type} (s0 : Option Addr) (o1 : (Int × Int × Int × Sl)) (K : Res [.sc (.int .u32), .sc (.int .i64)] → W R) (Q : R → World → Prop) (w : World) (h : F_orders_work s0 o1 (fun r w => K r Q w) w) : callW Tryz.prog k_orders_work [.pointer s0, .agg ⟨[.int .u8 o1.1, .int .u32 o1.2.1, .int .u8 o1.2.2.1, .slice o1.2.2.2.a o1.2.2.2.n o1.2.2.2.c]⟩] [.sc (.int .u32), .sc (.int .i64)] K Q w :=
  den_calls mix Tryz.func191 H_orders_work (ts := [.sc (.int .u32), .sc (.int .i64)]) trivial (by rw [Tryz.ntmps191]; simp) (by rw [E_orders_work]; exact h)

/-! 194 (*pinnace/table.column[pinnace/api.ID]).add -/
def F_table_column_ID_add (c0 : Option Addr) (x1 : Int) : W (Unit) :=
  ptrW c0 fun x_1 =>
  ld (.sc .sl) (Addr.add x_1 0) fun (x_2 : Sl) =>
  newW 31 [.int .u32 x1] fun x_3 =>
  rawW Tryz.prog (Builtin.append_ #[28, 28] 28 #[.slice x_2.a x_2.n x_2.c, .slice (some x_3) 1 1]) [.sc .sl] fun (x_4 : Sl) =>
  ptrW c0 fun x_5 =>
  stoL (Addr.add x_5 0) [.slice x_4.a x_4.n x_4.c] 0 <|
  retW ()
def H_table_column_ID_add : Hints := {}
theorem E_table_column_ID_add (c0 : Option Addr) (x1 : Int) : denF Tryz.prog H_table_column_ID_add Tryz.f194 [] [.pointer c0, .int .u32 x1] = F_table_column_ID_add c0 x1 := by kernel_rfl
theorem C_table_column_ID_add {R : Type} (c0 : Option Addr) (x1 : Int) (K : Res [] → W R) (Q : R → World → Prop) (w : World) (h : F_table_column_ID_add c0 x1 (fun r w => K r Q w) w) : callW Tryz.prog k_table_column_ID_add [.pointer c0, .int .u32 x1] [] K Q w :=
  den_calls mix Tryz.func194 H_table_column_ID_add (ts := []) trivial (by rw [Tryz.ntmps194]; simp) (by rw [E_table_column_ID_add]; exact h)

/-! 195 (*pinnace/table.column[pinnace/table.fields]).add -/
def F_table_column_fields_add (c0 : Option Addr) (x1 : (Int × Int × Int)) : W (Unit) :=
  newW 283 [.int .i32 x1.1, .int .i32 x1.2.1, .int .i32 x1.2.2] fun x_1 =>
  drawW <|
  ptrW c0 fun x_2 =>
  ld (.sc .sl) (Addr.add x_2 0) fun (x_3 : Sl) =>
  ld (.agg [.int .i32, .int .i32, .int .i32]) x_1 fun (x_4 : (Int × Int × Int)) =>
  newW 283 [.int .i32 x_4.1, .int .i32 x_4.2.1, .int .i32 x_4.2.2] fun x_5 =>
  rawW Tryz.prog (Builtin.append_ #[237, 237] 237 #[.slice x_3.a x_3.n x_3.c, .slice (some x_5) 1 1]) [.sc .sl] fun (x_6 : Sl) =>
  ptrW c0 fun x_7 =>
  stoL (Addr.add x_7 0) [.slice x_6.a x_6.n x_6.c] 0 <|
  retW ()
def H_table_column_fields_add : Hints := { dr := [(1, ([], [[(0, []), (1, []), (2, []), (3, []), (4, []), (5, []), (6, []), (7, []), (8, []), (9, []), (10, [])]]))] }
theorem E_table_column_fields_add (c0 : Option Addr) (x1 : (Int × Int × Int)) : denF Tryz.prog H_table_column_fields_add Tryz.f195 [] [.pointer c0, .agg ⟨[.int .i32 x1.1, .int .i32 x1.2.1, .int .i32 x1.2.2]⟩] = F_table_column_fields_add c0 x1 := by kernel_rfl
theorem C_table_column_fields_add {R : Type} (c0 : Option Addr) (x1 : (Int × Int × Int)) (K : Res [] → W R) (Q : R → World → Prop) (w : World) (h : F_table_column_fields_add c0 x1 (fun r w => K r Q w) w) : callW Tryz.prog k_table_column_fields_add [.pointer c0, .agg ⟨[.int .i32 x1.1, .int .i32 x1.2.1, .int .i32 x1.2.2]⟩] [] K Q w :=
  den_calls mix Tryz.func195 H_table_column_fields_add (ts := []) trivial (by rw [Tryz.ntmps195]; simp) (by rw [E_table_column_fields_add]; exact h)

/-! 196 pinnace/pinnaceref07.Gen -/
def F_pinnaceref07_Gen (id0 : Int) : W (Int) :=
  retW (IntKind.wrap .i64 (Int.tdiv (IntKind.wrap .i64 id0) 1024))
def H_pinnaceref07_Gen : Hints := {}
theorem E_pinnaceref07_Gen (id0 : Int) : denF Tryz.prog H_pinnaceref07_Gen Tryz.f196 [.sc (.int .i64)] [.int .u32 id0] = F_pinnaceref07_Gen id0 := by kernel_rfl
theorem C_pinnaceref07_Gen {R : Type} (id0 : Int) (K : Res [.sc (.int .i64)] → W R) (Q : R → World → Prop) (w : World) (h : F_pinnaceref07_Gen id0 (fun r w => K r Q w) w) : callW Tryz.prog k_pinnaceref07_Gen [.int .u32 id0] [.sc (.int .i64)] K Q w :=
  den_calls mix Tryz.func196 H_pinnaceref07_Gen (ts := [.sc (.int .i64)]) trivial (by rw [Tryz.ntmps196]; simp) (by rw [E_pinnaceref07_Gen]; exact h)

/-! 210 slices.Clone[[]pinnace/api.ID,pinnace/api.ID] -/
def F_slices_Clone_ID (s0 : Sl) : W (Sl) :=
  cond (Option.isNone s0.a)
    (retW (⟨none, 0, 0⟩ : Sl))
    (newW 31 [] fun x_1 =>
  rawW Tryz.prog (Builtin.append_ #[28, 28] 28 #[.slice (some x_1) 0 0, .slice s0.a s0.n s0.c]) [.sc .sl] fun (x_2 : Sl) =>
  retW x_2)
def H_slices_Clone_ID : Hints := {}
theorem E_slices_Clone_ID (s0 : Sl) : denF Tryz.prog H_slices_Clone_ID Tryz.f210 [.sc .sl] [.slice s0.a s0.n s0.c] = F_slices_Clone_ID s0 := by kernel_rfl
theorem C_slices_Clone_ID {R : Type} (s0 : Sl) (K : Res [.sc .sl] → W R) (Q : R → World → Prop) (w : World) (h : F_slices_Clone_ID s0 (fun r w => K r Q w) w) : callW Tryz.prog k_slices_Clone_ID [.slice s0.a s0.n s0.c] [.sc .sl] K Q w :=
  den_calls mix Tryz.func210 H_slices_Clone_ID (ts := [.sc .sl]) trivial (by rw [Tryz.ntmps210]; simp) (by rw [E_slices_Clone_ID]; exact h)

/-! 211 slices.Contains[[]byte,byte] -/
def F_slices_Contains_byte (s0 : Sl) (v1 : Int) : W (Bool) :=
  callW Tryz.prog k_slices_Index_byte [.slice s0.a s0.n s0.c, .int .u8 v1] [.sc (.int .i64)] fun (x_1 : Int) =>
  retW (decide (x_1 ≥ 0))
def H_slices_Contains_byte : Hints := {}
theorem E_slices_Contains_byte (s0 : Sl) (v1 : Int) : denF Tryz.prog H_slices_Contains_byte Tryz.f211 [.sc .bool] [.slice s0.a s0.n s0.c, .int .u8 v1] = F_slices_Contains_byte s0 v1 := by kernel_rfl
theorem C_slices_Contains_byte {R : Type} (s0 : Sl) (v1 : Int) (K : Res [.sc .bool] → W R) (Q : R → World → Prop) (w : World) (h : F_slices_Contains_byte s0 v1 (fun r w => K r Q w) w) : callW Tryz.prog k_slices_Contains_byte [.slice s0.a s0.n s0.c, .int .u8 v1] [.sc .bool] K Q w :=
  den_calls mix Tryz.func211 H_slices_Contains_byte (ts := [.sc .bool]) trivial (by rw [Tryz.ntmps211]; simp) (by rw [E_slices_Contains_byte]; exact h)

/-! 212 (*pinnace/store.Store).Add -/
def F_store_Store_Add (s0 : Option Addr) (id1 : Int) (c2 : (Int × Int × Int × Int)) : W (Int) :=
  newW 53 [.int .u8 c2.1, .int .i32 c2.2.1, .int .i32 c2.2.2.1, .int .i32 c2.2.2.2] fun c_1 =>
  ld (.agg [.int .u8, .int .i32, .int .i32, .int .i32]) c_1 fun (x_2 : (Int × Int × Int × Int)) =>
  callW Tryz.prog k_schema_Check [.agg ⟨[.int .u8 x_2.1, .int .i32 x_2.2.1, .int .i32 x_2.2.2.1, .int .i32 x_2.2.2.2]⟩] [.sc (.int .i64)] fun (x_3 : Int) =>
  joinW (σ := Bool) (fun J_4 =>
    cond (x_3 != 0)
      (J_4 (!Option.isNone s0))
      (J_4 false))
  <| fun s_5 =>
  cond s_5
    (retW x_3)
    (callW Tryz.prog k_store_Store_of [.pointer s0, .int .u32 id1] [.sc .ptr, .sc (.int .i64)] fun (x_6 : (Option Addr) × Int) =>
  cond (x_6.2 != 0)
    (retW x_6.2)
    (drawW <|
    ld (.sc (.int .u8)) (Addr.add c_1 0) fun (x_7 : Int) =>
    callW Tryz.prog k_table_Table_Mask [.pointer x_6.1] [.sc (.int .u8)] fun (x_8 : Int) =>
    andW (fun w => Rd w (Addr.add c_1 0) (.sc (.int .u8)) x_7) <|
    chkW (0 ≤ x_7) <|
    cond ((bAnd .u8 (shR .u8 x_8 x_7) 1) == 1)
      (retW 9)
      (callW Tryz.prog k_store_Store_move [.pointer s0, .int .u32 id1, .pointer x_6.1, .func (.func 232) #[] #[.pointer (some c_1)]] [] fun (x_9 : Unit) =>
  retW 0)))
def H_store_Store_Add : Hints := { reg := [(2, [(17, .sc .bool)])], dr := [(7, ([], [[(0, []), (2, []), (3, []), (1, [3]), (4, []), (5, []), (6, []), (7, [])]]))] }
theorem E_store_Store_Add (s0 : Option Addr) (id1 : Int) (c2 : (Int × Int × Int × Int)) : denF Tryz.prog H_store_Store_Add Tryz.f212 [.sc (.int .i64)] [.pointer s0, .int .u32 id1, .agg ⟨[.int .u8 c2.1, .int .i32 c2.2.1, .int .i32 c2.2.2.1, .int .i32 c2.2.2.2]⟩] = F_store_Store_Add s0 id1 c2 := by kernel_rfl
theorem C_store_Store_Add {R : Type} (s0 : Option Addr) (id1 : Int) (c2 : (Int × Int × Int × Int)) (K : Res [.sc (.int .i64)] → W R) (Q : R → World → Prop) (w : World) (h : F_store_Store_Add s0 id1 c2 (fun r w => K r Q w) w) : callW Tryz.prog k_store_Store_Add [.pointer s0, .int .u32 id1, .agg ⟨[.int .u8 c2.1, .int .i32 c2.2.1, .int .i32 c2.2.2.1, .int .i32 c2.2.2.2]⟩] [.sc (.int .i64)] K Q w :=
  den_calls mix Tryz.func212 H_store_Store_Add (ts := [.sc (.int .i64)]) trivial (by rw [Tryz.ntmps212]; simp) (by rw [E_store_Store_Add]; exact h)

/-! 213 (*pinnace/store.Store).Remove -/
def F_store_Store_Remove (s0 : Option Addr) (id1 : Int) (kind2 : Int) : W (Int) :=
  newW 5 [.int .u8 kind2] fun kind_1 =>
  callW Tryz.prog k_store_Store_of [.pointer s0, .int .u32 id1] [.sc .ptr, .sc (.int .i64)] fun (x_2 : (Option Addr) × Int) =>
  cond (x_2.2 != 0)
    (retW x_2.2)
    (joinW (σ := Bool) (fun J_3 =>
      drawW <|
      ld (.sc (.int .u8)) kind_1 fun (x_4 : Int) =>
      cond (decide (x_4 ≥ 6))
        (J_3 true)
        (ld (.sc (.int .u8)) kind_1 fun (x_5 : Int) =>
          callW Tryz.prog k_table_Table_Mask [.pointer x_2.1] [.sc (.int .u8)] fun (x_6 : Int) =>
            andW (fun w => Rd w kind_1 (.sc (.int .u8)) x_5) <|
            chkW (0 ≤ x_5) <|
              J_3 ((bAnd .u8 (shR .u8 x_6 x_5) 1) == 0)))
    <| fun s_7 =>
    cond s_7
      (retW 10)
      (callW Tryz.prog k_store_Store_move [.pointer s0, .int .u32 id1, .pointer x_2.1, .func (.func 235) #[] #[.pointer (some kind_1)]] [] fun (x_8 : Unit) =>
  retW 0))
def H_store_Store_Remove : Hints := { reg := [(4, [(19, .sc .bool)])], dr := [(4, ([], [[(0, []), (1, []), (2, []), (3, []), (5, []), (4, [5]), (6, []), (7, []), (8, []), (9, []), (10, [])]]))] }
theorem E_store_Store_Remove (s0 : Option Addr) (id1 : Int) (kind2 : Int) : denF Tryz.prog H_store_Store_Remove Tryz.f213 [.sc (.int .i64)] [.pointer s0, .int .u32 id1, .int .u8 kind2] = F_store_Store_Remove s0 id1 kind2 := by kernel_rfl
theorem C_store_Store_Remove {R : Type} (s0 : Option Addr) (id1 : Int) (kind2 : Int) (K : Res [.sc (.int .i64)] → W R) (Q : R → World → Prop) (w : World) (h : F_store_Store_Remove s0 id1 kind2 (fun r w => K r Q w) w) : callW Tryz.prog k_store_Store_Remove [.pointer s0, .int .u32 id1, .int .u8 kind2] [.sc (.int .i64)] K Q w :=
  den_calls mix Tryz.func213 H_store_Store_Remove (ts := [.sc (.int .i64)]) trivial (by rw [Tryz.ntmps213]; simp) (by rw [E_store_Store_Remove]; exact h)

/-! 229 slices.Index[[]byte,byte] -/
def F_slices_Index_byte (s0 : Sl) (v1 : Int) : W (Int) :=
  loopW (σ := Int) (fun K_1 s_2 =>
    cond (decide (s_2 < (s0.n : Int)))
      (idxW s0.a s0.n 1 s_2 fun x_3 =>
    ld (.sc (.int .u8)) x_3 fun (x_4 : Int) =>
    cond (v1 == x_4)
      (retW s_2)
      (K_1 (IntKind.wrap .i64 (s_2 + 1))))
      (retW (-1)))
    0
def H_slices_Index_byte : Hints := { lop := [(0, [(8, .sc (.int .i64))])] }
theorem E_slices_Index_byte (s0 : Sl) (v1 : Int) : denF Tryz.prog H_slices_Index_byte Tryz.f229 [.sc (.int .i64)] [.slice s0.a s0.n s0.c, .int .u8 v1] = F_slices_Index_byte s0 v1 := by kernel_rfl
theorem C_slices_Index_byte {R : Type} (s0 : Sl) (v1 : Int) (K : Res [.sc (.int .i64)] → W R) (Q : R → World → Prop) (w : World) (h : F_slices_Index_byte s0 v1 (fun r w => K r Q w) w) : callW Tryz.prog k_slices_Index_byte [.slice s0.a s0.n s0.c, .int .u8 v1] [.sc (.int .i64)] K Q w :=
  den_calls mix Tryz.func229 H_slices_Index_byte (ts := [.sc (.int .i64)]) trivial (by rw [Tryz.ntmps229]; simp) (by rw [E_slices_Index_byte]; exact h)

/-! 230 (*pinnace/table.Table).Mask -/
def F_table_Table_Mask (t0 : Option Addr) : W (Int) :=
  cond (Option.isNone t0)
    (retW 0)
    (ptrW t0 fun x_1 =>
  ld (.sc (.int .u8)) (Addr.add x_1 0) fun (x_2 : Int) =>
  retW x_2)
def H_table_Table_Mask : Hints := {}
theorem E_table_Table_Mask (t0 : Option Addr) : denF Tryz.prog H_table_Table_Mask Tryz.f230 [.sc (.int .u8)] [.pointer t0] = F_table_Table_Mask t0 := by kernel_rfl
theorem C_table_Table_Mask {R : Type} (t0 : Option Addr) (K : Res [.sc (.int .u8)] → W R) (Q : R → World → Prop) (w : World) (h : F_table_Table_Mask t0 (fun r w => K r Q w) w) : callW Tryz.prog k_table_Table_Mask [.pointer t0] [.sc (.int .u8)] K Q w :=
  den_calls mix Tryz.func230 H_table_Table_Mask (ts := [.sc (.int .u8)]) trivial (by rw [Tryz.ntmps230]; simp) (by rw [E_table_Table_Mask]; exact h)

/-! 231 (*pinnace/store.Store).move -/
def F_store_Store_move__store_Store_Add_c1 (s0 : Option Addr) (id1 : Int) (t2 : Option Addr) (turn3c0 : Option Addr) : W (Unit) :=
  callW Tryz.prog k_table_Table_Remove [.pointer t2, .int .u32 id1] [.sc .sl, .sc (.int .i64)] fun (x_1 : Sl × Int) =>
  callW Tryz.prog k_store_Store_Add_c1 [.slice x_1.1.a x_1.1.n x_1.1.c, .pointer turn3c0] [.sc .sl] fun (x_2 : Sl) =>
  callW Tryz.prog k_store_Store_put [.pointer s0, .int .u32 id1, .slice x_2.a x_2.n x_2.c] [] fun (x_3 : Unit) =>
  retW ()
def H_store_Store_move__store_Store_Add_c1 : Hints := {}
theorem E_store_Store_move__store_Store_Add_c1 (s0 : Option Addr) (id1 : Int) (t2 : Option Addr) (turn3c0 : Option Addr) : denF Tryz.prog H_store_Store_move__store_Store_Add_c1 Tryz.f231 [] [.pointer s0, .int .u32 id1, .pointer t2, .func (.func 232) #[] #[.pointer turn3c0]] = F_store_Store_move__store_Store_Add_c1 s0 id1 t2 turn3c0 := by kernel_rfl
theorem C_store_Store_move__store_Store_Add_c1 {R : Type} (s0 : Option Addr) (id1 : Int) (t2 : Option Addr) (turn3c0 : Option Addr) (K : Res [] → W R) (Q : R → World → Prop) (w : World) (h : F_store_Store_move__store_Store_Add_c1 s0 id1 t2 turn3c0 (fun r w => K r Q w) w) : callW Tryz.prog k_store_Store_move [.pointer s0, .int .u32 id1, .pointer t2, .func (.func 232) #[] #[.pointer turn3c0]] [] K Q w :=
  den_calls mix Tryz.func231 H_store_Store_move__store_Store_Add_c1 (ts := []) trivial (by rw [Tryz.ntmps231]; simp) (by rw [E_store_Store_move__store_Store_Add_c1]; exact h)

/-! 231 (*pinnace/store.Store).move -/
def F_store_Store_move__store_Store_Remove_c1 (s0 : Option Addr) (id1 : Int) (t2 : Option Addr) (turn3c0 : Option Addr) : W (Unit) :=
  callW Tryz.prog k_table_Table_Remove [.pointer t2, .int .u32 id1] [.sc .sl, .sc (.int .i64)] fun (x_1 : Sl × Int) =>
  callW Tryz.prog k_store_Store_Remove_c1 [.slice x_1.1.a x_1.1.n x_1.1.c, .pointer turn3c0] [.sc .sl] fun (x_2 : Sl) =>
  callW Tryz.prog k_store_Store_put [.pointer s0, .int .u32 id1, .slice x_2.a x_2.n x_2.c] [] fun (x_3 : Unit) =>
  retW ()
def H_store_Store_move__store_Store_Remove_c1 : Hints := {}
theorem E_store_Store_move__store_Store_Remove_c1 (s0 : Option Addr) (id1 : Int) (t2 : Option Addr) (turn3c0 : Option Addr) : denF Tryz.prog H_store_Store_move__store_Store_Remove_c1 Tryz.f231 [] [.pointer s0, .int .u32 id1, .pointer t2, .func (.func 235) #[] #[.pointer turn3c0]] = F_store_Store_move__store_Store_Remove_c1 s0 id1 t2 turn3c0 := by kernel_rfl
theorem C_store_Store_move__store_Store_Remove_c1 {R : Type} (s0 : Option Addr) (id1 : Int) (t2 : Option Addr) (turn3c0 : Option Addr) (K : Res [] → W R) (Q : R → World → Prop) (w : World) (h : F_store_Store_move__store_Store_Remove_c1 s0 id1 t2 turn3c0 (fun r w => K r Q w) w) : callW Tryz.prog k_store_Store_move [.pointer s0, .int .u32 id1, .pointer t2, .func (.func 235) #[] #[.pointer turn3c0]] [] K Q w :=
  den_calls mix Tryz.func231 H_store_Store_move__store_Store_Remove_c1 (ts := []) trivial (by rw [Tryz.ntmps231]; simp) (by rw [E_store_Store_move__store_Store_Remove_c1]; exact h)

/-! 232 (*pinnace/store.Store).Add$1 -/
def F_store_Store_Add_c1 (l0 : Sl) (c1 : Option Addr) : W (Sl) :=
  callW Tryz.prog k_slices_IndexFunc_Comp [.slice l0.a l0.n l0.c, .func (.func 233) #[] #[.pointer c1]] [.sc (.int .i64)] fun (x_1 : Int) =>
  joinW (σ := Int) (fun J_2 =>
    cond (decide (x_1 < 0))
      (J_2 (l0.n : Int))
      (J_2 x_1))
  <| fun s_3 =>
  ptrW c1 fun x_4 =>
  ld (.agg [.int .u8, .int .i32, .int .i32, .int .i32]) x_4 fun (x_5 : (Int × Int × Int × Int)) =>
  newW 53 [.int .u8 x_5.1, .int .i32 x_5.2.1, .int .i32 x_5.2.2.1, .int .i32 x_5.2.2.2] fun x_6 =>
  callW Tryz.prog k_slices_Insert_Comp [.slice l0.a l0.n l0.c, .int .i64 s_3, .slice (some x_6) 1 1] [.sc .sl] fun (x_7 : Sl) =>
  retW x_7
def H_store_Store_Add_c1 : Hints := { con := [(4009, [(4, .sc (.int .i64))])] }
theorem E_store_Store_Add_c1 (l0 : Sl) (c1 : Option Addr) : denF Tryz.prog H_store_Store_Add_c1 Tryz.f232 [.sc .sl] [.slice l0.a l0.n l0.c, .pointer c1] = F_store_Store_Add_c1 l0 c1 := by kernel_rfl
theorem C_store_Store_Add_c1 {R : Type} (l0 : Sl) (c1 : Option Addr) (K : Res [.sc .sl] → W R) (Q : R → World → Prop) (w : World) (h : F_store_Store_Add_c1 l0 c1 (fun r w => K r Q w) w) : callW Tryz.prog k_store_Store_Add_c1 [.slice l0.a l0.n l0.c, .pointer c1] [.sc .sl] K Q w :=
  den_calls mix Tryz.func232 H_store_Store_Add_c1 (ts := [.sc .sl]) trivial (by rw [Tryz.ntmps232]; simp) (by rw [E_store_Store_Add_c1]; exact h)

/-! 233 (*pinnace/store.Store).Add$1$1 -/
def F_store_Store_Add_c1_c1 (x0 : (Int × Int × Int × Int)) (c1 : Option Addr) : W (Bool) :=
  newW 53 [.int .u8 x0.1, .int .i32 x0.2.1, .int .i32 x0.2.2.1, .int .i32 x0.2.2.2] fun x_1 =>
  ld (.sc (.int .u8)) (Addr.add x_1 0) fun (x_2 : Int) =>
  ptrW c1 fun x_3 =>
  ld (.sc (.int .u8)) (Addr.add x_3 0) fun (x_4 : Int) =>
  retW (decide (x_2 > x_4))
def H_store_Store_Add_c1_c1 : Hints := {}
theorem E_store_Store_Add_c1_c1 (x0 : (Int × Int × Int × Int)) (c1 : Option Addr) : denF Tryz.prog H_store_Store_Add_c1_c1 Tryz.f233 [.sc .bool] [.agg ⟨[.int .u8 x0.1, .int .i32 x0.2.1, .int .i32 x0.2.2.1, .int .i32 x0.2.2.2]⟩, .pointer c1] = F_store_Store_Add_c1_c1 x0 c1 := by kernel_rfl
theorem C_store_Store_Add_c1_c1 {R : Type} (x0 : (Int × Int × Int × Int)) (c1 : Option Addr) (K : Res [.sc .bool] → W R) (Q : R → World → Prop) (w : World) (h : F_store_Store_Add_c1_c1 x0 c1 (fun r w => K r Q w) w) : callW Tryz.prog k_store_Store_Add_c1_c1 [.agg ⟨[.int .u8 x0.1, .int .i32 x0.2.1, .int .i32 x0.2.2.1, .int .i32 x0.2.2.2]⟩, .pointer c1] [.sc .bool] K Q w :=
  den_calls mix Tryz.func233 H_store_Store_Add_c1_c1 (ts := [.sc .bool]) trivial (by rw [Tryz.ntmps233]; simp) (by rw [E_store_Store_Add_c1_c1]; exact h)

/-! 234 slices.Insert[[]pinnace/api.Comp,pinnace/api.Comp] -/
def F_slices_Insert_Comp (d0 : Sl) (o1 : Int) (p2 : Sl) : W (Sl) :=
  slcW d0.a d0.n d0.c 4 (some o1) none fun x_1 =>
  cond ((p2.n : Int) == 0)
    (retW d0)
    (cond (o1 == (d0.n : Int))
    (rawW Tryz.prog (Builtin.append_ #[32, 32] 32 #[.slice d0.a d0.n d0.c, .slice p2.a p2.n p2.c]) [.sc .sl] fun (x_2 : Sl) =>
    retW x_2)
    (cond (decide ((IntKind.wrap .i64 ((d0.n : Int) + (p2.n : Int))) > (d0.c : Int)))
    (slcW d0.a d0.n d0.c 4 none (some o1) fun x_3 =>
    rawW Tryz.prog (Builtin.append_ #[32, 3] 32 #[.slice x_3.a x_3.n x_3.c, .int .i64 (IntKind.wrap .i64 ((IntKind.wrap .i64 ((d0.n : Int) + (p2.n : Int))) - o1))]) [.sc .sl] fun (x_4 : Sl) =>
    slcW x_4.a x_4.n x_4.c 4 (some o1) none fun x_5 =>
    rawW Tryz.prog (Builtin.copy_ #[32, 32] 3 #[.slice x_5.a x_5.n x_5.c, .slice p2.a p2.n p2.c]) [.sc (.int .i64)] fun (x_6 : Int) =>
    drawW <|
    slcW x_4.a x_4.n x_4.c 4 (some (IntKind.wrap .i64 (o1 + (p2.n : Int)))) none fun x_7 =>
    slcW d0.a d0.n d0.c 4 (some o1) none fun x_8 =>
    rawW Tryz.prog (Builtin.copy_ #[32, 32] 3 #[.slice x_7.a x_7.n x_7.c, .slice x_8.a x_8.n x_8.c]) [.sc (.int .i64)] fun (x_9 : Int) =>
    retW x_4)
    (slcW d0.a d0.n d0.c 4 none (some (IntKind.wrap .i64 ((d0.n : Int) + (p2.n : Int)))) fun x_10 =>
  slcW x_10.a x_10.n x_10.c 4 (some (IntKind.wrap .i64 (o1 + (p2.n : Int)))) none fun x_11 =>
  extW Tryz.prog k_slices_overlaps_Comp [.slice p2.a p2.n p2.c, .slice x_11.a x_11.n x_11.c] [.sc .bool] fun (x_12 : Bool) =>
  cond (!x_12)
    (drawW <|
    slcW x_10.a x_10.n x_10.c 4 (some (IntKind.wrap .i64 (o1 + (p2.n : Int)))) none fun x_13 =>
    slcW x_10.a x_10.n x_10.c 4 (some o1) none fun x_14 =>
    rawW Tryz.prog (Builtin.copy_ #[32, 32] 3 #[.slice x_13.a x_13.n x_13.c, .slice x_14.a x_14.n x_14.c]) [.sc (.int .i64)] fun (x_15 : Int) =>
    slcW x_10.a x_10.n x_10.c 4 (some o1) none fun x_16 =>
    rawW Tryz.prog (Builtin.copy_ #[32, 32] 3 #[.slice x_16.a x_16.n x_16.c, .slice p2.a p2.n p2.c]) [.sc (.int .i64)] fun (x_17 : Int) =>
    retW x_10)
    (slcW x_10.a x_10.n x_10.c 4 (some (d0.n : Int)) none fun x_18 =>
  rawW Tryz.prog (Builtin.copy_ #[32, 32] 3 #[.slice x_18.a x_18.n x_18.c, .slice p2.a p2.n p2.c]) [.sc (.int .i64)] fun (x_19 : Int) =>
  slcW x_10.a x_10.n x_10.c 4 (some o1) none fun x_20 =>
  callW Tryz.prog k_slices_rotateRight_Comp [.slice x_20.a x_20.n x_20.c, .int .i64 (p2.n : Int)] [] fun (x_21 : Unit) =>
  retW x_10))))
def H_slices_Insert_Comp : Hints := { dr := [(11, ([], [[(0, []), (1, []), (2, []), (3, []), (4, []), (5, []), (6, []), (7, []), (8, [])]])), (15, ([], [[(0, []), (1, []), (2, []), (3, []), (4, []), (5, []), (6, []), (7, []), (8, [])]]))] }
theorem E_slices_Insert_Comp (d0 : Sl) (o1 : Int) (p2 : Sl) : denF Tryz.prog H_slices_Insert_Comp Tryz.f234 [.sc .sl] [.slice d0.a d0.n d0.c, .int .i64 o1, .slice p2.a p2.n p2.c] = F_slices_Insert_Comp d0 o1 p2 := by kernel_rfl
theorem C_slices_Insert_Comp {R : Type} (d0 : Sl) (o1 : Int) (p2 : Sl) (K : Res [.sc .sl] → W R) (Q : R → World → Prop) (w : World) (h : F_slices_Insert_Comp d0 o1 p2 (fun r w => K r Q w) w) : callW Tryz.prog k_slices_Insert_Comp [.slice d0.a d0.n d0.c, .int .i64 o1, .slice p2.a p2.n p2.c] [.sc .sl] K Q w :=
  den_calls mix Tryz.func234 H_slices_Insert_Comp (ts := [.sc .sl]) trivial (by rw [Tryz.ntmps234]; simp) (by rw [E_slices_Insert_Comp]; exact h)

/-! 235 (*pinnace/store.Store).Remove$1 -/
def F_store_Store_Remove_c1 (l0 : Sl) (c1 : Option Addr) : W (Sl) :=
  callW Tryz.prog k_slices_DeleteFunc_Comp [.slice l0.a l0.n l0.c, .func (.func 237) #[] #[.pointer c1]] [.sc .sl] fun (x_1 : Sl) =>
  retW x_1
def H_store_Store_Remove_c1 : Hints := {}
theorem E_store_Store_Remove_c1 (l0 : Sl) (c1 : Option Addr) : denF Tryz.prog H_store_Store_Remove_c1 Tryz.f235 [.sc .sl] [.slice l0.a l0.n l0.c, .pointer c1] = F_store_Store_Remove_c1 l0 c1 := by kernel_rfl
theorem C_store_Store_Remove_c1 {R : Type} (l0 : Sl) (c1 : Option Addr) (K : Res [.sc .sl] → W R) (Q : R → World → Prop) (w : World) (h : F_store_Store_Remove_c1 l0 c1 (fun r w => K r Q w) w) : callW Tryz.prog k_store_Store_Remove_c1 [.slice l0.a l0.n l0.c, .pointer c1] [.sc .sl] K Q w :=
  den_calls mix Tryz.func235 H_store_Store_Remove_c1 (ts := [.sc .sl]) trivial (by rw [Tryz.ntmps235]; simp) (by rw [E_store_Store_Remove_c1]; exact h)

/-! 236 slices.DeleteFunc[[]pinnace/api.Comp,pinnace/api.Comp] -/
def F_slices_DeleteFunc_Comp__store_Store_Remove_c1_c1 (s0 : Sl) (del1c0 : Option Addr) : W (Sl) :=
  callW Tryz.prog k_slices_IndexFunc_Comp [.slice s0.a s0.n s0.c, .func (.func 237) #[] #[.pointer del1c0]] [.sc (.int .i64)] fun (x_1 : Int) =>
  cond (x_1 == (-1))
    (retW s0)
    (loopW (σ := Int × Int) (fun K_2 s_3 =>
    cond (decide (s_3.2 < (s0.n : Int)))
      (idxW s0.a s0.n 4 s_3.2 fun x_4 =>
    ld (.agg [.int .u8, .int .i32, .int .i32, .int .i32]) x_4 fun (x_5 : (Int × Int × Int × Int)) =>
    newW 53 [.int .u8 0, .int .i32 0, .int .i32 0, .int .i32 0] fun v_6 =>
    stoL v_6 [.int .u8 x_5.1, .int .i32 x_5.2.1, .int .i32 x_5.2.2.1, .int .i32 x_5.2.2.2] 0 <|
    ld (.agg [.int .u8, .int .i32, .int .i32, .int .i32]) v_6 fun (x_7 : (Int × Int × Int × Int)) =>
    callW Tryz.prog k_store_Store_Remove_c1_c1 [.agg ⟨[.int .u8 x_7.1, .int .i32 x_7.2.1, .int .i32 x_7.2.2.1, .int .i32 x_7.2.2.2]⟩, .pointer del1c0] [.sc .bool] fun (x_8 : Bool) =>
    joinW (σ := Int) (fun J_9 =>
      cond (!x_8)
        (ld (.agg [.int .u8, .int .i32, .int .i32, .int .i32]) v_6 fun (x_10 : (Int × Int × Int × Int)) =>
        idxW s0.a s0.n 4 s_3.1 fun x_11 =>
        stoL x_11 [.int .u8 x_10.1, .int .i32 x_10.2.1, .int .i32 x_10.2.2.1, .int .i32 x_10.2.2.2] 0 <|
        J_9 (IntKind.wrap .i64 (s_3.1 + 1)))
        (J_9 s_3.1))
    <| fun s_12 =>
    K_2 (s_12, IntKind.wrap .i64 (s_3.2 + 1)))
      (slcW s0.a s0.n s0.c 4 (some s_3.1) none fun x_13 =>
  rawW Tryz.prog (Builtin.clear_ #[32] 0 #[.slice x_13.a x_13.n x_13.c]) [] fun (_ : Unit) =>
  slcW s0.a s0.n s0.c 4 none (some s_3.1) fun x_15 =>
  retW x_15))
    (x_1, IntKind.wrap .i64 (x_1 + 1)))
def H_slices_DeleteFunc_Comp__store_Store_Remove_c1_c1 : Hints := { con := [(10029, [(5, .sc (.int .i64))])], lop := [(0, [(5, .sc (.int .i64)), (6, .sc (.int .i64))])] }
theorem E_slices_DeleteFunc_Comp__store_Store_Remove_c1_c1 (s0 : Sl) (del1c0 : Option Addr) : denF Tryz.prog H_slices_DeleteFunc_Comp__store_Store_Remove_c1_c1 Tryz.f236 [.sc .sl] [.slice s0.a s0.n s0.c, .func (.func 237) #[] #[.pointer del1c0]] = F_slices_DeleteFunc_Comp__store_Store_Remove_c1_c1 s0 del1c0 := by kernel_rfl
theorem C_slices_DeleteFunc_Comp__store_Store_Remove_c1_c1 {R : Type} (s0 : Sl) (del1c0 : Option Addr) (K : Res [.sc .sl] → W R) (Q : R → World → Prop) (w : World) (h : F_slices_DeleteFunc_Comp__store_Store_Remove_c1_c1 s0 del1c0 (fun r w => K r Q w) w) : callW Tryz.prog k_slices_DeleteFunc_Comp [.slice s0.a s0.n s0.c, .func (.func 237) #[] #[.pointer del1c0]] [.sc .sl] K Q w :=
  den_calls mix Tryz.func236 H_slices_DeleteFunc_Comp__store_Store_Remove_c1_c1 (ts := [.sc .sl]) trivial (by rw [Tryz.ntmps236]; simp) (by rw [E_slices_DeleteFunc_Comp__store_Store_Remove_c1_c1]; exact h)

/-! 237 (*pinnace/store.Store).Remove$1$1 -/
def F_store_Store_Remove_c1_c1 (x0 : (Int × Int × Int × Int)) (c1 : Option Addr) : W (Bool) :=
  newW 53 [.int .u8 x0.1, .int .i32 x0.2.1, .int .i32 x0.2.2.1, .int .i32 x0.2.2.2] fun x_1 =>
  ld (.sc (.int .u8)) (Addr.add x_1 0) fun (x_2 : Int) =>
  ptrW c1 fun x_3 =>
  ld (.sc (.int .u8)) x_3 fun (x_4 : Int) =>
  retW (x_2 == x_4)
def H_store_Store_Remove_c1_c1 : Hints := {}
theorem E_store_Store_Remove_c1_c1 (x0 : (Int × Int × Int × Int)) (c1 : Option Addr) : denF Tryz.prog H_store_Store_Remove_c1_c1 Tryz.f237 [.sc .bool] [.agg ⟨[.int .u8 x0.1, .int .i32 x0.2.1, .int .i32 x0.2.2.1, .int .i32 x0.2.2.2]⟩, .pointer c1] = F_store_Store_Remove_c1_c1 x0 c1 := by kernel_rfl
theorem C_store_Store_Remove_c1_c1 {R : Type} (x0 : (Int × Int × Int × Int)) (c1 : Option Addr) (K : Res [.sc .bool] → W R) (Q : R → World → Prop) (w : World) (h : F_store_Store_Remove_c1_c1 x0 c1 (fun r w => K r Q w) w) : callW Tryz.prog k_store_Store_Remove_c1_c1 [.agg ⟨[.int .u8 x0.1, .int .i32 x0.2.1, .int .i32 x0.2.2.1, .int .i32 x0.2.2.2]⟩, .pointer c1] [.sc .bool] K Q w :=
  den_calls mix Tryz.func237 H_store_Store_Remove_c1_c1 (ts := [.sc .bool]) trivial (by rw [Tryz.ntmps237]; simp) (by rw [E_store_Store_Remove_c1_c1]; exact h)

end Go.Proofs.YtkblnhnjagemlaaGreat
