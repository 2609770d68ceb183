/-
  Shallow forms of Go functions, printed by a program of this session (wip/gen.py), each equal to the denotation of its code, by the kernel.
-/
import Derived.Test.YtchhhjlpnecjkaaGreatK
set_option linter.unusedVariables false
namespace Go.Proofs.YtchhhjlpnecjkaaGreat
open Go Go.Proofs.YtchhhjlpnecjkaaGreat.Den


/-! 12 pinnace/pinnaceref10.Twins -/
def F_pinnaceref10_Twins (l0 : Sl) : W (Sl) :=
  loopW (σ := Sl × Int) (fun K_1 s_2 =>
    cond (decide (s_2.2 < (l0.n : Int)))
      (idxW l0.a l0.n 2 s_2.2 fun x_3 =>
    ld (.agg [.int .u32, .sl]) x_3 fun (x_4 : (Int × Sl)) =>
    newW 57 [.int .u32 0, .slice none 0 0] fun e_5 =>
    stoL e_5 [.int .u32 x_4.1, .slice x_4.2.a x_4.2.n x_4.2.c] 0 <|
    drawW <|
    ld (.sc (.int .u32)) (Addr.add e_5 0) fun (x_6 : Int) =>
    ld (.sc .sl) (Addr.add e_5 1) fun (x_7 : Sl) =>
    callW Tryz.prog k_pinnaceref05_Twin [.slice x_7.a x_7.n x_7.c] [.sc .sl] fun (x_8 : Sl) =>
    andW (fun w => Rd w (Addr.add e_5 0) (.sc (.int .u32)) x_6) <|
    newW 57 [.int .u32 x_6, .slice x_8.a x_8.n x_8.c] fun x_9 =>
    rawW Tryz.prog (Builtin.append_ #[23, 23] 23 #[.slice s_2.1.a s_2.1.n s_2.1.c, .slice (some x_9) 1 1]) [.sc .sl] fun (x_10 : Sl) =>
    K_1 (x_10, IntKind.wrap .i64 (s_2.2 + 1)))
      (retW s_2.1))
    ((⟨none, 0, 0⟩ : Sl), 0)
def H_pinnaceref10_Twins : Hints := { lop := [(0, [(3, .sc .sl), (8, .sc (.int .i64))])], dr := [(5, ([], [[(0, []), (1, []), (2, []), (3, []), (4, []), (5, [2]), (6, []), (7, []), (8, []), (9, [])]]))] }
theorem E_pinnaceref10_Twins (l0 : Sl) : denF Tryz.prog H_pinnaceref10_Twins Tryz.f12 [.sc .sl] [.slice l0.a l0.n l0.c] = F_pinnaceref10_Twins l0 := by kernel_rfl
theorem C_pinnaceref10_Twins {R : Type} (l0 : Sl) (K : Res [.sc .sl] → W R) (Q : R → World → Prop) (w : World) (h : F_pinnaceref10_Twins l0 (fun r w => K r Q w) w) : callW Tryz.prog k_pinnaceref10_Twins [.slice l0.a l0.n l0.c] [.sc .sl] K Q w :=
  den_calls mix Tryz.func12 H_pinnaceref10_Twins (ts := [.sc .sl]) trivial (by rw [Tryz.ntmps12]; simp) (by rw [E_pinnaceref10_Twins]; exact h)

/-! 14 pinnace/pinnaceref10.SameEnts -/
def F_pinnaceref10_SameEnts (a0 : Sl) (b1 : Sl) : W (Bool) :=
  cond ((a0.n : Int) != (b1.n : Int))
    (retW false)
    (loopW (σ := Int) (fun K_1 s_2 =>
    cond (decide (s_2 < (a0.n : Int)))
      (drawW <|
    idxW a0.a a0.n 2 s_2 fun x_3 =>
    ld (.agg [.int .u32, .sl]) x_3 fun (x_4 : (Int × Sl)) =>
    idxW b1.a b1.n 2 s_2 fun x_5 =>
    ld (.agg [.int .u32, .sl]) x_5 fun (x_6 : (Int × Sl)) =>
    callW Tryz.prog k_pinnaceref10_SameEnt [.agg ⟨[.int .u32 x_4.1, .slice x_4.2.a x_4.2.n x_4.2.c]⟩, .agg ⟨[.int .u32 x_6.1, .slice x_6.2.a x_6.2.n x_6.2.c]⟩] [.sc .bool] fun (x_7 : Bool) =>
    cond (!x_7)
      (retW false)
      (K_1 (IntKind.wrap .i64 (s_2 + 1))))
      (retW true))
    0)
def H_pinnaceref10_SameEnts : Hints := { lop := [(0, [(13, .sc (.int .i64))])], dr := [(6, ([], [[(0, []), (1, []), (2, []), (3, []), (4, []), (5, []), (6, []), (7, []), (8, []), (9, [])]]))] }
theorem E_pinnaceref10_SameEnts (a0 : Sl) (b1 : Sl) : denF Tryz.prog H_pinnaceref10_SameEnts Tryz.f14 [.sc .bool] [.slice a0.a a0.n a0.c, .slice b1.a b1.n b1.c] = F_pinnaceref10_SameEnts a0 b1 := by kernel_rfl
theorem C_pinnaceref10_SameEnts {R : Type} (a0 : Sl) (b1 : Sl) (K : Res [.sc .bool] → W R) (Q : R → World → Prop) (w : World) (h : F_pinnaceref10_SameEnts a0 b1 (fun r w => K r Q w) w) : callW Tryz.prog k_pinnaceref10_SameEnts [.slice a0.a a0.n a0.c, .slice b1.a b1.n b1.c] [.sc .bool] K Q w :=
  den_calls mix Tryz.func14 H_pinnaceref10_SameEnts (ts := [.sc .bool]) trivial (by rw [Tryz.ntmps14]; simp) (by rw [E_pinnaceref10_SameEnts]; exact h)

/-! 31 pinnace/pinnaceref05.Twin -/
def F_pinnaceref05_Twin (l0 : Sl) : W (Sl) :=
  newW 92 [] fun x_1 =>
  rawW Tryz.prog (Builtin.append_ #[55, 55] 55 #[.slice (some x_1) 0 0, .slice l0.a l0.n l0.c]) [.sc .sl] fun (x_2 : Sl) =>
  retW x_2
def H_pinnaceref05_Twin : Hints := {}
theorem E_pinnaceref05_Twin (l0 : Sl) : denF Tryz.prog H_pinnaceref05_Twin Tryz.f31 [.sc .sl] [.slice l0.a l0.n l0.c] = F_pinnaceref05_Twin l0 := by kernel_rfl
theorem C_pinnaceref05_Twin {R : Type} (l0 : Sl) (K : Res [.sc .sl] → W R) (Q : R → World → Prop) (w : World) (h : F_pinnaceref05_Twin l0 (fun r w => K r Q w) w) : callW Tryz.prog k_pinnaceref05_Twin [.slice l0.a l0.n l0.c] [.sc .sl] K Q w :=
  den_calls mix Tryz.func31 H_pinnaceref05_Twin (ts := [.sc .sl]) trivial (by rw [Tryz.ntmps31]; simp) (by rw [E_pinnaceref05_Twin]; exact h)

/-! 41 pinnace/pinnaceref05.Find -/
def F_pinnaceref05_Find (l0 : Sl) (kind1 : Int) : W (Int) :=
  loopW (σ := Int) (fun K_1 s_2 =>
    cond (decide (s_2 < (l0.n : Int)))
      (idxW l0.a l0.n 4 s_2 fun x_3 =>
    ld (.agg [.int .u8, .int .i32, .int .i32, .int .i32]) x_3 fun (x_4 : (Int × Int × Int × Int)) =>
    newW 92 [.int .u8 0, .int .i32 0, .int .i32 0, .int .i32 0] fun c_5 =>
    stoL c_5 [.int .u8 x_4.1, .int .i32 x_4.2.1, .int .i32 x_4.2.2.1, .int .i32 x_4.2.2.2] 0 <|
    ld (.sc (.int .u8)) (Addr.add c_5 0) fun (x_6 : Int) =>
    cond (x_6 == kind1)
      (retW s_2)
      (K_1 (IntKind.wrap .i64 (s_2 + 1))))
      (retW (-1)))
    0
def H_pinnaceref05_Find : Hints := { lop := [(0, [(9, .sc (.int .i64))])] }
theorem E_pinnaceref05_Find (l0 : Sl) (kind1 : Int) : denF Tryz.prog H_pinnaceref05_Find Tryz.f41 [.sc (.int .i64)] [.slice l0.a l0.n l0.c, .int .u8 kind1] = F_pinnaceref05_Find l0 kind1 := by kernel_rfl
theorem C_pinnaceref05_Find {R : Type} (l0 : Sl) (kind1 : Int) (K : Res [.sc (.int .i64)] → W R) (Q : R → World → Prop) (w : World) (h : F_pinnaceref05_Find l0 kind1 (fun r w => K r Q w) w) : callW Tryz.prog k_pinnaceref05_Find [.slice l0.a l0.n l0.c, .int .u8 kind1] [.sc (.int .i64)] K Q w :=
  den_calls mix Tryz.func41 H_pinnaceref05_Find (ts := [.sc (.int .i64)]) trivial (by rw [Tryz.ntmps41]; simp) (by rw [E_pinnaceref05_Find]; exact h)

/-! 44 pinnace/pinnaceref10.SameEnt -/
def F_pinnaceref10_SameEnt (a0 : (Int × Sl)) (b1 : (Int × Sl)) : W (Bool) :=
  newW 57 [.int .u32 a0.1, .slice a0.2.a a0.2.n a0.2.c] fun a_1 =>
  newW 57 [.int .u32 b1.1, .slice b1.2.a b1.2.n b1.2.c] fun b_2 =>
  joinW (σ := Bool) (fun J_3 =>
    ld (.sc (.int .u32)) (Addr.add a_1 0) fun (x_4 : Int) =>
    ld (.sc (.int .u32)) (Addr.add b_2 0) fun (x_5 : Int) =>
    cond (x_4 == x_5)
      (ld (.sc .sl) (Addr.add a_1 1) fun (x_6 : Sl) =>
        ld (.sc .sl) (Addr.add b_2 1) fun (x_7 : Sl) =>
            callW Tryz.prog k_pinnaceref05_Same [.slice x_6.a x_6.n x_6.c, .slice x_7.a x_7.n x_7.c] [.sc .bool] fun (x_8 : Bool) =>
              J_3 x_8)
      (J_3 false))
  <| fun s_9 =>
  retW s_9
def H_pinnaceref10_SameEnt : Hints := { reg := [(1, [(4, .sc .bool)])] }
theorem E_pinnaceref10_SameEnt (a0 : (Int × Sl)) (b1 : (Int × Sl)) : denF Tryz.prog H_pinnaceref10_SameEnt Tryz.f44 [.sc .bool] [.agg ⟨[.int .u32 a0.1, .slice a0.2.a a0.2.n a0.2.c]⟩, .agg ⟨[.int .u32 b1.1, .slice b1.2.a b1.2.n b1.2.c]⟩] = F_pinnaceref10_SameEnt a0 b1 := by kernel_rfl
theorem C_pinnaceref10_SameEnt {R : Type} (a0 : (Int × Sl)) (b1 : (Int × Sl)) (K : Res [.sc .bool] → W R) (Q : R → World → Prop) (w : World) (h : F_pinnaceref10_SameEnt a0 b1 (fun r w => K r Q w) w) : callW Tryz.prog k_pinnaceref10_SameEnt [.agg ⟨[.int .u32 a0.1, .slice a0.2.a a0.2.n a0.2.c]⟩, .agg ⟨[.int .u32 b1.1, .slice b1.2.a b1.2.n b1.2.c]⟩] [.sc .bool] K Q w :=
  den_calls mix Tryz.func44 H_pinnaceref10_SameEnt (ts := [.sc .bool]) trivial (by rw [Tryz.ntmps44]; simp) (by rw [E_pinnaceref10_SameEnt]; exact h)

/-! 59 pinnace/pinnaceref05.Mask -/
def F_pinnaceref05_Mask (l0 : Sl) : W (Int) :=
  loopW (σ := Int × Int) (fun K_1 s_2 =>
    cond (decide (s_2.2 < 6))
      (loopW (σ := Int × Int) (fun K_3 s_4 =>
      cond (decide (s_4.2 < (l0.n : Int)))
        (idxW l0.a l0.n 4 s_4.2 fun x_5 =>
      ld (.agg [.int .u8, .int .i32, .int .i32, .int .i32]) x_5 fun (x_6 : (Int × Int × Int × Int)) =>
      newW 92 [.int .u8 0, .int .i32 0, .int .i32 0, .int .i32 0] fun c_7 =>
      stoL c_7 [.int .u8 x_6.1, .int .i32 x_6.2.1, .int .i32 x_6.2.2.1, .int .i32 x_6.2.2.2] 0 <|
      joinW (σ := Bool) (fun J_8 =>
        ld (.sc (.int .u8)) (Addr.add c_7 0) fun (x_9 : Int) =>
        cond (x_9 == s_2.2)
          (chkW (0 ≤ s_2.2) <|
              J_8 ((Int.tmod (shR .u8 s_4.1 s_2.2) 2) == 0))
          (J_8 false))
      <| fun s_10 =>
      joinW (σ := Int) (fun J_11 =>
        cond s_10
          (chkW (0 ≤ s_2.2) <|
          J_11 (IntKind.wrap .u8 (s_4.1 + (shL .u8 1 s_2.2))))
          (J_11 s_4.1))
      <| fun s_12 =>
      K_3 (s_12, IntKind.wrap .i64 (s_4.2 + 1)))
        (K_1 (s_4.1, IntKind.wrap .u8 (s_2.2 + 1))))
      (s_2.1, 0))
      (retW s_2.1))
    (0, 0)
def H_pinnaceref05_Mask : Hints := { reg := [(8, [(26, .sc .bool)])], con := [(10026, [(3, .sc (.int .u8))])], lop := [(0, [(3, .sc (.int .u8)), (7, .sc (.int .u8))]), (2, [(3, .sc (.int .u8)), (12, .sc (.int .i64))])] }
theorem E_pinnaceref05_Mask (l0 : Sl) : denF Tryz.prog H_pinnaceref05_Mask Tryz.f59 [.sc (.int .u8)] [.slice l0.a l0.n l0.c] = F_pinnaceref05_Mask l0 := by kernel_rfl
theorem C_pinnaceref05_Mask {R : Type} (l0 : Sl) (K : Res [.sc (.int .u8)] → W R) (Q : R → World → Prop) (w : World) (h : F_pinnaceref05_Mask l0 (fun r w => K r Q w) w) : callW Tryz.prog k_pinnaceref05_Mask [.slice l0.a l0.n l0.c] [.sc (.int .u8)] K Q w :=
  den_calls mix Tryz.func59 H_pinnaceref05_Mask (ts := [.sc (.int .u8)]) trivial (by rw [Tryz.ntmps59]; simp) (by rw [E_pinnaceref05_Mask]; exact h)

/-! 76 pinnace/pinnaceref07.Gen -/
def F_pinnaceref07_Gen (id0 : Int) : W (Int) :=
  retW (IntKind.wrap .i64 (Int.tdiv (IntKind.wrap .i64 id0) 1024))
def H_pinnaceref07_Gen : Hints := {}
theorem E_pinnaceref07_Gen (id0 : Int) : denF Tryz.prog H_pinnaceref07_Gen Tryz.f76 [.sc (.int .i64)] [.int .u32 id0] = F_pinnaceref07_Gen id0 := by kernel_rfl
theorem C_pinnaceref07_Gen {R : Type} (id0 : Int) (K : Res [.sc (.int .i64)] → W R) (Q : R → World → Prop) (w : World) (h : F_pinnaceref07_Gen id0 (fun r w => K r Q w) w) : callW Tryz.prog k_pinnaceref07_Gen [.int .u32 id0] [.sc (.int .i64)] K Q w :=
  den_calls mix Tryz.func76 H_pinnaceref07_Gen (ts := [.sc (.int .i64)]) trivial (by rw [Tryz.ntmps76]; simp) (by rw [E_pinnaceref07_Gen]; exact h)

/-! 77 pinnace/pinnaceref05.List -/
def F_pinnaceref05_List (l0 : Sl) : W (Int) :=
  loopW (σ := Int × Int) (fun K_1 s_2 =>
    cond (decide (s_2.2 < (l0.n : Int)))
      (idxW l0.a l0.n 4 s_2.2 fun x_3 =>
    ld (.agg [.int .u8, .int .i32, .int .i32, .int .i32]) x_3 fun (x_4 : (Int × Int × Int × Int)) =>
    newW 92 [.int .u8 0, .int .i32 0, .int .i32 0, .int .i32 0] fun c_5 =>
    stoL c_5 [.int .u8 x_4.1, .int .i32 x_4.2.1, .int .i32 x_4.2.2.1, .int .i32 x_4.2.2.2] 0 <|
    ld (.agg [.int .u8, .int .i32, .int .i32, .int .i32]) c_5 fun (x_6 : (Int × Int × Int × Int)) =>
    callW Tryz.prog k_pinnaceref05_Check [.agg ⟨[.int .u8 x_6.1, .int .i32 x_6.2.1, .int .i32 x_6.2.2.1, .int .i32 x_6.2.2.2]⟩] [.sc (.int .i64)] fun (x_7 : Int) =>
    cond (x_7 != 0)
      (retW x_7)
      (ld (.sc (.int .u8)) (Addr.add c_5 0) fun (x_8 : Int) =>
    cond (decide ((IntKind.wrap .i64 x_8) ≤ s_2.1))
      (retW 4)
      (ld (.sc (.int .u8)) (Addr.add c_5 0) fun (x_9 : Int) =>
    K_1 (IntKind.wrap .i64 x_9, IntKind.wrap .i64 (s_2.2 + 1)))))
      (retW 0))
    ((-1), 0)
def H_pinnaceref05_List : Hints := { lop := [(0, [(3, .sc (.int .i64)), (9, .sc (.int .i64))])] }
theorem E_pinnaceref05_List (l0 : Sl) : denF Tryz.prog H_pinnaceref05_List Tryz.f77 [.sc (.int .i64)] [.slice l0.a l0.n l0.c] = F_pinnaceref05_List l0 := by kernel_rfl
theorem C_pinnaceref05_List {R : Type} (l0 : Sl) (K : Res [.sc (.int .i64)] → W R) (Q : R → World → Prop) (w : World) (h : F_pinnaceref05_List l0 (fun r w => K r Q w) w) : callW Tryz.prog k_pinnaceref05_List [.slice l0.a l0.n l0.c] [.sc (.int .i64)] K Q w :=
  den_calls mix Tryz.func77 H_pinnaceref05_List (ts := [.sc (.int .i64)]) trivial (by rw [Tryz.ntmps77]; simp) (by rw [E_pinnaceref05_List]; exact h)

/-! 78 pinnace/pinnaceref05.Told -/
def F_pinnaceref05_Told (kind0 : Int) : W (Bool) :=
  retW (decide (kind0 < 5))
def H_pinnaceref05_Told : Hints := {}
theorem E_pinnaceref05_Told (kind0 : Int) : denF Tryz.prog H_pinnaceref05_Told Tryz.f78 [.sc .bool] [.int .u8 kind0] = F_pinnaceref05_Told kind0 := by kernel_rfl
theorem C_pinnaceref05_Told {R : Type} (kind0 : Int) (K : Res [.sc .bool] → W R) (Q : R → World → Prop) (w : World) (h : F_pinnaceref05_Told kind0 (fun r w => K r Q w) w) : callW Tryz.prog k_pinnaceref05_Told [.int .u8 kind0] [.sc .bool] K Q w :=
  den_calls mix Tryz.func78 H_pinnaceref05_Told (ts := [.sc .bool]) trivial (by rw [Tryz.ntmps78]; simp) (by rw [E_pinnaceref05_Told]; exact h)

/-! 82 pinnace/pinnaceref05.Check -/
def F_pinnaceref05_Check (c0 : (Int × Int × Int × Int)) : W (Int) :=
  newW 92 [.int .u8 c0.1, .int .i32 c0.2.1, .int .i32 c0.2.2.1, .int .i32 c0.2.2.2] fun c_1 =>
  ld (.sc (.int .u8)) (Addr.add c_1 0) fun (x_2 : Int) =>
  callW Tryz.prog k_pinnaceref05_Count [.int .u8 x_2] [.sc (.int .i64)] fun (x_3 : Int) =>
  cond (x_3 == 0)
    (retW 1)
    (loopW (σ := Int) (fun K_4 s_5 =>
    cond (decide (s_5 < 3))
      (idxW (some (Addr.add c_1 1)) 3 1 s_5 fun x_6 =>
    ld (.sc (.int .i32)) x_6 fun (x_7 : Int) =>
    cond (x_7 != 0)
      (retW 4)
      (K_4 (IntKind.wrap .i64 (s_5 + 1))))
      (loopW (σ := Int) (fun K_8 s_9 =>
    cond (decide (s_9 < x_3))
      (ld (.sc (.int .u8)) (Addr.add c_1 0) fun (x_10 : Int) =>
    callW Tryz.prog k_pinnaceref05_Range [.int .u8 x_10, .int .i64 s_9] [.sc (.int .i32), .sc (.int .i32), .sc (.int .i64)] fun (x_11 : Int × Int × Int) =>
    joinW (σ := Bool) (fun J_12 =>
      idxW (some (Addr.add c_1 1)) 3 1 s_9 fun x_13 =>
      ld (.sc (.int .i32)) x_13 fun (x_14 : Int) =>
      cond (decide (x_14 < x_11.1))
        (J_12 true)
        (idxW (some (Addr.add c_1 1)) 3 1 s_9 fun x_15 =>
            ld (.sc (.int .i32)) x_15 fun (x_16 : Int) =>
              J_12 (decide (x_16 > x_11.2.1))))
    <| fun s_17 =>
    cond s_17
      (retW 5)
      (K_8 (IntKind.wrap .i64 (s_9 + 1))))
      (retW 0))
    0))
    x_3)
def H_pinnaceref05_Check : Hints := { reg := [(13, [(49, .sc .bool)])], lop := [(0, [(4, .sc (.int .i64))]), (2, [(25, .sc (.int .i64))])] }
theorem E_pinnaceref05_Check (c0 : (Int × Int × Int × Int)) : denF Tryz.prog H_pinnaceref05_Check Tryz.f82 [.sc (.int .i64)] [.agg ⟨[.int .u8 c0.1, .int .i32 c0.2.1, .int .i32 c0.2.2.1, .int .i32 c0.2.2.2]⟩] = F_pinnaceref05_Check c0 := by kernel_rfl
theorem C_pinnaceref05_Check {R : Type} (c0 : (Int × Int × Int × Int)) (K : Res [.sc (.int .i64)] → W R) (Q : R → World → Prop) (w : World) (h : F_pinnaceref05_Check c0 (fun r w => K r Q w) w) : callW Tryz.prog k_pinnaceref05_Check [.agg ⟨[.int .u8 c0.1, .int .i32 c0.2.1, .int .i32 c0.2.2.1, .int .i32 c0.2.2.2]⟩] [.sc (.int .i64)] K Q w :=
  den_calls mix Tryz.func82 H_pinnaceref05_Check (ts := [.sc (.int .i64)]) trivial (by rw [Tryz.ntmps82]; simp) (by rw [E_pinnaceref05_Check]; exact h)

/-! 83 pinnace/pinnaceref05.Count -/
def F_pinnaceref05_Count (kind0 : Int) : W (Int) :=
  cond (decide (kind0 > 5))
    (retW 0)
    (newW 3 [.int .i64 2, .int .i64 2, .int .i64 1, .int .i64 3, .int .i64 3, .int .i64 3] fun x_1 =>
  idxW (some x_1) 6 1 kind0 fun x_2 =>
  ld (.sc (.int .i64)) x_2 fun (x_3 : Int) =>
  retW x_3)
def H_pinnaceref05_Count : Hints := {}
theorem E_pinnaceref05_Count (kind0 : Int) : denF Tryz.prog H_pinnaceref05_Count Tryz.f83 [.sc (.int .i64)] [.int .u8 kind0] = F_pinnaceref05_Count kind0 := by kernel_rfl
theorem C_pinnaceref05_Count {R : Type} (kind0 : Int) (K : Res [.sc (.int .i64)] → W R) (Q : R → World → Prop) (w : World) (h : F_pinnaceref05_Count kind0 (fun r w => K r Q w) w) : callW Tryz.prog k_pinnaceref05_Count [.int .u8 kind0] [.sc (.int .i64)] K Q w :=
  den_calls mix Tryz.func83 H_pinnaceref05_Count (ts := [.sc (.int .i64)]) trivial (by rw [Tryz.ntmps83]; simp) (by rw [E_pinnaceref05_Count]; exact h)

/-! 84 pinnace/pinnaceref05.Range -/
def F_pinnaceref05_Range (kind0 : Int) (i1 : Int) : W (Int × Int × Int) :=
  joinW (σ := Bool) (fun J_1 =>
    cond (decide (i1 < 0))
      (J_1 true)
      (callW Tryz.prog k_pinnaceref05_Count [.int .u8 kind0] [.sc (.int .i64)] fun (x_2 : Int) =>
          J_1 (decide (i1 ≥ x_2))))
  <| fun s_3 =>
  cond s_3
    (retW (0, 0, 1))
    (newW 21 [.int .i32 (-524288), .int .i32 (-524288)] fun x_4 =>
  newW 21 [.int .i32 (-32768), .int .i32 (-32768)] fun x_5 =>
  newW 21 [.int .i32 0] fun x_6 =>
  newW 21 [.int .i32 0, .int .i32 0, .int .i32 1] fun x_7 =>
  newW 21 [.int .i32 0, .int .i32 0, .int .i32 0] fun x_8 =>
  newW 21 [.int .i32 1, .int .i32 0, .int .i32 0] fun x_9 =>
  newW 191 [.slice (some x_4) 2 2, .slice (some x_5) 2 2, .slice (some x_6) 1 1, .slice (some x_7) 3 3, .slice (some x_8) 3 3, .slice (some x_9) 3 3] fun x_10 =>
  idxW (some x_10) 6 1 kind0 fun x_11 =>
  ld (.sc .sl) x_11 fun (x_12 : Sl) =>
  idxW x_12.a x_12.n 1 i1 fun x_13 =>
  ld (.sc (.int .i32)) x_13 fun (x_14 : Int) =>
  newW 21 [.int .i32 524287, .int .i32 524287] fun x_15 =>
  newW 21 [.int .i32 32767, .int .i32 32767] fun x_16 =>
  newW 21 [.int .i32 4095] fun x_17 =>
  newW 21 [.int .i32 15, .int .i32 1000, .int .i32 100] fun x_18 =>
  newW 21 [.int .i32 7, .int .i32 255, .int .i32 31] fun x_19 =>
  newW 21 [.int .i32 255, .int .i32 254, .int .i32 15] fun x_20 =>
  newW 191 [.slice (some x_15) 2 2, .slice (some x_16) 2 2, .slice (some x_17) 1 1, .slice (some x_18) 3 3, .slice (some x_19) 3 3, .slice (some x_20) 3 3] fun x_21 =>
  idxW (some x_21) 6 1 kind0 fun x_22 =>
  ld (.sc .sl) x_22 fun (x_23 : Sl) =>
  idxW x_23.a x_23.n 1 i1 fun x_24 =>
  ld (.sc (.int .i32)) x_24 fun (x_25 : Int) =>
  retW (x_14, x_25, 0))
def H_pinnaceref05_Range : Hints := { reg := [(1, [(16, .sc .bool)])] }
theorem E_pinnaceref05_Range (kind0 : Int) (i1 : Int) : denF Tryz.prog H_pinnaceref05_Range Tryz.f84 [.sc (.int .i32), .sc (.int .i32), .sc (.int .i64)] [.int .u8 kind0, .int .i64 i1] = F_pinnaceref05_Range kind0 i1 := by kernel_rfl
theorem C_pinnaceref05_Range {R : Type} (kind0 : Int) (i1 : Int) (K : Res [.sc (.int .i32), .sc (.int .i32), .sc (.int .i64)] → W R) (Q : R → World → Prop) (w : World) (h : F_pinnaceref05_Range kind0 i1 (fun r w => K r Q w) w) : callW Tryz.prog k_pinnaceref05_Range [.int .u8 kind0, .int .i64 i1] [.sc (.int .i32), .sc (.int .i32), .sc (.int .i64)] K Q w :=
  den_calls mix Tryz.func84 H_pinnaceref05_Range (ts := [.sc (.int .i32), .sc (.int .i32), .sc (.int .i64)]) trivial (by rw [Tryz.ntmps84]; simp) (by rw [E_pinnaceref05_Range]; exact h)

/-! 87 pinnace/pinnaceref05.Without -/
def F_pinnaceref05_Without (l0 : Sl) (kind1 : Int) : W (Sl) :=
  loopW (σ := Sl × Int) (fun K_1 s_2 =>
    cond (decide (s_2.2 < (l0.n : Int)))
      (idxW l0.a l0.n 4 s_2.2 fun x_3 =>
    ld (.agg [.int .u8, .int .i32, .int .i32, .int .i32]) x_3 fun (x_4 : (Int × Int × Int × Int)) =>
    newW 92 [.int .u8 0, .int .i32 0, .int .i32 0, .int .i32 0] fun x_5 =>
    stoL x_5 [.int .u8 x_4.1, .int .i32 x_4.2.1, .int .i32 x_4.2.2.1, .int .i32 x_4.2.2.2] 0 <|
    ld (.sc (.int .u8)) (Addr.add x_5 0) fun (x_6 : Int) =>
    joinW (σ := Sl) (fun J_7 =>
      cond (x_6 != kind1)
        (ld (.agg [.int .u8, .int .i32, .int .i32, .int .i32]) x_5 fun (x_8 : (Int × Int × Int × Int)) =>
        newW 92 [.int .u8 x_8.1, .int .i32 x_8.2.1, .int .i32 x_8.2.2.1, .int .i32 x_8.2.2.2] fun x_9 =>
        rawW Tryz.prog (Builtin.append_ #[55, 55] 55 #[.slice s_2.1.a s_2.1.n s_2.1.c, .slice (some x_9) 1 1]) [.sc .sl] fun (x_10 : Sl) =>
        J_7 x_10)
        (J_7 s_2.1))
    <| fun s_11 =>
    K_1 (s_11, IntKind.wrap .i64 (s_2.2 + 1)))
      (retW s_2.1))
    ((⟨none, 0, 0⟩ : Sl), 0)
def H_pinnaceref05_Without : Hints := { con := [(7017, [(5, .sc .sl)])], lop := [(0, [(5, .sc .sl), (10, .sc (.int .i64))])] }
theorem E_pinnaceref05_Without (l0 : Sl) (kind1 : Int) : denF Tryz.prog H_pinnaceref05_Without Tryz.f87 [.sc .sl] [.slice l0.a l0.n l0.c, .int .u8 kind1] = F_pinnaceref05_Without l0 kind1 := by kernel_rfl
theorem C_pinnaceref05_Without {R : Type} (l0 : Sl) (kind1 : Int) (K : Res [.sc .sl] → W R) (Q : R → World → Prop) (w : World) (h : F_pinnaceref05_Without l0 kind1 (fun r w => K r Q w) w) : callW Tryz.prog k_pinnaceref05_Without [.slice l0.a l0.n l0.c, .int .u8 kind1] [.sc .sl] K Q w :=
  den_calls mix Tryz.func87 H_pinnaceref05_Without (ts := [.sc .sl]) trivial (by rw [Tryz.ntmps87]; simp) (by rw [E_pinnaceref05_Without]; exact h)

/-! 88 pinnace/pinnaceref05.With -/
def F_pinnaceref05_With (l0 : Sl) (c1 : (Int × Int × Int × Int)) : W (Sl) :=
  newW 92 [.int .u8 c1.1, .int .i32 c1.2.1, .int .i32 c1.2.2.1, .int .i32 c1.2.2.2] fun c_1 =>
  loopW (σ := Sl × Bool × Int) (fun K_2 s_3 =>
    cond (decide (s_3.2.2 < (l0.n : Int)))
      (idxW l0.a l0.n 4 s_3.2.2 fun x_4 =>
    ld (.agg [.int .u8, .int .i32, .int .i32, .int .i32]) x_4 fun (x_5 : (Int × Int × Int × Int)) =>
    newW 92 [.int .u8 0, .int .i32 0, .int .i32 0, .int .i32 0] fun x_6 =>
    stoL x_6 [.int .u8 x_5.1, .int .i32 x_5.2.1, .int .i32 x_5.2.2.1, .int .i32 x_5.2.2.2] 0 <|
    joinW (σ := Bool) (fun J_7 =>
      cond (!s_3.2.1)
        (ld (.sc (.int .u8)) (Addr.add x_6 0) fun (x_8 : Int) =>
          ld (.sc (.int .u8)) (Addr.add c_1 0) fun (x_9 : Int) =>
              J_7 (decide (x_8 ≥ x_9)))
        (J_7 false))
    <| fun s_10 =>
    joinW (σ := Sl × Bool) (fun J_11 =>
      cond s_10
        (ld (.agg [.int .u8, .int .i32, .int .i32, .int .i32]) c_1 fun (x_12 : (Int × Int × Int × Int)) =>
        newW 92 [.int .u8 x_12.1, .int .i32 x_12.2.1, .int .i32 x_12.2.2.1, .int .i32 x_12.2.2.2] fun x_13 =>
        rawW Tryz.prog (Builtin.append_ #[55, 55] 55 #[.slice s_3.1.a s_3.1.n s_3.1.c, .slice (some x_13) 1 1]) [.sc .sl] fun (x_14 : Sl) =>
        J_11 (x_14, true))
        (J_11 (s_3.1, s_3.2.1)))
    <| fun s_15 =>
    ld (.sc (.int .u8)) (Addr.add x_6 0) fun (x_16 : Int) =>
    ld (.sc (.int .u8)) (Addr.add c_1 0) fun (x_17 : Int) =>
    joinW (σ := Sl) (fun J_18 =>
      cond (x_16 != x_17)
        (ld (.agg [.int .u8, .int .i32, .int .i32, .int .i32]) x_6 fun (x_19 : (Int × Int × Int × Int)) =>
        newW 92 [.int .u8 x_19.1, .int .i32 x_19.2.1, .int .i32 x_19.2.2.1, .int .i32 x_19.2.2.2] fun x_20 =>
        rawW Tryz.prog (Builtin.append_ #[55, 55] 55 #[.slice s_15.1.a s_15.1.n s_15.1.c, .slice (some x_20) 1 1]) [.sc .sl] fun (x_21 : Sl) =>
        J_18 x_21)
        (J_18 s_15.1))
    <| fun s_22 =>
    K_2 (s_22, s_15.2, IntKind.wrap .i64 (s_3.2.2 + 1)))
      (joinW (σ := Sl) (fun J_23 =>
    cond (!s_3.2.1)
      (ld (.agg [.int .u8, .int .i32, .int .i32, .int .i32]) c_1 fun (x_24 : (Int × Int × Int × Int)) =>
      newW 92 [.int .u8 x_24.1, .int .i32 x_24.2.1, .int .i32 x_24.2.2.1, .int .i32 x_24.2.2.2] fun x_25 =>
      rawW Tryz.prog (Builtin.append_ #[55, 55] 55 #[.slice s_3.1.a s_3.1.n s_3.1.c, .slice (some x_25) 1 1]) [.sc .sl] fun (x_26 : Sl) =>
      J_23 x_26)
      (J_23 s_3.1))
  <| fun s_27 =>
  retW s_27))
    ((⟨none, 0, 0⟩ : Sl), false, 0)
def H_pinnaceref05_With : Hints := { reg := [(6, [(23, .sc .bool)])], con := [(8023, [(5, .sc .sl), (6, .sc .bool)]), (11032, [(5, .sc .sl)]), (14039, [(5, .sc .sl)])], lop := [(0, [(5, .sc .sl), (6, .sc .bool), (11, .sc (.int .i64))])] }
theorem E_pinnaceref05_With (l0 : Sl) (c1 : (Int × Int × Int × Int)) : denF Tryz.prog H_pinnaceref05_With Tryz.f88 [.sc .sl] [.slice l0.a l0.n l0.c, .agg ⟨[.int .u8 c1.1, .int .i32 c1.2.1, .int .i32 c1.2.2.1, .int .i32 c1.2.2.2]⟩] = F_pinnaceref05_With l0 c1 := by kernel_rfl
theorem C_pinnaceref05_With {R : Type} (l0 : Sl) (c1 : (Int × Int × Int × Int)) (K : Res [.sc .sl] → W R) (Q : R → World → Prop) (w : World) (h : F_pinnaceref05_With l0 c1 (fun r w => K r Q w) w) : callW Tryz.prog k_pinnaceref05_With [.slice l0.a l0.n l0.c, .agg ⟨[.int .u8 c1.1, .int .i32 c1.2.1, .int .i32 c1.2.2.1, .int .i32 c1.2.2.2]⟩] [.sc .sl] K Q w :=
  den_calls mix Tryz.func88 H_pinnaceref05_With (ts := [.sc .sl]) trivial (by rw [Tryz.ntmps88]; simp) (by rw [E_pinnaceref05_With]; exact h)

/-! 90 pinnace/pinnaceref05.Same -/
def F_pinnaceref05_Same (a0 : Sl) (b1 : Sl) : W (Bool) :=
  cond ((a0.n : Int) != (b1.n : Int))
    (retW false)
    (loopW (σ := Int) (fun K_1 s_2 =>
    cond (decide (s_2 < (a0.n : Int)))
      (drawW <|
    idxW a0.a a0.n 4 s_2 fun x_3 =>
    ld (.agg [.int .u8, .int .i32, .int .i32, .int .i32]) x_3 fun (x_4 : (Int × Int × Int × Int)) =>
    idxW b1.a b1.n 4 s_2 fun x_5 =>
    ld (.agg [.int .u8, .int .i32, .int .i32, .int .i32]) x_5 fun (x_6 : (Int × Int × Int × Int)) =>
    rawQ Tryz.prog (do Go.eqGuard .neq 92 (.tmp 19) (.tmp 23) (.agg ⟨[.int .u8 x_4.1, .int .i32 x_4.2.1, .int .i32 x_4.2.2.1, .int .i32 x_4.2.2.2]⟩) (.agg ⟨[.int .u8 x_6.1, .int .i32 x_6.2.1, .int .i32 x_6.2.2.1, .int .i32 x_6.2.2.2]⟩); Go.binOp .neq 92 (.agg ⟨[.int .u8 x_4.1, .int .i32 x_4.2.1, .int .i32 x_4.2.2.1, .int .i32 x_4.2.2.2]⟩) (.agg ⟨[.int .u8 x_6.1, .int .i32 x_6.2.1, .int .i32 x_6.2.2.1, .int .i32 x_6.2.2.2]⟩)) [.sc .bool] fun (x_7 : Bool) =>
    cond x_7
      (retW false)
      (K_1 (IntKind.wrap .i64 (s_2 + 1))))
      (retW true))
    0)
def H_pinnaceref05_Same : Hints := { lop := [(0, [(13, .sc (.int .i64))])], dr := [(6, ([], [[(0, []), (1, []), (2, []), (3, []), (4, []), (5, []), (6, []), (7, []), (8, [])]]))] }
theorem E_pinnaceref05_Same (a0 : Sl) (b1 : Sl) : denF Tryz.prog H_pinnaceref05_Same Tryz.f90 [.sc .bool] [.slice a0.a a0.n a0.c, .slice b1.a b1.n b1.c] = F_pinnaceref05_Same a0 b1 := by kernel_rfl
theorem C_pinnaceref05_Same {R : Type} (a0 : Sl) (b1 : Sl) (K : Res [.sc .bool] → W R) (Q : R → World → Prop) (w : World) (h : F_pinnaceref05_Same a0 b1 (fun r w => K r Q w) w) : callW Tryz.prog k_pinnaceref05_Same [.slice a0.a a0.n a0.c, .slice b1.a b1.n b1.c] [.sc .bool] K Q w :=
  den_calls mix Tryz.func90 H_pinnaceref05_Same (ts := [.sc .bool]) trivial (by rw [Tryz.ntmps90]; simp) (by rw [E_pinnaceref05_Same]; exact h)

/-! 96 pinnace/schema.Mask -/
def F_schema_Mask (l0 : Sl) : W (Int) :=
  loopW (σ := Int × Int) (fun K_1 s_2 =>
    cond (decide (s_2.2 < (l0.n : Int)))
      (idxW l0.a l0.n 4 s_2.2 fun x_3 =>
    ld (.agg [.int .u8, .int .i32, .int .i32, .int .i32]) x_3 fun (x_4 : (Int × Int × Int × Int)) =>
    newW 92 [.int .u8 0, .int .i32 0, .int .i32 0, .int .i32 0] fun c_5 =>
    stoL c_5 [.int .u8 x_4.1, .int .i32 x_4.2.1, .int .i32 x_4.2.2.1, .int .i32 x_4.2.2.2] 0 <|
    ld (.sc (.int .u8)) (Addr.add c_5 0) fun (x_6 : Int) =>
    joinW (σ := Int) (fun J_7 =>
      cond (decide (x_6 < 6))
        (ld (.sc (.int .u8)) (Addr.add c_5 0) fun (x_8 : Int) =>
        chkW (0 ≤ x_8) <|
        J_7 (bOr .u8 s_2.1 (shL .u8 1 x_8)))
        (J_7 s_2.1))
    <| fun s_9 =>
    K_1 (s_9, IntKind.wrap .i64 (s_2.2 + 1)))
      (retW s_2.1))
    (0, 0)
def H_schema_Mask : Hints := { con := [(7014, [(3, .sc (.int .u8))])], lop := [(0, [(3, .sc (.int .u8)), (8, .sc (.int .i64))])] }
theorem E_schema_Mask (l0 : Sl) : denF Tryz.prog H_schema_Mask Tryz.f96 [.sc (.int .u8)] [.slice l0.a l0.n l0.c] = F_schema_Mask l0 := by kernel_rfl
theorem C_schema_Mask {R : Type} (l0 : Sl) (K : Res [.sc (.int .u8)] → W R) (Q : R → World → Prop) (w : World) (h : F_schema_Mask l0 (fun r w => K r Q w) w) : callW Tryz.prog k_schema_Mask [.slice l0.a l0.n l0.c] [.sc (.int .u8)] K Q w :=
  den_calls mix Tryz.func96 H_schema_Mask (ts := [.sc (.int .u8)]) trivial (by rw [Tryz.ntmps96]; simp) (by rw [E_schema_Mask]; exact h)

/-! 98 slices.Clone[[]pinnace/api.Comp,pinnace/api.Comp] -/
def F_slices_Clone_Comp (s0 : Sl) : W (Sl) :=
  cond (Option.isNone s0.a)
    (retW (⟨none, 0, 0⟩ : Sl))
    (newW 92 [] fun x_1 =>
  rawW Tryz.prog (Builtin.append_ #[55, 55] 55 #[.slice (some x_1) 0 0, .slice s0.a s0.n s0.c]) [.sc .sl] fun (x_2 : Sl) =>
  retW x_2)
def H_slices_Clone_Comp : Hints := {}
theorem E_slices_Clone_Comp (s0 : Sl) : denF Tryz.prog H_slices_Clone_Comp Tryz.f98 [.sc .sl] [.slice s0.a s0.n s0.c] = F_slices_Clone_Comp s0 := by kernel_rfl
theorem C_slices_Clone_Comp {R : Type} (s0 : Sl) (K : Res [.sc .sl] → W R) (Q : R → World → Prop) (w : World) (h : F_slices_Clone_Comp s0 (fun r w => K r Q w) w) : callW Tryz.prog k_slices_Clone_Comp [.slice s0.a s0.n s0.c] [.sc .sl] K Q w :=
  den_calls mix Tryz.func98 H_slices_Clone_Comp (ts := [.sc .sl]) trivial (by rw [Tryz.ntmps98]; simp) (by rw [E_slices_Clone_Comp]; exact h)

/-! 110 pinnace/slots.Gen -/
def F_slots_Gen (id0 : Int) : W (Int) :=
  retW (IntKind.wrap .i64 (IntKind.wrap .u32 (Int.tdiv id0 1024)))
def H_slots_Gen : Hints := {}
theorem E_slots_Gen (id0 : Int) : denF Tryz.prog H_slots_Gen Tryz.f110 [.sc (.int .i64)] [.int .u32 id0] = F_slots_Gen id0 := by kernel_rfl
theorem C_slots_Gen {R : Type} (id0 : Int) (K : Res [.sc (.int .i64)] → W R) (Q : R → World → Prop) (w : World) (h : F_slots_Gen id0 (fun r w => K r Q w) w) : callW Tryz.prog k_slots_Gen [.int .u32 id0] [.sc (.int .i64)] K Q w :=
  den_calls mix Tryz.func110 H_slots_Gen (ts := [.sc (.int .i64)]) trivial (by rw [Tryz.ntmps110]; simp) (by rw [E_slots_Gen]; exact h)

/-! 111 pinnace/schema.List -/
def F_schema_List (l0 : Sl) : W (Int) :=
  loopW (σ := Int) (fun K_1 s_2 =>
    cond (decide (s_2 < (l0.n : Int)))
      (idxW l0.a l0.n 4 s_2 fun x_3 =>
    ld (.agg [.int .u8, .int .i32, .int .i32, .int .i32]) x_3 fun (x_4 : (Int × Int × Int × Int)) =>
    newW 92 [.int .u8 0, .int .i32 0, .int .i32 0, .int .i32 0] fun c_5 =>
    stoL c_5 [.int .u8 x_4.1, .int .i32 x_4.2.1, .int .i32 x_4.2.2.1, .int .i32 x_4.2.2.2] 0 <|
    ld (.agg [.int .u8, .int .i32, .int .i32, .int .i32]) c_5 fun (x_6 : (Int × Int × Int × Int)) =>
    callW Tryz.prog k_schema_Check [.agg ⟨[.int .u8 x_6.1, .int .i32 x_6.2.1, .int .i32 x_6.2.2.1, .int .i32 x_6.2.2.2]⟩] [.sc (.int .i64)] fun (x_7 : Int) =>
    cond (x_7 != 0)
      (retW x_7)
      (joinW (σ := Bool) (fun J_8 =>
      drawW <|
      cond (decide (s_2 > 0))
        (ld (.sc (.int .u8)) (Addr.add c_5 0) fun (x_9 : Int) =>
          idxW l0.a l0.n 4 (IntKind.wrap .i64 (s_2 - 1)) fun x_10 =>
                  ld (.sc (.int .u8)) (Addr.add x_10 0) fun (x_11 : Int) =>
                      J_8 (decide (x_9 ≤ x_11)))
        (J_8 false))
    <| fun s_12 =>
    cond s_12
      (retW 4)
      (K_1 (IntKind.wrap .i64 (s_2 + 1)))))
      (retW 0))
    0
def H_schema_List : Hints := { reg := [(7, [(30, .sc .bool)])], lop := [(0, [(8, .sc (.int .i64))])], dr := [(7, ([], [[(0, []), (1, []), (2, []), (3, []), (4, []), (5, []), (6, []), (7, []), (8, []), (9, []), (10, []), (11, []), (12, [])]]))] }
theorem E_schema_List (l0 : Sl) : denF Tryz.prog H_schema_List Tryz.f111 [.sc (.int .i64)] [.slice l0.a l0.n l0.c] = F_schema_List l0 := by kernel_rfl
theorem C_schema_List {R : Type} (l0 : Sl) (K : Res [.sc (.int .i64)] → W R) (Q : R → World → Prop) (w : World) (h : F_schema_List l0 (fun r w => K r Q w) w) : callW Tryz.prog k_schema_List [.slice l0.a l0.n l0.c] [.sc (.int .i64)] K Q w :=
  den_calls mix Tryz.func111 H_schema_List (ts := [.sc (.int .i64)]) trivial (by rw [Tryz.ntmps111]; simp) (by rw [E_schema_List]; exact h)

/-! 113 pinnace/schema.Told -/
def F_schema_Told (k0 : Int) : W (Bool) :=
  callW Tryz.prog k_schema_of [.int .u8 k0] [.agg [.str, .bool, .sl]] fun (x_1 : (ByteArray × Bool × Sl)) =>
  retW x_1.2.1
def H_schema_Told : Hints := {}
theorem E_schema_Told (k0 : Int) : denF Tryz.prog H_schema_Told Tryz.f113 [.sc .bool] [.int .u8 k0] = F_schema_Told k0 := by kernel_rfl
theorem C_schema_Told {R : Type} (k0 : Int) (K : Res [.sc .bool] → W R) (Q : R → World → Prop) (w : World) (h : F_schema_Told k0 (fun r w => K r Q w) w) : callW Tryz.prog k_schema_Told [.int .u8 k0] [.sc .bool] K Q w :=
  den_calls mix Tryz.func113 H_schema_Told (ts := [.sc .bool]) trivial (by rw [Tryz.ntmps113]; simp) (by rw [E_schema_Told]; exact h)

/-! 116 slices.Contains[[]pinnace/api.ID,pinnace/api.ID] -/
def F_slices_Contains_ID (s0 : Sl) (v1 : Int) : W (Bool) :=
  callW Tryz.prog k_slices_Index_ID [.slice s0.a s0.n s0.c, .int .u32 v1] [.sc (.int .i64)] fun (x_1 : Int) =>
  retW (decide (x_1 ≥ 0))
def H_slices_Contains_ID : Hints := {}
theorem E_slices_Contains_ID (s0 : Sl) (v1 : Int) : denF Tryz.prog H_slices_Contains_ID Tryz.f116 [.sc .bool] [.slice s0.a s0.n s0.c, .int .u32 v1] = F_slices_Contains_ID s0 v1 := by kernel_rfl
theorem C_slices_Contains_ID {R : Type} (s0 : Sl) (v1 : Int) (K : Res [.sc .bool] → W R) (Q : R → World → Prop) (w : World) (h : F_slices_Contains_ID s0 v1 (fun r w => K r Q w) w) : callW Tryz.prog k_slices_Contains_ID [.slice s0.a s0.n s0.c, .int .u32 v1] [.sc .bool] K Q w :=
  den_calls mix Tryz.func116 H_slices_Contains_ID (ts := [.sc .bool]) trivial (by rw [Tryz.ntmps116]; simp) (by rw [E_slices_Contains_ID]; exact h)

/-! 129 pinnace/pinnaceref07.Same -/
def F_pinnaceref07_Same (a0 : Sl) (b1 : Sl) : W (Bool) :=
  cond ((a0.n : Int) != (b1.n : Int))
    (retW false)
    (loopW (σ := Int) (fun K_1 s_2 =>
    cond (decide (s_2 < (a0.n : Int)))
      (drawW <|
    idxW a0.a a0.n 1 s_2 fun x_3 =>
    ld (.sc (.int .u32)) x_3 fun (x_4 : Int) =>
    idxW b1.a b1.n 1 s_2 fun x_5 =>
    ld (.sc (.int .u32)) x_5 fun (x_6 : Int) =>
    cond (x_4 != x_6)
      (retW false)
      (K_1 (IntKind.wrap .i64 (s_2 + 1))))
      (retW true))
    0)
def H_pinnaceref07_Same : Hints := { lop := [(0, [(13, .sc (.int .i64))])], dr := [(6, ([], [[(0, []), (1, []), (2, []), (3, []), (4, []), (5, []), (6, []), (7, []), (8, [])]]))] }
theorem E_pinnaceref07_Same (a0 : Sl) (b1 : Sl) : denF Tryz.prog H_pinnaceref07_Same Tryz.f129 [.sc .bool] [.slice a0.a a0.n a0.c, .slice b1.a b1.n b1.c] = F_pinnaceref07_Same a0 b1 := by kernel_rfl
theorem C_pinnaceref07_Same {R : Type} (a0 : Sl) (b1 : Sl) (K : Res [.sc .bool] → W R) (Q : R → World → Prop) (w : World) (h : F_pinnaceref07_Same a0 b1 (fun r w => K r Q w) w) : callW Tryz.prog k_pinnaceref07_Same [.slice a0.a a0.n a0.c, .slice b1.a b1.n b1.c] [.sc .bool] K Q w :=
  den_calls mix Tryz.func129 H_pinnaceref07_Same (ts := [.sc .bool]) trivial (by rw [Tryz.ntmps129]; simp) (by rw [E_pinnaceref07_Same]; exact h)

/-! 145 pinnace/schema.Check -/
def F_schema_Check (c0 : (Int × Int × Int × Int)) : W (Int) :=
  newW 92 [.int .u8 c0.1, .int .i32 c0.2.1, .int .i32 c0.2.2.1, .int .i32 c0.2.2.2] fun c_1 =>
  ld (.sc (.int .u8)) (Addr.add c_1 0) fun (x_2 : Int) =>
  callW Tryz.prog k_schema_of [.int .u8 x_2] [.agg [.str, .bool, .sl]] fun (x_3 : (ByteArray × Bool × Sl)) =>
  cond ((x_3.2.2.n : Int) == 0)
    (retW 1)
    (slcW (some (Addr.add c_1 1)) 3 3 1 (some (x_3.2.2.n : Int)) none fun x_4 =>
  loopW (σ := Int) (fun K_5 s_6 =>
    cond (decide (s_6 < (x_4.n : Int)))
      (idxW x_4.a x_4.n 1 s_6 fun x_7 =>
    ld (.sc (.int .i32)) x_7 fun (x_8 : Int) =>
    cond (x_8 != 0)
      (retW 4)
      (K_5 (IntKind.wrap .i64 (s_6 + 1))))
      (loopW (σ := Int) (fun K_9 s_10 =>
    cond (decide (s_10 < (x_3.2.2.n : Int)))
      (idxW x_3.2.2.a x_3.2.2.n 3 s_10 fun x_11 =>
    ld (.agg [.str, .int .i32, .int .i32]) x_11 fun (x_12 : (ByteArray × Int × Int)) =>
    newW 239 [.string ⟨#[]⟩, .int .i32 0, .int .i32 0] fun f_13 =>
    stoL f_13 [.string x_12.1, .int .i32 x_12.2.1, .int .i32 x_12.2.2] 0 <|
    joinW (σ := Bool) (fun J_14 =>
      drawW <|
      idxW (some (Addr.add c_1 1)) 3 1 s_10 fun x_15 =>
      ld (.sc (.int .i32)) x_15 fun (x_16 : Int) =>
      ld (.sc (.int .i32)) (Addr.add f_13 1) fun (x_17 : Int) =>
      cond (decide (x_16 < x_17))
        (J_14 true)
        (idxW (some (Addr.add c_1 1)) 3 1 s_10 fun x_18 =>
            ld (.sc (.int .i32)) x_18 fun (x_19 : Int) =>
              ld (.sc (.int .i32)) (Addr.add f_13 2) fun (x_20 : Int) =>
                  J_14 (decide (x_19 > x_20))))
    <| fun s_21 =>
    cond s_21
      (retW 5)
      (K_9 (IntKind.wrap .i64 (s_10 + 1))))
      (retW 0))
    0))
    0)
def H_schema_Check : Hints := { reg := [(13, [(49, .sc .bool)])], lop := [(0, [(20, .sc (.int .i64))]), (2, [(29, .sc (.int .i64))])], dr := [(13, ([], [[(0, []), (1, []), (2, []), (3, []), (4, []), (5, []), (6, []), (7, []), (8, []), (9, []), (10, []), (11, []), (12, []), (13, []), (14, []), (15, [])]]))] }
theorem E_schema_Check (c0 : (Int × Int × Int × Int)) : denF Tryz.prog H_schema_Check Tryz.f145 [.sc (.int .i64)] [.agg ⟨[.int .u8 c0.1, .int .i32 c0.2.1, .int .i32 c0.2.2.1, .int .i32 c0.2.2.2]⟩] = F_schema_Check c0 := by kernel_rfl
theorem C_schema_Check {R : Type} (c0 : (Int × Int × Int × Int)) (K : Res [.sc (.int .i64)] → W R) (Q : R → World → Prop) (w : World) (h : F_schema_Check c0 (fun r w => K r Q w) w) : callW Tryz.prog k_schema_Check [.agg ⟨[.int .u8 c0.1, .int .i32 c0.2.1, .int .i32 c0.2.2.1, .int .i32 c0.2.2.2]⟩] [.sc (.int .i64)] K Q w :=
  den_calls mix Tryz.func145 H_schema_Check (ts := [.sc (.int .i64)]) trivial (by rw [Tryz.ntmps145]; simp) (by rw [E_schema_Check]; exact h)

/-! 146 pinnace/schema.of -/
def F_schema_of (k0 : Int) : W ((ByteArray × Bool × Sl)) :=
  newW 213 [.string ⟨#[]⟩, .bool false, .slice none 0 0] fun x_1 =>
  cond (k0 == 0)
    (newW 239 [.string ⟨#[120]⟩, .int .i32 (-524288), .int .i32 524287, .string ⟨#[121]⟩, .int .i32 (-524288), .int .i32 524287] fun x_2 =>
    stoL x_1 [.string ⟨#[112, 111, 115]⟩, .bool true, .slice (some x_2) 2 2] 0 <|
    ld (.agg [.str, .bool, .sl]) x_1 fun (x_3 : (ByteArray × Bool × Sl)) =>
    retW x_3)
    (cond (k0 == 1)
      (newW 239 [.string ⟨#[100, 120]⟩, .int .i32 (-32768), .int .i32 32767, .string ⟨#[100, 121]⟩, .int .i32 (-32768), .int .i32 32767] fun x_4 =>
      stoL x_1 [.string ⟨#[118, 101, 108]⟩, .bool true, .slice (some x_4) 2 2] 0 <|
      ld (.agg [.str, .bool, .sl]) x_1 fun (x_5 : (ByteArray × Bool × Sl)) =>
      retW x_5)
      (cond (k0 == 2)
        (newW 239 [.string ⟨#[108, 101, 102, 116]⟩, .int .i32 0, .int .i32 4095] fun x_6 =>
        stoL x_1 [.string ⟨#[108, 105, 102, 101]⟩, .bool true, .slice (some x_6) 1 1] 0 <|
        ld (.agg [.str, .bool, .sl]) x_1 fun (x_7 : (ByteArray × Bool × Sl)) =>
        retW x_7)
        (cond (k0 == 3)
          (newW 239 [.string ⟨#[115, 104, 97, 112, 101]⟩, .int .i32 0, .int .i32 15, .string ⟨#[104, 112]⟩, .int .i32 0, .int .i32 1000, .string ⟨#[115, 105, 122, 101]⟩, .int .i32 1, .int .i32 100] fun x_8 =>
          stoL x_1 [.string ⟨#[98, 111, 100, 121]⟩, .bool true, .slice (some x_8) 3 3] 0 <|
          ld (.agg [.str, .bool, .sl]) x_1 fun (x_9 : (ByteArray × Bool × Sl)) =>
          retW x_9)
          (cond (k0 == 4)
            (newW 239 [.string ⟨#[116, 101, 97, 109]⟩, .int .i32 0, .int .i32 7, .string ⟨#[99, 111, 108, 111, 114]⟩, .int .i32 0, .int .i32 255, .string ⟨#[102, 108, 97, 103, 115]⟩, .int .i32 0, .int .i32 31] fun x_10 =>
            stoL x_1 [.string ⟨#[116, 97, 103]⟩, .bool true, .slice (some x_10) 3 3] 0 <|
            ld (.agg [.str, .bool, .sl]) x_1 fun (x_11 : (ByteArray × Bool × Sl)) =>
            retW x_11)
            (cond (k0 == 5)
              (newW 239 [.string ⟨#[101, 118, 101, 114, 121]⟩, .int .i32 1, .int .i32 255, .string ⟨#[108, 101, 102, 116]⟩, .int .i32 0, .int .i32 254, .string ⟨#[115, 104, 97, 112, 101]⟩, .int .i32 0, .int .i32 15] fun x_12 =>
              stoL x_1 [.string ⟨#[115, 112, 97, 119, 110]⟩, .bool false, .slice (some x_12) 3 3] 0 <|
              ld (.agg [.str, .bool, .sl]) x_1 fun (x_13 : (ByteArray × Bool × Sl)) =>
              retW x_13)
              (stoL x_1 [.string ⟨#[]⟩, .bool false, .slice none 0 0] 0 <|
  ld (.agg [.str, .bool, .sl]) x_1 fun (x_14 : (ByteArray × Bool × Sl)) =>
  retW x_14))))))
def H_schema_of : Hints := {}
theorem E_schema_of (k0 : Int) : denF Tryz.prog H_schema_of Tryz.f146 [.agg [.str, .bool, .sl]] [.int .u8 k0] = F_schema_of k0 := by kernel_rfl
theorem C_schema_of {R : Type} (k0 : Int) (K : Res [.agg [.str, .bool, .sl]] → W R) (Q : R → World → Prop) (w : World) (h : F_schema_of k0 (fun r w => K r Q w) w) : callW Tryz.prog k_schema_of [.int .u8 k0] [.agg [.str, .bool, .sl]] K Q w :=
  den_calls mix Tryz.func146 H_schema_of (ts := [.agg [.str, .bool, .sl]]) ⟨by kernel_rfl, trivial⟩ (by rw [Tryz.ntmps146]; simp) (by rw [E_schema_of]; exact h)

/-! 148 slices.Index[[]pinnace/api.ID,pinnace/api.ID] -/
def F_slices_Index_ID (s0 : Sl) (v1 : Int) : W (Int) :=
  loopW (σ := Int) (fun K_1 s_2 =>
    cond (decide (s_2 < (s0.n : Int)))
      (idxW s0.a s0.n 1 s_2 fun x_3 =>
    ld (.sc (.int .u32)) x_3 fun (x_4 : Int) =>
    cond (v1 == x_4)
      (retW s_2)
      (K_1 (IntKind.wrap .i64 (s_2 + 1))))
      (retW (-1)))
    0
def H_slices_Index_ID : Hints := { lop := [(0, [(8, .sc (.int .i64))])] }
theorem E_slices_Index_ID (s0 : Sl) (v1 : Int) : denF Tryz.prog H_slices_Index_ID Tryz.f148 [.sc (.int .i64)] [.slice s0.a s0.n s0.c, .int .u32 v1] = F_slices_Index_ID s0 v1 := by kernel_rfl
theorem C_slices_Index_ID {R : Type} (s0 : Sl) (v1 : Int) (K : Res [.sc (.int .i64)] → W R) (Q : R → World → Prop) (w : World) (h : F_slices_Index_ID s0 v1 (fun r w => K r Q w) w) : callW Tryz.prog k_slices_Index_ID [.slice s0.a s0.n s0.c, .int .u32 v1] [.sc (.int .i64)] K Q w :=
  den_calls mix Tryz.func148 H_slices_Index_ID (ts := [.sc (.int .i64)]) trivial (by rw [Tryz.ntmps148]; simp) (by rw [E_slices_Index_ID]; exact h)

/-! 154 slices.Equal[[]pinnace/api.ID,pinnace/api.ID] -/
def F_slices_Equal_ID (s10 : Sl) (s21 : Sl) : W (Bool) :=
  cond ((s10.n : Int) != (s21.n : Int))
    (retW false)
    (loopW (σ := Int) (fun K_1 s_2 =>
    cond (decide (s_2 < (s10.n : Int)))
      (drawW <|
    idxW s10.a s10.n 1 s_2 fun x_3 =>
    ld (.sc (.int .u32)) x_3 fun (x_4 : Int) =>
    idxW s21.a s21.n 1 s_2 fun x_5 =>
    ld (.sc (.int .u32)) x_5 fun (x_6 : Int) =>
    cond (x_4 != x_6)
      (retW false)
      (K_1 (IntKind.wrap .i64 (s_2 + 1))))
      (retW true))
    0)
def H_slices_Equal_ID : Hints := { lop := [(0, [(13, .sc (.int .i64))])], dr := [(6, ([], [[(0, []), (1, []), (2, []), (3, []), (4, []), (5, []), (6, []), (7, []), (8, [])]]))] }
theorem E_slices_Equal_ID (s10 : Sl) (s21 : Sl) : denF Tryz.prog H_slices_Equal_ID Tryz.f154 [.sc .bool] [.slice s10.a s10.n s10.c, .slice s21.a s21.n s21.c] = F_slices_Equal_ID s10 s21 := by kernel_rfl
theorem C_slices_Equal_ID {R : Type} (s10 : Sl) (s21 : Sl) (K : Res [.sc .bool] → W R) (Q : R → World → Prop) (w : World) (h : F_slices_Equal_ID s10 s21 (fun r w => K r Q w) w) : callW Tryz.prog k_slices_Equal_ID [.slice s10.a s10.n s10.c, .slice s21.a s21.n s21.c] [.sc .bool] K Q w :=
  den_calls mix Tryz.func154 H_slices_Equal_ID (ts := [.sc .bool]) trivial (by rw [Tryz.ntmps154]; simp) (by rw [E_slices_Equal_ID]; exact h)

/-! 158 slices.Equal[[]pinnace/api.Comp,pinnace/api.Comp] -/
def F_slices_Equal_Comp (s10 : Sl) (s21 : Sl) : W (Bool) :=
  cond ((s10.n : Int) != (s21.n : Int))
    (retW false)
    (loopW (σ := Int) (fun K_1 s_2 =>
    cond (decide (s_2 < (s10.n : Int)))
      (drawW <|
    idxW s10.a s10.n 4 s_2 fun x_3 =>
    ld (.agg [.int .u8, .int .i32, .int .i32, .int .i32]) x_3 fun (x_4 : (Int × Int × Int × Int)) =>
    idxW s21.a s21.n 4 s_2 fun x_5 =>
    ld (.agg [.int .u8, .int .i32, .int .i32, .int .i32]) x_5 fun (x_6 : (Int × Int × Int × Int)) =>
    rawQ Tryz.prog (do Go.eqGuard .neq 92 (.tmp 19) (.tmp 23) (.agg ⟨[.int .u8 x_4.1, .int .i32 x_4.2.1, .int .i32 x_4.2.2.1, .int .i32 x_4.2.2.2]⟩) (.agg ⟨[.int .u8 x_6.1, .int .i32 x_6.2.1, .int .i32 x_6.2.2.1, .int .i32 x_6.2.2.2]⟩); Go.binOp .neq 92 (.agg ⟨[.int .u8 x_4.1, .int .i32 x_4.2.1, .int .i32 x_4.2.2.1, .int .i32 x_4.2.2.2]⟩) (.agg ⟨[.int .u8 x_6.1, .int .i32 x_6.2.1, .int .i32 x_6.2.2.1, .int .i32 x_6.2.2.2]⟩)) [.sc .bool] fun (x_7 : Bool) =>
    cond x_7
      (retW false)
      (K_1 (IntKind.wrap .i64 (s_2 + 1))))
      (retW true))
    0)
def H_slices_Equal_Comp : Hints := { lop := [(0, [(13, .sc (.int .i64))])], dr := [(6, ([], [[(0, []), (1, []), (2, []), (3, []), (4, []), (5, []), (6, []), (7, []), (8, [])]]))] }
theorem E_slices_Equal_Comp (s10 : Sl) (s21 : Sl) : denF Tryz.prog H_slices_Equal_Comp Tryz.f158 [.sc .bool] [.slice s10.a s10.n s10.c, .slice s21.a s21.n s21.c] = F_slices_Equal_Comp s10 s21 := by kernel_rfl
theorem C_slices_Equal_Comp {R : Type} (s10 : Sl) (s21 : Sl) (K : Res [.sc .bool] → W R) (Q : R → World → Prop) (w : World) (h : F_slices_Equal_Comp s10 s21 (fun r w => K r Q w) w) : callW Tryz.prog k_slices_Equal_Comp [.slice s10.a s10.n s10.c, .slice s21.a s21.n s21.c] [.sc .bool] K Q w :=
  den_calls mix Tryz.func158 H_slices_Equal_Comp (ts := [.sc .bool]) trivial (by rw [Tryz.ntmps158]; simp) (by rw [E_slices_Equal_Comp]; exact h)

/-! 167 pinnace/schema.Count -/
def F_schema_Count (k0 : Int) : W (Int) :=
  callW Tryz.prog k_schema_of [.int .u8 k0] [.agg [.str, .bool, .sl]] fun (x_1 : (ByteArray × Bool × Sl)) =>
  retW (x_1.2.2.n : Int)
def H_schema_Count : Hints := {}
theorem E_schema_Count (k0 : Int) : denF Tryz.prog H_schema_Count Tryz.f167 [.sc (.int .i64)] [.int .u8 k0] = F_schema_Count k0 := by kernel_rfl
theorem C_schema_Count {R : Type} (k0 : Int) (K : Res [.sc (.int .i64)] → W R) (Q : R → World → Prop) (w : World) (h : F_schema_Count k0 (fun r w => K r Q w) w) : callW Tryz.prog k_schema_Count [.int .u8 k0] [.sc (.int .i64)] K Q w :=
  den_calls mix Tryz.func167 H_schema_Count (ts := [.sc (.int .i64)]) trivial (by rw [Tryz.ntmps167]; simp) (by rw [E_schema_Count]; exact h)

/-! 185 pinnace/schema.Range -/
def F_schema_Range (k0 : Int) (i1 : Int) : W (Int × Int × Int) :=
  callW Tryz.prog k_schema_at [.int .u8 k0, .int .i64 i1] [.agg [.str, .int .i32, .int .i32], .sc .bool] fun (x_1 : (ByteArray × Int × Int) × Bool) =>
  newW 239 [.string ⟨#[]⟩, .int .i32 0, .int .i32 0] fun f_2 =>
  stoL f_2 [.string x_1.1.1, .int .i32 x_1.1.2.1, .int .i32 x_1.1.2.2] 0 <|
  cond (!x_1.2)
    (retW (0, 0, 1))
    (drawW <|
  ld (.sc (.int .i32)) (Addr.add f_2 1) fun (x_3 : Int) =>
  ld (.sc (.int .i32)) (Addr.add f_2 2) fun (x_4 : Int) =>
  retW (x_3, x_4, 0))
def H_schema_Range : Hints := { dr := [(4, ([], [[(0, []), (1, []), (2, []), (3, []), (4, []), (5, []), (6, [])]]))] }
theorem E_schema_Range (k0 : Int) (i1 : Int) : denF Tryz.prog H_schema_Range Tryz.f185 [.sc (.int .i32), .sc (.int .i32), .sc (.int .i64)] [.int .u8 k0, .int .i64 i1] = F_schema_Range k0 i1 := by kernel_rfl
theorem C_schema_Range {R : Type} (k0 : Int) (i1 : Int) (K : Res [.sc (.int .i32), .sc (.int .i32), .sc (.int .i64)] → W R) (Q : R → World → Prop) (w : World) (h : F_schema_Range k0 i1 (fun r w => K r Q w) w) : callW Tryz.prog k_schema_Range [.int .u8 k0, .int .i64 i1] [.sc (.int .i32), .sc (.int .i32), .sc (.int .i64)] K Q w :=
  den_calls mix Tryz.func185 H_schema_Range (ts := [.sc (.int .i32), .sc (.int .i32), .sc (.int .i64)]) trivial (by rw [Tryz.ntmps185]; simp) (by rw [E_schema_Range]; exact h)

/-! 189 pinnace/schema.at -/
def F_schema_at (k0 : Int) (i1 : Int) : W ((ByteArray × Int × Int) × Bool) :=
  newW 239 [.string ⟨#[]⟩, .int .i32 0, .int .i32 0] fun x_1 =>
  callW Tryz.prog k_schema_of [.int .u8 k0] [.agg [.str, .bool, .sl]] fun (x_2 : (ByteArray × Bool × Sl)) =>
  joinW (σ := Bool) (fun J_3 =>
    cond (decide (i1 < 0))
      (J_3 true)
      (J_3 (decide (i1 ≥ (x_2.2.2.n : Int)))))
  <| fun s_4 =>
  cond s_4
    (stoL x_1 [.string ⟨#[]⟩, .int .i32 0, .int .i32 0] 0 <|
    ld (.agg [.str, .int .i32, .int .i32]) x_1 fun (x_5 : (ByteArray × Int × Int)) =>
    retW (x_5, false))
    (idxW x_2.2.2.a x_2.2.2.n 3 i1 fun x_6 =>
  ld (.agg [.str, .int .i32, .int .i32]) x_6 fun (x_7 : (ByteArray × Int × Int)) =>
  stoL x_1 [.string x_7.1, .int .i32 x_7.2.1, .int .i32 x_7.2.2] 0 <|
  ld (.agg [.str, .int .i32, .int .i32]) x_1 fun (x_8 : (ByteArray × Int × Int)) =>
  retW (x_8, true))
def H_schema_at : Hints := { reg := [(2, [(17, .sc .bool)])] }
theorem E_schema_at (k0 : Int) (i1 : Int) : denF Tryz.prog H_schema_at Tryz.f189 [.agg [.str, .int .i32, .int .i32], .sc .bool] [.int .u8 k0, .int .i64 i1] = F_schema_at k0 i1 := by kernel_rfl
theorem C_schema_at {R : Type} (k0 : Int) (i1 : Int) (K : Res [.agg [.str, .int .i32, .int .i32], .sc .bool] → W R) (Q : R → World → Prop) (w : World) (h : F_schema_at k0 i1 (fun r w => K r Q w) w) : callW Tryz.prog k_schema_at [.int .u8 k0, .int .i64 i1] [.agg [.str, .int .i32, .int .i32], .sc .bool] K Q w :=
  den_calls mix Tryz.func189 H_schema_at (ts := [.agg [.str, .int .i32, .int .i32], .sc .bool]) ⟨by kernel_rfl, trivial⟩ (by rw [Tryz.ntmps189]; simp) (by rw [E_schema_at]; exact h)

end Go.Proofs.YtchhhjlpnecjkaaGreat
