/-
  Shallow forms of Go functions, printed by a program of this session (wip/gen.py), each equal to the denotation of its code, by the kernel.
-/
import Derived.Test.YtkblnhnjagemlaaGreatK
import Derived.Test.YtkblnhnjagemlaaGreatFQ
set_option linter.unusedVariables false
namespace Go.Proofs.YtkblnhnjagemlaaGreat
open Go Go.Proofs.YtkblnhnjagemlaaGreat.Den


/-! 5 pinnace/pinnacelaw14.SystemsChild -/
def F_pinnacelaw14_SystemsChild (shape0 : Int) (at1 : (Int × Int × Int × Int)) (odd2 : Bool) : W (Bool) :=
  newW 53 [.int .u8 at1.1, .int .i32 at1.2.1, .int .i32 at1.2.2.1, .int .i32 at1.2.2.2] fun at_1 =>
  callW Tryz.prog k_pinnacelaw14_awake [] [.sc .bool] fun (x_2 : Bool) =>
  cond (!x_2)
    (retW false)
    (stoL (Addr.add at_1 0) [.int .u8 0] 0 <|
  ld (.agg [.int .u8, .int .i32, .int .i32, .int .i32]) at_1 fun (x_3 : (Int × Int × Int × Int)) =>
  callW Tryz.prog k_pinnaceref05_Check [.agg ⟨[.int .u8 x_3.1, .int .i32 x_3.2.1, .int .i32 x_3.2.2.1, .int .i32 x_3.2.2.2]⟩] [.sc (.int .i64)] fun (x_4 : Int) =>
  cond (x_4 != 0)
    (retW true)
    (ld (.agg [.int .u8, .int .i32, .int .i32, .int .i32]) at_1 fun (x_5 : (Int × Int × Int × Int)) =>
  callW Tryz.prog k_systems_Child [.agg ⟨[.int .u8 5, .int .i32 1, .int .i32 0, .int .i32 (IntKind.wrap .i32 (Int.tmod shape0 16))]⟩, .agg ⟨[.int .u8 x_5.1, .int .i32 x_5.2.1, .int .i32 x_5.2.2.1, .int .i32 x_5.2.2.2]⟩, .bool odd2] [.sc .sl] fun (x_6 : Sl) =>
  joinW (σ := Bool) (fun J_7 =>
    ld (.agg [.int .u8, .int .i32, .int .i32, .int .i32]) at_1 fun (x_8 : (Int × Int × Int × Int)) =>
    callW Tryz.prog k_pinnaceref14_Child [.int .i32 (IntKind.wrap .i32 (Int.tmod shape0 16)), .agg ⟨[.int .u8 x_8.1, .int .i32 x_8.2.1, .int .i32 x_8.2.2.1, .int .i32 x_8.2.2.2]⟩, .bool odd2] [.sc .sl] fun (x_9 : Sl) =>
    callW Tryz.prog k_pinnaceref05_Same [.slice x_6.a x_6.n x_6.c, .slice x_9.a x_9.n x_9.c] [.sc .bool] fun (x_10 : Bool) =>
    cond x_10
      (callW Tryz.prog k_pinnaceref05_List [.slice x_6.a x_6.n x_6.c] [.sc (.int .i64)] fun (x_11 : Int) =>
        J_7 (x_11 == 0))
      (J_7 false))
  <| fun s_12 =>
  retW s_12))
def H_pinnacelaw14_SystemsChild : Hints := { reg := [(7, [(6, .sc .bool)])] }
theorem E_pinnacelaw14_SystemsChild (shape0 : Int) (at1 : (Int × Int × Int × Int)) (odd2 : Bool) : denF Tryz.prog H_pinnacelaw14_SystemsChild Tryz.f5 [.sc .bool] [.int .u8 shape0, .agg ⟨[.int .u8 at1.1, .int .i32 at1.2.1, .int .i32 at1.2.2.1, .int .i32 at1.2.2.2]⟩, .bool odd2] = F_pinnacelaw14_SystemsChild shape0 at1 odd2 := by kernel_rfl
theorem C_pinnacelaw14_SystemsChild {R : Type} (shape0 : Int) (at1 : (Int × Int × Int × Int)) (odd2 : Bool) (K : Res [.sc .bool] → W R) (Q : R → World → Prop) (w : World) (h : F_pinnacelaw14_SystemsChild shape0 at1 odd2 (fun r w => K r Q w) w) : callW Tryz.prog k_pinnacelaw14_SystemsChild [.int .u8 shape0, .agg ⟨[.int .u8 at1.1, .int .i32 at1.2.1, .int .i32 at1.2.2.1, .int .i32 at1.2.2.2]⟩, .bool odd2] [.sc .bool] K Q w :=
  den_calls mix Tryz.func5 H_pinnacelaw14_SystemsChild (ts := [.sc .bool]) trivial (by rw [Tryz.ntmps5]; simp) (by rw [E_pinnacelaw14_SystemsChild]; exact h)

/-! 6 pinnace/pinnacelaw14.SystemsMove -/
def F_pinnacelaw14_SystemsMove (l0 : Sl) (times1 : Int) : W (Bool) :=
  callW Tryz.prog k_pinnacelaw14_awake [] [.sc .bool] fun (x_1 : Bool) =>
  cond (!x_1)
    (retW false)
    (callW Tryz.prog k_pinnacelaw14_fill [.int .u8 39, .slice l0.a l0.n l0.c] [.sc .ptr, .sc .ptr] fun (x_2 : (Option Addr) × (Option Addr)) =>
  loopW (σ := Int) (fun K_3 s_4 =>
    cond (decide (s_4 < (Int.tmod times1 12)))
      (joinW (σ := Bool) (fun J_5 =>
      callW Tryz.prog k_systems_Move [.pointer x_2.1] [.sc .sl] fun (x_6 : Sl) =>
      callW Tryz.prog k_pinnaceref14_Move [.pointer x_2.2] [.sc .sl] fun (x_7 : Sl) =>
      callW Tryz.prog k_pinnaceref07_Same [.slice x_6.a x_6.n x_6.c, .slice x_7.a x_7.n x_7.c] [.sc .bool] fun (x_8 : Bool) =>
      cond (!x_8)
        (J_5 true)
        (callW Tryz.prog k_pinnacelaw14_alike [.pointer x_2.1, .pointer x_2.2] [.sc .bool] fun (x_9 : Bool) =>
            J_5 (!x_9)))
    <| fun s_10 =>
    cond s_10
      (retW false)
      (K_3 (IntKind.wrap .u8 (s_4 + 1))))
      (callW Tryz.prog k_systems_Move [.pointer none] [.sc .sl] fun (x_11 : Sl) =>
  retW ((x_11.n : Int) == 0)))
    0)
def H_pinnacelaw14_SystemsMove : Hints := { reg := [(6, [(29, .sc .bool)])], lop := [(0, [(16, .sc (.int .u8))])] }
theorem E_pinnacelaw14_SystemsMove (l0 : Sl) (times1 : Int) : denF Tryz.prog H_pinnacelaw14_SystemsMove Tryz.f6 [.sc .bool] [.slice l0.a l0.n l0.c, .int .u8 times1] = F_pinnacelaw14_SystemsMove l0 times1 := by kernel_rfl
theorem C_pinnacelaw14_SystemsMove {R : Type} (l0 : Sl) (times1 : Int) (K : Res [.sc .bool] → W R) (Q : R → World → Prop) (w : World) (h : F_pinnacelaw14_SystemsMove l0 times1 (fun r w => K r Q w) w) : callW Tryz.prog k_pinnacelaw14_SystemsMove [.slice l0.a l0.n l0.c, .int .u8 times1] [.sc .bool] K Q w :=
  den_calls mix Tryz.func6 H_pinnacelaw14_SystemsMove (ts := [.sc .bool]) trivial (by rw [Tryz.ntmps6]; simp) (by rw [E_pinnacelaw14_SystemsMove]; exact h)

/-! 7 pinnace/pinnacelaw14.SystemsAge -/
def F_pinnacelaw14_SystemsAge (l0 : Sl) (times1 : Int) : W (Bool) :=
  callW Tryz.prog k_pinnacelaw14_awake [] [.sc .bool] fun (x_1 : Bool) =>
  cond (!x_1)
    (retW false)
    (callW Tryz.prog k_pinnacelaw14_fill [.int .u8 39, .slice l0.a l0.n l0.c] [.sc .ptr, .sc .ptr] fun (x_2 : (Option Addr) × (Option Addr)) =>
  loopW (σ := Int) (fun K_3 s_4 =>
    cond (decide (s_4 < (Int.tmod times1 12)))
      (joinW (σ := Bool) (fun J_5 =>
      callW Tryz.prog k_systems_Age [.pointer x_2.1] [.sc .sl] fun (x_6 : Sl) =>
      callW Tryz.prog k_pinnaceref14_Age [.pointer x_2.2] [.sc .sl] fun (x_7 : Sl) =>
      callW Tryz.prog k_pinnaceref07_Same [.slice x_6.a x_6.n x_6.c, .slice x_7.a x_7.n x_7.c] [.sc .bool] fun (x_8 : Bool) =>
      cond (!x_8)
        (J_5 true)
        (callW Tryz.prog k_pinnacelaw14_alike [.pointer x_2.1, .pointer x_2.2] [.sc .bool] fun (x_9 : Bool) =>
            J_5 (!x_9)))
    <| fun s_10 =>
    cond s_10
      (retW false)
      (K_3 (IntKind.wrap .u8 (s_4 + 1))))
      (callW Tryz.prog k_systems_Age [.pointer none] [.sc .sl] fun (x_11 : Sl) =>
  retW ((x_11.n : Int) == 0)))
    0)
def H_pinnacelaw14_SystemsAge : Hints := { reg := [(6, [(29, .sc .bool)])], lop := [(0, [(16, .sc (.int .u8))])] }
theorem E_pinnacelaw14_SystemsAge (l0 : Sl) (times1 : Int) : denF Tryz.prog H_pinnacelaw14_SystemsAge Tryz.f7 [.sc .bool] [.slice l0.a l0.n l0.c, .int .u8 times1] = F_pinnacelaw14_SystemsAge l0 times1 := by kernel_rfl
theorem C_pinnacelaw14_SystemsAge {R : Type} (l0 : Sl) (times1 : Int) (K : Res [.sc .bool] → W R) (Q : R → World → Prop) (w : World) (h : F_pinnacelaw14_SystemsAge l0 times1 (fun r w => K r Q w) w) : callW Tryz.prog k_pinnacelaw14_SystemsAge [.slice l0.a l0.n l0.c, .int .u8 times1] [.sc .bool] K Q w :=
  den_calls mix Tryz.func7 H_pinnacelaw14_SystemsAge (ts := [.sc .bool]) trivial (by rw [Tryz.ntmps7]; simp) (by rw [E_pinnacelaw14_SystemsAge]; exact h)

/-! 8 pinnace/pinnacelaw14.SystemsWithin -/
def F_pinnacelaw14_SystemsWithin (d0 : Int) (o1 : Sl) (p2 : Sl) : W (Bool) :=
  callW Tryz.prog k_pinnacelaw14_awake [] [.sc .bool] fun (x_1 : Bool) =>
  cond (!x_1)
    (retW false)
    (callW Tryz.prog k_pinnacelaw14_fill [.int .u8 d0, .slice o1.a o1.n o1.c] [.sc .ptr, .sc .ptr] fun (x_2 : (Option Addr) × (Option Addr)) =>
  joinW (σ := Unit) (fun J_3 =>
    loopW (σ := Int) (fun K_4 s_5 =>
      cond (decide (s_5 < (p2.n : Int)))
        (idxW p2.a p2.n 1 s_5 fun x_6 =>
      ld (.sc (.int .u8)) x_6 fun (x_7 : Int) =>
      cond (decide (s_5 ≥ 40))
        (J_3 ())
        (joinW (σ := Unit) (fun J_8 =>
        cond ((Int.tmod x_7 3) == 0)
          (callW Tryz.prog k_systems_Move [.pointer x_2.1] [.sc .sl] fun (x_9 : Sl) =>
          J_8 ())
          (joinW (σ := Unit) (fun J_10 =>
            cond ((Int.tmod x_7 3) == 1)
              (callW Tryz.prog k_systems_Age [.pointer x_2.1] [.sc .sl] fun (x_11 : Sl) =>
              J_10 ())
              (callW Tryz.prog k_systems_Breed [.pointer x_2.1] [.sc .sl] fun (x_12 : Sl) =>
              J_10 ()))
          <| fun s_13 =>
          J_8 ()))
      <| fun s_14 =>
      callW Tryz.prog k_store_Store_List [.pointer x_2.1] [.sc .sl] fun (x_15 : Sl) =>
      loopW (σ := Int) (fun K_16 s_17 =>
        cond (decide (s_17 < (x_15.n : Int)))
          (idxW x_15.a x_15.n 1 s_17 fun x_18 =>
        ld (.sc (.int .u32)) x_18 fun (x_19 : Int) =>
        callW Tryz.prog k_store_Store_Ent [.pointer x_2.1, .int .u32 x_19] [.agg [.int .u32, .sl], .sc (.int .i64)] fun (x_20 : (Int × Sl) × Int) =>
        newW 34 [.int .u32 0, .slice none 0 0] fun x_21 =>
        stoL x_21 [.int .u32 x_20.1.1, .slice x_20.1.2.a x_20.1.2.n x_20.1.2.c] 0 <|
        joinW (σ := Bool) (fun J_22 =>
          cond (x_20.2 != 0)
            (J_22 true)
            (ld (.sc .sl) (Addr.add x_21 1) fun (x_23 : Sl) =>
              callW Tryz.prog k_pinnaceref05_List [.slice x_23.a x_23.n x_23.c] [.sc (.int .i64)] fun (x_24 : Int) =>
                J_22 (x_24 != 0)))
        <| fun s_25 =>
        cond s_25
          (retW false)
          (K_16 (IntKind.wrap .i64 (s_17 + 1))))
          (K_4 (IntKind.wrap .i64 (s_5 + 1))))
        0))
        (J_3 ()))
      0)
  <| fun s_26 =>
  retW true)
def H_pinnacelaw14_SystemsWithin : Hints := { reg := [(18, [(64, .sc .bool)])], con := [(14040, []), (12036, [])], blk := [(0, [])], lop := [(0, [(25, .sc (.int .i64))]), (3, [(47, .sc (.int .i64))])] }
theorem E_pinnacelaw14_SystemsWithin (d0 : Int) (o1 : Sl) (p2 : Sl) : denF Tryz.prog H_pinnacelaw14_SystemsWithin Tryz.f8 [.sc .bool] [.int .u8 d0, .slice o1.a o1.n o1.c, .slice p2.a p2.n p2.c] = F_pinnacelaw14_SystemsWithin d0 o1 p2 := by kernel_rfl
theorem C_pinnacelaw14_SystemsWithin {R : Type} (d0 : Int) (o1 : Sl) (p2 : Sl) (K : Res [.sc .bool] → W R) (Q : R → World → Prop) (w : World) (h : F_pinnacelaw14_SystemsWithin d0 o1 p2 (fun r w => K r Q w) w) : callW Tryz.prog k_pinnacelaw14_SystemsWithin [.int .u8 d0, .slice o1.a o1.n o1.c, .slice p2.a p2.n p2.c] [.sc .bool] K Q w :=
  den_calls mix Tryz.func8 H_pinnacelaw14_SystemsWithin (ts := [.sc .bool]) trivial (by rw [Tryz.ntmps8]; simp) (by rw [E_pinnacelaw14_SystemsWithin]; exact h)

/-! 9 pinnace/pinnacelaw14.SystemsBreed -/
def F_pinnacelaw14_SystemsBreed (n0 : Int) (l1 : Sl) (times2 : Int) : W (Bool) :=
  callW Tryz.prog k_pinnacelaw14_awake [] [.sc .bool] fun (x_1 : Bool) =>
  cond (!x_1)
    (retW false)
    (callW Tryz.prog k_pinnacelaw14_fill [.int .u8 n0, .slice l1.a l1.n l1.c] [.sc .ptr, .sc .ptr] fun (x_2 : (Option Addr) × (Option Addr)) =>
  loopW (σ := Int) (fun K_3 s_4 =>
    cond (decide (s_4 < (Int.tmod times2 12)))
      (joinW (σ := Bool) (fun J_5 =>
      callW Tryz.prog k_systems_Breed [.pointer x_2.1] [.sc .sl] fun (x_6 : Sl) =>
      callW Tryz.prog k_pinnaceref14_Breed [.pointer x_2.2] [.sc .sl] fun (x_7 : Sl) =>
      callW Tryz.prog k_pinnaceref07_Same [.slice x_6.a x_6.n x_6.c, .slice x_7.a x_7.n x_7.c] [.sc .bool] fun (x_8 : Bool) =>
      cond (!x_8)
        (J_5 true)
        (callW Tryz.prog k_pinnacelaw14_alike [.pointer x_2.1, .pointer x_2.2] [.sc .bool] fun (x_9 : Bool) =>
            J_5 (!x_9)))
    <| fun s_10 =>
    cond s_10
      (retW false)
      (K_3 (IntKind.wrap .u8 (s_4 + 1))))
      (callW Tryz.prog k_systems_Breed [.pointer none] [.sc .sl] fun (x_11 : Sl) =>
  retW ((x_11.n : Int) == 0)))
    0)
def H_pinnacelaw14_SystemsBreed : Hints := { reg := [(6, [(32, .sc .bool)])], lop := [(0, [(19, .sc (.int .u8))])] }
theorem E_pinnacelaw14_SystemsBreed (n0 : Int) (l1 : Sl) (times2 : Int) : denF Tryz.prog H_pinnacelaw14_SystemsBreed Tryz.f9 [.sc .bool] [.int .u8 n0, .slice l1.a l1.n l1.c, .int .u8 times2] = F_pinnacelaw14_SystemsBreed n0 l1 times2 := by kernel_rfl
theorem C_pinnacelaw14_SystemsBreed {R : Type} (n0 : Int) (l1 : Sl) (times2 : Int) (K : Res [.sc .bool] → W R) (Q : R → World → Prop) (w : World) (h : F_pinnacelaw14_SystemsBreed n0 l1 times2 (fun r w => K r Q w) w) : callW Tryz.prog k_pinnacelaw14_SystemsBreed [.int .u8 n0, .slice l1.a l1.n l1.c, .int .u8 times2] [.sc .bool] K Q w :=
  den_calls mix Tryz.func9 H_pinnacelaw14_SystemsBreed (ts := [.sc .bool]) trivial (by rw [Tryz.ntmps9]; simp) (by rw [E_pinnacelaw14_SystemsBreed]; exact h)

/-! 27 pinnace/pinnacelaw14.awake -/
def F_pinnacelaw14_awake  : W (Bool) :=
  newW 53 [.int .u8 0, .int .i32 524280, .int .i32 0, .int .i32 0, .int .u8 1, .int .i32 16, .int .i32 (-1), .int .i32 0] fun x_1 =>
  newW 53 [.int .u8 2, .int .i32 0, .int .i32 0, .int .i32 0] fun x_2 =>
  newW 32 [.slice (some x_1) 2 2, .slice (some x_2) 1 1] fun x_3 =>
  callW Tryz.prog k_pinnacelaw14_fill [.int .u8 9, .slice (some x_3) 2 2] [.sc .ptr, .sc .ptr] fun (x_4 : (Option Addr) × (Option Addr)) =>
  joinW (σ := Bool) (fun J_5 =>
    callW Tryz.prog k_systems_Move [.pointer x_4.1] [.sc .sl] fun (x_6 : Sl) =>
    newW 31 [.int .u32 1024] fun x_7 =>
    callW Tryz.prog k_pinnaceref07_Same [.slice x_6.a x_6.n x_6.c, .slice (some x_7) 1 1] [.sc .bool] fun (x_8 : Bool) =>
    cond (!x_8)
      (J_5 true)
      (callW Tryz.prog k_systems_Age [.pointer x_4.1] [.sc .sl] fun (x_9 : Sl) =>
        newW 31 [.int .u32 1025] fun x_10 =>
          callW Tryz.prog k_pinnaceref07_Same [.slice x_9.a x_9.n x_9.c, .slice (some x_10) 1 1] [.sc .bool] fun (x_11 : Bool) =>
            J_5 (!x_11)))
  <| fun s_12 =>
  cond s_12
    (retW false)
    (callW Tryz.prog k_store_Store_Get [.pointer x_4.1, .int .u32 1024, .int .u8 0] [.agg [.int .u8, .int .i32, .int .i32, .int .i32], .sc (.int .i64)] fun (x_13 : (Int × Int × Int × Int) × Int) =>
  newW 53 [.int .u8 0, .int .i32 0, .int .i32 0, .int .i32 0] fun at_14 =>
  stoL at_14 [.int .u8 x_13.1.1, .int .i32 x_13.1.2.1, .int .i32 x_13.1.2.2.1, .int .i32 x_13.1.2.2.2] 0 <|
  callW Tryz.prog k_store_Store_Get [.pointer x_4.1, .int .u32 1024, .int .u8 1] [.agg [.int .u8, .int .i32, .int .i32, .int .i32], .sc (.int .i64)] fun (x_15 : (Int × Int × Int × Int) × Int) =>
  newW 53 [.int .u8 0, .int .i32 0, .int .i32 0, .int .i32 0] fun by_16 =>
  stoL by_16 [.int .u8 x_15.1.1, .int .i32 x_15.1.2.1, .int .i32 x_15.1.2.2.1, .int .i32 x_15.1.2.2.2] 0 <|
  joinW (σ := Bool) (fun J_17 =>
    ld (.agg [.int .i32, .int .i32, .int .i32]) (Addr.add at_14 1) fun (x_18 : (Int × Int × Int)) =>
    rawQ Tryz.prog (do Go.eqGuard .eql 51 (.tmp 42) (.tmp 43) (.agg ⟨[.int .i32 x_18.1, .int .i32 x_18.2.1, .int .i32 x_18.2.2]⟩) (.agg ⟨[.int .i32 524287, .int .i32 (-1), .int .i32 0]⟩); Go.binOp .eql 51 (.agg ⟨[.int .i32 x_18.1, .int .i32 x_18.2.1, .int .i32 x_18.2.2]⟩) (.agg ⟨[.int .i32 524287, .int .i32 (-1), .int .i32 0]⟩)) [.sc .bool] fun (x_19 : Bool) =>
    cond x_19
      (ld (.agg [.int .i32, .int .i32, .int .i32]) (Addr.add by_16 1) fun (x_20 : (Int × Int × Int)) =>
        rawQ Tryz.prog (do Go.eqGuard .eql 51 (.tmp 47) (.tmp 48) (.agg ⟨[.int .i32 x_20.1, .int .i32 x_20.2.1, .int .i32 x_20.2.2]⟩) (.agg ⟨[.int .i32 (-16), .int .i32 (-1), .int .i32 0]⟩); Go.binOp .eql 51 (.agg ⟨[.int .i32 x_20.1, .int .i32 x_20.2.1, .int .i32 x_20.2.2]⟩) (.agg ⟨[.int .i32 (-16), .int .i32 (-1), .int .i32 0]⟩)) [.sc .bool] fun (x_21 : Bool) =>
            J_17 x_21)
      (J_17 false))
  <| fun s_22 =>
  retW s_22)
def H_pinnacelaw14_awake : Hints := { reg := [(2, [(30, .sc .bool)]), (6, [(0, .sc .bool)])] }
theorem E_pinnacelaw14_awake  : denF Tryz.prog H_pinnacelaw14_awake Tryz.f27 [.sc .bool] [] = F_pinnacelaw14_awake := by kernel_rfl
theorem C_pinnacelaw14_awake {R : Type}  (K : Res [.sc .bool] → W R) (Q : R → World → Prop) (w : World) (h : F_pinnacelaw14_awake (fun r w => K r Q w) w) : callW Tryz.prog k_pinnacelaw14_awake [] [.sc .bool] K Q w :=
  den_calls mix Tryz.func27 H_pinnacelaw14_awake (ts := [.sc .bool]) trivial (by rw [Tryz.ntmps27]; simp) (by rw [E_pinnacelaw14_awake]; exact h)

/-! 33 pinnace/pinnacelaw14.fill -/
def F_pinnacelaw14_fill (n0 : Int) (l1 : Sl) : W ((Option Addr) × (Option Addr)) :=
  callW Tryz.prog k_store_New [.int .i64 (IntKind.wrap .i64 (1 + (IntKind.wrap .i64 (Int.tmod n0 40)))), .int .i64 1] [.sc .ptr, .sc (.int .i64)] fun (x_1 : (Option Addr) × Int) =>
  callW Tryz.prog k_pinnaceref11_New [.int .i64 (IntKind.wrap .i64 (1 + (IntKind.wrap .i64 (Int.tmod n0 40)))), .int .i64 1] [.sc .ptr, .sc (.int .i64)] fun (x_2 : (Option Addr) × Int) =>
  joinW (σ := Unit) (fun J_3 =>
    loopW (σ := Int) (fun K_4 s_5 =>
      cond (decide (s_5 < (l1.n : Int)))
        (idxW l1.a l1.n 1 s_5 fun x_6 =>
      ld (.sc .sl) x_6 fun (x_7 : Sl) =>
      cond (decide (s_5 ≥ 50))
        (J_3 ())
        (slcW x_7.a x_7.n x_7.c 4 none (some (if 20 < (x_7.n : Int) then 20 else (x_7.n : Int))) fun x_8 =>
      callW Tryz.prog k_pinnaceref05_Twin [.slice x_8.a x_8.n x_8.c] [.sc .sl] fun (x_9 : Sl) =>
      callW Tryz.prog k_store_Store_Spawn [.pointer x_1.1, .slice x_9.a x_9.n x_9.c] [.sc (.int .u32), .sc (.int .i64)] fun (x_10 : Int × Int) =>
      callW Tryz.prog k_pinnaceref11_Spawn [.pointer x_2.1, .slice x_8.a x_8.n x_8.c] [.sc (.int .u32), .sc (.int .i64)] fun (x_11 : Int × Int) =>
      K_4 (IntKind.wrap .i64 (s_5 + 1))))
        (J_3 ()))
      0)
  <| fun s_12 =>
  retW (x_1.1, x_2.1)
def H_pinnacelaw14_fill : Hints := { blk := [(0, [])], lop := [(0, [(29, .sc (.int .i64))])] }
theorem E_pinnacelaw14_fill (n0 : Int) (l1 : Sl) : denF Tryz.prog H_pinnacelaw14_fill Tryz.f33 [.sc .ptr, .sc .ptr] [.int .u8 n0, .slice l1.a l1.n l1.c] = F_pinnacelaw14_fill n0 l1 := by kernel_rfl
theorem C_pinnacelaw14_fill {R : Type} (n0 : Int) (l1 : Sl) (K : Res [.sc .ptr, .sc .ptr] → W R) (Q : R → World → Prop) (w : World) (h : F_pinnacelaw14_fill n0 l1 (fun r w => K r Q w) w) : callW Tryz.prog k_pinnacelaw14_fill [.int .u8 n0, .slice l1.a l1.n l1.c] [.sc .ptr, .sc .ptr] K Q w :=
  den_calls mix Tryz.func33 H_pinnacelaw14_fill (ts := [.sc .ptr, .sc .ptr]) trivial (by rw [Tryz.ntmps33]; simp) (by rw [E_pinnacelaw14_fill]; exact h)

/-! 37 pinnace/pinnacelaw14.alike -/
def F_pinnacelaw14_alike (s0 : Option Addr) (x1 : Option Addr) : W (Bool) :=
  callW Tryz.prog k_pinnaceref11_List [.pointer x1] [.sc .sl] fun (x_1 : Sl) =>
  callW Tryz.prog k_store_Store_Len [.pointer s0] [.sc (.int .i64)] fun (x_2 : Int) =>
  cond (x_2 != (x_1.n : Int))
    (retW false)
    (loopW (σ := Int) (fun K_3 s_4 =>
    cond (decide (s_4 < (x_1.n : Int)))
      (idxW x_1.a x_1.n 2 s_4 fun x_5 =>
    ld (.agg [.int .u32, .sl]) x_5 fun (x_6 : (Int × Sl)) =>
    newW 34 [.int .u32 0, .slice none 0 0] fun e_7 =>
    stoL e_7 [.int .u32 x_6.1, .slice x_6.2.a x_6.2.n x_6.2.c] 0 <|
    ld (.sc (.int .u32)) (Addr.add e_7 0) fun (x_8 : Int) =>
    callW Tryz.prog k_store_Store_Ent [.pointer s0, .int .u32 x_8] [.agg [.int .u32, .sl], .sc (.int .i64)] fun (x_9 : (Int × Sl) × Int) =>
    newW 34 [.int .u32 0, .slice none 0 0] fun got_10 =>
    stoL got_10 [.int .u32 x_9.1.1, .slice x_9.1.2.a x_9.1.2.n x_9.1.2.c] 0 <|
    joinW (σ := Bool) (fun J_11 =>
      drawW <|
      cond (x_9.2 != 0)
        (J_11 true)
        (ld (.agg [.int .u32, .sl]) got_10 fun (x_12 : (Int × Sl)) =>
        ld (.agg [.int .u32, .sl]) e_7 fun (x_13 : (Int × Sl)) =>
          callW Tryz.prog k_pinnaceref10_SameEnt [.agg ⟨[.int .u32 x_12.1, .slice x_12.2.a x_12.2.n x_12.2.c]⟩, .agg ⟨[.int .u32 x_13.1, .slice x_13.2.a x_13.2.n x_13.2.c]⟩] [.sc .bool] fun (x_14 : Bool) =>
            cond (!x_14)
                (J_11 true)
                (ld (.sc (.int .u32)) (Addr.add e_7 0) fun (x_15 : Int) =>
                      callW Tryz.prog k_store_Store_List [.pointer s0] [.sc .sl] fun (x_16 : Sl) =>
                        andW (fun w => Rd w (Addr.add e_7 0) (.sc (.int .u32)) x_15) <|
                        idxW x_16.a x_16.n 1 s_4 fun x_17 =>
                          ld (.sc (.int .u32)) x_17 fun (x_18 : Int) =>
                            J_11 (x_18 != x_15))))
    <| fun s_19 =>
    cond s_19
      (retW false)
      (K_3 (IntKind.wrap .i64 (s_4 + 1))))
      (retW true))
    0)
def H_pinnacelaw14_alike : Hints := { reg := [(8, [(48, .sc .bool)])], lop := [(0, [(19, .sc (.int .i64))])], dr := [(8, ([], [[(0, []), (1, []), (2, []), (3, []), (4, []), (5, []), (6, []), (7, []), (8, []), (9, []), (11, []), (14, []), (15, []), (10, [15]), (12, []), (13, []), (16, []), (17, [])]]))] }
theorem E_pinnacelaw14_alike (s0 : Option Addr) (x1 : Option Addr) : denF Tryz.prog H_pinnacelaw14_alike Tryz.f37 [.sc .bool] [.pointer s0, .pointer x1] = F_pinnacelaw14_alike s0 x1 := by kernel_rfl
theorem C_pinnacelaw14_alike {R : Type} (s0 : Option Addr) (x1 : Option Addr) (K : Res [.sc .bool] → W R) (Q : R → World → Prop) (w : World) (h : F_pinnacelaw14_alike s0 x1 (fun r w => K r Q w) w) : callW Tryz.prog k_pinnacelaw14_alike [.pointer s0, .pointer x1] [.sc .bool] K Q w :=
  den_calls mix Tryz.func37 H_pinnacelaw14_alike (ts := [.sc .bool]) trivial (by rw [Tryz.ntmps37]; simp) (by rw [E_pinnacelaw14_alike]; exact h)

end Go.Proofs.YtkblnhnjagemlaaGreat
