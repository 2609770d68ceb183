/-
  Shallow forms of Go functions, printed by a program of this session (wip/gen.py), each equal to the denotation of its code, by the kernel.
-/
import Derived.Test.YtkblnhnjagemlaaGreatK
import Derived.Test.YtkblnhnjagemlaaGreatF
set_option linter.unusedVariables false
namespace Go.Proofs.YtkblnhnjagemlaaGreat
open Go Go.Proofs.YtkblnhnjagemlaaGreat.Den


/-! 208 slices.Sort[[]byte,byte] -/
def F_slices_Sort_byte (x0 : Sl) : W (Unit) :=
  callW Tryz.prog k_math_bits_Len [.int .u64 (IntKind.wrap .u64 (x0.n : Int))] [.sc (.int .i64)] fun (x_1 : Int) =>
  callW Tryz.prog k_slices_pdqsortOrdered_byte [.slice x0.a x0.n x0.c, .int .i64 0, .int .i64 (x0.n : Int), .int .i64 x_1] [] fun (x_2 : Unit) =>
  retW ()
def H_slices_Sort_byte : Hints := {}
theorem E_slices_Sort_byte (x0 : Sl) : denF Tryz.prog H_slices_Sort_byte Tryz.f208 [] [.slice x0.a x0.n x0.c] = F_slices_Sort_byte x0 := by kernel_rfl
theorem C_slices_Sort_byte {R : Type} (x0 : Sl) (K : Res [] → W R) (Q : R → World → Prop) (w : World) (h : F_slices_Sort_byte x0 (fun r w => K r Q w) w) : callW Tryz.prog k_slices_Sort_byte [.slice x0.a x0.n x0.c] [] K Q w :=
  den_calls mix Tryz.func208 H_slices_Sort_byte (ts := []) trivial (by rw [Tryz.ntmps208]; simp) (by rw [E_slices_Sort_byte]; exact h)

/-! 223 slices.nextPowerOfTwo -/
def F_slices_nextPowerOfTwo (length0 : Int) : W (Int) :=
  callW Tryz.prog k_math_bits_Len [.int .u64 (IntKind.wrap .u64 length0)] [.sc (.int .i64)] fun (x_1 : Int) =>
  chkW (0 ≤ x_1) <|
  retW (shL .u64 1 x_1)
def H_slices_nextPowerOfTwo : Hints := {}
theorem E_slices_nextPowerOfTwo (length0 : Int) : denF Tryz.prog H_slices_nextPowerOfTwo Tryz.f223 [.sc (.int .u64)] [.int .i64 length0] = F_slices_nextPowerOfTwo length0 := by kernel_rfl
theorem C_slices_nextPowerOfTwo {R : Type} (length0 : Int) (K : Res [.sc (.int .u64)] → W R) (Q : R → World → Prop) (w : World) (h : F_slices_nextPowerOfTwo length0 (fun r w => K r Q w) w) : callW Tryz.prog k_slices_nextPowerOfTwo [.int .i64 length0] [.sc (.int .u64)] K Q w :=
  den_calls mix Tryz.func223 H_slices_nextPowerOfTwo (ts := [.sc (.int .u64)]) trivial (by rw [Tryz.ntmps223]; simp) (by rw [E_slices_nextPowerOfTwo]; exact h)

/-! 224 (*slices.xorshift).Next -/
def F_slices_xorshift_Next (r0 : Option Addr) : W (Int) :=
  drawW <|
  ptrW r0 fun x_1 =>
  ld (.sc (.int .u64)) x_1 fun (x_2 : Int) =>
  ptrW r0 fun x_3 =>
  ld (.sc (.int .u64)) x_3 fun (x_4 : Int) =>
  ptrW r0 fun x_5 =>
  stoL x_5 [.int .u64 (bXor .u64 x_2 (shL .u64 x_4 13))] 0 <|
  drawW <|
  ptrW r0 fun x_6 =>
  ld (.sc (.int .u64)) x_6 fun (x_7 : Int) =>
  ptrW r0 fun x_8 =>
  ld (.sc (.int .u64)) x_8 fun (x_9 : Int) =>
  ptrW r0 fun x_10 =>
  stoL x_10 [.int .u64 (bXor .u64 x_7 (shR .u64 x_9 7))] 0 <|
  drawW <|
  ptrW r0 fun x_11 =>
  ld (.sc (.int .u64)) x_11 fun (x_12 : Int) =>
  ptrW r0 fun x_13 =>
  ld (.sc (.int .u64)) x_13 fun (x_14 : Int) =>
  ptrW r0 fun x_15 =>
  stoL x_15 [.int .u64 (bXor .u64 x_12 (shL .u64 x_14 17))] 0 <|
  ptrW r0 fun x_16 =>
  ld (.sc (.int .u64)) x_16 fun (x_17 : Int) =>
  retW x_17
def H_slices_xorshift_Next : Hints := { dr := [(1, ([], [[(0, []), (1, []), (2, []), (3, []), (4, []), (5, []), (6, []), (7, []), (8, []), (9, [])]])), (2, ([], [[(0, []), (1, []), (2, []), (3, []), (4, []), (5, []), (6, []), (7, []), (8, []), (9, [])]])), (3, ([], [[(0, []), (1, []), (2, []), (3, []), (4, []), (5, []), (6, []), (7, []), (8, []), (9, [])]]))] }
theorem E_slices_xorshift_Next (r0 : Option Addr) : denF Tryz.prog H_slices_xorshift_Next Tryz.f224 [.sc (.int .u64)] [.pointer r0] = F_slices_xorshift_Next r0 := by kernel_rfl
theorem C_slices_xorshift_Next {R : Type} (r0 : Option Addr) (K : Res [.sc (.int .u64)] → W R) (Q : R → World → Prop) (w : World) (h : F_slices_xorshift_Next r0 (fun r w => K r Q w) w) : callW Tryz.prog k_slices_xorshift_Next [.pointer r0] [.sc (.int .u64)] K Q w :=
  den_calls mix Tryz.func224 H_slices_xorshift_Next (ts := [.sc (.int .u64)]) trivial (by rw [Tryz.ntmps224]; simp) (by rw [E_slices_xorshift_Next]; exact h)

/-! 228 slices.pdqsortOrdered[byte] -/
def F_slices_pdqsortOrdered_byte (d0 : Sl) (o1 : Int) (p2 : Int) (p3 : Int) : W (Unit) :=
  loopW (σ := Int × Int × Int × Bool × Bool) (fun K_1 s_2 =>
    joinW (σ := Int × Int × Int × Bool × Bool) (fun J_3 =>
      cond (decide ((IntKind.wrap .i64 (s_2.2.1 - s_2.1)) ≤ 12))
        (callW Tryz.prog k_slices_insertionSortOrdered_byte [.slice d0.a d0.n d0.c, .int .i64 s_2.1, .int .i64 s_2.2.1] [] fun (x_4 : Unit) =>
        retW ())
        (cond (s_2.2.2.1 == 0)
        (callW Tryz.prog k_slices_heapSortOrdered_byte [.slice d0.a d0.n d0.c, .int .i64 s_2.1, .int .i64 s_2.2.1] [] fun (x_5 : Unit) =>
        retW ())
        (joinW (σ := Int) (fun J_6 =>
        cond (!s_2.2.2.2.1)
          (callW Tryz.prog k_slices_breakPatternsOrdered_byte [.slice d0.a d0.n d0.c, .int .i64 s_2.1, .int .i64 s_2.2.1] [] fun (x_7 : Unit) =>
          J_6 (IntKind.wrap .i64 (s_2.2.2.1 - 1)))
          (J_6 s_2.2.2.1))
      <| fun s_8 =>
      callW Tryz.prog k_slices_choosePivotOrdered_byte [.slice d0.a d0.n d0.c, .int .i64 s_2.1, .int .i64 s_2.2.1] [.sc (.int .i64), .sc (.int .i64)] fun (x_9 : Int × Int) =>
      joinW (σ := Int × Int) (fun J_10 =>
        cond (x_9.2 == 2)
          (callW Tryz.prog k_slices_reverseRangeOrdered_byte [.slice d0.a d0.n d0.c, .int .i64 s_2.1, .int .i64 s_2.2.1] [] fun (x_11 : Unit) =>
          J_10 (IntKind.wrap .i64 ((IntKind.wrap .i64 (s_2.2.1 - 1)) - (IntKind.wrap .i64 (x_9.1 - s_2.1))), 1))
          (J_10 (x_9.1, x_9.2)))
      <| fun s_12 =>
      joinW (σ := Bool) (fun J_13 =>
        cond s_2.2.2.2.1
          (cond s_2.2.2.2.2
            (J_13 (s_12.2 == 1))
            (J_13 false))
          (J_13 false))
      <| fun s_14 =>
      joinW (σ := Unit) (fun J_15 =>
        cond s_14
          (callW Tryz.prog k_slices_partialInsertionSortOrdered_byte [.slice d0.a d0.n d0.c, .int .i64 s_2.1, .int .i64 s_2.2.1] [.sc .bool] fun (x_16 : Bool) =>
          cond x_16
            (retW ())
            (J_15 ()))
          (J_15 ()))
      <| fun s_17 =>
      joinW (σ := Bool) (fun J_18 =>
        drawW <|
        cond (decide (s_2.1 > 0))
          (idxW d0.a d0.n 1 (IntKind.wrap .i64 (s_2.1 - 1)) fun x_19 =>
                ld (.sc (.int .u8)) x_19 fun (x_20 : Int) =>
                  idxW d0.a d0.n 1 s_12.1 fun x_21 =>
                        ld (.sc (.int .u8)) x_21 fun (x_22 : Int) =>
                          callW Tryz.prog k_cmp_Less_byte [.int .u8 x_20, .int .u8 x_22] [.sc .bool] fun (x_23 : Bool) =>
                            J_18 (!x_23))
          (J_18 false))
      <| fun s_24 =>
      cond s_24
        (callW Tryz.prog k_slices_partitionEqualOrdered_byte [.slice d0.a d0.n d0.c, .int .i64 s_2.1, .int .i64 s_2.2.1, .int .i64 s_12.1] [.sc (.int .i64)] fun (x_25 : Int) =>
        J_3 (x_25, s_2.2.1, s_8, s_2.2.2.2.1, s_2.2.2.2.2))
        (callW Tryz.prog k_slices_partitionOrdered_byte [.slice d0.a d0.n d0.c, .int .i64 s_2.1, .int .i64 s_2.2.1, .int .i64 s_12.1] [.sc (.int .i64), .sc .bool] fun (x_26 : Int × Bool) =>
      joinW (σ := Int × Int × Bool) (fun J_27 =>
        cond (decide ((IntKind.wrap .i64 (x_26.1 - s_2.1)) < (IntKind.wrap .i64 (s_2.2.1 - x_26.1))))
          (callW Tryz.prog k_slices_pdqsortOrdered_byte [.slice d0.a d0.n d0.c, .int .i64 s_2.1, .int .i64 x_26.1, .int .i64 s_8] [] fun (x_28 : Unit) =>
          J_27 (IntKind.wrap .i64 (x_26.1 + 1), s_2.2.1, decide ((IntKind.wrap .i64 (x_26.1 - s_2.1)) ≥ (IntKind.wrap .i64 (Int.tdiv (IntKind.wrap .i64 (s_2.2.1 - s_2.1)) 8)))))
          (callW Tryz.prog k_slices_pdqsortOrdered_byte [.slice d0.a d0.n d0.c, .int .i64 (IntKind.wrap .i64 (x_26.1 + 1)), .int .i64 s_2.2.1, .int .i64 s_8] [] fun (x_29 : Unit) =>
          J_27 (s_2.1, x_26.1, decide ((IntKind.wrap .i64 (s_2.2.1 - x_26.1)) ≥ (IntKind.wrap .i64 (Int.tdiv (IntKind.wrap .i64 (s_2.2.1 - s_2.1)) 8))))))
      <| fun s_30 =>
      J_3 (s_30.1, s_30.2.1, s_8, s_30.2.2, x_26.2)))))
    <| fun s_31 =>
    K_1 (s_31.1, s_31.2.1, s_31.2.2.1, s_31.2.2.2.1, s_31.2.2.2.2))
    (o1, p2, p3, true, true)
def H_slices_pdqsortOrdered_byte : Hints := { reg := [(15, [(68, .sc .bool)]), (17, [(87, .sc .bool)])], con := [(9035, [(3, .sc (.int .i64))]), (13050, [(11, .sc (.int .i64)), (12, .sc (.int .i64))]), (17068, []), (26113, [(1, .sc (.int .i64)), (2, .sc (.int .i64)), (8, .sc .bool)])], blk := [(1, [(1, .sc (.int .i64)), (2, .sc (.int .i64)), (3, .sc (.int .i64)), (8, .sc .bool), (9, .sc .bool)])], lop := [(0, [(1, .sc (.int .i64)), (2, .sc (.int .i64)), (3, .sc (.int .i64)), (8, .sc .bool), (9, .sc .bool)])], dr := [(17, ([], [[(0, []), (1, []), (2, []), (3, []), (4, []), (5, []), (6, []), (7, []), (8, []), (9, []), (10, []), (11, []), (12, []), (13, []), (14, [])]]))] }
theorem E_slices_pdqsortOrdered_byte (d0 : Sl) (o1 : Int) (p2 : Int) (p3 : Int) : denF Tryz.prog H_slices_pdqsortOrdered_byte Tryz.f228 [] [.slice d0.a d0.n d0.c, .int .i64 o1, .int .i64 p2, .int .i64 p3] = F_slices_pdqsortOrdered_byte d0 o1 p2 p3 := by kernel_rfl
theorem C_slices_pdqsortOrdered_byte {R : Type} (d0 : Sl) (o1 : Int) (p2 : Int) (p3 : Int) (K : Res [] → W R) (Q : R → World → Prop) (w : World) (h : F_slices_pdqsortOrdered_byte d0 o1 p2 p3 (fun r w => K r Q w) w) : callW Tryz.prog k_slices_pdqsortOrdered_byte [.slice d0.a d0.n d0.c, .int .i64 o1, .int .i64 p2, .int .i64 p3] [] K Q w :=
  den_calls mix Tryz.func228 H_slices_pdqsortOrdered_byte (ts := []) trivial (by rw [Tryz.ntmps228]; simp) (by rw [E_slices_pdqsortOrdered_byte]; exact h)

/-! 242 slices.insertionSortOrdered[byte] -/
def F_slices_insertionSortOrdered_byte (data0 : Sl) (a1 : Int) (b2 : Int) : W (Unit) :=
  loopW (σ := Int) (fun K_1 s_2 =>
    cond (decide (s_2 < b2))
      (loopW (σ := Int) (fun K_3 s_4 =>
      joinW (σ := Bool) (fun J_5 =>
        drawW <|
        cond (decide (s_4 > a1))
          (idxW data0.a data0.n 1 s_4 fun x_6 =>
              ld (.sc (.int .u8)) x_6 fun (x_7 : Int) =>
                idxW data0.a data0.n 1 (IntKind.wrap .i64 (s_4 - 1)) fun x_8 =>
                        ld (.sc (.int .u8)) x_8 fun (x_9 : Int) =>
                          callW Tryz.prog k_cmp_Less_byte [.int .u8 x_7, .int .u8 x_9] [.sc .bool] fun (x_10 : Bool) =>
                            J_5 x_10)
          (J_5 false))
      <| fun s_11 =>
      cond s_11
        (drawW <|
      idxW data0.a data0.n 1 (IntKind.wrap .i64 (s_4 - 1)) fun x_12 =>
      ld (.sc (.int .u8)) x_12 fun (x_13 : Int) =>
      idxW data0.a data0.n 1 s_4 fun x_14 =>
      ld (.sc (.int .u8)) x_14 fun (x_15 : Int) =>
      idxW data0.a data0.n 1 s_4 fun x_16 =>
      stoL x_16 [.int .u8 x_13] 0 <|
      idxW data0.a data0.n 1 (IntKind.wrap .i64 (s_4 - 1)) fun x_17 =>
      stoL x_17 [.int .u8 x_15] 0 <|
      K_3 (IntKind.wrap .i64 (s_4 - 1)))
        (K_1 (IntKind.wrap .i64 (s_2 + 1))))
      s_2)
      (retW ()))
    (IntKind.wrap .i64 (a1 + 1))
def H_slices_insertionSortOrdered_byte : Hints := { reg := [(4, [(30, .sc .bool)])], lop := [(0, [(6, .sc (.int .i64))]), (2, [(7, .sc (.int .i64))])], dr := [(4, ([], [[(0, []), (1, []), (2, []), (3, []), (4, []), (5, []), (6, []), (7, []), (8, []), (9, []), (10, []), (11, []), (12, []), (13, []), (14, [])]])), (6, ([], [[(0, []), (1, []), (2, []), (3, []), (4, []), (5, []), (6, []), (7, []), (8, []), (9, []), (10, []), (11, []), (12, []), (13, []), (14, []), (15, []), (16, []), (17, [])]]))] }
theorem E_slices_insertionSortOrdered_byte (data0 : Sl) (a1 : Int) (b2 : Int) : denF Tryz.prog H_slices_insertionSortOrdered_byte Tryz.f242 [] [.slice data0.a data0.n data0.c, .int .i64 a1, .int .i64 b2] = F_slices_insertionSortOrdered_byte data0 a1 b2 := by kernel_rfl
theorem C_slices_insertionSortOrdered_byte {R : Type} (data0 : Sl) (a1 : Int) (b2 : Int) (K : Res [] → W R) (Q : R → World → Prop) (w : World) (h : F_slices_insertionSortOrdered_byte data0 a1 b2 (fun r w => K r Q w) w) : callW Tryz.prog k_slices_insertionSortOrdered_byte [.slice data0.a data0.n data0.c, .int .i64 a1, .int .i64 b2] [] K Q w :=
  den_calls mix Tryz.func242 H_slices_insertionSortOrdered_byte (ts := []) trivial (by rw [Tryz.ntmps242]; simp) (by rw [E_slices_insertionSortOrdered_byte]; exact h)

/-! 243 slices.heapSortOrdered[byte] -/
def F_slices_heapSortOrdered_byte (data0 : Sl) (a1 : Int) (b2 : Int) : W (Unit) :=
  loopW (σ := Int) (fun K_1 s_2 =>
    cond (decide (s_2 ≥ 0))
      (callW Tryz.prog k_slices_siftDownOrdered_byte [.slice data0.a data0.n data0.c, .int .i64 s_2, .int .i64 (IntKind.wrap .i64 (b2 - a1)), .int .i64 a1] [] fun (x_3 : Unit) =>
    K_1 (IntKind.wrap .i64 (s_2 - 1)))
      (loopW (σ := Int) (fun K_4 s_5 =>
    cond (decide (s_5 ≥ 0))
      (drawW <|
    idxW data0.a data0.n 1 (IntKind.wrap .i64 (a1 + s_5)) fun x_6 =>
    ld (.sc (.int .u8)) x_6 fun (x_7 : Int) =>
    idxW data0.a data0.n 1 a1 fun x_8 =>
    ld (.sc (.int .u8)) x_8 fun (x_9 : Int) =>
    idxW data0.a data0.n 1 a1 fun x_10 =>
    stoL x_10 [.int .u8 x_7] 0 <|
    idxW data0.a data0.n 1 (IntKind.wrap .i64 (a1 + s_5)) fun x_11 =>
    stoL x_11 [.int .u8 x_9] 0 <|
    callW Tryz.prog k_slices_siftDownOrdered_byte [.slice data0.a data0.n data0.c, .int .i64 0, .int .i64 s_5, .int .i64 a1] [] fun (x_12 : Unit) =>
    K_4 (IntKind.wrap .i64 (s_5 - 1)))
      (retW ()))
    (IntKind.wrap .i64 ((IntKind.wrap .i64 (b2 - a1)) - 1))))
    (IntKind.wrap .i64 (Int.tdiv (IntKind.wrap .i64 ((IntKind.wrap .i64 (b2 - a1)) - 1)) 2))
def H_slices_heapSortOrdered_byte : Hints := { lop := [(0, [(9, .sc (.int .i64))]), (2, [(10, .sc (.int .i64))])], dr := [(10, ([], [[(0, []), (1, []), (2, []), (3, []), (4, []), (5, []), (6, []), (7, []), (8, []), (9, []), (10, []), (11, []), (12, []), (13, []), (14, []), (15, []), (16, []), (17, []), (18, []), (19, [])]]))] }
theorem E_slices_heapSortOrdered_byte (data0 : Sl) (a1 : Int) (b2 : Int) : denF Tryz.prog H_slices_heapSortOrdered_byte Tryz.f243 [] [.slice data0.a data0.n data0.c, .int .i64 a1, .int .i64 b2] = F_slices_heapSortOrdered_byte data0 a1 b2 := by kernel_rfl
theorem C_slices_heapSortOrdered_byte {R : Type} (data0 : Sl) (a1 : Int) (b2 : Int) (K : Res [] → W R) (Q : R → World → Prop) (w : World) (h : F_slices_heapSortOrdered_byte data0 a1 b2 (fun r w => K r Q w) w) : callW Tryz.prog k_slices_heapSortOrdered_byte [.slice data0.a data0.n data0.c, .int .i64 a1, .int .i64 b2] [] K Q w :=
  den_calls mix Tryz.func243 H_slices_heapSortOrdered_byte (ts := []) trivial (by rw [Tryz.ntmps243]; simp) (by rw [E_slices_heapSortOrdered_byte]; exact h)

/-! 244 slices.breakPatternsOrdered[byte] -/
def F_slices_breakPatternsOrdered_byte (d0 : Sl) (o1 : Int) (p2 : Int) : W (Unit) :=
  joinW (σ := Unit) (fun J_1 =>
    cond (decide ((IntKind.wrap .i64 (p2 - o1)) ≥ 8))
      (newW 325 [.int .u64 0] fun x_2 =>
      stoL x_2 [.int .u64 (IntKind.wrap .u64 (IntKind.wrap .i64 (p2 - o1)))] 0 <|
      callW Tryz.prog k_slices_nextPowerOfTwo [.int .i64 (IntKind.wrap .i64 (p2 - o1))] [.sc (.int .u64)] fun (x_3 : Int) =>
      loopW (σ := Int) (fun K_4 s_5 =>
        cond (decide (s_5 ≤ (IntKind.wrap .i64 ((IntKind.wrap .i64 (o1 + (IntKind.wrap .i64 ((IntKind.wrap .i64 (Int.tdiv (IntKind.wrap .i64 (p2 - o1)) 4)) * 2)))) + 1))))
          (callW Tryz.prog k_slices_xorshift_Next [.pointer (some x_2)] [.sc (.int .u64)] fun (x_6 : Int) =>
        joinW (σ := Int) (fun J_7 =>
          cond (decide ((IntKind.wrap .i64 (bAnd .u64 x_6 (IntKind.wrap .u64 (x_3 - 1)))) ≥ (IntKind.wrap .i64 (p2 - o1))))
            (J_7 (IntKind.wrap .i64 ((IntKind.wrap .i64 (bAnd .u64 x_6 (IntKind.wrap .u64 (x_3 - 1)))) - (IntKind.wrap .i64 (p2 - o1)))))
            (J_7 (IntKind.wrap .i64 (bAnd .u64 x_6 (IntKind.wrap .u64 (x_3 - 1))))))
        <| fun s_8 =>
        drawW <|
        idxW d0.a d0.n 1 (IntKind.wrap .i64 (o1 + s_8)) fun x_9 =>
        ld (.sc (.int .u8)) x_9 fun (x_10 : Int) =>
        idxW d0.a d0.n 1 s_5 fun x_11 =>
        ld (.sc (.int .u8)) x_11 fun (x_12 : Int) =>
        idxW d0.a d0.n 1 s_5 fun x_13 =>
        stoL x_13 [.int .u8 x_10] 0 <|
        idxW d0.a d0.n 1 (IntKind.wrap .i64 (o1 + s_8)) fun x_14 =>
        stoL x_14 [.int .u8 x_12] 0 <|
        K_4 (IntKind.wrap .i64 (s_5 + 1)))
          (J_1 ()))
        (IntKind.wrap .i64 ((IntKind.wrap .i64 (o1 + (IntKind.wrap .i64 ((IntKind.wrap .i64 (Int.tdiv (IntKind.wrap .i64 (p2 - o1)) 4)) * 2)))) - 1)))
      (J_1 ()))
  <| fun s_15 =>
  retW ()
def H_slices_breakPatternsOrdered_byte : Hints := { con := [(10043, [(10, .sc (.int .i64))]), (3015, [])], lop := [(0, [(9, .sc (.int .i64))])], dr := [(10, ([], [[(0, []), (1, []), (2, []), (3, []), (4, []), (5, []), (6, []), (7, []), (8, []), (9, []), (10, []), (11, []), (12, []), (13, []), (14, []), (15, []), (16, []), (17, []), (18, []), (19, [])]]))] }
theorem E_slices_breakPatternsOrdered_byte (d0 : Sl) (o1 : Int) (p2 : Int) : denF Tryz.prog H_slices_breakPatternsOrdered_byte Tryz.f244 [] [.slice d0.a d0.n d0.c, .int .i64 o1, .int .i64 p2] = F_slices_breakPatternsOrdered_byte d0 o1 p2 := by kernel_rfl
theorem C_slices_breakPatternsOrdered_byte {R : Type} (d0 : Sl) (o1 : Int) (p2 : Int) (K : Res [] → W R) (Q : R → World → Prop) (w : World) (h : F_slices_breakPatternsOrdered_byte d0 o1 p2 (fun r w => K r Q w) w) : callW Tryz.prog k_slices_breakPatternsOrdered_byte [.slice d0.a d0.n d0.c, .int .i64 o1, .int .i64 p2] [] K Q w :=
  den_calls mix Tryz.func244 H_slices_breakPatternsOrdered_byte (ts := []) trivial (by rw [Tryz.ntmps244]; simp) (by rw [E_slices_breakPatternsOrdered_byte]; exact h)

/-! 245 slices.choosePivotOrdered[byte] -/
def F_slices_choosePivotOrdered_byte (data0 : Sl) (a1 : Int) (b2 : Int) : W (Int × Int) :=
  newW 3 [.int .i64 0] fun swaps_1 =>
  joinW (σ := Int) (fun J_2 =>
    cond (decide ((IntKind.wrap .i64 (b2 - a1)) ≥ 8))
      (joinW (σ := Int × Int × Int) (fun J_3 =>
        cond (decide ((IntKind.wrap .i64 (b2 - a1)) ≥ 50))
          (callW Tryz.prog k_slices_medianAdjacentOrdered_byte [.slice data0.a data0.n data0.c, .int .i64 (IntKind.wrap .i64 (a1 + (IntKind.wrap .i64 ((IntKind.wrap .i64 (Int.tdiv (IntKind.wrap .i64 (b2 - a1)) 4)) * 1)))), .pointer (some swaps_1)] [.sc (.int .i64)] fun (x_4 : Int) =>
          callW Tryz.prog k_slices_medianAdjacentOrdered_byte [.slice data0.a data0.n data0.c, .int .i64 (IntKind.wrap .i64 (a1 + (IntKind.wrap .i64 ((IntKind.wrap .i64 (Int.tdiv (IntKind.wrap .i64 (b2 - a1)) 4)) * 2)))), .pointer (some swaps_1)] [.sc (.int .i64)] fun (x_5 : Int) =>
          callW Tryz.prog k_slices_medianAdjacentOrdered_byte [.slice data0.a data0.n data0.c, .int .i64 (IntKind.wrap .i64 (a1 + (IntKind.wrap .i64 ((IntKind.wrap .i64 (Int.tdiv (IntKind.wrap .i64 (b2 - a1)) 4)) * 3)))), .pointer (some swaps_1)] [.sc (.int .i64)] fun (x_6 : Int) =>
          J_3 (x_4, x_5, x_6))
          (J_3 (IntKind.wrap .i64 (a1 + (IntKind.wrap .i64 ((IntKind.wrap .i64 (Int.tdiv (IntKind.wrap .i64 (b2 - a1)) 4)) * 1))), IntKind.wrap .i64 (a1 + (IntKind.wrap .i64 ((IntKind.wrap .i64 (Int.tdiv (IntKind.wrap .i64 (b2 - a1)) 4)) * 2))), IntKind.wrap .i64 (a1 + (IntKind.wrap .i64 ((IntKind.wrap .i64 (Int.tdiv (IntKind.wrap .i64 (b2 - a1)) 4)) * 3))))))
      <| fun s_7 =>
      callW Tryz.prog k_slices_medianOrdered_byte [.slice data0.a data0.n data0.c, .int .i64 s_7.1, .int .i64 s_7.2.1, .int .i64 s_7.2.2, .pointer (some swaps_1)] [.sc (.int .i64)] fun (x_8 : Int) =>
      J_2 x_8)
      (J_2 (IntKind.wrap .i64 (a1 + (IntKind.wrap .i64 ((IntKind.wrap .i64 (Int.tdiv (IntKind.wrap .i64 (b2 - a1)) 4)) * 2))))))
  <| fun s_9 =>
  ld (.sc (.int .i64)) swaps_1 fun (x_10 : Int) =>
  cond (x_10 == 0)
    (retW (s_9, 1))
    (cond (x_10 == 12)
      (retW (s_9, 2))
      (retW (s_9, 0)))
def H_slices_choosePivotOrdered_byte : Hints := { con := [(9034, [(10, .sc (.int .i64)), (11, .sc (.int .i64)), (12, .sc (.int .i64))]), (8032, [(11, .sc (.int .i64))])] }
theorem E_slices_choosePivotOrdered_byte (data0 : Sl) (a1 : Int) (b2 : Int) : denF Tryz.prog H_slices_choosePivotOrdered_byte Tryz.f245 [.sc (.int .i64), .sc (.int .i64)] [.slice data0.a data0.n data0.c, .int .i64 a1, .int .i64 b2] = F_slices_choosePivotOrdered_byte data0 a1 b2 := by kernel_rfl
theorem C_slices_choosePivotOrdered_byte {R : Type} (data0 : Sl) (a1 : Int) (b2 : Int) (K : Res [.sc (.int .i64), .sc (.int .i64)] → W R) (Q : R → World → Prop) (w : World) (h : F_slices_choosePivotOrdered_byte data0 a1 b2 (fun r w => K r Q w) w) : callW Tryz.prog k_slices_choosePivotOrdered_byte [.slice data0.a data0.n data0.c, .int .i64 a1, .int .i64 b2] [.sc (.int .i64), .sc (.int .i64)] K Q w :=
  den_calls mix Tryz.func245 H_slices_choosePivotOrdered_byte (ts := [.sc (.int .i64), .sc (.int .i64)]) trivial (by rw [Tryz.ntmps245]; simp) (by rw [E_slices_choosePivotOrdered_byte]; exact h)

/-! 246 slices.reverseRangeOrdered[byte] -/
def F_slices_reverseRangeOrdered_byte (data0 : Sl) (a1 : Int) (b2 : Int) : W (Unit) :=
  loopW (σ := Int × Int) (fun K_1 s_2 =>
    cond (decide (s_2.1 < s_2.2))
      (drawW <|
    idxW data0.a data0.n 1 s_2.2 fun x_3 =>
    ld (.sc (.int .u8)) x_3 fun (x_4 : Int) =>
    idxW data0.a data0.n 1 s_2.1 fun x_5 =>
    ld (.sc (.int .u8)) x_5 fun (x_6 : Int) =>
    idxW data0.a data0.n 1 s_2.1 fun x_7 =>
    stoL x_7 [.int .u8 x_4] 0 <|
    idxW data0.a data0.n 1 s_2.2 fun x_8 =>
    stoL x_8 [.int .u8 x_6] 0 <|
    K_1 (IntKind.wrap .i64 (s_2.1 + 1), IntKind.wrap .i64 (s_2.2 - 1)))
      (retW ()))
    (a1, IntKind.wrap .i64 (b2 - 1))
def H_slices_reverseRangeOrdered_byte : Hints := { lop := [(0, [(6, .sc (.int .i64)), (7, .sc (.int .i64))])], dr := [(3, ([], [[(0, []), (1, []), (2, []), (3, []), (4, []), (5, []), (6, []), (7, []), (8, []), (9, []), (10, []), (11, []), (12, []), (13, []), (14, []), (15, [])]]))] }
theorem E_slices_reverseRangeOrdered_byte (data0 : Sl) (a1 : Int) (b2 : Int) : denF Tryz.prog H_slices_reverseRangeOrdered_byte Tryz.f246 [] [.slice data0.a data0.n data0.c, .int .i64 a1, .int .i64 b2] = F_slices_reverseRangeOrdered_byte data0 a1 b2 := by kernel_rfl
theorem C_slices_reverseRangeOrdered_byte {R : Type} (data0 : Sl) (a1 : Int) (b2 : Int) (K : Res [] → W R) (Q : R → World → Prop) (w : World) (h : F_slices_reverseRangeOrdered_byte data0 a1 b2 (fun r w => K r Q w) w) : callW Tryz.prog k_slices_reverseRangeOrdered_byte [.slice data0.a data0.n data0.c, .int .i64 a1, .int .i64 b2] [] K Q w :=
  den_calls mix Tryz.func246 H_slices_reverseRangeOrdered_byte (ts := []) trivial (by rw [Tryz.ntmps246]; simp) (by rw [E_slices_reverseRangeOrdered_byte]; exact h)

/-! 247 slices.partialInsertionSortOrdered[byte] -/
def F_slices_partialInsertionSortOrdered_byte (d0 : Sl) (o1 : Int) (p2 : Int) : W (Bool) :=
  loopW (σ := Int × Int) (fun K_1 s_2 =>
    cond (decide (s_2.2 < 5))
      (loopW (σ := Int) (fun K_3 s_4 =>
      joinW (σ := Bool) (fun J_5 =>
        drawW <|
        cond (decide (s_4 < p2))
          (idxW d0.a d0.n 1 s_4 fun x_6 =>
              ld (.sc (.int .u8)) x_6 fun (x_7 : Int) =>
                idxW d0.a d0.n 1 (IntKind.wrap .i64 (s_4 - 1)) fun x_8 =>
                        ld (.sc (.int .u8)) x_8 fun (x_9 : Int) =>
                          callW Tryz.prog k_cmp_Less_byte [.int .u8 x_7, .int .u8 x_9] [.sc .bool] fun (x_10 : Bool) =>
                            J_5 (!x_10))
          (J_5 false))
      <| fun s_11 =>
      cond s_11
        (K_3 (IntKind.wrap .i64 (s_4 + 1)))
        (cond (s_4 == p2)
      (retW true)
      (cond (decide ((IntKind.wrap .i64 (p2 - o1)) < 50))
      (retW false)
      (drawW <|
    idxW d0.a d0.n 1 (IntKind.wrap .i64 (s_4 - 1)) fun x_12 =>
    ld (.sc (.int .u8)) x_12 fun (x_13 : Int) =>
    idxW d0.a d0.n 1 s_4 fun x_14 =>
    ld (.sc (.int .u8)) x_14 fun (x_15 : Int) =>
    idxW d0.a d0.n 1 s_4 fun x_16 =>
    stoL x_16 [.int .u8 x_13] 0 <|
    idxW d0.a d0.n 1 (IntKind.wrap .i64 (s_4 - 1)) fun x_17 =>
    stoL x_17 [.int .u8 x_15] 0 <|
    joinW (σ := Unit) (fun J_18 =>
      cond (decide ((IntKind.wrap .i64 (s_4 - o1)) ≥ 2))
        (joinW (σ := Unit) (fun J_19 =>
          loopW (σ := Int) (fun K_20 s_21 =>
            cond (decide (s_21 ≥ 1))
              (drawW <|
            idxW d0.a d0.n 1 s_21 fun x_22 =>
            ld (.sc (.int .u8)) x_22 fun (x_23 : Int) =>
            idxW d0.a d0.n 1 (IntKind.wrap .i64 (s_21 - 1)) fun x_24 =>
            ld (.sc (.int .u8)) x_24 fun (x_25 : Int) =>
            callW Tryz.prog k_cmp_Less_byte [.int .u8 x_23, .int .u8 x_25] [.sc .bool] fun (x_26 : Bool) =>
            cond (!x_26)
              (J_19 ())
              (drawW <|
            idxW d0.a d0.n 1 (IntKind.wrap .i64 (s_21 - 1)) fun x_27 =>
            ld (.sc (.int .u8)) x_27 fun (x_28 : Int) =>
            idxW d0.a d0.n 1 s_21 fun x_29 =>
            ld (.sc (.int .u8)) x_29 fun (x_30 : Int) =>
            idxW d0.a d0.n 1 s_21 fun x_31 =>
            stoL x_31 [.int .u8 x_28] 0 <|
            idxW d0.a d0.n 1 (IntKind.wrap .i64 (s_21 - 1)) fun x_32 =>
            stoL x_32 [.int .u8 x_30] 0 <|
            K_20 (IntKind.wrap .i64 (s_21 - 1))))
              (J_19 ()))
            (IntKind.wrap .i64 (s_4 - 1)))
        <| fun s_33 =>
        J_18 ())
        (J_18 ()))
    <| fun s_34 =>
    joinW (σ := Unit) (fun J_35 =>
      cond (decide ((IntKind.wrap .i64 (p2 - s_4)) ≥ 2))
        (joinW (σ := Unit) (fun J_36 =>
          loopW (σ := Int) (fun K_37 s_38 =>
            cond (decide (s_38 < p2))
              (drawW <|
            idxW d0.a d0.n 1 s_38 fun x_39 =>
            ld (.sc (.int .u8)) x_39 fun (x_40 : Int) =>
            idxW d0.a d0.n 1 (IntKind.wrap .i64 (s_38 - 1)) fun x_41 =>
            ld (.sc (.int .u8)) x_41 fun (x_42 : Int) =>
            callW Tryz.prog k_cmp_Less_byte [.int .u8 x_40, .int .u8 x_42] [.sc .bool] fun (x_43 : Bool) =>
            cond (!x_43)
              (J_36 ())
              (drawW <|
            idxW d0.a d0.n 1 (IntKind.wrap .i64 (s_38 - 1)) fun x_44 =>
            ld (.sc (.int .u8)) x_44 fun (x_45 : Int) =>
            idxW d0.a d0.n 1 s_38 fun x_46 =>
            ld (.sc (.int .u8)) x_46 fun (x_47 : Int) =>
            idxW d0.a d0.n 1 s_38 fun x_48 =>
            stoL x_48 [.int .u8 x_45] 0 <|
            idxW d0.a d0.n 1 (IntKind.wrap .i64 (s_38 - 1)) fun x_49 =>
            stoL x_49 [.int .u8 x_47] 0 <|
            K_37 (IntKind.wrap .i64 (s_38 + 1))))
              (J_36 ()))
            (IntKind.wrap .i64 (s_4 + 1)))
        <| fun s_50 =>
        J_35 ())
        (J_35 ()))
    <| fun s_51 =>
    K_1 (s_4, IntKind.wrap .i64 (s_2.2 + 1))))))
      s_2.1)
      (retW false))
    (IntKind.wrap .i64 (o1 + 1), 0)
def H_slices_partialInsertionSortOrdered_byte : Hints := { reg := [(5, [(32, .sc .bool)])], con := [(14061, []), (20098, [])], blk := [(4, []), (6, [])], lop := [(0, [(7, .sc (.int .i64)), (8, .sc (.int .i64))]), (2, [(7, .sc (.int .i64))]), (4, [(9, .sc (.int .i64))]), (6, [(10, .sc (.int .i64))])], dr := [(5, ([], [[(0, []), (1, []), (2, []), (3, []), (4, []), (5, []), (6, []), (7, []), (8, []), (9, []), (10, []), (11, []), (12, []), (13, []), (14, []), (15, [])]])), (11, ([], [[(0, []), (1, []), (2, []), (3, []), (4, []), (5, []), (6, []), (7, []), (8, []), (9, []), (10, []), (11, []), (12, []), (13, []), (14, []), (15, []), (16, []), (17, [])]])), (16, ([], [[(0, []), (1, []), (2, []), (3, []), (4, []), (5, []), (6, []), (7, []), (8, []), (9, []), (10, [])]])), (17, ([], [[(0, []), (1, []), (2, []), (3, []), (4, []), (5, []), (6, []), (7, []), (8, []), (9, []), (10, []), (11, []), (12, []), (13, []), (14, []), (15, []), (16, []), (17, [])]])), (22, ([], [[(0, []), (1, []), (2, []), (3, []), (4, []), (5, []), (6, []), (7, []), (8, []), (9, []), (10, [])]])), (23, ([], [[(0, []), (1, []), (2, []), (3, []), (4, []), (5, []), (6, []), (7, []), (8, []), (9, []), (10, []), (11, []), (12, []), (13, []), (14, []), (15, []), (16, []), (17, [])]]))] }
theorem E_slices_partialInsertionSortOrdered_byte (d0 : Sl) (o1 : Int) (p2 : Int) : denF Tryz.prog H_slices_partialInsertionSortOrdered_byte Tryz.f247 [.sc .bool] [.slice d0.a d0.n d0.c, .int .i64 o1, .int .i64 p2] = F_slices_partialInsertionSortOrdered_byte d0 o1 p2 := by kernel_rfl
theorem C_slices_partialInsertionSortOrdered_byte {R : Type} (d0 : Sl) (o1 : Int) (p2 : Int) (K : Res [.sc .bool] → W R) (Q : R → World → Prop) (w : World) (h : F_slices_partialInsertionSortOrdered_byte d0 o1 p2 (fun r w => K r Q w) w) : callW Tryz.prog k_slices_partialInsertionSortOrdered_byte [.slice d0.a d0.n d0.c, .int .i64 o1, .int .i64 p2] [.sc .bool] K Q w :=
  den_calls mix Tryz.func247 H_slices_partialInsertionSortOrdered_byte (ts := [.sc .bool]) trivial (by rw [Tryz.ntmps247]; simp) (by rw [E_slices_partialInsertionSortOrdered_byte]; exact h)

/-! 248 cmp.Less[byte] -/
def F_cmp_Less_byte (x0 : Int) (y1 : Int) : W (Bool) :=
  joinW (σ := Bool) (fun J_1 =>
    callW Tryz.prog k_cmp_isNaN_byte [.int .u8 x0] [.sc .bool] fun (x_2 : Bool) =>
    cond x_2
      (callW Tryz.prog k_cmp_isNaN_byte [.int .u8 y1] [.sc .bool] fun (x_3 : Bool) =>
        cond (!x_3)
            (J_1 true)
            (J_1 (decide (x0 < y1))))
      (J_1 (decide (x0 < y1))))
  <| fun s_4 =>
  retW s_4
def H_cmp_Less_byte : Hints := { reg := [(1, [(4, .sc .bool)])] }
theorem E_cmp_Less_byte (x0 : Int) (y1 : Int) : denF Tryz.prog H_cmp_Less_byte Tryz.f248 [.sc .bool] [.int .u8 x0, .int .u8 y1] = F_cmp_Less_byte x0 y1 := by kernel_rfl
theorem C_cmp_Less_byte {R : Type} (x0 : Int) (y1 : Int) (K : Res [.sc .bool] → W R) (Q : R → World → Prop) (w : World) (h : F_cmp_Less_byte x0 y1 (fun r w => K r Q w) w) : callW Tryz.prog k_cmp_Less_byte [.int .u8 x0, .int .u8 y1] [.sc .bool] K Q w :=
  den_calls mix Tryz.func248 H_cmp_Less_byte (ts := [.sc .bool]) trivial (by rw [Tryz.ntmps248]; simp) (by rw [E_cmp_Less_byte]; exact h)

/-! 249 slices.partitionEqualOrdered[byte] -/
def F_slices_partitionEqualOrdered_byte (d0 : Sl) (o1 : Int) (p2 : Int) (p3 : Int) : W (Int) :=
  drawW <|
  idxW d0.a d0.n 1 p3 fun x_1 =>
  ld (.sc (.int .u8)) x_1 fun (x_2 : Int) =>
  idxW d0.a d0.n 1 o1 fun x_3 =>
  ld (.sc (.int .u8)) x_3 fun (x_4 : Int) =>
  idxW d0.a d0.n 1 o1 fun x_5 =>
  stoL x_5 [.int .u8 x_2] 0 <|
  idxW d0.a d0.n 1 p3 fun x_6 =>
  stoL x_6 [.int .u8 x_4] 0 <|
  loopW (σ := Int × Int) (fun K_7 s_8 =>
    loopW (σ := Int) (fun K_9 s_10 =>
      joinW (σ := Bool) (fun J_11 =>
        drawW <|
        cond (decide (s_10 ≤ s_8.2))
          (idxW d0.a d0.n 1 o1 fun x_12 =>
              ld (.sc (.int .u8)) x_12 fun (x_13 : Int) =>
                idxW d0.a d0.n 1 s_10 fun x_14 =>
                      ld (.sc (.int .u8)) x_14 fun (x_15 : Int) =>
                        callW Tryz.prog k_cmp_Less_byte [.int .u8 x_13, .int .u8 x_15] [.sc .bool] fun (x_16 : Bool) =>
                          J_11 (!x_16))
          (J_11 false))
      <| fun s_17 =>
      cond s_17
        (K_9 (IntKind.wrap .i64 (s_10 + 1)))
        (loopW (σ := Int) (fun K_18 s_19 =>
      joinW (σ := Bool) (fun J_20 =>
        drawW <|
        cond (decide (s_10 ≤ s_19))
          (idxW d0.a d0.n 1 o1 fun x_21 =>
              ld (.sc (.int .u8)) x_21 fun (x_22 : Int) =>
                idxW d0.a d0.n 1 s_19 fun x_23 =>
                      ld (.sc (.int .u8)) x_23 fun (x_24 : Int) =>
                        callW Tryz.prog k_cmp_Less_byte [.int .u8 x_22, .int .u8 x_24] [.sc .bool] fun (x_25 : Bool) =>
                          J_20 x_25)
          (J_20 false))
      <| fun s_26 =>
      cond s_26
        (K_18 (IntKind.wrap .i64 (s_19 - 1)))
        (cond (decide (s_10 > s_19))
      (retW s_10)
      (drawW <|
    idxW d0.a d0.n 1 s_19 fun x_27 =>
    ld (.sc (.int .u8)) x_27 fun (x_28 : Int) =>
    idxW d0.a d0.n 1 s_10 fun x_29 =>
    ld (.sc (.int .u8)) x_29 fun (x_30 : Int) =>
    idxW d0.a d0.n 1 s_10 fun x_31 =>
    stoL x_31 [.int .u8 x_28] 0 <|
    idxW d0.a d0.n 1 s_19 fun x_32 =>
    stoL x_32 [.int .u8 x_30] 0 <|
    K_7 (IntKind.wrap .i64 (s_10 + 1), IntKind.wrap .i64 (s_19 - 1)))))
      s_8.2))
      s_8.1)
    (IntKind.wrap .i64 (o1 + 1), IntKind.wrap .i64 (p2 - 1))
def H_slices_partitionEqualOrdered_byte : Hints := { reg := [(3, [(43, .sc .bool)]), (5, [(59, .sc .bool)])], lop := [(0, [(9, .sc (.int .i64)), (10, .sc (.int .i64))]), (2, [(9, .sc (.int .i64))]), (4, [(10, .sc (.int .i64))])], dr := [(1, ([], [[(0, []), (1, []), (2, []), (3, []), (4, []), (5, []), (6, []), (7, []), (8, []), (9, []), (10, []), (11, []), (12, []), (13, []), (14, []), (15, [])]])), (3, ([], [[(0, []), (1, []), (2, []), (3, []), (4, []), (5, []), (6, []), (7, []), (8, []), (9, []), (10, []), (11, []), (12, []), (13, []), (14, [])]])), (5, ([], [[(0, []), (1, []), (2, []), (3, []), (4, []), (5, []), (6, []), (7, []), (8, []), (9, []), (10, []), (11, []), (12, []), (13, [])]])), (8, ([], [[(0, []), (1, []), (2, []), (3, []), (4, []), (5, []), (6, []), (7, []), (8, []), (9, []), (10, []), (11, []), (12, []), (13, []), (14, []), (15, [])]]))] }
theorem E_slices_partitionEqualOrdered_byte (d0 : Sl) (o1 : Int) (p2 : Int) (p3 : Int) : denF Tryz.prog H_slices_partitionEqualOrdered_byte Tryz.f249 [.sc (.int .i64)] [.slice d0.a d0.n d0.c, .int .i64 o1, .int .i64 p2, .int .i64 p3] = F_slices_partitionEqualOrdered_byte d0 o1 p2 p3 := by kernel_rfl
theorem C_slices_partitionEqualOrdered_byte {R : Type} (d0 : Sl) (o1 : Int) (p2 : Int) (p3 : Int) (K : Res [.sc (.int .i64)] → W R) (Q : R → World → Prop) (w : World) (h : F_slices_partitionEqualOrdered_byte d0 o1 p2 p3 (fun r w => K r Q w) w) : callW Tryz.prog k_slices_partitionEqualOrdered_byte [.slice d0.a d0.n d0.c, .int .i64 o1, .int .i64 p2, .int .i64 p3] [.sc (.int .i64)] K Q w :=
  den_calls mix Tryz.func249 H_slices_partitionEqualOrdered_byte (ts := [.sc (.int .i64)]) trivial (by rw [Tryz.ntmps249]; simp) (by rw [E_slices_partitionEqualOrdered_byte]; exact h)

/-! 250 slices.partitionOrdered[byte] -/
def F_slices_partitionOrdered_byte (d0 : Sl) (o1 : Int) (p2 : Int) (p3 : Int) : W (Int × Bool) :=
  drawW <|
  idxW d0.a d0.n 1 p3 fun x_1 =>
  ld (.sc (.int .u8)) x_1 fun (x_2 : Int) =>
  idxW d0.a d0.n 1 o1 fun x_3 =>
  ld (.sc (.int .u8)) x_3 fun (x_4 : Int) =>
  idxW d0.a d0.n 1 o1 fun x_5 =>
  stoL x_5 [.int .u8 x_2] 0 <|
  idxW d0.a d0.n 1 p3 fun x_6 =>
  stoL x_6 [.int .u8 x_4] 0 <|
  loopW (σ := Int) (fun K_7 s_8 =>
    joinW (σ := Bool) (fun J_9 =>
      drawW <|
      cond (decide (s_8 ≤ (IntKind.wrap .i64 (p2 - 1))))
        (idxW d0.a d0.n 1 s_8 fun x_10 =>
            ld (.sc (.int .u8)) x_10 fun (x_11 : Int) =>
              idxW d0.a d0.n 1 o1 fun x_12 =>
                    ld (.sc (.int .u8)) x_12 fun (x_13 : Int) =>
                      callW Tryz.prog k_cmp_Less_byte [.int .u8 x_11, .int .u8 x_13] [.sc .bool] fun (x_14 : Bool) =>
                        J_9 x_14)
        (J_9 false))
    <| fun s_15 =>
    cond s_15
      (K_7 (IntKind.wrap .i64 (s_8 + 1)))
      (loopW (σ := Int) (fun K_16 s_17 =>
    joinW (σ := Bool) (fun J_18 =>
      drawW <|
      cond (decide (s_8 ≤ s_17))
        (idxW d0.a d0.n 1 s_17 fun x_19 =>
            ld (.sc (.int .u8)) x_19 fun (x_20 : Int) =>
              idxW d0.a d0.n 1 o1 fun x_21 =>
                    ld (.sc (.int .u8)) x_21 fun (x_22 : Int) =>
                      callW Tryz.prog k_cmp_Less_byte [.int .u8 x_20, .int .u8 x_22] [.sc .bool] fun (x_23 : Bool) =>
                        J_18 (!x_23))
        (J_18 false))
    <| fun s_24 =>
    cond s_24
      (K_16 (IntKind.wrap .i64 (s_17 - 1)))
      (cond (decide (s_8 > s_17))
    (drawW <|
    idxW d0.a d0.n 1 o1 fun x_25 =>
    ld (.sc (.int .u8)) x_25 fun (x_26 : Int) =>
    idxW d0.a d0.n 1 s_17 fun x_27 =>
    ld (.sc (.int .u8)) x_27 fun (x_28 : Int) =>
    idxW d0.a d0.n 1 s_17 fun x_29 =>
    stoL x_29 [.int .u8 x_26] 0 <|
    idxW d0.a d0.n 1 o1 fun x_30 =>
    stoL x_30 [.int .u8 x_28] 0 <|
    retW (s_17, true))
    (drawW <|
  idxW d0.a d0.n 1 s_17 fun x_31 =>
  ld (.sc (.int .u8)) x_31 fun (x_32 : Int) =>
  idxW d0.a d0.n 1 s_8 fun x_33 =>
  ld (.sc (.int .u8)) x_33 fun (x_34 : Int) =>
  idxW d0.a d0.n 1 s_8 fun x_35 =>
  stoL x_35 [.int .u8 x_32] 0 <|
  idxW d0.a d0.n 1 s_17 fun x_36 =>
  stoL x_36 [.int .u8 x_34] 0 <|
  loopW (σ := Int × Int) (fun K_37 s_38 =>
    loopW (σ := Int) (fun K_39 s_40 =>
      joinW (σ := Bool) (fun J_41 =>
        drawW <|
        cond (decide (s_40 ≤ s_38.2))
          (idxW d0.a d0.n 1 s_40 fun x_42 =>
              ld (.sc (.int .u8)) x_42 fun (x_43 : Int) =>
                idxW d0.a d0.n 1 o1 fun x_44 =>
                      ld (.sc (.int .u8)) x_44 fun (x_45 : Int) =>
                        callW Tryz.prog k_cmp_Less_byte [.int .u8 x_43, .int .u8 x_45] [.sc .bool] fun (x_46 : Bool) =>
                          J_41 x_46)
          (J_41 false))
      <| fun s_47 =>
      cond s_47
        (K_39 (IntKind.wrap .i64 (s_40 + 1)))
        (loopW (σ := Int) (fun K_48 s_49 =>
      joinW (σ := Bool) (fun J_50 =>
        drawW <|
        cond (decide (s_40 ≤ s_49))
          (idxW d0.a d0.n 1 s_49 fun x_51 =>
              ld (.sc (.int .u8)) x_51 fun (x_52 : Int) =>
                idxW d0.a d0.n 1 o1 fun x_53 =>
                      ld (.sc (.int .u8)) x_53 fun (x_54 : Int) =>
                        callW Tryz.prog k_cmp_Less_byte [.int .u8 x_52, .int .u8 x_54] [.sc .bool] fun (x_55 : Bool) =>
                          J_50 (!x_55))
          (J_50 false))
      <| fun s_56 =>
      cond s_56
        (K_48 (IntKind.wrap .i64 (s_49 - 1)))
        (cond (decide (s_40 > s_49))
      (drawW <|
  idxW d0.a d0.n 1 o1 fun x_57 =>
  ld (.sc (.int .u8)) x_57 fun (x_58 : Int) =>
  idxW d0.a d0.n 1 s_49 fun x_59 =>
  ld (.sc (.int .u8)) x_59 fun (x_60 : Int) =>
  idxW d0.a d0.n 1 s_49 fun x_61 =>
  stoL x_61 [.int .u8 x_58] 0 <|
  idxW d0.a d0.n 1 o1 fun x_62 =>
  stoL x_62 [.int .u8 x_60] 0 <|
  retW (s_49, false))
      (drawW <|
    idxW d0.a d0.n 1 s_49 fun x_63 =>
    ld (.sc (.int .u8)) x_63 fun (x_64 : Int) =>
    idxW d0.a d0.n 1 s_40 fun x_65 =>
    ld (.sc (.int .u8)) x_65 fun (x_66 : Int) =>
    idxW d0.a d0.n 1 s_40 fun x_67 =>
    stoL x_67 [.int .u8 x_64] 0 <|
    idxW d0.a d0.n 1 s_49 fun x_68 =>
    stoL x_68 [.int .u8 x_66] 0 <|
    K_37 (IntKind.wrap .i64 (s_40 + 1), IntKind.wrap .i64 (s_49 - 1)))))
      s_38.2))
      s_38.1)
    (IntKind.wrap .i64 (s_8 + 1), IntKind.wrap .i64 (s_17 - 1)))))
    (IntKind.wrap .i64 (p2 - 1))))
    (IntKind.wrap .i64 (o1 + 1))
def H_slices_partitionOrdered_byte : Hints := { reg := [(3, [(43, .sc .bool)]), (5, [(60, .sc .bool)]), (13, [(112, .sc .bool)]), (15, [(129, .sc .bool)])], lop := [(0, [(10, .sc (.int .i64))]), (2, [(11, .sc (.int .i64))]), (4, [(10, .sc (.int .i64)), (11, .sc (.int .i64))]), (6, [(10, .sc (.int .i64))]), (8, [(11, .sc (.int .i64))])], dr := [(1, ([], [[(0, []), (1, []), (2, []), (3, []), (4, []), (5, []), (6, []), (7, []), (8, []), (9, []), (10, []), (11, []), (12, []), (13, []), (14, []), (15, [])]])), (3, ([], [[(0, []), (1, []), (2, []), (3, []), (4, []), (5, []), (6, []), (7, []), (8, []), (9, []), (10, []), (11, []), (12, []), (13, [])]])), (5, ([], [[(0, []), (1, []), (2, []), (3, []), (4, []), (5, []), (6, []), (7, []), (8, []), (9, []), (10, []), (11, []), (12, []), (13, []), (14, [])]])), (8, ([], [[(0, []), (1, []), (2, []), (3, []), (4, []), (5, []), (6, []), (7, []), (8, []), (9, []), (10, []), (11, []), (12, []), (13, []), (14, []), (15, [])]])), (10, ([], [[(0, []), (1, []), (2, []), (3, []), (4, []), (5, []), (6, []), (7, []), (8, []), (9, []), (10, []), (11, []), (12, []), (13, []), (14, []), (15, [])]])), (13, ([], [[(0, []), (1, []), (2, []), (3, []), (4, []), (5, []), (6, []), (7, []), (8, []), (9, []), (10, []), (11, []), (12, []), (13, [])]])), (15, ([], [[(0, []), (1, []), (2, []), (3, []), (4, []), (5, []), (6, []), (7, []), (8, []), (9, []), (10, []), (11, []), (12, []), (13, []), (14, [])]])), (18, ([], [[(0, []), (1, []), (2, []), (3, []), (4, []), (5, []), (6, []), (7, []), (8, []), (9, []), (10, []), (11, []), (12, []), (13, []), (14, []), (15, [])]])), (21, ([], [[(0, []), (1, []), (2, []), (3, []), (4, []), (5, []), (6, []), (7, []), (8, []), (9, []), (10, []), (11, []), (12, []), (13, []), (14, []), (15, [])]]))] }
theorem E_slices_partitionOrdered_byte (d0 : Sl) (o1 : Int) (p2 : Int) (p3 : Int) : denF Tryz.prog H_slices_partitionOrdered_byte Tryz.f250 [.sc (.int .i64), .sc .bool] [.slice d0.a d0.n d0.c, .int .i64 o1, .int .i64 p2, .int .i64 p3] = F_slices_partitionOrdered_byte d0 o1 p2 p3 := by kernel_rfl
theorem C_slices_partitionOrdered_byte {R : Type} (d0 : Sl) (o1 : Int) (p2 : Int) (p3 : Int) (K : Res [.sc (.int .i64), .sc .bool] → W R) (Q : R → World → Prop) (w : World) (h : F_slices_partitionOrdered_byte d0 o1 p2 p3 (fun r w => K r Q w) w) : callW Tryz.prog k_slices_partitionOrdered_byte [.slice d0.a d0.n d0.c, .int .i64 o1, .int .i64 p2, .int .i64 p3] [.sc (.int .i64), .sc .bool] K Q w :=
  den_calls mix Tryz.func250 H_slices_partitionOrdered_byte (ts := [.sc (.int .i64), .sc .bool]) trivial (by rw [Tryz.ntmps250]; simp) (by rw [E_slices_partitionOrdered_byte]; exact h)

/-! 254 slices.siftDownOrdered[byte] -/
def F_slices_siftDownOrdered_byte (d0 : Sl) (o1 : Int) (p2 : Int) (p3 : Int) : W (Unit) :=
  loopW (σ := Int) (fun K_1 s_2 =>
    cond (decide ((IntKind.wrap .i64 ((IntKind.wrap .i64 (2 * s_2)) + 1)) ≥ p2))
      (retW ())
      (joinW (σ := Bool) (fun J_3 =>
      drawW <|
      cond (decide ((IntKind.wrap .i64 ((IntKind.wrap .i64 ((IntKind.wrap .i64 (2 * s_2)) + 1)) + 1)) < p2))
        (idxW d0.a d0.n 1 (IntKind.wrap .i64 (p3 + (IntKind.wrap .i64 ((IntKind.wrap .i64 (2 * s_2)) + 1)))) fun x_4 =>
                ld (.sc (.int .u8)) x_4 fun (x_5 : Int) =>
                  idxW d0.a d0.n 1 (IntKind.wrap .i64 ((IntKind.wrap .i64 (p3 + (IntKind.wrap .i64 ((IntKind.wrap .i64 (2 * s_2)) + 1)))) + 1)) fun x_6 =>
                              ld (.sc (.int .u8)) x_6 fun (x_7 : Int) =>
                                callW Tryz.prog k_cmp_Less_byte [.int .u8 x_5, .int .u8 x_7] [.sc .bool] fun (x_8 : Bool) =>
                                  J_3 x_8)
        (J_3 false))
    <| fun s_9 =>
    joinW (σ := Int) (fun J_10 =>
      cond s_9
        (J_10 (IntKind.wrap .i64 ((IntKind.wrap .i64 ((IntKind.wrap .i64 (2 * s_2)) + 1)) + 1)))
        (J_10 (IntKind.wrap .i64 ((IntKind.wrap .i64 (2 * s_2)) + 1))))
    <| fun s_11 =>
    drawW <|
    idxW d0.a d0.n 1 (IntKind.wrap .i64 (p3 + s_2)) fun x_12 =>
    ld (.sc (.int .u8)) x_12 fun (x_13 : Int) =>
    idxW d0.a d0.n 1 (IntKind.wrap .i64 (p3 + s_11)) fun x_14 =>
    ld (.sc (.int .u8)) x_14 fun (x_15 : Int) =>
    callW Tryz.prog k_cmp_Less_byte [.int .u8 x_13, .int .u8 x_15] [.sc .bool] fun (x_16 : Bool) =>
    cond (!x_16)
      (retW ())
      (drawW <|
    idxW d0.a d0.n 1 (IntKind.wrap .i64 (p3 + s_11)) fun x_17 =>
    ld (.sc (.int .u8)) x_17 fun (x_18 : Int) =>
    idxW d0.a d0.n 1 (IntKind.wrap .i64 (p3 + s_2)) fun x_19 =>
    ld (.sc (.int .u8)) x_19 fun (x_20 : Int) =>
    idxW d0.a d0.n 1 (IntKind.wrap .i64 (p3 + s_2)) fun x_21 =>
    stoL x_21 [.int .u8 x_18] 0 <|
    idxW d0.a d0.n 1 (IntKind.wrap .i64 (p3 + s_11)) fun x_22 =>
    stoL x_22 [.int .u8 x_20] 0 <|
    K_1 s_11)))
    o1
def H_slices_siftDownOrdered_byte : Hints := { reg := [(3, [(36, .sc .bool)])], con := [(5036, [(9, .sc (.int .i64))])], lop := [(0, [(8, .sc (.int .i64))])], dr := [(3, ([], [[(0, []), (1, []), (2, []), (3, []), (4, []), (5, []), (6, []), (7, []), (8, []), (9, []), (10, []), (11, []), (12, []), (13, []), (14, []), (15, []), (16, []), (17, []), (18, []), (19, [])]])), (5, ([], [[(0, []), (1, []), (2, []), (3, []), (4, []), (5, []), (6, []), (7, []), (8, []), (9, []), (10, []), (11, []), (12, []), (13, [])]])), (6, ([], [[(0, []), (1, []), (2, []), (3, []), (4, []), (5, []), (6, []), (7, []), (8, []), (9, []), (10, []), (11, []), (12, []), (13, []), (14, []), (15, []), (16, []), (17, []), (18, []), (19, []), (20, []), (21, []), (22, []), (23, [])]]))] }
theorem E_slices_siftDownOrdered_byte (d0 : Sl) (o1 : Int) (p2 : Int) (p3 : Int) : denF Tryz.prog H_slices_siftDownOrdered_byte Tryz.f254 [] [.slice d0.a d0.n d0.c, .int .i64 o1, .int .i64 p2, .int .i64 p3] = F_slices_siftDownOrdered_byte d0 o1 p2 p3 := by kernel_rfl
theorem C_slices_siftDownOrdered_byte {R : Type} (d0 : Sl) (o1 : Int) (p2 : Int) (p3 : Int) (K : Res [] → W R) (Q : R → World → Prop) (w : World) (h : F_slices_siftDownOrdered_byte d0 o1 p2 p3 (fun r w => K r Q w) w) : callW Tryz.prog k_slices_siftDownOrdered_byte [.slice d0.a d0.n d0.c, .int .i64 o1, .int .i64 p2, .int .i64 p3] [] K Q w :=
  den_calls mix Tryz.func254 H_slices_siftDownOrdered_byte (ts := []) trivial (by rw [Tryz.ntmps254]; simp) (by rw [E_slices_siftDownOrdered_byte]; exact h)

/-! 255 slices.medianAdjacentOrdered[byte] -/
def F_slices_medianAdjacentOrdered_byte (data0 : Sl) (a1 : Int) (swaps2 : Option Addr) : W (Int) :=
  callW Tryz.prog k_slices_medianOrdered_byte [.slice data0.a data0.n data0.c, .int .i64 (IntKind.wrap .i64 (a1 - 1)), .int .i64 a1, .int .i64 (IntKind.wrap .i64 (a1 + 1)), .pointer swaps2] [.sc (.int .i64)] fun (x_1 : Int) =>
  retW x_1
def H_slices_medianAdjacentOrdered_byte : Hints := {}
theorem E_slices_medianAdjacentOrdered_byte (data0 : Sl) (a1 : Int) (swaps2 : Option Addr) : denF Tryz.prog H_slices_medianAdjacentOrdered_byte Tryz.f255 [.sc (.int .i64)] [.slice data0.a data0.n data0.c, .int .i64 a1, .pointer swaps2] = F_slices_medianAdjacentOrdered_byte data0 a1 swaps2 := by kernel_rfl
theorem C_slices_medianAdjacentOrdered_byte {R : Type} (data0 : Sl) (a1 : Int) (swaps2 : Option Addr) (K : Res [.sc (.int .i64)] → W R) (Q : R → World → Prop) (w : World) (h : F_slices_medianAdjacentOrdered_byte data0 a1 swaps2 (fun r w => K r Q w) w) : callW Tryz.prog k_slices_medianAdjacentOrdered_byte [.slice data0.a data0.n data0.c, .int .i64 a1, .pointer swaps2] [.sc (.int .i64)] K Q w :=
  den_calls mix Tryz.func255 H_slices_medianAdjacentOrdered_byte (ts := [.sc (.int .i64)]) trivial (by rw [Tryz.ntmps255]; simp) (by rw [E_slices_medianAdjacentOrdered_byte]; exact h)

/-! 256 slices.medianOrdered[byte] -/
def F_slices_medianOrdered_byte (data0 : Sl) (a1 : Int) (b2 : Int) (c3 : Int) (swaps4 : Option Addr) : W (Int) :=
  callW Tryz.prog k_slices_order2Ordered_byte [.slice data0.a data0.n data0.c, .int .i64 a1, .int .i64 b2, .pointer swaps4] [.sc (.int .i64), .sc (.int .i64)] fun (x_1 : Int × Int) =>
  callW Tryz.prog k_slices_order2Ordered_byte [.slice data0.a data0.n data0.c, .int .i64 x_1.2, .int .i64 c3, .pointer swaps4] [.sc (.int .i64), .sc (.int .i64)] fun (x_2 : Int × Int) =>
  callW Tryz.prog k_slices_order2Ordered_byte [.slice data0.a data0.n data0.c, .int .i64 x_1.1, .int .i64 x_2.1, .pointer swaps4] [.sc (.int .i64), .sc (.int .i64)] fun (x_3 : Int × Int) =>
  retW x_3.2
def H_slices_medianOrdered_byte : Hints := {}
theorem E_slices_medianOrdered_byte (data0 : Sl) (a1 : Int) (b2 : Int) (c3 : Int) (swaps4 : Option Addr) : denF Tryz.prog H_slices_medianOrdered_byte Tryz.f256 [.sc (.int .i64)] [.slice data0.a data0.n data0.c, .int .i64 a1, .int .i64 b2, .int .i64 c3, .pointer swaps4] = F_slices_medianOrdered_byte data0 a1 b2 c3 swaps4 := by kernel_rfl
theorem C_slices_medianOrdered_byte {R : Type} (data0 : Sl) (a1 : Int) (b2 : Int) (c3 : Int) (swaps4 : Option Addr) (K : Res [.sc (.int .i64)] → W R) (Q : R → World → Prop) (w : World) (h : F_slices_medianOrdered_byte data0 a1 b2 c3 swaps4 (fun r w => K r Q w) w) : callW Tryz.prog k_slices_medianOrdered_byte [.slice data0.a data0.n data0.c, .int .i64 a1, .int .i64 b2, .int .i64 c3, .pointer swaps4] [.sc (.int .i64)] K Q w :=
  den_calls mix Tryz.func256 H_slices_medianOrdered_byte (ts := [.sc (.int .i64)]) trivial (by rw [Tryz.ntmps256]; simp) (by rw [E_slices_medianOrdered_byte]; exact h)

/-! 257 cmp.isNaN[byte] -/
def F_cmp_isNaN_byte (x0 : Int) : W (Bool) :=
  retW (x0 != x0)
def H_cmp_isNaN_byte : Hints := {}
theorem E_cmp_isNaN_byte (x0 : Int) : denF Tryz.prog H_cmp_isNaN_byte Tryz.f257 [.sc .bool] [.int .u8 x0] = F_cmp_isNaN_byte x0 := by kernel_rfl
theorem C_cmp_isNaN_byte {R : Type} (x0 : Int) (K : Res [.sc .bool] → W R) (Q : R → World → Prop) (w : World) (h : F_cmp_isNaN_byte x0 (fun r w => K r Q w) w) : callW Tryz.prog k_cmp_isNaN_byte [.int .u8 x0] [.sc .bool] K Q w :=
  den_calls mix Tryz.func257 H_cmp_isNaN_byte (ts := [.sc .bool]) trivial (by rw [Tryz.ntmps257]; simp) (by rw [E_cmp_isNaN_byte]; exact h)

/-! 259 slices.order2Ordered[byte] -/
def F_slices_order2Ordered_byte (data0 : Sl) (a1 : Int) (b2 : Int) (swaps3 : Option Addr) : W (Int × Int) :=
  drawW <|
  idxW data0.a data0.n 1 b2 fun x_1 =>
  ld (.sc (.int .u8)) x_1 fun (x_2 : Int) =>
  idxW data0.a data0.n 1 a1 fun x_3 =>
  ld (.sc (.int .u8)) x_3 fun (x_4 : Int) =>
  callW Tryz.prog k_cmp_Less_byte [.int .u8 x_2, .int .u8 x_4] [.sc .bool] fun (x_5 : Bool) =>
  cond x_5
    (ptrW swaps3 fun x_6 =>
    ld (.sc (.int .i64)) x_6 fun (x_7 : Int) =>
    ptrW swaps3 fun x_8 =>
    stoL x_8 [.int .i64 (IntKind.wrap .i64 (x_7 + 1))] 0 <|
    retW (b2, a1))
    (retW (a1, b2))
def H_slices_order2Ordered_byte : Hints := { dr := [(1, ([], [[(0, []), (1, []), (2, []), (3, []), (4, []), (5, []), (6, []), (7, []), (8, [])]]))] }
theorem E_slices_order2Ordered_byte (data0 : Sl) (a1 : Int) (b2 : Int) (swaps3 : Option Addr) : denF Tryz.prog H_slices_order2Ordered_byte Tryz.f259 [.sc (.int .i64), .sc (.int .i64)] [.slice data0.a data0.n data0.c, .int .i64 a1, .int .i64 b2, .pointer swaps3] = F_slices_order2Ordered_byte data0 a1 b2 swaps3 := by kernel_rfl
theorem C_slices_order2Ordered_byte {R : Type} (data0 : Sl) (a1 : Int) (b2 : Int) (swaps3 : Option Addr) (K : Res [.sc (.int .i64), .sc (.int .i64)] → W R) (Q : R → World → Prop) (w : World) (h : F_slices_order2Ordered_byte data0 a1 b2 swaps3 (fun r w => K r Q w) w) : callW Tryz.prog k_slices_order2Ordered_byte [.slice data0.a data0.n data0.c, .int .i64 a1, .int .i64 b2, .pointer swaps3] [.sc (.int .i64), .sc (.int .i64)] K Q w :=
  den_calls mix Tryz.func259 H_slices_order2Ordered_byte (ts := [.sc (.int .i64), .sc (.int .i64)]) trivial (by rw [Tryz.ntmps259]; simp) (by rw [E_slices_order2Ordered_byte]; exact h)

end Go.Proofs.YtkblnhnjagemlaaGreat
