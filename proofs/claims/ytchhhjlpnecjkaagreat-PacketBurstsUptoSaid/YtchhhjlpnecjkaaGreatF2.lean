/-
  Shallow forms of Go functions, printed by a program of this session (wip/gen.py), each equal to the denotation of its code, by the kernel.
-/
import Derived.Test.YtchhhjlpnecjkaaGreatK
import Derived.Test.YtchhhjlpnecjkaaGreatF
set_option linter.unusedVariables false
namespace Go.Proofs.YtchhhjlpnecjkaaGreat
open Go Go.Proofs.YtchhhjlpnecjkaaGreat.Den


/-! 9 pinnace/pinnaceref18.Few -/
def F_pinnaceref18_Few (l0 : Sl) : W (Bool) :=
  loopW (σ := Int × Int) (fun K_1 s_2 =>
    cond (decide (s_2.2 < (l0.n : Int)))
      (idxW l0.a l0.n 2 s_2.2 fun x_3 =>
    ld (.agg [.int .u32, .sl]) x_3 fun (x_4 : (Int × Sl)) =>
    newW 57 [.int .u32 0, .slice none 0 0] fun e_5 =>
    stoL e_5 [.int .u32 x_4.1, .slice x_4.2.a x_4.2.n x_4.2.c] 0 <|
    ld (.sc .sl) (Addr.add e_5 1) fun (x_6 : Sl) =>
    K_1 (IntKind.wrap .i64 (s_2.1 + (x_6.n : Int)), IntKind.wrap .i64 (s_2.2 + 1)))
      (retW (decide (s_2.1 ≤ 400))))
    ((l0.n : Int), 0)
def H_pinnaceref18_Few : Hints := { lop := [(0, [(3, .sc (.int .i64)), (10, .sc (.int .i64))])] }
theorem E_pinnaceref18_Few (l0 : Sl) : denF Tryz.prog H_pinnaceref18_Few Tryz.f9 [.sc .bool] [.slice l0.a l0.n l0.c] = F_pinnaceref18_Few l0 := by kernel_rfl
theorem C_pinnaceref18_Few {R : Type} (l0 : Sl) (K : Res [.sc .bool] → W R) (Q : R → World → Prop) (w : World) (h : F_pinnaceref18_Few l0 (fun r w => K r Q w) w) : callW Tryz.prog k_pinnaceref18_Few [.slice l0.a l0.n l0.c] [.sc .bool] K Q w :=
  den_calls mix Tryz.func9 H_pinnaceref18_Few (ts := [.sc .bool]) trivial (by rw [Tryz.ntmps9]; simp) (by rw [E_pinnaceref18_Few]; exact h)

/-! 10 pinnace/pinnaceref03.Seal -/
def F_pinnaceref03_Seal (body0 : Sl) : W (Sl × Int) :=
  cond (decide ((body0.n : Int) > 4096))
    (retW ((⟨none, 0, 0⟩ : Sl), 3))
    (callW Tryz.prog k_pinnaceref03_Sum [.slice body0.a body0.n body0.c] [.sc (.int .u32)] fun (x_1 : Int) =>
  newW 5 [] fun x_2 =>
  rawW Tryz.prog (Builtin.append_ #[22, 22] 22 #[.slice (some x_2) 0 0, .slice body0.a body0.n body0.c]) [.sc .sl] fun (x_3 : Sl) =>
  newW 5 [.int .u8 (IntKind.wrap .u8 x_1), .int .u8 (IntKind.wrap .u8 (IntKind.wrap .u32 (Int.tdiv x_1 256))), .int .u8 (IntKind.wrap .u8 (IntKind.wrap .u32 (Int.tdiv x_1 65536))), .int .u8 (IntKind.wrap .u8 (IntKind.wrap .u32 (Int.tdiv x_1 16777216)))] fun x_4 =>
  rawW Tryz.prog (Builtin.append_ #[22, 22] 22 #[.slice x_3.a x_3.n x_3.c, .slice (some x_4) 4 4]) [.sc .sl] fun (x_5 : Sl) =>
  retW (x_5, 0))
def H_pinnaceref03_Seal : Hints := {}
theorem E_pinnaceref03_Seal (body0 : Sl) : denF Tryz.prog H_pinnaceref03_Seal Tryz.f10 [.sc .sl, .sc (.int .i64)] [.slice body0.a body0.n body0.c] = F_pinnaceref03_Seal body0 := by kernel_rfl
theorem C_pinnaceref03_Seal {R : Type} (body0 : Sl) (K : Res [.sc .sl, .sc (.int .i64)] → W R) (Q : R → World → Prop) (w : World) (h : F_pinnaceref03_Seal body0 (fun r w => K r Q w) w) : callW Tryz.prog k_pinnaceref03_Seal [.slice body0.a body0.n body0.c] [.sc .sl, .sc (.int .i64)] K Q w :=
  den_calls mix Tryz.func10 H_pinnaceref03_Seal (ts := [.sc .sl, .sc (.int .i64)]) trivial (by rw [Tryz.ntmps10]; simp) (by rw [E_pinnaceref03_Seal]; exact h)

/-! 11 pinnace/packet.Open -/
def F_packet_Open (d0 : Sl) (o1 : Sl) : W ((Int × Int × Int × Int × Int) × Sl × Int) :=
  newW 30 [.int .u8 0, .int .u8 0, .int .u32 0, .int .u32 0, .int .u32 0] fun x_1 =>
  callW Tryz.prog k_frame_Open [.slice d0.a d0.n d0.c] [.sc .sl, .sc (.int .i64)] fun (x_2 : Sl × Int) =>
  cond (x_2.2 != 0)
    (stoL x_1 [.int .u8 0, .int .u8 0, .int .u32 0, .int .u32 0, .int .u32 0] 0 <|
    ld (.agg [.int .u8, .int .u8, .int .u32, .int .u32, .int .u32]) x_1 fun (x_3 : (Int × Int × Int × Int × Int)) =>
    retW (x_3, (⟨none, 0, 0⟩ : Sl), x_2.2))
    (callW Tryz.prog k_packet_front [.slice x_2.1.a x_2.1.n x_2.1.c] [.agg [.int .u8, .int .u8, .int .u32, .int .u32, .int .u32], .agg [.ptr], .sc (.int .i64)] fun (x_4 : (Int × Int × Int × Int × Int) × (Option Addr) × Int) =>
  newW 30 [.int .u8 0, .int .u8 0, .int .u32 0, .int .u32 0, .int .u32 0] fun x_5 =>
  newW 62 [.pointer none] fun x_6 =>
  stoL x_5 [.int .u8 x_4.1.1, .int .u8 x_4.1.2.1, .int .u32 x_4.1.2.2.1, .int .u32 x_4.1.2.2.2.1, .int .u32 x_4.1.2.2.2.2] 0 <|
  stoL x_6 [.pointer x_4.2.1] 0 <|
  cond (x_4.2.2 != 0)
    (stoL x_1 [.int .u8 0, .int .u8 0, .int .u32 0, .int .u32 0, .int .u32 0] 0 <|
    ld (.agg [.int .u8, .int .u8, .int .u32, .int .u32, .int .u32]) x_1 fun (x_7 : (Int × Int × Int × Int × Int)) =>
    retW (x_7, (⟨none, 0, 0⟩ : Sl), 4))
    (joinW (σ := Bool) (fun J_8 =>
    ld (.sc (.int .u8)) (Addr.add x_5 0) fun (x_9 : Int) =>
    cond (x_9 == 2)
      (callW Tryz.prog k_snap_Form [.slice o1.a o1.n o1.c] [.sc (.int .i64)] fun (x_10 : Int) =>
        J_8 (x_10 != 0))
      (J_8 false))
  <| fun s_11 =>
  cond s_11
    (stoL x_1 [.int .u8 0, .int .u8 0, .int .u32 0, .int .u32 0, .int .u32 0] 0 <|
    ld (.agg [.int .u8, .int .u8, .int .u32, .int .u32, .int .u32]) x_1 fun (x_12 : (Int × Int × Int × Int × Int)) =>
    retW (x_12, (⟨none, 0, 0⟩ : Sl), 4))
    (ld (.agg [.int .u8, .int .u8, .int .u32, .int .u32, .int .u32]) x_5 fun (x_13 : (Int × Int × Int × Int × Int)) =>
  ld (.agg [.ptr]) x_6 fun (x_14 : (Option Addr)) =>
  callW Tryz.prog k_packet_rest [.agg ⟨[.int .u8 x_13.1, .int .u8 x_13.2.1, .int .u32 x_13.2.2.1, .int .u32 x_13.2.2.2.1, .int .u32 x_13.2.2.2.2]⟩, .agg ⟨[.pointer x_14]⟩, .slice o1.a o1.n o1.c] [.sc .sl, .sc (.int .i64)] fun (x_15 : Sl × Int) =>
  cond (x_15.2 != 0)
    (stoL x_1 [.int .u8 0, .int .u8 0, .int .u32 0, .int .u32 0, .int .u32 0] 0 <|
    ld (.agg [.int .u8, .int .u8, .int .u32, .int .u32, .int .u32]) x_1 fun (x_16 : (Int × Int × Int × Int × Int)) =>
    retW (x_16, (⟨none, 0, 0⟩ : Sl), 4))
    (ld (.agg [.int .u8, .int .u8, .int .u32, .int .u32, .int .u32]) x_5 fun (x_17 : (Int × Int × Int × Int × Int)) =>
  callW Tryz.prog k_packet_Seal [.agg ⟨[.int .u8 x_17.1, .int .u8 x_17.2.1, .int .u32 x_17.2.2.1, .int .u32 x_17.2.2.2.1, .int .u32 x_17.2.2.2.2]⟩, .slice o1.a o1.n o1.c, .slice x_15.1.a x_15.1.n x_15.1.c] [.sc .sl, .sc (.int .i64)] fun (x_18 : Sl × Int) =>
  joinW (σ := Bool) (fun J_19 =>
    cond (x_18.2 != 0)
      (J_19 true)
      (callW Tryz.prog k_bytes_Equal [.slice x_18.1.a x_18.1.n x_18.1.c, .slice d0.a d0.n d0.c] [.sc .bool] fun (x_20 : Bool) =>
          J_19 (!x_20)))
  <| fun s_21 =>
  cond s_21
    (stoL x_1 [.int .u8 0, .int .u8 0, .int .u32 0, .int .u32 0, .int .u32 0] 0 <|
    ld (.agg [.int .u8, .int .u8, .int .u32, .int .u32, .int .u32]) x_1 fun (x_22 : (Int × Int × Int × Int × Int)) =>
    retW (x_22, (⟨none, 0, 0⟩ : Sl), 4))
    (ld (.agg [.int .u8, .int .u8, .int .u32, .int .u32, .int .u32]) x_5 fun (x_23 : (Int × Int × Int × Int × Int)) =>
  stoL x_1 [.int .u8 x_23.1, .int .u8 x_23.2.1, .int .u32 x_23.2.2.1, .int .u32 x_23.2.2.2.1, .int .u32 x_23.2.2.2.2] 0 <|
  ld (.agg [.int .u8, .int .u8, .int .u32, .int .u32, .int .u32]) x_1 fun (x_24 : (Int × Int × Int × Int × Int)) =>
  retW (x_24, x_15.1, 0))))))
def H_packet_Open : Hints := { reg := [(7, [(39, .sc .bool)]), (13, [(65, .sc .bool)])] }
theorem E_packet_Open (d0 : Sl) (o1 : Sl) : denF Tryz.prog H_packet_Open Tryz.f11 [.agg [.int .u8, .int .u8, .int .u32, .int .u32, .int .u32], .sc .sl, .sc (.int .i64)] [.slice d0.a d0.n d0.c, .slice o1.a o1.n o1.c] = F_packet_Open d0 o1 := by kernel_rfl
theorem C_packet_Open {R : Type} (d0 : Sl) (o1 : Sl) (K : Res [.agg [.int .u8, .int .u8, .int .u32, .int .u32, .int .u32], .sc .sl, .sc (.int .i64)] → W R) (Q : R → World → Prop) (w : World) (h : F_packet_Open d0 o1 (fun r w => K r Q w) w) : callW Tryz.prog k_packet_Open [.slice d0.a d0.n d0.c, .slice o1.a o1.n o1.c] [.agg [.int .u8, .int .u8, .int .u32, .int .u32, .int .u32], .sc .sl, .sc (.int .i64)] K Q w :=
  den_calls mix Tryz.func11 H_packet_Open (ts := [.agg [.int .u8, .int .u8, .int .u32, .int .u32, .int .u32], .sc .sl, .sc (.int .i64)]) ⟨by kernel_rfl, trivial⟩ (by rw [Tryz.ntmps11]; simp) (by rw [E_packet_Open]; exact h)

/-! 15 pinnace/packet.Seal -/
def F_packet_Seal (d0 : (Int × Int × Int × Int × Int)) (o1 : Sl) (p2 : Sl) : W (Sl × Int) :=
  newW 30 [.int .u8 d0.1, .int .u8 d0.2.1, .int .u32 d0.2.2.1, .int .u32 d0.2.2.2.1, .int .u32 d0.2.2.2.2] fun x_1 =>
  ld (.agg [.int .u8, .int .u8, .int .u32, .int .u32, .int .u32]) x_1 fun (x_2 : (Int × Int × Int × Int × Int)) =>
  callW Tryz.prog k_packet_Check [.agg ⟨[.int .u8 x_2.1, .int .u8 x_2.2.1, .int .u32 x_2.2.2.1, .int .u32 x_2.2.2.2.1, .int .u32 x_2.2.2.2.2]⟩] [.sc (.int .i64)] fun (x_3 : Int) =>
  cond (x_3 != 0)
    (retW ((⟨none, 0, 0⟩ : Sl), x_3))
    (callW Tryz.prog k_bits_New [] [.sc .ptr] fun (x_4 : (Option Addr)) =>
  newW 102 [.pointer x_4, .int .i64 0] fun x_5 =>
  ld (.agg [.int .u8, .int .u8, .int .u32, .int .u32, .int .u32]) x_1 fun (x_6 : (Int × Int × Int × Int × Int)) =>
  callW Tryz.prog k_packet_writer_head [.pointer (some x_5), .agg ⟨[.int .u8 x_6.1, .int .u8 x_6.2.1, .int .u32 x_6.2.2.1, .int .u32 x_6.2.2.2.1, .int .u32 x_6.2.2.2.2]⟩] [] fun (x_7 : Unit) =>
  ld (.sc (.int .u8)) (Addr.add x_1 0) fun (x_8 : Int) =>
  joinW (σ := Unit) (fun J_9 =>
    cond (x_8 == 1)
      (callW Tryz.prog k_snap_Form [.slice p2.a p2.n p2.c] [.sc (.int .i64)] fun (x_10 : Int) =>
      callW Tryz.prog k_packet_writer_keep [.pointer (some x_5), .int .i64 x_10] [] fun (x_11 : Unit) =>
      ld (.sc (.int .i64)) (Addr.add x_5 1) fun (x_12 : Int) =>
      joinW (σ := Unit) (fun J_13 =>
        cond (x_12 == 0)
          (callW Tryz.prog k_packet_writer_ents [.pointer (some x_5), .slice p2.a p2.n p2.c] [] fun (x_14 : Unit) =>
          J_13 ())
          (J_13 ()))
      <| fun s_15 =>
      J_9 ())
      (joinW (σ := Unit) (fun J_16 =>
        cond (x_8 == 2)
          (callW Tryz.prog k_diff_Diff [.slice o1.a o1.n o1.c, .slice p2.a p2.n p2.c] [.agg [.sl, .sl, .sl], .sc (.int .i64)] fun (x_17 : (Sl × Sl × Sl) × Int) =>
          newW 80 [.slice none 0 0, .slice none 0 0, .slice none 0 0] fun x_18 =>
          stoL x_18 [.slice x_17.1.1.a x_17.1.1.n x_17.1.1.c, .slice x_17.1.2.1.a x_17.1.2.1.n x_17.1.2.1.c, .slice x_17.1.2.2.a x_17.1.2.2.n x_17.1.2.2.c] 0 <|
          callW Tryz.prog k_packet_writer_keep [.pointer (some x_5), .int .i64 x_17.2] [] fun (x_19 : Unit) =>
          joinW (σ := Unit) (fun J_20 =>
            cond (x_17.2 == 0)
              (ld (.agg [.sl, .sl, .sl]) x_18 fun (x_21 : (Sl × Sl × Sl)) =>
              callW Tryz.prog k_packet_writer_delta [.pointer (some x_5), .slice o1.a o1.n o1.c, .agg ⟨[.slice x_21.1.a x_21.1.n x_21.1.c, .slice x_21.2.1.a x_21.2.1.n x_21.2.1.c, .slice x_21.2.2.a x_21.2.2.n x_21.2.2.c]⟩] [] fun (x_22 : Unit) =>
              J_20 ())
              (J_20 ()))
          <| fun s_23 =>
          J_16 ())
          (joinW (σ := Unit) (fun J_24 =>
            cond (decide ((p2.n : Int) > 0))
              (callW Tryz.prog k_packet_writer_keep [.pointer (some x_5), .int .i64 4] [] fun (x_25 : Unit) =>
              J_24 ())
              (J_24 ()))
          <| fun s_26 =>
          J_16 ()))
      <| fun s_27 =>
      J_9 ()))
  <| fun s_28 =>
  ld (.sc (.int .i64)) (Addr.add x_5 1) fun (x_29 : Int) =>
  cond (x_29 != 0)
    (drawW <|
    ld (.sc (.int .i64)) (Addr.add x_5 1) fun (x_30 : Int) =>
    retW ((⟨none, 0, 0⟩ : Sl), x_30))
    (ld (.sc .ptr) (Addr.add x_5 0) fun (x_31 : Option Addr) =>
  callW Tryz.prog k_bits_Writer_Bytes [.pointer x_31] [.sc .sl] fun (x_32 : Sl) =>
  callW Tryz.prog k_frame_Seal [.slice x_32.a x_32.n x_32.c] [.sc .sl, .sc (.int .i64)] fun (x_33 : Sl × Int) =>
  retW (x_33.1, x_33.2)))
def H_packet_Seal : Hints := { con := [(13040, []), (18056, []), (9027, []), (15044, []), (11030, [])], dr := [(19, ([], [[(0, []), (1, []), (2, []), (3, []), (4, []), (5, [])]]))] }
theorem E_packet_Seal (d0 : (Int × Int × Int × Int × Int)) (o1 : Sl) (p2 : Sl) : denF Tryz.prog H_packet_Seal Tryz.f15 [.sc .sl, .sc (.int .i64)] [.agg ⟨[.int .u8 d0.1, .int .u8 d0.2.1, .int .u32 d0.2.2.1, .int .u32 d0.2.2.2.1, .int .u32 d0.2.2.2.2]⟩, .slice o1.a o1.n o1.c, .slice p2.a p2.n p2.c] = F_packet_Seal d0 o1 p2 := by kernel_rfl
theorem C_packet_Seal {R : Type} (d0 : (Int × Int × Int × Int × Int)) (o1 : Sl) (p2 : Sl) (K : Res [.sc .sl, .sc (.int .i64)] → W R) (Q : R → World → Prop) (w : World) (h : F_packet_Seal d0 o1 p2 (fun r w => K r Q w) w) : callW Tryz.prog k_packet_Seal [.agg ⟨[.int .u8 d0.1, .int .u8 d0.2.1, .int .u32 d0.2.2.1, .int .u32 d0.2.2.2.1, .int .u32 d0.2.2.2.2]⟩, .slice o1.a o1.n o1.c, .slice p2.a p2.n p2.c] [.sc .sl, .sc (.int .i64)] K Q w :=
  den_calls mix Tryz.func15 H_packet_Seal (ts := [.sc .sl, .sc (.int .i64)]) trivial (by rw [Tryz.ntmps15]; simp) (by rw [E_packet_Seal]; exact h)

/-! 16 pinnace/pinnaceref20.Check -/
def F_pinnaceref20_Check (h0 : (Int × Int × Int × Int × Int)) : W (Int) :=
  newW 30 [.int .u8 h0.1, .int .u8 h0.2.1, .int .u32 h0.2.2.1, .int .u32 h0.2.2.2.1, .int .u32 h0.2.2.2.2] fun h_1 =>
  joinW (σ := Bool) (fun J_2 =>
    ld (.sc (.int .u8)) (Addr.add h_1 0) fun (x_3 : Int) =>
    cond (decide (x_3 < 1))
      (J_2 true)
      (ld (.sc (.int .u8)) (Addr.add h_1 0) fun (x_4 : Int) =>
        cond (decide (x_4 > 5))
            (J_2 true)
            (ld (.sc (.int .u8)) (Addr.add h_1 1) fun (x_5 : Int) =>
              J_2 (decide (x_5 > 15)))))
  <| fun s_6 =>
  cond s_6
    (retW 1)
    (joinW (σ := Bool) (fun J_7 =>
    ld (.sc (.int .u32)) (Addr.add h_1 2) fun (x_8 : Int) =>
    cond (x_8 == 0)
      (J_7 true)
      (ld (.sc (.int .u8)) (Addr.add h_1 0) fun (x_9 : Int) =>
        cond (decide (x_9 > 3))
              (ld (.sc (.int .u32)) (Addr.add h_1 3) fun (x_10 : Int) =>
                cond (decide (x_10 > 0))
                      (J_7 true)
                      (ld (.sc (.int .u8)) (Addr.add h_1 0) fun (x_11 : Int) =>
                        cond (x_11 != 2)
                              (ld (.sc (.int .u32)) (Addr.add h_1 4) fun (x_12 : Int) =>
                                cond (decide (x_12 > 0))
                                      (J_7 true)
                                      (ld (.sc (.int .u8)) (Addr.add h_1 0) fun (x_13 : Int) =>
                                        cond (x_13 == 2)
                                              (ld (.sc (.int .u32)) (Addr.add h_1 4) fun (x_14 : Int) =>
                                                ld (.sc (.int .u32)) (Addr.add h_1 3) fun (x_15 : Int) =>
                                                    J_7 (decide (x_14 ≥ x_15)))
                                              (J_7 false)))
                              (ld (.sc (.int .u8)) (Addr.add h_1 0) fun (x_16 : Int) =>
                                        cond (x_16 == 2)
                                              (ld (.sc (.int .u32)) (Addr.add h_1 4) fun (x_17 : Int) =>
                                                ld (.sc (.int .u32)) (Addr.add h_1 3) fun (x_18 : Int) =>
                                                    J_7 (decide (x_17 ≥ x_18)))
                                              (J_7 false))))
              (ld (.sc (.int .u8)) (Addr.add h_1 0) fun (x_19 : Int) =>
                        cond (x_19 != 2)
                              (ld (.sc (.int .u32)) (Addr.add h_1 4) fun (x_20 : Int) =>
                                cond (decide (x_20 > 0))
                                      (J_7 true)
                                      (ld (.sc (.int .u8)) (Addr.add h_1 0) fun (x_21 : Int) =>
                                        cond (x_21 == 2)
                                              (ld (.sc (.int .u32)) (Addr.add h_1 4) fun (x_22 : Int) =>
                                                ld (.sc (.int .u32)) (Addr.add h_1 3) fun (x_23 : Int) =>
                                                    J_7 (decide (x_22 ≥ x_23)))
                                              (J_7 false)))
                              (ld (.sc (.int .u8)) (Addr.add h_1 0) fun (x_24 : Int) =>
                                        cond (x_24 == 2)
                                              (ld (.sc (.int .u32)) (Addr.add h_1 4) fun (x_25 : Int) =>
                                                ld (.sc (.int .u32)) (Addr.add h_1 3) fun (x_26 : Int) =>
                                                    J_7 (decide (x_25 ≥ x_26)))
                                              (J_7 false)))))
  <| fun s_27 =>
  cond s_27
    (retW 4)
    (retW 0))
def H_pinnaceref20_Check : Hints := { reg := [(1, [(15, .sc .bool)]), (3, [(50, .sc .bool)])] }
theorem E_pinnaceref20_Check (h0 : (Int × Int × Int × Int × Int)) : denF Tryz.prog H_pinnaceref20_Check Tryz.f16 [.sc (.int .i64)] [.agg ⟨[.int .u8 h0.1, .int .u8 h0.2.1, .int .u32 h0.2.2.1, .int .u32 h0.2.2.2.1, .int .u32 h0.2.2.2.2]⟩] = F_pinnaceref20_Check h0 := by kernel_rfl
theorem C_pinnaceref20_Check {R : Type} (h0 : (Int × Int × Int × Int × Int)) (K : Res [.sc (.int .i64)] → W R) (Q : R → World → Prop) (w : World) (h : F_pinnaceref20_Check h0 (fun r w => K r Q w) w) : callW Tryz.prog k_pinnaceref20_Check [.agg ⟨[.int .u8 h0.1, .int .u8 h0.2.1, .int .u32 h0.2.2.1, .int .u32 h0.2.2.2.1, .int .u32 h0.2.2.2.2]⟩] [.sc (.int .i64)] K Q w :=
  den_calls mix Tryz.func16 H_pinnaceref20_Check (ts := [.sc (.int .i64)]) trivial (by rw [Tryz.ntmps16]; simp) (by rw [E_pinnaceref20_Check]; exact h)

/-! 18 pinnace/pinnaceref20.Seal -/
def F_pinnaceref20_Seal (d0 : (Int × Int × Int × Int × Int)) (o1 : Sl) (p2 : Sl) : W (Sl × Int) :=
  newW 30 [.int .u8 d0.1, .int .u8 d0.2.1, .int .u32 d0.2.2.1, .int .u32 d0.2.2.2.1, .int .u32 d0.2.2.2.2] fun x_1 =>
  ld (.agg [.int .u8, .int .u8, .int .u32, .int .u32, .int .u32]) x_1 fun (x_2 : (Int × Int × Int × Int × Int)) =>
  callW Tryz.prog k_pinnaceref20_Check [.agg ⟨[.int .u8 x_2.1, .int .u8 x_2.2.1, .int .u32 x_2.2.2.1, .int .u32 x_2.2.2.2.1, .int .u32 x_2.2.2.2.2]⟩] [.sc (.int .i64)] fun (x_3 : Int) =>
  cond (x_3 != 0)
    (retW ((⟨none, 0, 0⟩ : Sl), x_3))
    (ld (.agg [.int .u8, .int .u8, .int .u32, .int .u32, .int .u32]) x_1 fun (x_4 : (Int × Int × Int × Int × Int)) =>
  callW Tryz.prog k_pinnaceref20_Head [.agg ⟨[.int .u8 x_4.1, .int .u8 x_4.2.1, .int .u32 x_4.2.2.1, .int .u32 x_4.2.2.2.1, .int .u32 x_4.2.2.2.2]⟩] [.sc .sl] fun (x_5 : Sl) =>
  ld (.sc (.int .u8)) (Addr.add x_1 0) fun (x_6 : Int) =>
  joinW (σ := Sl) (fun J_7 =>
    cond (x_6 == 1)
      (callW Tryz.prog k_pinnaceref18_Form [.slice p2.a p2.n p2.c] [.sc (.int .i64)] fun (x_8 : Int) =>
      cond (x_8 != 0)
        (retW ((⟨none, 0, 0⟩ : Sl), x_8))
        (callW Tryz.prog k_pinnaceref20_ents [.slice x_5.a x_5.n x_5.c, .slice p2.a p2.n p2.c] [.sc .sl] fun (x_9 : Sl) =>
      J_7 x_9))
      (ld (.sc (.int .u8)) (Addr.add x_1 0) fun (x_10 : Int) =>
      joinW (σ := Sl) (fun J_11 =>
        cond (x_10 == 2)
          (callW Tryz.prog k_pinnaceref19_Diff [.slice o1.a o1.n o1.c, .slice p2.a p2.n p2.c] [.agg [.sl, .sl, .sl], .sc (.int .i64)] fun (x_12 : (Sl × Sl × Sl) × Int) =>
          newW 80 [.slice none 0 0, .slice none 0 0, .slice none 0 0] fun x_13 =>
          stoL x_13 [.slice x_12.1.1.a x_12.1.1.n x_12.1.1.c, .slice x_12.1.2.1.a x_12.1.2.1.n x_12.1.2.1.c, .slice x_12.1.2.2.a x_12.1.2.2.n x_12.1.2.2.c] 0 <|
          cond (x_12.2 != 0)
            (retW ((⟨none, 0, 0⟩ : Sl), x_12.2))
            (ld (.sc .sl) (Addr.add x_13 0) fun (x_14 : Sl) =>
          callW Tryz.prog k_pinnaceref02_Var [.int .u64 (IntKind.wrap .u64 (x_14.n : Int))] [.sc .sl] fun (x_15 : Sl) =>
          rawW Tryz.prog (Builtin.append_ #[70, 70] 70 #[.slice x_5.a x_5.n x_5.c, .slice x_15.a x_15.n x_15.c]) [.sc .sl] fun (x_16 : Sl) =>
          ld (.sc .sl) (Addr.add x_13 0) fun (x_17 : Sl) =>
          loopW (σ := Sl × Int × Int) (fun K_18 s_19 =>
            cond (decide (s_19.2.2 < (x_17.n : Int)))
              (idxW x_17.a x_17.n 1 s_19.2.2 fun x_20 =>
            ld (.sc (.int .u32)) x_20 fun (x_21 : Int) =>
            callW Tryz.prog k_pinnaceref20_id [.slice s_19.1.a s_19.1.n s_19.1.c, .int .u32 s_19.2.1, .int .u32 x_21] [.sc .sl] fun (x_22 : Sl) =>
            K_18 (x_22, x_21, IntKind.wrap .i64 (s_19.2.2 + 1)))
              (ld (.sc .sl) (Addr.add x_13 1) fun (x_23 : Sl) =>
          callW Tryz.prog k_pinnaceref20_ents [.slice s_19.1.a s_19.1.n s_19.1.c, .slice x_23.a x_23.n x_23.c] [.sc .sl] fun (x_24 : Sl) =>
          ld (.sc .sl) (Addr.add x_13 2) fun (x_25 : Sl) =>
          callW Tryz.prog k_pinnaceref02_Var [.int .u64 (IntKind.wrap .u64 (x_25.n : Int))] [.sc .sl] fun (x_26 : Sl) =>
          rawW Tryz.prog (Builtin.append_ #[70, 70] 70 #[.slice x_24.a x_24.n x_24.c, .slice x_26.a x_26.n x_26.c]) [.sc .sl] fun (x_27 : Sl) =>
          ld (.sc .sl) (Addr.add x_13 2) fun (x_28 : Sl) =>
          loopW (σ := Sl × Int × Int) (fun K_29 s_30 =>
            cond (decide (s_30.2.2 < (x_28.n : Int)))
              (idxW x_28.a x_28.n 4 s_30.2.2 fun x_31 =>
            ld (.agg [.int .u32, .int .u8, .sl, .sl]) x_31 fun (x_32 : (Int × Int × Sl × Sl)) =>
            newW 86 [.int .u32 0, .int .u8 0, .slice none 0 0, .slice none 0 0] fun x_33 =>
            stoL x_33 [.int .u32 x_32.1, .int .u8 x_32.2.1, .slice x_32.2.2.1.a x_32.2.2.1.n x_32.2.2.1.c, .slice x_32.2.2.2.a x_32.2.2.2.n x_32.2.2.2.c] 0 <|
            ld (.sc (.int .u32)) (Addr.add x_33 0) fun (x_34 : Int) =>
            callW Tryz.prog k_pinnaceref20_id [.slice s_30.1.a s_30.1.n s_30.1.c, .int .u32 s_30.2.1, .int .u32 x_34] [.sc .sl] fun (x_35 : Sl) =>
            ld (.sc (.int .u32)) (Addr.add x_33 0) fun (x_36 : Int) =>
            ld (.sc (.int .u8)) (Addr.add x_33 1) fun (x_37 : Int) =>
            callW Tryz.prog k_pinnaceref01_Put [.slice x_35.a x_35.n x_35.c, .int .u64 (IntKind.wrap .u64 x_37), .int .i64 5] [.sc .sl, .sc (.int .i64)] fun (x_38 : Sl × Int) =>
            ld (.sc .sl) (Addr.add x_33 2) fun (x_39 : Sl) =>
            callW Tryz.prog k_pinnaceref05_Mask [.slice x_39.a x_39.n x_39.c] [.sc (.int .u8)] fun (x_40 : Int) =>
            callW Tryz.prog k_pinnaceref01_Put [.slice x_38.1.a x_38.1.n x_38.1.c, .int .u64 (IntKind.wrap .u64 x_40), .int .i64 5] [.sc .sl, .sc (.int .i64)] fun (x_41 : Sl × Int) =>
            ld (.sc .sl) (Addr.add x_33 3) fun (x_42 : Sl) =>
            callW Tryz.prog k_pinnaceref05_Mask [.slice x_42.a x_42.n x_42.c] [.sc (.int .u8)] fun (x_43 : Int) =>
            callW Tryz.prog k_pinnaceref01_Put [.slice x_41.1.a x_41.1.n x_41.1.c, .int .u64 (IntKind.wrap .u64 x_43), .int .i64 5] [.sc .sl, .sc (.int .i64)] fun (x_44 : Sl × Int) =>
            ld (.sc .sl) (Addr.add x_33 2) fun (x_45 : Sl) =>
            callW Tryz.prog k_pinnaceref20_comps [.slice x_44.1.a x_44.1.n x_44.1.c, .slice x_45.a x_45.n x_45.c] [.sc .sl] fun (x_46 : Sl) =>
            ld (.sc .sl) (Addr.add x_33 3) fun (x_47 : Sl) =>
            loopW (σ := Sl × Int) (fun K_48 s_49 =>
              cond (decide (s_49.2 < (x_47.n : Int)))
                (idxW x_47.a x_47.n 4 s_49.2 fun x_50 =>
              ld (.agg [.int .u8, .int .i32, .int .i32, .int .i32]) x_50 fun (x_51 : (Int × Int × Int × Int)) =>
              newW 92 [.int .u8 0, .int .i32 0, .int .i32 0, .int .i32 0] fun x_52 =>
              stoL x_52 [.int .u8 x_51.1, .int .i32 x_51.2.1, .int .i32 x_51.2.2.1, .int .i32 x_51.2.2.2] 0 <|
              ld (.sc (.int .u32)) (Addr.add x_33 0) fun (x_53 : Int) =>
              callW Tryz.prog k_pinnaceref18_Find [.slice o1.a o1.n o1.c, .int .u32 x_53] [.sc (.int .i64)] fun (x_54 : Int) =>
              idxW o1.a o1.n 2 x_54 fun x_55 =>
              ld (.agg [.int .u32, .sl]) x_55 fun (x_56 : (Int × Sl)) =>
              newW 57 [.int .u32 0, .slice none 0 0] fun x_57 =>
              stoL x_57 [.int .u32 x_56.1, .slice x_56.2.a x_56.2.n x_56.2.c] 0 <|
              drawW <|
              ld (.sc .sl) (Addr.add x_57 1) fun (x_58 : Sl) =>
              ld (.sc .sl) (Addr.add x_57 1) fun (x_59 : Sl) =>
              ld (.sc (.int .u8)) (Addr.add x_52 0) fun (x_60 : Int) =>
              ld (.agg [.int .u8, .int .i32, .int .i32, .int .i32]) x_52 fun (x_61 : (Int × Int × Int × Int)) =>
              callW Tryz.prog k_pinnaceref05_Find [.slice x_59.a x_59.n x_59.c, .int .u8 x_60] [.sc (.int .i64)] fun (x_62 : Int) =>
              andW (fun w => Rd w x_52 (.agg [.int .u8, .int .i32, .int .i32, .int .i32]) x_61) <|
              andW (fun w => Rd w (Addr.add x_57 1) (.sc .sl) x_58) <|
              idxW x_58.a x_58.n 4 x_62 fun x_63 =>
              ld (.agg [.int .u8, .int .i32, .int .i32, .int .i32]) x_63 fun (x_64 : (Int × Int × Int × Int)) =>
              callW Tryz.prog k_pinnaceref06_Step [.agg ⟨[.int .u8 x_64.1, .int .i32 x_64.2.1, .int .i32 x_64.2.2.1, .int .i32 x_64.2.2.2]⟩, .agg ⟨[.int .u8 x_61.1, .int .i32 x_61.2.1, .int .i32 x_61.2.2.1, .int .i32 x_61.2.2.2]⟩] [.sc .sl, .sc (.int .i64)] fun (x_65 : Sl × Int) =>
              rawW Tryz.prog (Builtin.append_ #[70, 70] 70 #[.slice s_49.1.a s_49.1.n s_49.1.c, .slice x_65.1.a x_65.1.n x_65.1.c]) [.sc .sl] fun (x_66 : Sl) =>
              K_48 (x_66, IntKind.wrap .i64 (s_49.2 + 1)))
                (K_29 (s_49.1, x_36, IntKind.wrap .i64 (s_30.2.2 + 1))))
              (x_46, 0))
              (J_11 s_30.1))
            (x_27, 0, 0)))
            (x_16, 0, 0)))
          (cond (decide ((p2.n : Int) > 0))
            (retW ((⟨none, 0, 0⟩ : Sl), 4))
            (J_11 x_5)))
      <| fun s_67 =>
      J_7 s_67))
  <| fun s_68 =>
  callW Tryz.prog k_pinnaceref01_Bytes [.slice s_68.a s_68.n s_68.c] [.sc .sl] fun (x_69 : Sl) =>
  callW Tryz.prog k_pinnaceref03_Seal [.slice x_69.a x_69.n x_69.c] [.sc .sl, .sc (.int .i64)] fun (x_70 : Sl × Int) =>
  retW (x_70.1, x_70.2))
def H_pinnaceref20_Seal : Hints := { con := [(12042, [(9, .sc .sl)]), (7030, [(9, .sc .sl)])], lop := [(1, [(9, .sc .sl), (13, .sc (.int .u32)), (65, .sc (.int .i64))]), (3, [(9, .sc .sl), (13, .sc (.int .u32)), (89, .sc (.int .i64))]), (5, [(9, .sc .sl), (133, .sc (.int .i64))])], dr := [(38, ([], [[(0, []), (1, []), (2, []), (3, []), (4, []), (5, []), (9, []), (6, [1, 9]), (7, []), (8, []), (10, []), (11, []), (12, []), (13, []), (14, []), (15, [])]]))] }
set_option maxRecDepth 100000 in
theorem E_pinnaceref20_Seal (d0 : (Int × Int × Int × Int × Int)) (o1 : Sl) (p2 : Sl) : denF Tryz.prog H_pinnaceref20_Seal Tryz.f18 [.sc .sl, .sc (.int .i64)] [.agg ⟨[.int .u8 d0.1, .int .u8 d0.2.1, .int .u32 d0.2.2.1, .int .u32 d0.2.2.2.1, .int .u32 d0.2.2.2.2]⟩, .slice o1.a o1.n o1.c, .slice p2.a p2.n p2.c] = F_pinnaceref20_Seal d0 o1 p2 := by kernel_rfl
theorem C_pinnaceref20_Seal {R : Type} (d0 : (Int × Int × Int × Int × Int)) (o1 : Sl) (p2 : Sl) (K : Res [.sc .sl, .sc (.int .i64)] → W R) (Q : R → World → Prop) (w : World) (h : F_pinnaceref20_Seal d0 o1 p2 (fun r w => K r Q w) w) : callW Tryz.prog k_pinnaceref20_Seal [.agg ⟨[.int .u8 d0.1, .int .u8 d0.2.1, .int .u32 d0.2.2.1, .int .u32 d0.2.2.2.1, .int .u32 d0.2.2.2.2]⟩, .slice o1.a o1.n o1.c, .slice p2.a p2.n p2.c] [.sc .sl, .sc (.int .i64)] K Q w :=
  den_calls mix Tryz.func18 H_pinnaceref20_Seal (ts := [.sc .sl, .sc (.int .i64)]) trivial (by rw [Tryz.ntmps18]; simp) (by rw [E_pinnaceref20_Seal]; exact h)

/-! 19 pinnace/pinnaceref01.Same -/
def F_pinnaceref01_Same (a0 : Sl) (b1 : Sl) : W (Bool) :=
  rawQ Tryz.prog (Go.convert 22 9 (.slice a0.a a0.n a0.c)) [.sc .str] fun (x_1 : ByteArray) =>
  rawQ Tryz.prog (Go.convert 22 9 (.slice b1.a b1.n b1.c)) [.sc .str] fun (x_2 : ByteArray) =>
  retW (x_1.toList == x_2.toList)
def H_pinnaceref01_Same : Hints := {}
theorem E_pinnaceref01_Same (a0 : Sl) (b1 : Sl) : denF Tryz.prog H_pinnaceref01_Same Tryz.f19 [.sc .bool] [.slice a0.a a0.n a0.c, .slice b1.a b1.n b1.c] = F_pinnaceref01_Same a0 b1 := by kernel_rfl
theorem C_pinnaceref01_Same {R : Type} (a0 : Sl) (b1 : Sl) (K : Res [.sc .bool] → W R) (Q : R → World → Prop) (w : World) (h : F_pinnaceref01_Same a0 b1 (fun r w => K r Q w) w) : callW Tryz.prog k_pinnaceref01_Same [.slice a0.a a0.n a0.c, .slice b1.a b1.n b1.c] [.sc .bool] K Q w :=
  den_calls mix Tryz.func19 H_pinnaceref01_Same (ts := [.sc .bool]) trivial (by rw [Tryz.ntmps19]; simp) (by rw [E_pinnaceref01_Same]; exact h)

/-! 20 pinnace/packet.Check -/
def F_packet_Check (h0 : (Int × Int × Int × Int × Int)) : W (Int) :=
  newW 30 [.int .u8 h0.1, .int .u8 h0.2.1, .int .u32 h0.2.2.1, .int .u32 h0.2.2.2.1, .int .u32 h0.2.2.2.2] fun h_1 =>
  joinW (σ := Bool) (fun J_2 =>
    ld (.sc (.int .u8)) (Addr.add h_1 0) fun (x_3 : Int) =>
    cond (decide (x_3 < 1))
      (J_2 true)
      (ld (.sc (.int .u8)) (Addr.add h_1 0) fun (x_4 : Int) =>
        cond (decide (x_4 > 5))
            (J_2 true)
            (ld (.sc (.int .u8)) (Addr.add h_1 1) fun (x_5 : Int) =>
              J_2 (decide (x_5 ≥ 16)))))
  <| fun s_6 =>
  cond s_6
    (retW 1)
    (ld (.sc (.int .u8)) (Addr.add h_1 0) fun (x_7 : Int) =>
  ld (.sc (.int .u32)) (Addr.add h_1 2) fun (x_8 : Int) =>
  joinW (σ := Bool) (fun J_9 =>
    cond (x_8 == 0)
      (J_9 (x_8 == 0))
      (joinW (σ := Bool) (fun J_10 =>
        cond (!(decide (x_7 ≤ 3)))
          (ld (.sc (.int .u32)) (Addr.add h_1 3) fun (x_11 : Int) =>
            J_10 (x_11 != 0))
          (J_10 false))
      <| fun s_12 =>
      joinW (σ := Bool) (fun J_13 =>
        cond s_12
          (J_13 s_12)
          (joinW (σ := Bool) (fun J_14 =>
            ld (.sc (.int .u8)) (Addr.add h_1 0) fun (x_15 : Int) =>
            cond (x_15 != 2)
              (ld (.sc (.int .u32)) (Addr.add h_1 4) fun (x_16 : Int) =>
                J_14 (x_16 != 0))
              (J_14 false))
          <| fun s_17 =>
          joinW (σ := Bool) (fun J_18 =>
            cond s_17
              (J_18 s_17)
              (joinW (σ := Bool) (fun J_19 =>
                ld (.sc (.int .u8)) (Addr.add h_1 0) fun (x_20 : Int) =>
                cond (x_20 == 2)
                  (ld (.sc (.int .u32)) (Addr.add h_1 4) fun (x_21 : Int) =>
                    ld (.sc (.int .u32)) (Addr.add h_1 3) fun (x_22 : Int) =>
                        J_19 (decide (x_21 ≥ x_22)))
                  (J_19 false))
              <| fun s_23 =>
              J_18 s_23))
          <| fun s_24 =>
          J_13 s_24))
      <| fun s_25 =>
      J_9 s_25))
  <| fun s_26 =>
  cond s_26
    (retW 4)
    (retW 0))
def H_packet_Check : Hints := { reg := [(1, [(16, .sc .bool)]), (5, [(20, .sc .bool)]), (6, [(20, .sc .bool)]), (7, [(20, .sc .bool)])], con := [(8020, [(20, .sc .bool)]), (7020, [(20, .sc .bool)]), (6020, [(20, .sc .bool)])] }
theorem E_packet_Check (h0 : (Int × Int × Int × Int × Int)) : denF Tryz.prog H_packet_Check Tryz.f20 [.sc (.int .i64)] [.agg ⟨[.int .u8 h0.1, .int .u8 h0.2.1, .int .u32 h0.2.2.1, .int .u32 h0.2.2.2.1, .int .u32 h0.2.2.2.2]⟩] = F_packet_Check h0 := by kernel_rfl
theorem C_packet_Check {R : Type} (h0 : (Int × Int × Int × Int × Int)) (K : Res [.sc (.int .i64)] → W R) (Q : R → World → Prop) (w : World) (h : F_packet_Check h0 (fun r w => K r Q w) w) : callW Tryz.prog k_packet_Check [.agg ⟨[.int .u8 h0.1, .int .u8 h0.2.1, .int .u32 h0.2.2.1, .int .u32 h0.2.2.2.1, .int .u32 h0.2.2.2.2]⟩] [.sc (.int .i64)] K Q w :=
  den_calls mix Tryz.func20 H_packet_Check (ts := [.sc (.int .i64)]) trivial (by rw [Tryz.ntmps20]; simp) (by rw [E_packet_Check]; exact h)

/-! 21 pinnace/packet.Peek -/
def F_packet_Peek (p0 : Sl) : W ((Int × Int × Int × Int × Int) × Int) :=
  newW 30 [.int .u8 0, .int .u8 0, .int .u32 0, .int .u32 0, .int .u32 0] fun x_1 =>
  callW Tryz.prog k_frame_Open [.slice p0.a p0.n p0.c] [.sc .sl, .sc (.int .i64)] fun (x_2 : Sl × Int) =>
  cond (x_2.2 != 0)
    (stoL x_1 [.int .u8 0, .int .u8 0, .int .u32 0, .int .u32 0, .int .u32 0] 0 <|
    ld (.agg [.int .u8, .int .u8, .int .u32, .int .u32, .int .u32]) x_1 fun (x_3 : (Int × Int × Int × Int × Int)) =>
    retW (x_3, x_2.2))
    (callW Tryz.prog k_packet_front [.slice x_2.1.a x_2.1.n x_2.1.c] [.agg [.int .u8, .int .u8, .int .u32, .int .u32, .int .u32], .agg [.ptr], .sc (.int .i64)] fun (x_4 : (Int × Int × Int × Int × Int) × (Option Addr) × Int) =>
  newW 30 [.int .u8 0, .int .u8 0, .int .u32 0, .int .u32 0, .int .u32 0] fun h_5 =>
  newW 62 [.pointer none] fun x_6 =>
  stoL h_5 [.int .u8 x_4.1.1, .int .u8 x_4.1.2.1, .int .u32 x_4.1.2.2.1, .int .u32 x_4.1.2.2.2.1, .int .u32 x_4.1.2.2.2.2] 0 <|
  stoL x_6 [.pointer x_4.2.1] 0 <|
  cond (x_4.2.2 != 0)
    (stoL x_1 [.int .u8 0, .int .u8 0, .int .u32 0, .int .u32 0, .int .u32 0] 0 <|
    ld (.agg [.int .u8, .int .u8, .int .u32, .int .u32, .int .u32]) x_1 fun (x_7 : (Int × Int × Int × Int × Int)) =>
    retW (x_7, x_4.2.2))
    (ld (.agg [.int .u8, .int .u8, .int .u32, .int .u32, .int .u32]) h_5 fun (x_8 : (Int × Int × Int × Int × Int)) =>
  stoL x_1 [.int .u8 x_8.1, .int .u8 x_8.2.1, .int .u32 x_8.2.2.1, .int .u32 x_8.2.2.2.1, .int .u32 x_8.2.2.2.2] 0 <|
  ld (.agg [.int .u8, .int .u8, .int .u32, .int .u32, .int .u32]) x_1 fun (x_9 : (Int × Int × Int × Int × Int)) =>
  retW (x_9, 0)))
def H_packet_Peek : Hints := {}
theorem E_packet_Peek (p0 : Sl) : denF Tryz.prog H_packet_Peek Tryz.f21 [.agg [.int .u8, .int .u8, .int .u32, .int .u32, .int .u32], .sc (.int .i64)] [.slice p0.a p0.n p0.c] = F_packet_Peek p0 := by kernel_rfl
theorem C_packet_Peek {R : Type} (p0 : Sl) (K : Res [.agg [.int .u8, .int .u8, .int .u32, .int .u32, .int .u32], .sc (.int .i64)] → W R) (Q : R → World → Prop) (w : World) (h : F_packet_Peek p0 (fun r w => K r Q w) w) : callW Tryz.prog k_packet_Peek [.slice p0.a p0.n p0.c] [.agg [.int .u8, .int .u8, .int .u32, .int .u32, .int .u32], .sc (.int .i64)] K Q w :=
  den_calls mix Tryz.func21 H_packet_Peek (ts := [.agg [.int .u8, .int .u8, .int .u32, .int .u32, .int .u32], .sc (.int .i64)]) ⟨by kernel_rfl, trivial⟩ (by rw [Tryz.ntmps21]; simp) (by rw [E_packet_Peek]; exact h)

/-! 23 pinnace/pinnaceref03.Turn -/
def F_pinnaceref03_Turn (p0 : Sl) (at1 : Int) (pattern2 : Int) : W (Sl) :=
  newW 5 [] fun x_1 =>
  rawW Tryz.prog (Builtin.append_ #[22, 22] 22 #[.slice (some x_1) 0 0, .slice p0.a p0.n p0.c]) [.sc .sl] fun (x_2 : Sl) =>
  loopW (σ := Int × Int) (fun K_3 s_4 =>
    cond (decide (s_4.2 < 32))
      (joinW (σ := Bool) (fun J_5 =>
      cond ((Int.tmod s_4.1 2) == 1)
        (cond (decide ((IntKind.wrap .i64 (at1 + s_4.2)) ≥ 0))
            (J_5 (decide ((IntKind.wrap .i64 (at1 + s_4.2)) < (IntKind.wrap .i64 (8 * (x_2.n : Int))))))
            (J_5 false))
        (J_5 false))
    <| fun s_6 =>
    joinW (σ := Unit) (fun J_7 =>
      cond s_6
        (idxW x_2.a x_2.n 1 (IntKind.wrap .i64 (Int.tdiv (IntKind.wrap .i64 (at1 + s_4.2)) 8)) fun x_8 =>
        ld (.sc (.int .u8)) x_8 fun (x_9 : Int) =>
        chkW (0 ≤ (IntKind.wrap .u64 (Int.tmod (IntKind.wrap .i64 (at1 + s_4.2)) 8))) <|
        idxW x_2.a x_2.n 1 (IntKind.wrap .i64 (Int.tdiv (IntKind.wrap .i64 (at1 + s_4.2)) 8)) fun x_10 =>
        stoL x_10 [.int .u8 (bXor .u8 x_9 (shL .u8 1 (IntKind.wrap .u64 (Int.tmod (IntKind.wrap .i64 (at1 + s_4.2)) 8))))] 0 <|
        J_7 ())
        (J_7 ()))
    <| fun s_11 =>
    K_3 (IntKind.wrap .u32 (Int.tdiv s_4.1 2), IntKind.wrap .i64 (s_4.2 + 1)))
      (retW x_2))
    (pattern2, 0)
def H_pinnaceref03_Turn : Hints := { reg := [(6, [(32, .sc .bool)])], con := [(8032, [])], lop := [(0, [(2, .sc (.int .u32)), (13, .sc (.int .i64))])] }
theorem E_pinnaceref03_Turn (p0 : Sl) (at1 : Int) (pattern2 : Int) : denF Tryz.prog H_pinnaceref03_Turn Tryz.f23 [.sc .sl] [.slice p0.a p0.n p0.c, .int .i64 at1, .int .u32 pattern2] = F_pinnaceref03_Turn p0 at1 pattern2 := by kernel_rfl
theorem C_pinnaceref03_Turn {R : Type} (p0 : Sl) (at1 : Int) (pattern2 : Int) (K : Res [.sc .sl] → W R) (Q : R → World → Prop) (w : World) (h : F_pinnaceref03_Turn p0 at1 pattern2 (fun r w => K r Q w) w) : callW Tryz.prog k_pinnaceref03_Turn [.slice p0.a p0.n p0.c, .int .i64 at1, .int .u32 pattern2] [.sc .sl] K Q w :=
  den_calls mix Tryz.func23 H_pinnaceref03_Turn (ts := [.sc .sl]) trivial (by rw [Tryz.ntmps23]; simp) (by rw [E_pinnaceref03_Turn]; exact h)

/-! 24 pinnace/pinnaceref03.Open -/
def F_pinnaceref03_Open (p0 : Sl) : W (Sl × Int) :=
  cond (decide ((p0.n : Int) < 4))
    (retW ((⟨none, 0, 0⟩ : Sl), 2))
    (cond (decide ((p0.n : Int) > 4100))
    (retW ((⟨none, 0, 0⟩ : Sl), 3))
    (slcW p0.a p0.n p0.c 1 none (some (IntKind.wrap .i64 ((p0.n : Int) - 4))) fun x_1 =>
  callW Tryz.prog k_pinnaceref03_Seal [.slice x_1.a x_1.n x_1.c] [.sc .sl, .sc (.int .i64)] fun (x_2 : Sl × Int) =>
  callW Tryz.prog k_pinnaceref01_Same [.slice x_2.1.a x_2.1.n x_2.1.c, .slice p0.a p0.n p0.c] [.sc .bool] fun (x_3 : Bool) =>
  cond (!x_3)
    (retW ((⟨none, 0, 0⟩ : Sl), 6))
    (newW 5 [] fun x_4 =>
  rawW Tryz.prog (Builtin.append_ #[22, 22] 22 #[.slice (some x_4) 0 0, .slice x_1.a x_1.n x_1.c]) [.sc .sl] fun (x_5 : Sl) =>
  retW (x_5, 0))))
def H_pinnaceref03_Open : Hints := {}
theorem E_pinnaceref03_Open (p0 : Sl) : denF Tryz.prog H_pinnaceref03_Open Tryz.f24 [.sc .sl, .sc (.int .i64)] [.slice p0.a p0.n p0.c] = F_pinnaceref03_Open p0 := by kernel_rfl
theorem C_pinnaceref03_Open {R : Type} (p0 : Sl) (K : Res [.sc .sl, .sc (.int .i64)] → W R) (Q : R → World → Prop) (w : World) (h : F_pinnaceref03_Open p0 (fun r w => K r Q w) w) : callW Tryz.prog k_pinnaceref03_Open [.slice p0.a p0.n p0.c] [.sc .sl, .sc (.int .i64)] K Q w :=
  den_calls mix Tryz.func24 H_pinnaceref03_Open (ts := [.sc .sl, .sc (.int .i64)]) trivial (by rw [Tryz.ntmps24]; simp) (by rw [E_pinnaceref03_Open]; exact h)

/-! 25 pinnace/pinnaceref03.Sum -/
def F_pinnaceref03_Sum (d0 : Sl) : W (Int) :=
  callW Tryz.prog k_pinnaceref01_Bits [.slice d0.a d0.n d0.c] [.sc .sl] fun (x_1 : Sl) =>
  rawW Tryz.prog (Builtin.append_ #[70, 3] 70 #[.slice x_1.a x_1.n x_1.c, .int .i64 32]) [.sc .sl] fun (x_2 : Sl) =>
  loopW (σ := Int) (fun K_3 s_4 =>
    cond (decide (s_4 < 32))
      (idxW x_2.a x_2.n 1 s_4 fun x_5 =>
    ld (.sc .bool) x_5 fun (x_6 : Bool) =>
    idxW x_2.a x_2.n 1 s_4 fun x_7 =>
    stoL x_7 [.bool (!x_6)] 0 <|
    K_3 (IntKind.wrap .i64 (s_4 + 1)))
      (newW 3 [.int .i64 0, .int .i64 1, .int .i64 2, .int .i64 4, .int .i64 5, .int .i64 7, .int .i64 8, .int .i64 10, .int .i64 11, .int .i64 12, .int .i64 16, .int .i64 22, .int .i64 23, .int .i64 26] fun x_8 =>
  loopW (σ := Int) (fun K_9 s_10 =>
    cond (decide ((IntKind.wrap .i64 (s_10 + 32)) < (x_2.n : Int)))
      (joinW (σ := Unit) (fun J_11 =>
      idxW x_2.a x_2.n 1 s_10 fun x_12 =>
      ld (.sc .bool) x_12 fun (x_13 : Bool) =>
      cond (!x_13)
        (J_11 ())
        (loopW (σ := Int) (fun K_14 s_15 =>
        cond (decide (s_15 < (14 : Int)))
          (idxW (some x_8) 14 1 s_15 fun x_16 =>
        ld (.sc (.int .i64)) x_16 fun (x_17 : Int) =>
        idxW x_2.a x_2.n 1 (IntKind.wrap .i64 ((IntKind.wrap .i64 (s_10 + 32)) - x_17)) fun x_18 =>
        ld (.sc .bool) x_18 fun (x_19 : Bool) =>
        idxW x_2.a x_2.n 1 (IntKind.wrap .i64 ((IntKind.wrap .i64 (s_10 + 32)) - x_17)) fun x_20 =>
        stoL x_20 [.bool (!x_19)] 0 <|
        K_14 (IntKind.wrap .i64 (s_15 + 1)))
          (J_11 ()))
        0))
    <| fun s_21 =>
    K_9 (IntKind.wrap .i64 (s_10 + 1)))
      (slcW x_2.a x_2.n x_2.c 1 (some (IntKind.wrap .i64 ((x_2.n : Int) - 32))) none fun x_22 =>
  loopW (σ := Int × Int) (fun K_23 s_24 =>
    cond (decide (s_24.2 ≥ 0))
      (idxW x_22.a x_22.n 1 s_24.2 fun x_25 =>
    ld (.sc .bool) x_25 fun (x_26 : Bool) =>
    joinW (σ := Int) (fun J_27 =>
      cond (!x_26)
        (J_27 (IntKind.wrap .u32 ((IntKind.wrap .u32 (s_24.1 * 2)) + 1)))
        (J_27 (IntKind.wrap .u32 (s_24.1 * 2))))
    <| fun s_28 =>
    K_23 (s_28, IntKind.wrap .i64 (s_24.2 - 1)))
      (retW s_24.1))
    (0, 31)))
    0))
    0
def H_pinnaceref03_Sum : Hints := { con := [(25076, [(10, .sc (.int .u32))])], blk := [(3, [])], lop := [(0, [(15, .sc (.int .i64))]), (2, [(6, .sc (.int .i64))]), (4, [(42, .sc (.int .i64))]), (6, [(10, .sc (.int .u32)), (11, .sc (.int .i64))])] }
theorem E_pinnaceref03_Sum (d0 : Sl) : denF Tryz.prog H_pinnaceref03_Sum Tryz.f25 [.sc (.int .u32)] [.slice d0.a d0.n d0.c] = F_pinnaceref03_Sum d0 := by kernel_rfl
theorem C_pinnaceref03_Sum {R : Type} (d0 : Sl) (K : Res [.sc (.int .u32)] → W R) (Q : R → World → Prop) (w : World) (h : F_pinnaceref03_Sum d0 (fun r w => K r Q w) w) : callW Tryz.prog k_pinnaceref03_Sum [.slice d0.a d0.n d0.c] [.sc (.int .u32)] K Q w :=
  den_calls mix Tryz.func25 H_pinnaceref03_Sum (ts := [.sc (.int .u32)]) trivial (by rw [Tryz.ntmps25]; simp) (by rw [E_pinnaceref03_Sum]; exact h)

/-! 26 pinnace/frame.Open -/
def F_frame_Open (p0 : Sl) : W (Sl × Int) :=
  cond (decide ((IntKind.wrap .i64 ((p0.n : Int) - 4)) < 0))
    (retW ((⟨none, 0, 0⟩ : Sl), 2))
    (cond (decide ((IntKind.wrap .i64 ((p0.n : Int) - 4)) > 4096))
      (retW ((⟨none, 0, 0⟩ : Sl), 3))
      (drawW <|
      slcW p0.a p0.n p0.c 1 (some (IntKind.wrap .i64 ((p0.n : Int) - 4))) none fun x_1 =>
      slcW p0.a p0.n p0.c 1 none (some (IntKind.wrap .i64 ((p0.n : Int) - 4))) fun x_2 =>
      callW Tryz.prog k_frame_Sum [.slice x_2.a x_2.n x_2.c] [.sc (.int .u32)] fun (x_3 : Int) =>
      callW Tryz.prog k_frame_tail [.int .u32 x_3] [.sc .sl] fun (x_4 : Sl) =>
      callW Tryz.prog k_bytes_Equal [.slice x_1.a x_1.n x_1.c, .slice x_4.a x_4.n x_4.c] [.sc .bool] fun (x_5 : Bool) =>
      cond (!x_5)
        (retW ((⟨none, 0, 0⟩ : Sl), 6))
        (slcW p0.a p0.n p0.c 1 none (some (IntKind.wrap .i64 ((p0.n : Int) - 4))) fun x_6 =>
  callW Tryz.prog k_bytes_Clone [.slice x_6.a x_6.n x_6.c] [.sc .sl] fun (x_7 : Sl) =>
  retW (x_7, 0))))
def H_frame_Open : Hints := { dr := [(6, ([], [[(0, []), (1, []), (2, []), (3, []), (4, []), (5, []), (6, []), (7, []), (8, []), (9, []), (10, [])]]))] }
theorem E_frame_Open (p0 : Sl) : denF Tryz.prog H_frame_Open Tryz.f26 [.sc .sl, .sc (.int .i64)] [.slice p0.a p0.n p0.c] = F_frame_Open p0 := by kernel_rfl
theorem C_frame_Open {R : Type} (p0 : Sl) (K : Res [.sc .sl, .sc (.int .i64)] → W R) (Q : R → World → Prop) (w : World) (h : F_frame_Open p0 (fun r w => K r Q w) w) : callW Tryz.prog k_frame_Open [.slice p0.a p0.n p0.c] [.sc .sl, .sc (.int .i64)] K Q w :=
  den_calls mix Tryz.func26 H_frame_Open (ts := [.sc .sl, .sc (.int .i64)]) trivial (by rw [Tryz.ntmps26]; simp) (by rw [E_frame_Open]; exact h)

/-! 28 pinnace/snap.Form -/
def F_snap_Form (l0 : Sl) : W (Int) :=
  loopW (σ := Int × Int) (fun K_1 s_2 =>
    cond (decide (s_2.2 < (l0.n : Int)))
      (idxW l0.a l0.n 2 s_2.2 fun x_3 =>
    ld (.agg [.int .u32, .sl]) x_3 fun (x_4 : (Int × Sl)) =>
    newW 57 [.int .u32 0, .slice none 0 0] fun e_5 =>
    stoL e_5 [.int .u32 x_4.1, .slice x_4.2.a x_4.2.n x_4.2.c] 0 <|
    ld (.sc (.int .u32)) (Addr.add e_5 0) fun (x_6 : Int) =>
    cond (decide (x_6 ≤ s_2.1))
      (retW 4)
      (ld (.sc (.int .u32)) (Addr.add e_5 0) fun (x_7 : Int) =>
    ld (.agg [.int .u32, .sl]) e_5 fun (x_8 : (Int × Sl)) =>
    callW Tryz.prog k_snap_one [.agg ⟨[.int .u32 x_8.1, .slice x_8.2.a x_8.2.n x_8.2.c]⟩] [.sc (.int .i64)] fun (x_9 : Int) =>
    cond (x_9 != 0)
      (retW x_9)
      (ld (.sc .sl) (Addr.add e_5 1) fun (x_10 : Sl) =>
    callW Tryz.prog k_slices_ContainsFunc_Comp [.slice x_10.a x_10.n x_10.c, .func (.func 71) #[] #[]] [.sc .bool] fun (x_11 : Bool) =>
    cond x_11
      (retW 4)
      (K_1 (x_7, IntKind.wrap .i64 (s_2.2 + 1))))))
      (retW 0))
    (0, 0)
def H_snap_Form : Hints := { lop := [(0, [(3, .sc (.int .u32)), (9, .sc (.int .i64))])] }
theorem E_snap_Form (l0 : Sl) : denF Tryz.prog H_snap_Form Tryz.f28 [.sc (.int .i64)] [.slice l0.a l0.n l0.c] = F_snap_Form l0 := by kernel_rfl
theorem C_snap_Form {R : Type} (l0 : Sl) (K : Res [.sc (.int .i64)] → W R) (Q : R → World → Prop) (w : World) (h : F_snap_Form l0 (fun r w => K r Q w) w) : callW Tryz.prog k_snap_Form [.slice l0.a l0.n l0.c] [.sc (.int .i64)] K Q w :=
  den_calls mix Tryz.func28 H_snap_Form (ts := [.sc (.int .i64)]) trivial (by rw [Tryz.ntmps28]; simp) (by rw [E_snap_Form]; exact h)

/-! 30 bytes.Equal -/
def F_bytes_Equal (a0 : Sl) (b1 : Sl) : W (Bool) :=
  rawQ Tryz.prog (Go.convert 22 9 (.slice a0.a a0.n a0.c)) [.sc .str] fun (x_1 : ByteArray) =>
  rawQ Tryz.prog (Go.convert 22 9 (.slice b1.a b1.n b1.c)) [.sc .str] fun (x_2 : ByteArray) =>
  retW (x_1.toList == x_2.toList)
def H_bytes_Equal : Hints := {}
theorem E_bytes_Equal (a0 : Sl) (b1 : Sl) : denF Tryz.prog H_bytes_Equal Tryz.f30 [.sc .bool] [.slice a0.a a0.n a0.c, .slice b1.a b1.n b1.c] = F_bytes_Equal a0 b1 := by kernel_rfl
theorem C_bytes_Equal {R : Type} (a0 : Sl) (b1 : Sl) (K : Res [.sc .bool] → W R) (Q : R → World → Prop) (w : World) (h : F_bytes_Equal a0 b1 (fun r w => K r Q w) w) : callW Tryz.prog k_bytes_Equal [.slice a0.a a0.n a0.c, .slice b1.a b1.n b1.c] [.sc .bool] K Q w :=
  den_calls mix Tryz.func30 H_bytes_Equal (ts := [.sc .bool]) trivial (by rw [Tryz.ntmps30]; simp) (by rw [E_bytes_Equal]; exact h)

/-! 32 pinnace/pinnaceref01.Bits -/
def F_pinnaceref01_Bits (p0 : Sl) : W (Sl) :=
  loopW (σ := Sl × Int) (fun K_1 s_2 =>
    cond (decide (s_2.2 < (p0.n : Int)))
      (idxW p0.a p0.n 1 s_2.2 fun x_3 =>
    ld (.sc (.int .u8)) x_3 fun (x_4 : Int) =>
    loopW (σ := Sl × Int × Int) (fun K_5 s_6 =>
      cond (decide (s_6.2.2 < 8))
        (newW 4 [.bool ((Int.tmod s_6.2.1 2) == 1)] fun x_7 =>
      rawW Tryz.prog (Builtin.append_ #[70, 70] 70 #[.slice s_6.1.a s_6.1.n s_6.1.c, .slice (some x_7) 1 1]) [.sc .sl] fun (x_8 : Sl) =>
      K_5 (x_8, IntKind.wrap .u8 (Int.tdiv s_6.2.1 2), IntKind.wrap .i64 (s_6.2.2 + 1)))
        (K_1 (s_6.1, IntKind.wrap .i64 (s_2.2 + 1))))
      (s_2.1, x_4, 0))
      (retW s_2.1))
    ((⟨none, 0, 0⟩ : Sl), 0)
def H_pinnaceref01_Bits : Hints := { lop := [(0, [(3, .sc .sl), (8, .sc (.int .i64))]), (2, [(3, .sc .sl), (5, .sc (.int .u8)), (12, .sc (.int .i64))])] }
theorem E_pinnaceref01_Bits (p0 : Sl) : denF Tryz.prog H_pinnaceref01_Bits Tryz.f32 [.sc .sl] [.slice p0.a p0.n p0.c] = F_pinnaceref01_Bits p0 := by kernel_rfl
theorem C_pinnaceref01_Bits {R : Type} (p0 : Sl) (K : Res [.sc .sl] → W R) (Q : R → World → Prop) (w : World) (h : F_pinnaceref01_Bits p0 (fun r w => K r Q w) w) : callW Tryz.prog k_pinnaceref01_Bits [.slice p0.a p0.n p0.c] [.sc .sl] K Q w :=
  den_calls mix Tryz.func32 H_pinnaceref01_Bits (ts := [.sc .sl]) trivial (by rw [Tryz.ntmps32]; simp) (by rw [E_pinnaceref01_Bits]; exact h)

/-! 35 pinnace/pinnaceref18.Form -/
def F_pinnaceref18_Form (l0 : Sl) : W (Int) :=
  loopW (σ := Int) (fun K_1 s_2 =>
    cond (decide (s_2 < (l0.n : Int)))
      (idxW l0.a l0.n 2 s_2 fun x_3 =>
    ld (.agg [.int .u32, .sl]) x_3 fun (x_4 : (Int × Sl)) =>
    newW 57 [.int .u32 0, .slice none 0 0] fun e_5 =>
    stoL e_5 [.int .u32 x_4.1, .slice x_4.2.a x_4.2.n x_4.2.c] 0 <|
    ld (.sc (.int .u32)) (Addr.add e_5 0) fun (x_6 : Int) =>
    callW Tryz.prog k_pinnaceref07_Gen [.int .u32 x_6] [.sc (.int .i64)] fun (x_7 : Int) =>
    joinW (σ := Bool) (fun J_8 =>
      drawW <|
      cond (decide (x_7 < 1))
        (J_8 true)
        (cond (decide (x_7 > 4194303))
            (J_8 true)
            (cond (decide (s_2 > 0))
                  (ld (.sc (.int .u32)) (Addr.add e_5 0) fun (x_9 : Int) =>
                    idxW l0.a l0.n 2 (IntKind.wrap .i64 (s_2 - 1)) fun x_10 =>
                            ld (.sc (.int .u32)) (Addr.add x_10 0) fun (x_11 : Int) =>
                                J_8 (decide (x_9 ≤ x_11)))
                  (J_8 false))))
    <| fun s_12 =>
    cond s_12
      (retW 4)
      (ld (.sc .sl) (Addr.add e_5 1) fun (x_13 : Sl) =>
    callW Tryz.prog k_pinnaceref05_List [.slice x_13.a x_13.n x_13.c] [.sc (.int .i64)] fun (x_14 : Int) =>
    cond (x_14 != 0)
      (retW x_14)
      (ld (.sc .sl) (Addr.add e_5 1) fun (x_15 : Sl) =>
    loopW (σ := Int) (fun K_16 s_17 =>
      cond (decide (s_17 < (x_15.n : Int)))
        (idxW x_15.a x_15.n 4 s_17 fun x_18 =>
      ld (.agg [.int .u8, .int .i32, .int .i32, .int .i32]) x_18 fun (x_19 : (Int × Int × Int × Int)) =>
      newW 92 [.int .u8 0, .int .i32 0, .int .i32 0, .int .i32 0] fun c_20 =>
      stoL c_20 [.int .u8 x_19.1, .int .i32 x_19.2.1, .int .i32 x_19.2.2.1, .int .i32 x_19.2.2.2] 0 <|
      ld (.sc (.int .u8)) (Addr.add c_20 0) fun (x_21 : Int) =>
      callW Tryz.prog k_pinnaceref05_Told [.int .u8 x_21] [.sc .bool] fun (x_22 : Bool) =>
      cond (!x_22)
        (retW 4)
        (K_16 (IntKind.wrap .i64 (s_17 + 1))))
        (K_1 (IntKind.wrap .i64 (s_2 + 1))))
      0)))
      (retW 0))
    0
def H_pinnaceref18_Form : Hints := { reg := [(5, [(39, .sc .bool)])], lop := [(0, [(11, .sc (.int .i64))]), (2, [(49, .sc (.int .i64))])], dr := [(5, ([], [[(0, []), (1, []), (2, []), (3, []), (4, []), (5, []), (6, []), (7, []), (8, []), (9, []), (10, []), (11, []), (12, []), (13, []), (14, []), (15, []), (16, []), (17, []), (18, []), (19, []), (20, [])]]))] }
theorem E_pinnaceref18_Form (l0 : Sl) : denF Tryz.prog H_pinnaceref18_Form Tryz.f35 [.sc (.int .i64)] [.slice l0.a l0.n l0.c] = F_pinnaceref18_Form l0 := by kernel_rfl
theorem C_pinnaceref18_Form {R : Type} (l0 : Sl) (K : Res [.sc (.int .i64)] → W R) (Q : R → World → Prop) (w : World) (h : F_pinnaceref18_Form l0 (fun r w => K r Q w) w) : callW Tryz.prog k_pinnaceref18_Form [.slice l0.a l0.n l0.c] [.sc (.int .i64)] K Q w :=
  den_calls mix Tryz.func35 H_pinnaceref18_Form (ts := [.sc (.int .i64)]) trivial (by rw [Tryz.ntmps35]; simp) (by rw [E_pinnaceref18_Form]; exact h)

/-! 40 pinnace/pinnaceref18.Find -/
def F_pinnaceref18_Find (l0 : Sl) (id1 : Int) : W (Int) :=
  loopW (σ := Int) (fun K_1 s_2 =>
    cond (decide (s_2 < (l0.n : Int)))
      (idxW l0.a l0.n 2 s_2 fun x_3 =>
    ld (.agg [.int .u32, .sl]) x_3 fun (x_4 : (Int × Sl)) =>
    newW 57 [.int .u32 0, .slice none 0 0] fun e_5 =>
    stoL e_5 [.int .u32 x_4.1, .slice x_4.2.a x_4.2.n x_4.2.c] 0 <|
    ld (.sc (.int .u32)) (Addr.add e_5 0) fun (x_6 : Int) =>
    cond (x_6 == id1)
      (retW s_2)
      (K_1 (IntKind.wrap .i64 (s_2 + 1))))
      (retW (-1)))
    0
def H_pinnaceref18_Find : Hints := { lop := [(0, [(9, .sc (.int .i64))])] }
theorem E_pinnaceref18_Find (l0 : Sl) (id1 : Int) : denF Tryz.prog H_pinnaceref18_Find Tryz.f40 [.sc (.int .i64)] [.slice l0.a l0.n l0.c, .int .u32 id1] = F_pinnaceref18_Find l0 id1 := by kernel_rfl
theorem C_pinnaceref18_Find {R : Type} (l0 : Sl) (id1 : Int) (K : Res [.sc (.int .i64)] → W R) (Q : R → World → Prop) (w : World) (h : F_pinnaceref18_Find l0 id1 (fun r w => K r Q w) w) : callW Tryz.prog k_pinnaceref18_Find [.slice l0.a l0.n l0.c, .int .u32 id1] [.sc (.int .i64)] K Q w :=
  den_calls mix Tryz.func40 H_pinnaceref18_Find (ts := [.sc (.int .i64)]) trivial (by rw [Tryz.ntmps40]; simp) (by rw [E_pinnaceref18_Find]; exact h)

/-! 45 pinnace/bits.New -/
def F_bits_New  : W ((Option Addr)) :=
  newW 154 [.slice none 0 0, .int .i64 0] fun x_1 =>
  retW (some x_1)
def H_bits_New : Hints := {}
theorem E_bits_New  : denF Tryz.prog H_bits_New Tryz.f45 [.sc .ptr] [] = F_bits_New := by kernel_rfl
theorem C_bits_New {R : Type}  (K : Res [.sc .ptr] → W R) (Q : R → World → Prop) (w : World) (h : F_bits_New (fun r w => K r Q w) w) : callW Tryz.prog k_bits_New [] [.sc .ptr] K Q w :=
  den_calls mix Tryz.func45 H_bits_New (ts := [.sc .ptr]) trivial (by rw [Tryz.ntmps45]; simp) (by rw [E_bits_New]; exact h)

/-! 46 (*pinnace/packet.writer).head -/
def F_packet_writer_head (w0 : Option Addr) (h1 : (Int × Int × Int × Int × Int)) : W (Unit) :=
  newW 30 [.int .u8 h1.1, .int .u8 h1.2.1, .int .u32 h1.2.2.1, .int .u32 h1.2.2.2.1, .int .u32 h1.2.2.2.2] fun h_1 =>
  drawW <|
  ptrW w0 fun x_2 =>
  ld (.sc .ptr) (Addr.add x_2 0) fun (x_3 : Option Addr) =>
  ld (.sc (.int .u8)) (Addr.add h_1 0) fun (x_4 : Int) =>
  callW Tryz.prog k_nums_PutIn [.pointer x_3, .int .i64 (IntKind.wrap .i64 x_4), .int .i64 1, .int .i64 5] [.sc (.int .i64)] fun (x_5 : Int) =>
  callW Tryz.prog k_packet_writer_keep [.pointer w0, .int .i64 x_5] [] fun (x_6 : Unit) =>
  drawW <|
  ptrW w0 fun x_7 =>
  ld (.sc .ptr) (Addr.add x_7 0) fun (x_8 : Option Addr) =>
  ld (.sc (.int .u8)) (Addr.add h_1 1) fun (x_9 : Int) =>
  callW Tryz.prog k_nums_PutIn [.pointer x_8, .int .i64 (IntKind.wrap .i64 x_9), .int .i64 0, .int .i64 15] [.sc (.int .i64)] fun (x_10 : Int) =>
  callW Tryz.prog k_packet_writer_keep [.pointer w0, .int .i64 x_10] [] fun (x_11 : Unit) =>
  drawW <|
  ptrW w0 fun x_12 =>
  ld (.sc .ptr) (Addr.add x_12 0) fun (x_13 : Option Addr) =>
  ld (.sc (.int .u32)) (Addr.add h_1 2) fun (x_14 : Int) =>
  callW Tryz.prog k_nums_PutVar [.pointer x_13, .int .u64 (IntKind.wrap .u64 x_14)] [.sc (.int .i64)] fun (x_15 : Int) =>
  callW Tryz.prog k_packet_writer_keep [.pointer w0, .int .i64 x_15] [] fun (x_16 : Unit) =>
  ld (.sc (.int .u8)) (Addr.add h_1 0) fun (x_17 : Int) =>
  joinW (σ := Unit) (fun J_18 =>
    cond (decide (x_17 ≤ 3))
      (ld (.sc (.int .u32)) (Addr.add h_1 3) fun (x_19 : Int) =>
      callW Tryz.prog k_packet_writer_plain [.pointer w0, .int .u64 (IntKind.wrap .u64 x_19), .int .i64 32] [] fun (x_20 : Unit) =>
      J_18 ())
      (J_18 ()))
  <| fun s_21 =>
  ld (.sc (.int .u8)) (Addr.add h_1 0) fun (x_22 : Int) =>
  joinW (σ := Unit) (fun J_23 =>
    cond (x_22 == 2)
      (drawW <|
      ptrW w0 fun x_24 =>
      ld (.sc .ptr) (Addr.add x_24 0) fun (x_25 : Option Addr) =>
      ld (.sc (.int .u32)) (Addr.add h_1 3) fun (x_26 : Int) =>
      ld (.sc (.int .u32)) (Addr.add h_1 4) fun (x_27 : Int) =>
      callW Tryz.prog k_nums_PutVar [.pointer x_25, .int .u64 (IntKind.wrap .u64 (IntKind.wrap .u32 ((IntKind.wrap .u32 (x_26 - x_27)) - 1)))] [.sc (.int .i64)] fun (x_28 : Int) =>
      callW Tryz.prog k_packet_writer_keep [.pointer w0, .int .i64 x_28] [] fun (x_29 : Unit) =>
      J_23 ())
      (J_23 ()))
  <| fun s_30 =>
  retW ()
def H_packet_writer_head : Hints := { con := [(6036, []), (8044, [])], dr := [(1, ([], [[(0, []), (1, []), (2, []), (3, []), (4, []), (5, []), (6, []), (7, []), (8, []), (9, [])]])), (2, ([], [[(0, []), (1, []), (2, []), (3, []), (4, []), (5, []), (6, []), (7, []), (8, []), (9, [])]])), (3, ([], [[(0, []), (1, []), (2, []), (3, []), (4, []), (5, []), (6, []), (7, []), (8, []), (9, [])]])), (7, ([], [[(0, []), (1, []), (2, []), (3, []), (4, []), (5, []), (6, []), (7, []), (8, []), (9, []), (10, []), (11, []), (12, []), (13, [])]]))] }
theorem E_packet_writer_head (w0 : Option Addr) (h1 : (Int × Int × Int × Int × Int)) : denF Tryz.prog H_packet_writer_head Tryz.f46 [] [.pointer w0, .agg ⟨[.int .u8 h1.1, .int .u8 h1.2.1, .int .u32 h1.2.2.1, .int .u32 h1.2.2.2.1, .int .u32 h1.2.2.2.2]⟩] = F_packet_writer_head w0 h1 := by kernel_rfl
theorem C_packet_writer_head {R : Type} (w0 : Option Addr) (h1 : (Int × Int × Int × Int × Int)) (K : Res [] → W R) (Q : R → World → Prop) (w : World) (h : F_packet_writer_head w0 h1 (fun r w => K r Q w) w) : callW Tryz.prog k_packet_writer_head [.pointer w0, .agg ⟨[.int .u8 h1.1, .int .u8 h1.2.1, .int .u32 h1.2.2.1, .int .u32 h1.2.2.2.1, .int .u32 h1.2.2.2.2]⟩] [] K Q w :=
  den_calls mix Tryz.func46 H_packet_writer_head (ts := []) trivial (by rw [Tryz.ntmps46]; simp) (by rw [E_packet_writer_head]; exact h)

/-! 47 (*pinnace/packet.writer).keep -/
def F_packet_writer_keep (w0 : Option Addr) (e1 : Int) : W (Unit) :=
  ptrW w0 fun x_1 =>
  ld (.sc (.int .i64)) (Addr.add x_1 1) fun (x_2 : Int) =>
  joinW (σ := Unit) (fun J_3 =>
    cond (x_2 == 0)
      (ptrW w0 fun x_4 =>
      stoL (Addr.add x_4 1) [.int .i64 e1] 0 <|
      J_3 ())
      (J_3 ()))
  <| fun s_5 =>
  retW ()
def H_packet_writer_keep : Hints := { con := [(2008, [])] }
theorem E_packet_writer_keep (w0 : Option Addr) (e1 : Int) : denF Tryz.prog H_packet_writer_keep Tryz.f47 [] [.pointer w0, .int .i64 e1] = F_packet_writer_keep w0 e1 := by kernel_rfl
theorem C_packet_writer_keep {R : Type} (w0 : Option Addr) (e1 : Int) (K : Res [] → W R) (Q : R → World → Prop) (w : World) (h : F_packet_writer_keep w0 e1 (fun r w => K r Q w) w) : callW Tryz.prog k_packet_writer_keep [.pointer w0, .int .i64 e1] [] K Q w :=
  den_calls mix Tryz.func47 H_packet_writer_keep (ts := []) trivial (by rw [Tryz.ntmps47]; simp) (by rw [E_packet_writer_keep]; exact h)

/-! 48 (*pinnace/packet.writer).ents -/
def F_packet_writer_ents (w0 : Option Addr) (l1 : Sl) : W (Unit) :=
  callW Tryz.prog k_packet_writer_count [.pointer w0, .int .i64 (l1.n : Int)] [] fun (x_1 : Unit) =>
  newW 54 [.int .u32 0] fun last_2 =>
  stoL last_2 [.int .u32 0] 0 <|
  loopW (σ := Int) (fun K_3 s_4 =>
    cond (decide (s_4 < (l1.n : Int)))
      (idxW l1.a l1.n 2 s_4 fun x_5 =>
    ld (.agg [.int .u32, .sl]) x_5 fun (x_6 : (Int × Sl)) =>
    newW 57 [.int .u32 0, .slice none 0 0] fun e_7 =>
    stoL e_7 [.int .u32 x_6.1, .slice x_6.2.a x_6.2.n x_6.2.c] 0 <|
    ld (.sc (.int .u32)) (Addr.add e_7 0) fun (x_8 : Int) =>
    callW Tryz.prog k_packet_writer_id [.pointer w0, .pointer (some last_2), .int .u32 x_8] [] fun (x_9 : Unit) =>
    ld (.sc .sl) (Addr.add e_7 1) fun (x_10 : Sl) =>
    callW Tryz.prog k_schema_Mask [.slice x_10.a x_10.n x_10.c] [.sc (.int .u8)] fun (x_11 : Int) =>
    callW Tryz.prog k_packet_writer_plain [.pointer w0, .int .u64 (IntKind.wrap .u64 x_11), .int .i64 5] [] fun (x_12 : Unit) =>
    ld (.sc .sl) (Addr.add e_7 1) fun (x_13 : Sl) =>
    callW Tryz.prog k_packet_writer_comps [.pointer w0, .slice x_13.a x_13.n x_13.c] [] fun (x_14 : Unit) =>
    K_3 (IntKind.wrap .i64 (s_4 + 1)))
      (retW ()))
    0
def H_packet_writer_ents : Hints := { lop := [(0, [(13, .sc (.int .i64))])] }
theorem E_packet_writer_ents (w0 : Option Addr) (l1 : Sl) : denF Tryz.prog H_packet_writer_ents Tryz.f48 [] [.pointer w0, .slice l1.a l1.n l1.c] = F_packet_writer_ents w0 l1 := by kernel_rfl
theorem C_packet_writer_ents {R : Type} (w0 : Option Addr) (l1 : Sl) (K : Res [] → W R) (Q : R → World → Prop) (w : World) (h : F_packet_writer_ents w0 l1 (fun r w => K r Q w) w) : callW Tryz.prog k_packet_writer_ents [.pointer w0, .slice l1.a l1.n l1.c] [] K Q w :=
  den_calls mix Tryz.func48 H_packet_writer_ents (ts := []) trivial (by rw [Tryz.ntmps48]; simp) (by rw [E_packet_writer_ents]; exact h)

/-! 49 pinnace/diff.Diff -/
def F_diff_Diff (d0 : Sl) (o1 : Sl) : W ((Sl × Sl × Sl) × Int) :=
  newW 80 [.slice none 0 0, .slice none 0 0, .slice none 0 0] fun x_1 =>
  newW 23 [.slice d0.a d0.n d0.c, .slice o1.a o1.n o1.c] fun x_2 =>
  loopW (σ := Int) (fun K_3 s_4 =>
    cond (decide (s_4 < (2 : Int)))
      (idxW (some x_2) 2 1 s_4 fun x_5 =>
    ld (.sc .sl) x_5 fun (x_6 : Sl) =>
    callW Tryz.prog k_snap_Form [.slice x_6.a x_6.n x_6.c] [.sc (.int .i64)] fun (x_7 : Int) =>
    cond (x_7 != 0)
      (stoL x_1 [.slice none 0 0, .slice none 0 0, .slice none 0 0] 0 <|
      ld (.agg [.sl, .sl, .sl]) x_1 fun (x_8 : (Sl × Sl × Sl)) =>
      retW (x_8, x_7))
      (K_3 (IntKind.wrap .i64 (s_4 + 1))))
      (newW 80 [.slice none 0 0, .slice none 0 0, .slice none 0 0] fun x_9 =>
  loopW (σ := Int × Int) (fun K_10 s_11 =>
    joinW (σ := Bool) (fun J_12 =>
      cond (decide (s_11.1 < (d0.n : Int)))
        (J_12 true)
        (J_12 (decide (s_11.2 < (o1.n : Int)))))
    <| fun s_13 =>
    cond s_13
      (joinW (σ := Bool) (fun J_14 =>
      drawW <|
      cond (s_11.2 == (o1.n : Int))
        (J_14 true)
        (cond (decide (s_11.1 < (d0.n : Int)))
                  (idxW d0.a d0.n 2 s_11.1 fun x_15 =>
                      ld (.sc (.int .u32)) (Addr.add x_15 0) fun (x_16 : Int) =>
                          idxW o1.a o1.n 2 s_11.2 fun x_17 =>
                                ld (.sc (.int .u32)) (Addr.add x_17 0) fun (x_18 : Int) =>
                                    J_14 (decide (x_16 < x_18)))
                  (J_14 false)))
    <| fun s_19 =>
    joinW (σ := Int × Int) (fun J_20 =>
      cond s_19
        (drawW <|
        ld (.sc .sl) (Addr.add x_9 0) fun (x_21 : Sl) =>
        idxW d0.a d0.n 2 s_11.1 fun x_22 =>
        ld (.sc (.int .u32)) (Addr.add x_22 0) fun (x_23 : Int) =>
        newW 54 [.int .u32 x_23] fun x_24 =>
        rawW Tryz.prog (Builtin.append_ #[77, 77] 77 #[.slice x_21.a x_21.n x_21.c, .slice (some x_24) 1 1]) [.sc .sl] fun (x_25 : Sl) =>
        stoL (Addr.add x_9 0) [.slice x_25.a x_25.n x_25.c] 0 <|
        J_20 (IntKind.wrap .i64 (s_11.1 + 1), s_11.2))
        (joinW (σ := Bool) (fun J_26 =>
          drawW <|
          cond (s_11.1 == (d0.n : Int))
            (J_26 true)
            (idxW o1.a o1.n 2 s_11.2 fun x_27 =>
                ld (.sc (.int .u32)) (Addr.add x_27 0) fun (x_28 : Int) =>
                    idxW d0.a d0.n 2 s_11.1 fun x_29 =>
                          ld (.sc (.int .u32)) (Addr.add x_29 0) fun (x_30 : Int) =>
                              J_26 (decide (x_28 < x_30))))
        <| fun s_31 =>
        joinW (σ := Int × Int) (fun J_32 =>
          cond s_31
            (drawW <|
            ld (.sc .sl) (Addr.add x_9 1) fun (x_33 : Sl) =>
            idxW o1.a o1.n 2 s_11.2 fun x_34 =>
            ld (.sc (.int .u32)) (Addr.add x_34 0) fun (x_35 : Int) =>
            idxW o1.a o1.n 2 s_11.2 fun x_36 =>
            ld (.sc .sl) (Addr.add x_36 1) fun (x_37 : Sl) =>
            callW Tryz.prog k_slices_Clone_Comp [.slice x_37.a x_37.n x_37.c] [.sc .sl] fun (x_38 : Sl) =>
            andW (fun w => Rd w (Addr.add x_34 0) (.sc (.int .u32)) x_35) <|
            andW (fun w => Rd w (Addr.add x_9 1) (.sc .sl) x_33) <|
            newW 57 [.int .u32 x_35, .slice x_38.a x_38.n x_38.c] fun x_39 =>
            rawW Tryz.prog (Builtin.append_ #[23, 23] 23 #[.slice x_33.a x_33.n x_33.c, .slice (some x_39) 1 1]) [.sc .sl] fun (x_40 : Sl) =>
            stoL (Addr.add x_9 1) [.slice x_40.a x_40.n x_40.c] 0 <|
            J_32 (s_11.1, IntKind.wrap .i64 (s_11.2 + 1)))
            (joinW (σ := (Option Addr)) (fun J_41 =>
              drawW <|
              bothW
                (idxW d0.a d0.n 2 s_11.1 fun x_42 =>
                ld (.agg [.int .u32, .sl]) x_42 fun (x_43 : (Int × Sl)) =>
                idxW o1.a o1.n 2 s_11.2 fun x_44 =>
                ld (.agg [.int .u32, .sl]) x_44 fun (x_45 : (Int × Sl)) =>
                callW Tryz.prog k_diff_change [.agg ⟨[.int .u32 x_43.1, .slice x_43.2.a x_43.2.n x_43.2.c]⟩, .agg ⟨[.int .u32 x_45.1, .slice x_45.2.a x_45.2.n x_45.2.c]⟩] [.agg [.int .u32, .int .u8, .sl, .sl]] fun (x_46 : (Int × Int × Sl × Sl)) =>
                newW 86 [.int .u32 0, .int .u8 0, .slice none 0 0, .slice none 0 0] fun x_47 =>
                stoL x_47 [.int .u32 x_46.1, .int .u8 x_46.2.1, .slice x_46.2.2.1.a x_46.2.2.1.n x_46.2.2.1.c, .slice x_46.2.2.2.a x_46.2.2.2.n x_46.2.2.2.c] 0 <|
                J_41 (some x_47))
                (idxW d0.a d0.n 2 s_11.1 fun x_48 =>
                ld (.agg [.int .u32, .sl]) x_48 fun (x_49 : (Int × Sl)) =>
                idxW o1.a o1.n 2 s_11.2 fun x_50 =>
                ld (.agg [.int .u32, .sl]) x_50 fun (x_51 : (Int × Sl)) =>
                newW 86 [.int .u32 0, .int .u8 0, .slice none 0 0, .slice none 0 0] fun x_52 =>
                callW Tryz.prog k_diff_change [.agg ⟨[.int .u32 x_49.1, .slice x_49.2.a x_49.2.n x_49.2.c]⟩, .agg ⟨[.int .u32 x_51.1, .slice x_51.2.a x_51.2.n x_51.2.c]⟩] [.agg [.int .u32, .int .u8, .sl, .sl]] fun (x_53 : (Int × Int × Sl × Sl)) =>
                stoL x_52 [.int .u32 x_53.1, .int .u8 x_53.2.1, .slice x_53.2.2.1.a x_53.2.2.1.n x_53.2.2.1.c, .slice x_53.2.2.2.a x_53.2.2.2.n x_53.2.2.2.c] 0 <|
                J_41 (some x_52)))
            <| fun s_54 =>
            ptrW s_54 fun x_55 =>
            ld (.agg [.int .u32, .int .u8, .sl, .sl]) x_55 fun (x_56 : (Int × Int × Sl × Sl)) =>
            callW Tryz.prog k_diff_nothing [.agg ⟨[.int .u32 x_56.1, .int .u8 x_56.2.1, .slice x_56.2.2.1.a x_56.2.2.1.n x_56.2.2.1.c, .slice x_56.2.2.2.a x_56.2.2.2.n x_56.2.2.2.c]⟩] [.sc .bool] fun (x_57 : Bool) =>
            joinW (σ := Unit) (fun J_58 =>
              cond (!x_57)
                (ld (.sc .sl) (Addr.add x_9 2) fun (x_59 : Sl) =>
                ptrW s_54 fun x_60 =>
                ld (.agg [.int .u32, .int .u8, .sl, .sl]) x_60 fun (x_61 : (Int × Int × Sl × Sl)) =>
                newW 86 [.int .u32 x_61.1, .int .u8 x_61.2.1, .slice x_61.2.2.1.a x_61.2.2.1.n x_61.2.2.1.c, .slice x_61.2.2.2.a x_61.2.2.2.n x_61.2.2.2.c] fun x_62 =>
                rawW Tryz.prog (Builtin.append_ #[78, 78] 78 #[.slice x_59.a x_59.n x_59.c, .slice (some x_62) 1 1]) [.sc .sl] fun (x_63 : Sl) =>
                stoL (Addr.add x_9 2) [.slice x_63.a x_63.n x_63.c] 0 <|
                J_58 ())
                (J_58 ()))
            <| fun s_64 =>
            J_32 (IntKind.wrap .i64 (s_11.1 + 1), IntKind.wrap .i64 (s_11.2 + 1))))
        <| fun s_65 =>
        J_20 (s_65.1, s_65.2)))
    <| fun s_66 =>
    K_10 (s_66.1, s_66.2))
      (ld (.agg [.sl, .sl, .sl]) x_9 fun (x_67 : (Sl × Sl × Sl)) =>
  stoL x_1 [.slice x_67.1.a x_67.1.n x_67.1.c, .slice x_67.2.1.a x_67.2.1.n x_67.2.1.c, .slice x_67.2.2.a x_67.2.2.n x_67.2.2.c] 0 <|
  ld (.agg [.sl, .sl, .sl]) x_1 fun (x_68 : (Sl × Sl × Sl)) =>
  retW (x_68, 0)))
    (0, 0)))
    0
def H_diff_Diff : Hints := { reg := [(10, [(37, .sc .bool)]), (16, [(60, .sc .bool)]), (19, [(96, .sc .bool)]), (11, [(12, .sc .ptr)])], con := [(14049, []), (21096, [(10, .sc (.int .i64)), (11, .sc (.int .i64))]), (18060, [(10, .sc (.int .i64)), (11, .sc (.int .i64))])], lop := [(0, [(17, .sc (.int .i64))]), (2, [(10, .sc (.int .i64)), (11, .sc (.int .i64))])], dr := [(16, ([], [[(0, []), (1, []), (2, []), (3, []), (4, []), (5, []), (6, []), (7, []), (8, []), (9, []), (10, []), (11, []), (12, []), (13, []), (14, []), (15, []), (16, []), (17, []), (18, []), (19, []), (20, []), (21, []), (22, []), (23, [])]])), (17, ([], [[(0, []), (1, []), (2, []), (3, []), (4, []), (5, []), (6, []), (7, []), (8, []), (9, []), (10, [])]])), (19, ([], [[(0, []), (1, []), (2, []), (3, []), (4, []), (5, []), (6, []), (7, []), (8, []), (9, []), (10, []), (11, []), (12, []), (13, []), (14, []), (15, []), (16, []), (17, [])]])), (20, ([], [[(0, []), (1, []), (2, []), (3, []), (4, []), (5, []), (6, []), (7, []), (8, []), (9, []), (10, []), (11, []), (12, [1, 6]), (13, []), (14, []), (15, []), (16, []), (17, [])]])), (11, ([(8, 9)], [[(0, []), (1, []), (2, []), (3, []), (4, []), (5, []), (6, []), (7, []), (8, []), (9, []), (10, [])], [(0, []), (1, []), (2, []), (3, []), (4, []), (5, []), (6, []), (7, []), (9, []), (8, []), (10, [])]]))] }
set_option maxRecDepth 100000 in
theorem E_diff_Diff (d0 : Sl) (o1 : Sl) : denF Tryz.prog H_diff_Diff Tryz.f49 [.agg [.sl, .sl, .sl], .sc (.int .i64)] [.slice d0.a d0.n d0.c, .slice o1.a o1.n o1.c] = F_diff_Diff d0 o1 := by kernel_rfl
theorem C_diff_Diff {R : Type} (d0 : Sl) (o1 : Sl) (K : Res [.agg [.sl, .sl, .sl], .sc (.int .i64)] → W R) (Q : R → World → Prop) (w : World) (h : F_diff_Diff d0 o1 (fun r w => K r Q w) w) : callW Tryz.prog k_diff_Diff [.slice d0.a d0.n d0.c, .slice o1.a o1.n o1.c] [.agg [.sl, .sl, .sl], .sc (.int .i64)] K Q w :=
  den_calls mix Tryz.func49 H_diff_Diff (ts := [.agg [.sl, .sl, .sl], .sc (.int .i64)]) ⟨by kernel_rfl, trivial⟩ (by rw [Tryz.ntmps49]; simp) (by rw [E_diff_Diff]; exact h)

/-! 50 (*pinnace/packet.writer).delta -/
def F_packet_writer_delta (d0 : Option Addr) (o1 : Sl) (p2 : (Sl × Sl × Sl)) : W (Unit) :=
  newW 80 [.slice p2.1.a p2.1.n p2.1.c, .slice p2.2.1.a p2.2.1.n p2.2.1.c, .slice p2.2.2.a p2.2.2.n p2.2.2.c] fun x_1 =>
  ld (.sc .sl) (Addr.add x_1 0) fun (x_2 : Sl) =>
  callW Tryz.prog k_packet_writer_count [.pointer d0, .int .i64 (x_2.n : Int)] [] fun (x_3 : Unit) =>
  newW 54 [.int .u32 0] fun x_4 =>
  stoL x_4 [.int .u32 0] 0 <|
  ld (.sc .sl) (Addr.add x_1 0) fun (x_5 : Sl) =>
  loopW (σ := Int) (fun K_6 s_7 =>
    cond (decide (s_7 < (x_5.n : Int)))
      (idxW x_5.a x_5.n 1 s_7 fun x_8 =>
    ld (.sc (.int .u32)) x_8 fun (x_9 : Int) =>
    callW Tryz.prog k_packet_writer_id [.pointer d0, .pointer (some x_4), .int .u32 x_9] [] fun (x_10 : Unit) =>
    K_6 (IntKind.wrap .i64 (s_7 + 1)))
      (ld (.sc .sl) (Addr.add x_1 1) fun (x_11 : Sl) =>
  callW Tryz.prog k_packet_writer_ents [.pointer d0, .slice x_11.a x_11.n x_11.c] [] fun (x_12 : Unit) =>
  ld (.sc .sl) (Addr.add x_1 2) fun (x_13 : Sl) =>
  callW Tryz.prog k_packet_writer_count [.pointer d0, .int .i64 (x_13.n : Int)] [] fun (x_14 : Unit) =>
  stoL x_4 [.int .u32 0] 0 <|
  ld (.sc .sl) (Addr.add x_1 2) fun (x_15 : Sl) =>
  loopW (σ := Int) (fun K_16 s_17 =>
    cond (decide (s_17 < (x_15.n : Int)))
      (idxW x_15.a x_15.n 4 s_17 fun x_18 =>
    ld (.agg [.int .u32, .int .u8, .sl, .sl]) x_18 fun (x_19 : (Int × Int × Sl × Sl)) =>
    newW 86 [.int .u32 0, .int .u8 0, .slice none 0 0, .slice none 0 0] fun x_20 =>
    stoL x_20 [.int .u32 x_19.1, .int .u8 x_19.2.1, .slice x_19.2.2.1.a x_19.2.2.1.n x_19.2.2.1.c, .slice x_19.2.2.2.a x_19.2.2.2.n x_19.2.2.2.c] 0 <|
    ld (.sc (.int .u32)) (Addr.add x_20 0) fun (x_21 : Int) =>
    callW Tryz.prog k_packet_writer_id [.pointer d0, .pointer (some x_4), .int .u32 x_21] [] fun (x_22 : Unit) =>
    drawW <|
    ld (.sc (.int .u8)) (Addr.add x_20 1) fun (x_23 : Int) =>
    ld (.sc .sl) (Addr.add x_20 2) fun (x_24 : Sl) =>
    ld (.sc .sl) (Addr.add x_20 3) fun (x_25 : Sl) =>
    callW Tryz.prog k_schema_Mask [.slice x_24.a x_24.n x_24.c] [.sc (.int .u8)] fun (x_26 : Int) =>
    andW (fun w => Rd w (Addr.add x_20 3) (.sc .sl) x_25) <|
    andW (fun w => Rd w (Addr.add x_20 1) (.sc (.int .u8)) x_23) <|
    callW Tryz.prog k_schema_Mask [.slice x_25.a x_25.n x_25.c] [.sc (.int .u8)] fun (x_27 : Int) =>
    andW (fun w => Rd w (Addr.add x_20 1) (.sc (.int .u8)) x_23) <|
    newW 5 [.int .u8 x_23, .int .u8 x_26, .int .u8 x_27] fun x_28 =>
    loopW (σ := Int) (fun K_29 s_30 =>
      cond (decide (s_30 < (3 : Int)))
        (idxW (some x_28) 3 1 s_30 fun x_31 =>
      ld (.sc (.int .u8)) x_31 fun (x_32 : Int) =>
      callW Tryz.prog k_packet_writer_plain [.pointer d0, .int .u64 (IntKind.wrap .u64 x_32), .int .i64 5] [] fun (x_33 : Unit) =>
      K_29 (IntKind.wrap .i64 (s_30 + 1)))
        (ld (.sc .sl) (Addr.add x_20 2) fun (x_34 : Sl) =>
    callW Tryz.prog k_packet_writer_comps [.pointer d0, .slice x_34.a x_34.n x_34.c] [] fun (x_35 : Unit) =>
    ld (.sc .sl) (Addr.add x_20 3) fun (x_36 : Sl) =>
    loopW (σ := Int) (fun K_37 s_38 =>
      cond (decide (s_38 < (x_36.n : Int)))
        (idxW x_36.a x_36.n 4 s_38 fun x_39 =>
      ld (.agg [.int .u8, .int .i32, .int .i32, .int .i32]) x_39 fun (x_40 : (Int × Int × Int × Int)) =>
      newW 92 [.int .u8 0, .int .i32 0, .int .i32 0, .int .i32 0] fun x_41 =>
      stoL x_41 [.int .u8 x_40.1, .int .i32 x_40.2.1, .int .i32 x_40.2.2.1, .int .i32 x_40.2.2.2] 0 <|
      drawW <|
      ptrW d0 fun x_42 =>
      ld (.sc .ptr) (Addr.add x_42 0) fun (x_43 : Option Addr) =>
      ld (.sc (.int .u32)) (Addr.add x_20 0) fun (x_44 : Int) =>
      ld (.sc (.int .u8)) (Addr.add x_41 0) fun (x_45 : Int) =>
      ld (.agg [.int .u8, .int .i32, .int .i32, .int .i32]) x_41 fun (x_46 : (Int × Int × Int × Int)) =>
      callW Tryz.prog k_packet_old [.slice o1.a o1.n o1.c, .int .u32 x_44, .int .u8 x_45] [.agg [.int .u8, .int .i32, .int .i32, .int .i32]] fun (x_47 : (Int × Int × Int × Int)) =>
      andW (fun w => Rd w x_41 (.agg [.int .u8, .int .i32, .int .i32, .int .i32]) x_46) <|
      andW (fun w => Rd w (Addr.add x_42 0) (.sc .ptr) x_43) <|
      callW Tryz.prog k_comp_PutStep [.pointer x_43, .agg ⟨[.int .u8 x_47.1, .int .i32 x_47.2.1, .int .i32 x_47.2.2.1, .int .i32 x_47.2.2.2]⟩, .agg ⟨[.int .u8 x_46.1, .int .i32 x_46.2.1, .int .i32 x_46.2.2.1, .int .i32 x_46.2.2.2]⟩] [.sc (.int .i64)] fun (x_48 : Int) =>
      callW Tryz.prog k_packet_writer_keep [.pointer d0, .int .i64 x_48] [] fun (x_49 : Unit) =>
      K_37 (IntKind.wrap .i64 (s_38 + 1)))
        (K_16 (IntKind.wrap .i64 (s_17 + 1))))
      0))
      0)
      (retW ()))
    0))
    0
def H_packet_writer_delta : Hints := { lop := [(0, [(23, .sc (.int .i64))]), (2, [(43, .sc (.int .i64))]), (4, [(61, .sc (.int .i64))]), (6, [(77, .sc (.int .i64))])], dr := [(15, ([], [[(0, []), (1, []), (2, []), (3, []), (5, []), (6, []), (10, []), (4, [1, 6]), (7, [1]), (8, []), (9, [])]])), (24, ([], [[(0, []), (1, []), (2, []), (3, []), (4, []), (5, []), (6, []), (7, []), (8, []), (9, []), (11, []), (10, [4, 11]), (12, []), (13, [])]]))] }
theorem E_packet_writer_delta (d0 : Option Addr) (o1 : Sl) (p2 : (Sl × Sl × Sl)) : denF Tryz.prog H_packet_writer_delta Tryz.f50 [] [.pointer d0, .slice o1.a o1.n o1.c, .agg ⟨[.slice p2.1.a p2.1.n p2.1.c, .slice p2.2.1.a p2.2.1.n p2.2.1.c, .slice p2.2.2.a p2.2.2.n p2.2.2.c]⟩] = F_packet_writer_delta d0 o1 p2 := by kernel_rfl
theorem C_packet_writer_delta {R : Type} (d0 : Option Addr) (o1 : Sl) (p2 : (Sl × Sl × Sl)) (K : Res [] → W R) (Q : R → World → Prop) (w : World) (h : F_packet_writer_delta d0 o1 p2 (fun r w => K r Q w) w) : callW Tryz.prog k_packet_writer_delta [.pointer d0, .slice o1.a o1.n o1.c, .agg ⟨[.slice p2.1.a p2.1.n p2.1.c, .slice p2.2.1.a p2.2.1.n p2.2.1.c, .slice p2.2.2.a p2.2.2.n p2.2.2.c]⟩] [] K Q w :=
  den_calls mix Tryz.func50 H_packet_writer_delta (ts := []) trivial (by rw [Tryz.ntmps50]; simp) (by rw [E_packet_writer_delta]; exact h)

/-! 51 pinnace/frame.Seal -/
def F_frame_Seal (body0 : Sl) : W (Sl × Int) :=
  cond (decide ((body0.n : Int) > 4096))
    (retW ((⟨none, 0, 0⟩ : Sl), 3))
    (callW Tryz.prog k_bytes_Clone [.slice body0.a body0.n body0.c] [.sc .sl] fun (x_1 : Sl) =>
  callW Tryz.prog k_frame_Sum [.slice body0.a body0.n body0.c] [.sc (.int .u32)] fun (x_2 : Int) =>
  callW Tryz.prog k_frame_tail [.int .u32 x_2] [.sc .sl] fun (x_3 : Sl) =>
  rawW Tryz.prog (Builtin.append_ #[22, 22] 22 #[.slice x_1.a x_1.n x_1.c, .slice x_3.a x_3.n x_3.c]) [.sc .sl] fun (x_4 : Sl) =>
  retW (x_4, 0))
def H_frame_Seal : Hints := {}
theorem E_frame_Seal (body0 : Sl) : denF Tryz.prog H_frame_Seal Tryz.f51 [.sc .sl, .sc (.int .i64)] [.slice body0.a body0.n body0.c] = F_frame_Seal body0 := by kernel_rfl
theorem C_frame_Seal {R : Type} (body0 : Sl) (K : Res [.sc .sl, .sc (.int .i64)] → W R) (Q : R → World → Prop) (w : World) (h : F_frame_Seal body0 (fun r w => K r Q w) w) : callW Tryz.prog k_frame_Seal [.slice body0.a body0.n body0.c] [.sc .sl, .sc (.int .i64)] K Q w :=
  den_calls mix Tryz.func51 H_frame_Seal (ts := [.sc .sl, .sc (.int .i64)]) trivial (by rw [Tryz.ntmps51]; simp) (by rw [E_frame_Seal]; exact h)

/-! 52 (*pinnace/bits.Writer).Bytes -/
def F_bits_Writer_Bytes (w0 : Option Addr) : W (Sl) :=
  cond (Option.isNone w0)
    (retW (⟨none, 0, 0⟩ : Sl))
    (ptrW w0 fun x_1 =>
  ld (.sc .sl) (Addr.add x_1 0) fun (x_2 : Sl) =>
  callW Tryz.prog k_bytes_Clone [.slice x_2.a x_2.n x_2.c] [.sc .sl] fun (x_3 : Sl) =>
  retW x_3)
def H_bits_Writer_Bytes : Hints := {}
theorem E_bits_Writer_Bytes (w0 : Option Addr) : denF Tryz.prog H_bits_Writer_Bytes Tryz.f52 [.sc .sl] [.pointer w0] = F_bits_Writer_Bytes w0 := by kernel_rfl
theorem C_bits_Writer_Bytes {R : Type} (w0 : Option Addr) (K : Res [.sc .sl] → W R) (Q : R → World → Prop) (w : World) (h : F_bits_Writer_Bytes w0 (fun r w => K r Q w) w) : callW Tryz.prog k_bits_Writer_Bytes [.pointer w0] [.sc .sl] K Q w :=
  den_calls mix Tryz.func52 H_bits_Writer_Bytes (ts := [.sc .sl]) trivial (by rw [Tryz.ntmps52]; simp) (by rw [E_bits_Writer_Bytes]; exact h)

/-! 53 pinnace/pinnaceref20.Head -/
def F_pinnaceref20_Head (h0 : (Int × Int × Int × Int × Int)) : W (Sl) :=
  newW 30 [.int .u8 h0.1, .int .u8 h0.2.1, .int .u32 h0.2.2.1, .int .u32 h0.2.2.2.1, .int .u32 h0.2.2.2.2] fun h_1 =>
  ld (.sc (.int .u8)) (Addr.add h_1 0) fun (x_2 : Int) =>
  callW Tryz.prog k_pinnaceref02_In [.int .i64 (IntKind.wrap .i64 x_2), .int .i64 1, .int .i64 5] [.sc .sl, .sc (.int .i64)] fun (x_3 : Sl × Int) =>
  ld (.sc (.int .u8)) (Addr.add h_1 1) fun (x_4 : Int) =>
  callW Tryz.prog k_pinnaceref02_In [.int .i64 (IntKind.wrap .i64 x_4), .int .i64 0, .int .i64 15] [.sc .sl, .sc (.int .i64)] fun (x_5 : Sl × Int) =>
  drawW <|
  ld (.sc (.int .u32)) (Addr.add h_1 2) fun (x_6 : Int) =>
  rawW Tryz.prog (Builtin.append_ #[70, 70] 70 #[.slice x_3.1.a x_3.1.n x_3.1.c, .slice x_5.1.a x_5.1.n x_5.1.c]) [.sc .sl] fun (x_7 : Sl) =>
  andW (fun w => Rd w (Addr.add h_1 2) (.sc (.int .u32)) x_6) <|
  callW Tryz.prog k_pinnaceref02_Var [.int .u64 (IntKind.wrap .u64 x_6)] [.sc .sl] fun (x_8 : Sl) =>
  rawW Tryz.prog (Builtin.append_ #[70, 70] 70 #[.slice x_7.a x_7.n x_7.c, .slice x_8.a x_8.n x_8.c]) [.sc .sl] fun (x_9 : Sl) =>
  ld (.sc (.int .u8)) (Addr.add h_1 0) fun (x_10 : Int) =>
  joinW (σ := Sl) (fun J_11 =>
    cond (decide (x_10 ≤ 3))
      (ld (.sc (.int .u32)) (Addr.add h_1 3) fun (x_12 : Int) =>
      callW Tryz.prog k_pinnaceref01_Put [.slice x_9.a x_9.n x_9.c, .int .u64 (IntKind.wrap .u64 x_12), .int .i64 32] [.sc .sl, .sc (.int .i64)] fun (x_13 : Sl × Int) =>
      J_11 x_13.1)
      (J_11 x_9))
  <| fun s_14 =>
  ld (.sc (.int .u8)) (Addr.add h_1 0) fun (x_15 : Int) =>
  joinW (σ := Sl) (fun J_16 =>
    cond (x_15 == 2)
      (ld (.sc (.int .u32)) (Addr.add h_1 3) fun (x_17 : Int) =>
      ld (.sc (.int .u32)) (Addr.add h_1 4) fun (x_18 : Int) =>
      callW Tryz.prog k_pinnaceref02_Var [.int .u64 (IntKind.wrap .u64 (IntKind.wrap .u32 ((IntKind.wrap .u32 (x_17 - x_18)) - 1)))] [.sc .sl] fun (x_19 : Sl) =>
      rawW Tryz.prog (Builtin.append_ #[70, 70] 70 #[.slice s_14.a s_14.n s_14.c, .slice x_19.a x_19.n x_19.c]) [.sc .sl] fun (x_20 : Sl) =>
      J_16 x_20)
      (J_16 s_14))
  <| fun s_21 =>
  retW s_21
def H_pinnaceref20_Head : Hints := { con := [(6031, [(3, .sc .sl)]), (8042, [(3, .sc .sl)])], dr := [(3, ([], [[(0, []), (1, []), (3, []), (4, []), (5, []), (2, [4]), (6, []), (7, []), (8, [])]]))] }
theorem E_pinnaceref20_Head (h0 : (Int × Int × Int × Int × Int)) : denF Tryz.prog H_pinnaceref20_Head Tryz.f53 [.sc .sl] [.agg ⟨[.int .u8 h0.1, .int .u8 h0.2.1, .int .u32 h0.2.2.1, .int .u32 h0.2.2.2.1, .int .u32 h0.2.2.2.2]⟩] = F_pinnaceref20_Head h0 := by kernel_rfl
theorem C_pinnaceref20_Head {R : Type} (h0 : (Int × Int × Int × Int × Int)) (K : Res [.sc .sl] → W R) (Q : R → World → Prop) (w : World) (h : F_pinnaceref20_Head h0 (fun r w => K r Q w) w) : callW Tryz.prog k_pinnaceref20_Head [.agg ⟨[.int .u8 h0.1, .int .u8 h0.2.1, .int .u32 h0.2.2.1, .int .u32 h0.2.2.2.1, .int .u32 h0.2.2.2.2]⟩] [.sc .sl] K Q w :=
  den_calls mix Tryz.func53 H_pinnaceref20_Head (ts := [.sc .sl]) trivial (by rw [Tryz.ntmps53]; simp) (by rw [E_pinnaceref20_Head]; exact h)

/-! 54 pinnace/pinnaceref20.ents -/
def F_pinnaceref20_ents (l0 : Sl) (e1 : Sl) : W (Sl) :=
  callW Tryz.prog k_pinnaceref02_Var [.int .u64 (IntKind.wrap .u64 (e1.n : Int))] [.sc .sl] fun (x_1 : Sl) =>
  rawW Tryz.prog (Builtin.append_ #[70, 70] 70 #[.slice l0.a l0.n l0.c, .slice x_1.a x_1.n x_1.c]) [.sc .sl] fun (x_2 : Sl) =>
  loopW (σ := Sl × Int × Int) (fun K_3 s_4 =>
    cond (decide (s_4.2.2 < (e1.n : Int)))
      (idxW e1.a e1.n 2 s_4.2.2 fun x_5 =>
    ld (.agg [.int .u32, .sl]) x_5 fun (x_6 : (Int × Sl)) =>
    newW 57 [.int .u32 0, .slice none 0 0] fun x_7 =>
    stoL x_7 [.int .u32 x_6.1, .slice x_6.2.a x_6.2.n x_6.2.c] 0 <|
    ld (.sc (.int .u32)) (Addr.add x_7 0) fun (x_8 : Int) =>
    callW Tryz.prog k_pinnaceref20_id [.slice s_4.1.a s_4.1.n s_4.1.c, .int .u32 s_4.2.1, .int .u32 x_8] [.sc .sl] fun (x_9 : Sl) =>
    ld (.sc (.int .u32)) (Addr.add x_7 0) fun (x_10 : Int) =>
    ld (.sc .sl) (Addr.add x_7 1) fun (x_11 : Sl) =>
    callW Tryz.prog k_pinnaceref05_Mask [.slice x_11.a x_11.n x_11.c] [.sc (.int .u8)] fun (x_12 : Int) =>
    callW Tryz.prog k_pinnaceref01_Put [.slice x_9.a x_9.n x_9.c, .int .u64 (IntKind.wrap .u64 x_12), .int .i64 5] [.sc .sl, .sc (.int .i64)] fun (x_13 : Sl × Int) =>
    ld (.sc .sl) (Addr.add x_7 1) fun (x_14 : Sl) =>
    callW Tryz.prog k_pinnaceref20_comps [.slice x_13.1.a x_13.1.n x_13.1.c, .slice x_14.a x_14.n x_14.c] [.sc .sl] fun (x_15 : Sl) =>
    K_3 (x_15, x_10, IntKind.wrap .i64 (s_4.2.2 + 1)))
      (retW s_4.1))
    (x_2, 0, 0)
def H_pinnaceref20_ents : Hints := { lop := [(0, [(0, .sc .sl), (5, .sc (.int .u32)), (16, .sc (.int .i64))])] }
theorem E_pinnaceref20_ents (l0 : Sl) (e1 : Sl) : denF Tryz.prog H_pinnaceref20_ents Tryz.f54 [.sc .sl] [.slice l0.a l0.n l0.c, .slice e1.a e1.n e1.c] = F_pinnaceref20_ents l0 e1 := by kernel_rfl
theorem C_pinnaceref20_ents {R : Type} (l0 : Sl) (e1 : Sl) (K : Res [.sc .sl] → W R) (Q : R → World → Prop) (w : World) (h : F_pinnaceref20_ents l0 e1 (fun r w => K r Q w) w) : callW Tryz.prog k_pinnaceref20_ents [.slice l0.a l0.n l0.c, .slice e1.a e1.n e1.c] [.sc .sl] K Q w :=
  den_calls mix Tryz.func54 H_pinnaceref20_ents (ts := [.sc .sl]) trivial (by rw [Tryz.ntmps54]; simp) (by rw [E_pinnaceref20_ents]; exact h)

/-! 55 pinnace/pinnaceref19.Diff -/
def F_pinnaceref19_Diff (d0 : Sl) (o1 : Sl) : W ((Sl × Sl × Sl) × Int) :=
  newW 80 [.slice none 0 0, .slice none 0 0, .slice none 0 0] fun x_1 =>
  callW Tryz.prog k_pinnaceref18_Form [.slice d0.a d0.n d0.c] [.sc (.int .i64)] fun (x_2 : Int) =>
  cond (x_2 != 0)
    (stoL x_1 [.slice none 0 0, .slice none 0 0, .slice none 0 0] 0 <|
    ld (.agg [.sl, .sl, .sl]) x_1 fun (x_3 : (Sl × Sl × Sl)) =>
    retW (x_3, x_2))
    (callW Tryz.prog k_pinnaceref18_Form [.slice o1.a o1.n o1.c] [.sc (.int .i64)] fun (x_4 : Int) =>
  cond (x_4 != 0)
    (stoL x_1 [.slice none 0 0, .slice none 0 0, .slice none 0 0] 0 <|
    ld (.agg [.sl, .sl, .sl]) x_1 fun (x_5 : (Sl × Sl × Sl)) =>
    retW (x_5, x_4))
    (newW 80 [.slice none 0 0, .slice none 0 0, .slice none 0 0] fun x_6 =>
  loopW (σ := Int) (fun K_7 s_8 =>
    cond (decide (s_8 < (d0.n : Int)))
      (idxW d0.a d0.n 2 s_8 fun x_9 =>
    ld (.agg [.int .u32, .sl]) x_9 fun (x_10 : (Int × Sl)) =>
    newW 57 [.int .u32 0, .slice none 0 0] fun x_11 =>
    stoL x_11 [.int .u32 x_10.1, .slice x_10.2.a x_10.2.n x_10.2.c] 0 <|
    ld (.sc (.int .u32)) (Addr.add x_11 0) fun (x_12 : Int) =>
    callW Tryz.prog k_pinnaceref18_Find [.slice o1.a o1.n o1.c, .int .u32 x_12] [.sc (.int .i64)] fun (x_13 : Int) =>
    joinW (σ := Unit) (fun J_14 =>
      cond (decide (x_13 < 0))
        (ld (.sc .sl) (Addr.add x_6 0) fun (x_15 : Sl) =>
        ld (.sc (.int .u32)) (Addr.add x_11 0) fun (x_16 : Int) =>
        newW 54 [.int .u32 x_16] fun x_17 =>
        rawW Tryz.prog (Builtin.append_ #[77, 77] 77 #[.slice x_15.a x_15.n x_15.c, .slice (some x_17) 1 1]) [.sc .sl] fun (x_18 : Sl) =>
        stoL (Addr.add x_6 0) [.slice x_18.a x_18.n x_18.c] 0 <|
        J_14 ())
        (J_14 ()))
    <| fun s_19 =>
    K_7 (IntKind.wrap .i64 (s_8 + 1)))
      (loopW (σ := Int) (fun K_20 s_21 =>
    cond (decide (s_21 < (o1.n : Int)))
      (joinW (σ := Unit) (fun J_22 =>
      idxW o1.a o1.n 2 s_21 fun x_23 =>
      ld (.agg [.int .u32, .sl]) x_23 fun (x_24 : (Int × Sl)) =>
      newW 57 [.int .u32 0, .slice none 0 0] fun x_25 =>
      stoL x_25 [.int .u32 x_24.1, .slice x_24.2.a x_24.2.n x_24.2.c] 0 <|
      ld (.sc (.int .u32)) (Addr.add x_25 0) fun (x_26 : Int) =>
      callW Tryz.prog k_pinnaceref18_Find [.slice d0.a d0.n d0.c, .int .u32 x_26] [.sc (.int .i64)] fun (x_27 : Int) =>
      cond (decide (x_27 < 0))
        (drawW <|
        ld (.sc .sl) (Addr.add x_6 1) fun (x_28 : Sl) =>
        ld (.sc (.int .u32)) (Addr.add x_25 0) fun (x_29 : Int) =>
        ld (.sc .sl) (Addr.add x_25 1) fun (x_30 : Sl) =>
        callW Tryz.prog k_pinnaceref05_Twin [.slice x_30.a x_30.n x_30.c] [.sc .sl] fun (x_31 : Sl) =>
        andW (fun w => Rd w (Addr.add x_25 0) (.sc (.int .u32)) x_29) <|
        andW (fun w => Rd w (Addr.add x_6 1) (.sc .sl) x_28) <|
        newW 57 [.int .u32 x_29, .slice x_31.a x_31.n x_31.c] fun x_32 =>
        rawW Tryz.prog (Builtin.append_ #[23, 23] 23 #[.slice x_28.a x_28.n x_28.c, .slice (some x_32) 1 1]) [.sc .sl] fun (x_33 : Sl) =>
        stoL (Addr.add x_6 1) [.slice x_33.a x_33.n x_33.c] 0 <|
        J_22 ())
        (ld (.sc (.int .u32)) (Addr.add x_25 0) fun (x_34 : Int) =>
      newW 86 [.int .u32 0, .int .u8 0, .slice none 0 0, .slice none 0 0] fun x_35 =>
      stoL x_35 [.int .u32 x_34, .int .u8 0, .slice none 0 0, .slice none 0 0] 0 <|
      loopW (σ := Int) (fun K_36 s_37 =>
        cond (decide (s_37 < 6))
          (drawW <|
        idxW d0.a d0.n 2 x_27 fun x_38 =>
        ld (.sc .sl) (Addr.add x_38 1) fun (x_39 : Sl) =>
        ld (.sc .sl) (Addr.add x_25 1) fun (x_40 : Sl) =>
        callW Tryz.prog k_pinnaceref05_Find [.slice x_39.a x_39.n x_39.c, .int .u8 s_37] [.sc (.int .i64)] fun (x_41 : Int) =>
        andW (fun w => Rd w (Addr.add x_25 1) (.sc .sl) x_40) <|
        callW Tryz.prog k_pinnaceref05_Find [.slice x_40.a x_40.n x_40.c, .int .u8 s_37] [.sc (.int .i64)] fun (x_42 : Int) =>
        joinW (σ := Bool) (fun J_43 =>
          cond (decide (x_41 ≥ 0))
            (J_43 (decide (x_42 < 0)))
            (J_43 false))
        <| fun s_44 =>
        joinW (σ := Unit) (fun J_45 =>
          cond s_44
            (ld (.sc (.int .u8)) (Addr.add x_35 1) fun (x_46 : Int) =>
            chkW (0 ≤ s_37) <|
            stoL (Addr.add x_35 1) [.int .u8 (IntKind.wrap .u8 (x_46 + (shL .u8 1 s_37)))] 0 <|
            J_45 ())
            (joinW (σ := Bool) (fun J_47 =>
              cond (decide (x_41 < 0))
                (J_47 (decide (x_42 ≥ 0)))
                (J_47 false))
            <| fun s_48 =>
            joinW (σ := Unit) (fun J_49 =>
              cond s_48
                (drawW <|
                ld (.sc .sl) (Addr.add x_35 2) fun (x_50 : Sl) =>
                ld (.sc .sl) (Addr.add x_25 1) fun (x_51 : Sl) =>
                idxW x_51.a x_51.n 4 x_42 fun x_52 =>
                ld (.agg [.int .u8, .int .i32, .int .i32, .int .i32]) x_52 fun (x_53 : (Int × Int × Int × Int)) =>
                newW 92 [.int .u8 x_53.1, .int .i32 x_53.2.1, .int .i32 x_53.2.2.1, .int .i32 x_53.2.2.2] fun x_54 =>
                rawW Tryz.prog (Builtin.append_ #[55, 55] 55 #[.slice x_50.a x_50.n x_50.c, .slice (some x_54) 1 1]) [.sc .sl] fun (x_55 : Sl) =>
                stoL (Addr.add x_35 2) [.slice x_55.a x_55.n x_55.c] 0 <|
                J_49 ())
                (joinW (σ := Bool) (fun J_56 =>
                  drawW <|
                  cond (decide (x_41 ≥ 0))
                    (idxW d0.a d0.n 2 x_27 fun x_57 =>
                        ld (.sc .sl) (Addr.add x_57 1) fun (x_58 : Sl) =>
                            idxW x_58.a x_58.n 4 x_41 fun x_59 =>
                                ld (.agg [.int .u8, .int .i32, .int .i32, .int .i32]) x_59 fun (x_60 : (Int × Int × Int × Int)) =>
                                  ld (.sc .sl) (Addr.add x_25 1) fun (x_61 : Sl) =>
                                      idxW x_61.a x_61.n 4 x_42 fun x_62 =>
                                          ld (.agg [.int .u8, .int .i32, .int .i32, .int .i32]) x_62 fun (x_63 : (Int × Int × Int × Int)) =>
                                            rawQ Tryz.prog (do Go.eqGuard .neq 92 (.tmp 130) (.tmp 135) (.agg ⟨[.int .u8 x_60.1, .int .i32 x_60.2.1, .int .i32 x_60.2.2.1, .int .i32 x_60.2.2.2]⟩) (.agg ⟨[.int .u8 x_63.1, .int .i32 x_63.2.1, .int .i32 x_63.2.2.1, .int .i32 x_63.2.2.2]⟩); Go.binOp .neq 92 (.agg ⟨[.int .u8 x_60.1, .int .i32 x_60.2.1, .int .i32 x_60.2.2.1, .int .i32 x_60.2.2.2]⟩) (.agg ⟨[.int .u8 x_63.1, .int .i32 x_63.2.1, .int .i32 x_63.2.2.1, .int .i32 x_63.2.2.2]⟩)) [.sc .bool] fun (x_64 : Bool) =>
                                              J_56 x_64)
                    (J_56 false))
                <| fun s_65 =>
                joinW (σ := Unit) (fun J_66 =>
                  cond s_65
                    (drawW <|
                    ld (.sc .sl) (Addr.add x_35 3) fun (x_67 : Sl) =>
                    ld (.sc .sl) (Addr.add x_25 1) fun (x_68 : Sl) =>
                    idxW x_68.a x_68.n 4 x_42 fun x_69 =>
                    ld (.agg [.int .u8, .int .i32, .int .i32, .int .i32]) x_69 fun (x_70 : (Int × Int × Int × Int)) =>
                    newW 92 [.int .u8 x_70.1, .int .i32 x_70.2.1, .int .i32 x_70.2.2.1, .int .i32 x_70.2.2.2] fun x_71 =>
                    rawW Tryz.prog (Builtin.append_ #[55, 55] 55 #[.slice x_67.a x_67.n x_67.c, .slice (some x_71) 1 1]) [.sc .sl] fun (x_72 : Sl) =>
                    stoL (Addr.add x_35 3) [.slice x_72.a x_72.n x_72.c] 0 <|
                    J_66 ())
                    (J_66 ()))
                <| fun s_73 =>
                J_49 ()))
            <| fun s_74 =>
            J_45 ()))
        <| fun s_75 =>
        K_36 (IntKind.wrap .u8 (s_37 + 1)))
          (joinW (σ := Bool) (fun J_76 =>
        ld (.sc (.int .u8)) (Addr.add x_35 1) fun (x_77 : Int) =>
        cond (decide (x_77 > 0))
          (J_76 true)
          (ld (.sc .sl) (Addr.add x_35 2) fun (x_78 : Sl) =>
            ld (.sc .sl) (Addr.add x_35 3) fun (x_79 : Sl) =>
                  J_76 (decide ((IntKind.wrap .i64 ((x_78.n : Int) + (x_79.n : Int))) > 0))))
      <| fun s_80 =>
      joinW (σ := Unit) (fun J_81 =>
        cond s_80
          (ld (.sc .sl) (Addr.add x_6 2) fun (x_82 : Sl) =>
          ld (.agg [.int .u32, .int .u8, .sl, .sl]) x_35 fun (x_83 : (Int × Int × Sl × Sl)) =>
          newW 86 [.int .u32 x_83.1, .int .u8 x_83.2.1, .slice x_83.2.2.1.a x_83.2.2.1.n x_83.2.2.1.c, .slice x_83.2.2.2.a x_83.2.2.2.n x_83.2.2.2.c] fun x_84 =>
          rawW Tryz.prog (Builtin.append_ #[78, 78] 78 #[.slice x_82.a x_82.n x_82.c, .slice (some x_84) 1 1]) [.sc .sl] fun (x_85 : Sl) =>
          stoL (Addr.add x_6 2) [.slice x_85.a x_85.n x_85.c] 0 <|
          J_81 ())
          (J_81 ()))
      <| fun s_86 =>
      J_22 ()))
        0))
    <| fun s_87 =>
    K_20 (IntKind.wrap .i64 (s_21 + 1)))
      (ld (.agg [.sl, .sl, .sl]) x_6 fun (x_88 : (Sl × Sl × Sl)) =>
  stoL x_1 [.slice x_88.1.a x_88.1.n x_88.1.c, .slice x_88.2.1.a x_88.2.1.n x_88.2.1.c, .slice x_88.2.2.a x_88.2.2.n x_88.2.2.c] 0 <|
  ld (.agg [.sl, .sl, .sl]) x_1 fun (x_89 : (Sl × Sl × Sl)) =>
  retW (x_89, 0)))
    0))
    0))
def H_pinnaceref19_Diff : Hints := { reg := [(25, [(89, .sc .bool)]), (27, [(102, .sc .bool)]), (29, [(119, .sc .bool)]), (32, [(161, .sc .bool)])], con := [(13040, []), (31119, []), (29102, []), (27089, []), (34161, [])], blk := [(3, [])], lop := [(0, [(32, .sc (.int .i64))]), (2, [(51, .sc (.int .i64))]), (4, [(75, .sc (.int .u8))])], dr := [(19, ([], [[(0, []), (1, []), (2, []), (3, []), (4, []), (5, []), (6, [1, 3]), (7, []), (8, []), (9, []), (10, []), (11, [])]])), (24, ([], [[(0, []), (1, []), (2, []), (3, []), (4, []), (5, []), (7, []), (8, []), (9, []), (6, [8]), (10, []), (11, []), (12, [])]])), (28, ([], [[(0, []), (1, []), (2, []), (3, []), (4, []), (5, []), (6, []), (7, []), (8, []), (9, []), (10, [])]])), (29, ([], [[(0, []), (1, []), (2, []), (3, []), (4, []), (5, []), (6, []), (7, []), (8, []), (9, []), (10, []), (11, []), (12, []), (13, []), (14, []), (15, []), (16, []), (17, []), (18, [])]])), (30, ([], [[(0, []), (1, []), (2, []), (3, []), (4, []), (5, []), (6, []), (7, []), (8, []), (9, []), (10, [])]]))] }
set_option maxRecDepth 100000 in
theorem E_pinnaceref19_Diff (d0 : Sl) (o1 : Sl) : denF Tryz.prog H_pinnaceref19_Diff Tryz.f55 [.agg [.sl, .sl, .sl], .sc (.int .i64)] [.slice d0.a d0.n d0.c, .slice o1.a o1.n o1.c] = F_pinnaceref19_Diff d0 o1 := by kernel_rfl
theorem C_pinnaceref19_Diff {R : Type} (d0 : Sl) (o1 : Sl) (K : Res [.agg [.sl, .sl, .sl], .sc (.int .i64)] → W R) (Q : R → World → Prop) (w : World) (h : F_pinnaceref19_Diff d0 o1 (fun r w => K r Q w) w) : callW Tryz.prog k_pinnaceref19_Diff [.slice d0.a d0.n d0.c, .slice o1.a o1.n o1.c] [.agg [.sl, .sl, .sl], .sc (.int .i64)] K Q w :=
  den_calls mix Tryz.func55 H_pinnaceref19_Diff (ts := [.agg [.sl, .sl, .sl], .sc (.int .i64)]) ⟨by kernel_rfl, trivial⟩ (by rw [Tryz.ntmps55]; simp) (by rw [E_pinnaceref19_Diff]; exact h)

/-! 56 pinnace/pinnaceref02.Var -/
def F_pinnaceref02_Var (v0 : Int) : W (Sl) :=
  loopW (σ := Int × Sl) (fun K_1 s_2 =>
    loopW (σ := Int × Sl × Int) (fun K_3 s_4 =>
      cond (decide (s_4.2.2 < 4))
        (newW 4 [.bool ((Int.tmod s_4.1 2) == 1)] fun x_5 =>
      rawW Tryz.prog (Builtin.append_ #[70, 70] 70 #[.slice s_4.2.1.a s_4.2.1.n s_4.2.1.c, .slice (some x_5) 1 1]) [.sc .sl] fun (x_6 : Sl) =>
      K_3 (IntKind.wrap .u64 (Int.tdiv s_4.1 2), x_6, IntKind.wrap .i64 (s_4.2.2 + 1)))
        (newW 4 [.bool (decide (s_4.1 > 0))] fun x_7 =>
    rawW Tryz.prog (Builtin.append_ #[70, 70] 70 #[.slice s_4.2.1.a s_4.2.1.n s_4.2.1.c, .slice (some x_7) 1 1]) [.sc .sl] fun (x_8 : Sl) =>
    cond (s_4.1 == 0)
      (retW x_8)
      (K_1 (s_4.1, x_8))))
      (s_2.1, s_2.2, 0))
    (v0, (⟨none, 0, 0⟩ : Sl))
def H_pinnaceref02_Var : Hints := { lop := [(0, [(0, .sc (.int .u64)), (3, .sc .sl)]), (2, [(0, .sc (.int .u64)), (3, .sc .sl), (4, .sc (.int .i64))])] }
theorem E_pinnaceref02_Var (v0 : Int) : denF Tryz.prog H_pinnaceref02_Var Tryz.f56 [.sc .sl] [.int .u64 v0] = F_pinnaceref02_Var v0 := by kernel_rfl
theorem C_pinnaceref02_Var {R : Type} (v0 : Int) (K : Res [.sc .sl] → W R) (Q : R → World → Prop) (w : World) (h : F_pinnaceref02_Var v0 (fun r w => K r Q w) w) : callW Tryz.prog k_pinnaceref02_Var [.int .u64 v0] [.sc .sl] K Q w :=
  den_calls mix Tryz.func56 H_pinnaceref02_Var (ts := [.sc .sl]) trivial (by rw [Tryz.ntmps56]; simp) (by rw [E_pinnaceref02_Var]; exact h)

/-! 57 pinnace/pinnaceref20.id -/
def F_pinnaceref20_id (l0 : Sl) (last1 : Int) (now2 : Int) : W (Sl) :=
  callW Tryz.prog k_pinnaceref02_Var [.int .u64 (IntKind.wrap .u64 (IntKind.wrap .u32 ((IntKind.wrap .u32 (now2 - last1)) - 1)))] [.sc .sl] fun (x_1 : Sl) =>
  rawW Tryz.prog (Builtin.append_ #[70, 70] 70 #[.slice l0.a l0.n l0.c, .slice x_1.a x_1.n x_1.c]) [.sc .sl] fun (x_2 : Sl) =>
  retW x_2
def H_pinnaceref20_id : Hints := {}
theorem E_pinnaceref20_id (l0 : Sl) (last1 : Int) (now2 : Int) : denF Tryz.prog H_pinnaceref20_id Tryz.f57 [.sc .sl] [.slice l0.a l0.n l0.c, .int .u32 last1, .int .u32 now2] = F_pinnaceref20_id l0 last1 now2 := by kernel_rfl
theorem C_pinnaceref20_id {R : Type} (l0 : Sl) (last1 : Int) (now2 : Int) (K : Res [.sc .sl] → W R) (Q : R → World → Prop) (w : World) (h : F_pinnaceref20_id l0 last1 now2 (fun r w => K r Q w) w) : callW Tryz.prog k_pinnaceref20_id [.slice l0.a l0.n l0.c, .int .u32 last1, .int .u32 now2] [.sc .sl] K Q w :=
  den_calls mix Tryz.func57 H_pinnaceref20_id (ts := [.sc .sl]) trivial (by rw [Tryz.ntmps57]; simp) (by rw [E_pinnaceref20_id]; exact h)

/-! 58 pinnace/pinnaceref01.Put -/
def F_pinnaceref01_Put (l0 : Sl) (v1 : Int) (n2 : Int) : W (Sl × Int) :=
  joinW (σ := Bool) (fun J_1 =>
    cond (decide (n2 < 0))
      (J_1 true)
      (J_1 (decide (n2 > 64))))
  <| fun s_2 =>
  cond s_2
    (retW (l0, 1))
    (newW 4 [] fun x_3 =>
  rawW Tryz.prog (Builtin.append_ #[70, 70] 70 #[.slice (some x_3) 0 0, .slice l0.a l0.n l0.c]) [.sc .sl] fun (x_4 : Sl) =>
  loopW (σ := Int × Sl × Int) (fun K_5 s_6 =>
    cond (decide (s_6.2.2 < n2))
      (newW 4 [.bool ((Int.tmod s_6.1 2) == 1)] fun x_7 =>
    rawW Tryz.prog (Builtin.append_ #[70, 70] 70 #[.slice s_6.2.1.a s_6.2.1.n s_6.2.1.c, .slice (some x_7) 1 1]) [.sc .sl] fun (x_8 : Sl) =>
    K_5 (IntKind.wrap .u64 (Int.tdiv s_6.1 2), x_8, IntKind.wrap .i64 (s_6.2.2 + 1)))
      (cond (s_6.1 != 0)
    (retW (l0, 5))
    (cond (decide ((s_6.2.1.n : Int) > 1048576))
    (retW (l0, 3))
    (retW (s_6.2.1, 0)))))
    (v1, x_4, 0))
def H_pinnaceref01_Put : Hints := { reg := [(1, [(14, .sc .bool)])], lop := [(0, [(1, .sc (.int .u64)), (8, .sc .sl), (20, .sc (.int .i64))])] }
theorem E_pinnaceref01_Put (l0 : Sl) (v1 : Int) (n2 : Int) : denF Tryz.prog H_pinnaceref01_Put Tryz.f58 [.sc .sl, .sc (.int .i64)] [.slice l0.a l0.n l0.c, .int .u64 v1, .int .i64 n2] = F_pinnaceref01_Put l0 v1 n2 := by kernel_rfl
theorem C_pinnaceref01_Put {R : Type} (l0 : Sl) (v1 : Int) (n2 : Int) (K : Res [.sc .sl, .sc (.int .i64)] → W R) (Q : R → World → Prop) (w : World) (h : F_pinnaceref01_Put l0 v1 n2 (fun r w => K r Q w) w) : callW Tryz.prog k_pinnaceref01_Put [.slice l0.a l0.n l0.c, .int .u64 v1, .int .i64 n2] [.sc .sl, .sc (.int .i64)] K Q w :=
  den_calls mix Tryz.func58 H_pinnaceref01_Put (ts := [.sc .sl, .sc (.int .i64)]) trivial (by rw [Tryz.ntmps58]; simp) (by rw [E_pinnaceref01_Put]; exact h)

/-! 60 pinnace/pinnaceref20.comps -/
def F_pinnaceref20_comps (l0 : Sl) (c1 : Sl) : W (Sl) :=
  loopW (σ := Sl × Int) (fun K_1 s_2 =>
    cond (decide (s_2.2 < (c1.n : Int)))
      (idxW c1.a c1.n 4 s_2.2 fun x_3 =>
    ld (.agg [.int .u8, .int .i32, .int .i32, .int .i32]) x_3 fun (x_4 : (Int × Int × Int × Int)) =>
    newW 92 [.int .u8 0, .int .i32 0, .int .i32 0, .int .i32 0] fun x_5 =>
    stoL x_5 [.int .u8 x_4.1, .int .i32 x_4.2.1, .int .i32 x_4.2.2.1, .int .i32 x_4.2.2.2] 0 <|
    ld (.agg [.int .u8, .int .i32, .int .i32, .int .i32]) x_5 fun (x_6 : (Int × Int × Int × Int)) =>
    callW Tryz.prog k_pinnaceref06_Put [.agg ⟨[.int .u8 x_6.1, .int .i32 x_6.2.1, .int .i32 x_6.2.2.1, .int .i32 x_6.2.2.2]⟩] [.sc .sl, .sc (.int .i64)] fun (x_7 : Sl × Int) =>
    rawW Tryz.prog (Builtin.append_ #[70, 70] 70 #[.slice s_2.1.a s_2.1.n s_2.1.c, .slice x_7.1.a x_7.1.n x_7.1.c]) [.sc .sl] fun (x_8 : Sl) =>
    K_1 (x_8, IntKind.wrap .i64 (s_2.2 + 1)))
      (retW s_2.1))
    (l0, 0)
def H_pinnaceref20_comps : Hints := { lop := [(0, [(0, .sc .sl), (11, .sc (.int .i64))])] }
theorem E_pinnaceref20_comps (l0 : Sl) (c1 : Sl) : denF Tryz.prog H_pinnaceref20_comps Tryz.f60 [.sc .sl] [.slice l0.a l0.n l0.c, .slice c1.a c1.n c1.c] = F_pinnaceref20_comps l0 c1 := by kernel_rfl
theorem C_pinnaceref20_comps {R : Type} (l0 : Sl) (c1 : Sl) (K : Res [.sc .sl] → W R) (Q : R → World → Prop) (w : World) (h : F_pinnaceref20_comps l0 c1 (fun r w => K r Q w) w) : callW Tryz.prog k_pinnaceref20_comps [.slice l0.a l0.n l0.c, .slice c1.a c1.n c1.c] [.sc .sl] K Q w :=
  den_calls mix Tryz.func60 H_pinnaceref20_comps (ts := [.sc .sl]) trivial (by rw [Tryz.ntmps60]; simp) (by rw [E_pinnaceref20_comps]; exact h)

/-! 61 pinnace/pinnaceref06.Step -/
def F_pinnaceref06_Step (d0 : (Int × Int × Int × Int)) (o1 : (Int × Int × Int × Int)) : W (Sl × Int) :=
  newW 92 [.int .u8 d0.1, .int .i32 d0.2.1, .int .i32 d0.2.2.1, .int .i32 d0.2.2.2] fun x_1 =>
  newW 92 [.int .u8 o1.1, .int .i32 o1.2.1, .int .i32 o1.2.2.1, .int .i32 o1.2.2.2] fun x_2 =>
  ld (.agg [.int .u8, .int .i32, .int .i32, .int .i32]) x_1 fun (x_3 : (Int × Int × Int × Int)) =>
  callW Tryz.prog k_pinnaceref05_Check [.agg ⟨[.int .u8 x_3.1, .int .i32 x_3.2.1, .int .i32 x_3.2.2.1, .int .i32 x_3.2.2.2]⟩] [.sc (.int .i64)] fun (x_4 : Int) =>
  cond (x_4 != 0)
    (retW ((⟨none, 0, 0⟩ : Sl), x_4))
    (ld (.agg [.int .u8, .int .i32, .int .i32, .int .i32]) x_2 fun (x_5 : (Int × Int × Int × Int)) =>
  callW Tryz.prog k_pinnaceref05_Check [.agg ⟨[.int .u8 x_5.1, .int .i32 x_5.2.1, .int .i32 x_5.2.2.1, .int .i32 x_5.2.2.2]⟩] [.sc (.int .i64)] fun (x_6 : Int) =>
  cond (x_6 != 0)
    (retW ((⟨none, 0, 0⟩ : Sl), x_6))
    (ld (.sc (.int .u8)) (Addr.add x_1 0) fun (x_7 : Int) =>
  ld (.sc (.int .u8)) (Addr.add x_2 0) fun (x_8 : Int) =>
  cond (x_7 != x_8)
    (retW ((⟨none, 0, 0⟩ : Sl), 4))
    (ld (.sc (.int .u8)) (Addr.add x_2 0) fun (x_9 : Int) =>
  callW Tryz.prog k_pinnaceref05_Count [.int .u8 x_9] [.sc (.int .i64)] fun (x_10 : Int) =>
  loopW (σ := Sl × Int) (fun K_11 s_12 =>
    cond (decide (s_12.2 < x_10))
      (joinW (σ := Sl) (fun J_13 =>
      drawW <|
      idxW (some (Addr.add x_2 1)) 3 1 s_12.2 fun x_14 =>
      ld (.sc (.int .i32)) x_14 fun (x_15 : Int) =>
      idxW (some (Addr.add x_1 1)) 3 1 s_12.2 fun x_16 =>
      ld (.sc (.int .i32)) x_16 fun (x_17 : Int) =>
      callW Tryz.prog k_pinnaceref02_Zig [.int .i64 (IntKind.wrap .i64 ((IntKind.wrap .i64 x_15) - (IntKind.wrap .i64 x_17)))] [.sc (.int .u64)] fun (x_18 : Int) =>
      newW 4 [.bool (decide (x_18 > 0))] fun x_19 =>
      rawW Tryz.prog (Builtin.append_ #[70, 70] 70 #[.slice s_12.1.a s_12.1.n s_12.1.c, .slice (some x_19) 1 1]) [.sc .sl] fun (x_20 : Sl) =>
      cond (x_18 == 0)
        (J_13 x_20)
        (newW 4 [.bool (decide (x_18 ≤ 16))] fun x_21 =>
      rawW Tryz.prog (Builtin.append_ #[70, 70] 70 #[.slice x_20.a x_20.n x_20.c, .slice (some x_21) 1 1]) [.sc .sl] fun (x_22 : Sl) =>
      cond (decide (x_18 ≤ 16))
        (callW Tryz.prog k_pinnaceref01_Put [.slice x_22.a x_22.n x_22.c, .int .u64 (IntKind.wrap .u64 (x_18 - 1)), .int .i64 4] [.sc .sl, .sc (.int .i64)] fun (x_23 : Sl × Int) =>
        J_13 x_23.1)
        (ld (.sc (.int .u8)) (Addr.add x_2 0) fun (x_24 : Int) =>
      callW Tryz.prog k_pinnaceref05_Range [.int .u8 x_24, .int .i64 s_12.2] [.sc (.int .i32), .sc (.int .i32), .sc (.int .i64)] fun (x_25 : Int × Int × Int) =>
      idxW (some (Addr.add x_2 1)) 3 1 s_12.2 fun x_26 =>
      ld (.sc (.int .i32)) x_26 fun (x_27 : Int) =>
      callW Tryz.prog k_pinnaceref02_In [.int .i64 (IntKind.wrap .i64 x_27), .int .i64 (IntKind.wrap .i64 x_25.1), .int .i64 (IntKind.wrap .i64 x_25.2.1)] [.sc .sl, .sc (.int .i64)] fun (x_28 : Sl × Int) =>
      rawW Tryz.prog (Builtin.append_ #[70, 70] 70 #[.slice x_22.a x_22.n x_22.c, .slice x_28.1.a x_28.1.n x_28.1.c]) [.sc .sl] fun (x_29 : Sl) =>
      J_13 x_29)))
    <| fun s_30 =>
    K_11 (s_30, IntKind.wrap .i64 (s_12.2 + 1)))
      (retW (s_12.1, 0)))
    ((⟨none, 0, 0⟩ : Sl), 0))))
def H_pinnaceref06_Step : Hints := { blk := [(1, [(8, .sc .sl)])], lop := [(0, [(8, .sc .sl), (34, .sc (.int .i64))])], dr := [(13, ([], [[(0, []), (1, []), (2, []), (3, []), (4, []), (5, []), (6, []), (7, []), (8, []), (9, []), (10, []), (11, []), (12, [])]]))] }
theorem E_pinnaceref06_Step (d0 : (Int × Int × Int × Int)) (o1 : (Int × Int × Int × Int)) : denF Tryz.prog H_pinnaceref06_Step Tryz.f61 [.sc .sl, .sc (.int .i64)] [.agg ⟨[.int .u8 d0.1, .int .i32 d0.2.1, .int .i32 d0.2.2.1, .int .i32 d0.2.2.2]⟩, .agg ⟨[.int .u8 o1.1, .int .i32 o1.2.1, .int .i32 o1.2.2.1, .int .i32 o1.2.2.2]⟩] = F_pinnaceref06_Step d0 o1 := by kernel_rfl
theorem C_pinnaceref06_Step {R : Type} (d0 : (Int × Int × Int × Int)) (o1 : (Int × Int × Int × Int)) (K : Res [.sc .sl, .sc (.int .i64)] → W R) (Q : R → World → Prop) (w : World) (h : F_pinnaceref06_Step d0 o1 (fun r w => K r Q w) w) : callW Tryz.prog k_pinnaceref06_Step [.agg ⟨[.int .u8 d0.1, .int .i32 d0.2.1, .int .i32 d0.2.2.1, .int .i32 d0.2.2.2]⟩, .agg ⟨[.int .u8 o1.1, .int .i32 o1.2.1, .int .i32 o1.2.2.1, .int .i32 o1.2.2.2]⟩] [.sc .sl, .sc (.int .i64)] K Q w :=
  den_calls mix Tryz.func61 H_pinnaceref06_Step (ts := [.sc .sl, .sc (.int .i64)]) trivial (by rw [Tryz.ntmps61]; simp) (by rw [E_pinnaceref06_Step]; exact h)

/-! 62 pinnace/pinnaceref01.Bytes -/
def F_pinnaceref01_Bytes (l0 : Sl) : W (Sl) :=
  rawW Tryz.prog (Instr.makeSlice 22 (.int .i64 (IntKind.wrap .i64 (Int.tdiv (IntKind.wrap .i64 ((l0.n : Int) + 7)) 8))) (.int .i64 (IntKind.wrap .i64 (Int.tdiv (IntKind.wrap .i64 ((l0.n : Int) + 7)) 8)))) [.sc .sl] fun (x_1 : Sl) =>
  loopW (σ := Int) (fun K_2 s_3 =>
    cond (decide (s_3 < (l0.n : Int)))
      (idxW l0.a l0.n 1 s_3 fun x_4 =>
    ld (.sc .bool) x_4 fun (x_5 : Bool) =>
    joinW (σ := Unit) (fun J_6 =>
      cond x_5
        (idxW x_1.a x_1.n 1 (IntKind.wrap .i64 (Int.tdiv s_3 8)) fun x_7 =>
        ld (.sc (.int .u8)) x_7 fun (x_8 : Int) =>
        chkW (0 ≤ (IntKind.wrap .u64 (Int.tmod s_3 8))) <|
        idxW x_1.a x_1.n 1 (IntKind.wrap .i64 (Int.tdiv s_3 8)) fun x_9 =>
        stoL x_9 [.int .u8 (IntKind.wrap .u8 (x_8 + (shL .u8 1 (IntKind.wrap .u64 (Int.tmod s_3 8)))))] 0 <|
        J_6 ())
        (J_6 ()))
    <| fun s_10 =>
    K_2 (IntKind.wrap .i64 (s_3 + 1)))
      (retW x_1))
    0
def H_pinnaceref01_Bytes : Hints := { con := [(7018, [])], lop := [(0, [(13, .sc (.int .i64))])] }
theorem E_pinnaceref01_Bytes (l0 : Sl) : denF Tryz.prog H_pinnaceref01_Bytes Tryz.f62 [.sc .sl] [.slice l0.a l0.n l0.c] = F_pinnaceref01_Bytes l0 := by kernel_rfl
theorem C_pinnaceref01_Bytes {R : Type} (l0 : Sl) (K : Res [.sc .sl] → W R) (Q : R → World → Prop) (w : World) (h : F_pinnaceref01_Bytes l0 (fun r w => K r Q w) w) : callW Tryz.prog k_pinnaceref01_Bytes [.slice l0.a l0.n l0.c] [.sc .sl] K Q w :=
  den_calls mix Tryz.func62 H_pinnaceref01_Bytes (ts := [.sc .sl]) trivial (by rw [Tryz.ntmps62]; simp) (by rw [E_pinnaceref01_Bytes]; exact h)

/-! 63 pinnace/frame.tail -/
def F_frame_tail (s0 : Int) : W (Sl) :=
  rawW Tryz.prog (Instr.makeSlice 22 (.int .i64 4) (.int .i64 4)) [.sc .sl] fun (x_1 : Sl) =>
  loopW (σ := Int) (fun K_2 s_3 =>
    cond (decide (s_3 < (x_1.n : Int)))
      (chkW (0 ≤ (IntKind.wrap .i64 (8 * s_3))) <|
    idxW x_1.a x_1.n 1 s_3 fun x_4 =>
    stoL x_4 [.int .u8 (IntKind.wrap .u8 (shR .u32 s0 (IntKind.wrap .i64 (8 * s_3))))] 0 <|
    K_2 (IntKind.wrap .i64 (s_3 + 1)))
      (retW x_1))
    0
def H_frame_tail : Hints := { lop := [(0, [(8, .sc (.int .i64))])] }
theorem E_frame_tail (s0 : Int) : denF Tryz.prog H_frame_tail Tryz.f63 [.sc .sl] [.int .u32 s0] = F_frame_tail s0 := by kernel_rfl
theorem C_frame_tail {R : Type} (s0 : Int) (K : Res [.sc .sl] → W R) (Q : R → World → Prop) (w : World) (h : F_frame_tail s0 (fun r w => K r Q w) w) : callW Tryz.prog k_frame_tail [.int .u32 s0] [.sc .sl] K Q w :=
  den_calls mix Tryz.func63 H_frame_tail (ts := [.sc .sl]) trivial (by rw [Tryz.ntmps63]; simp) (by rw [E_frame_tail]; exact h)

/-! 64 pinnace/frame.Sum -/
def F_frame_Sum (p0 : Sl) : W (Int) :=
  loopW (σ := Int × Int) (fun K_1 s_2 =>
    cond (decide (s_2.2 < (p0.n : Int)))
      (idxW p0.a p0.n 1 s_2.2 fun x_3 =>
    ld (.sc (.int .u8)) x_3 fun (x_4 : Int) =>
    loopW (σ := Int × Int) (fun K_5 s_6 =>
      cond (decide (s_6.2 < 8))
        (callW Tryz.prog k_frame_step [.int .u32 s_6.1] [.sc (.int .u32)] fun (x_7 : Int) =>
      K_5 (x_7, IntKind.wrap .i64 (s_6.2 + 1)))
        (K_1 (s_6.1, IntKind.wrap .i64 (s_2.2 + 1))))
      (bXor .u32 s_2.1 (IntKind.wrap .u32 x_4), 0))
      (retW (bXor .u32 (4294967295) s_2.1)))
    (4294967295, 0)
def H_frame_Sum : Hints := { lop := [(0, [(3, .sc (.int .u32)), (8, .sc (.int .i64))]), (2, [(3, .sc (.int .u32)), (16, .sc (.int .i64))])] }
theorem E_frame_Sum (p0 : Sl) : denF Tryz.prog H_frame_Sum Tryz.f64 [.sc (.int .u32)] [.slice p0.a p0.n p0.c] = F_frame_Sum p0 := by kernel_rfl
theorem C_frame_Sum {R : Type} (p0 : Sl) (K : Res [.sc (.int .u32)] → W R) (Q : R → World → Prop) (w : World) (h : F_frame_Sum p0 (fun r w => K r Q w) w) : callW Tryz.prog k_frame_Sum [.slice p0.a p0.n p0.c] [.sc (.int .u32)] K Q w :=
  den_calls mix Tryz.func64 H_frame_Sum (ts := [.sc (.int .u32)]) trivial (by rw [Tryz.ntmps64]; simp) (by rw [E_frame_Sum]; exact h)

/-! 65 bytes.Clone -/
def F_bytes_Clone (b0 : Sl) : W (Sl) :=
  cond (Option.isNone b0.a)
    (retW (⟨none, 0, 0⟩ : Sl))
    (newW 5 [] fun x_1 =>
  rawW Tryz.prog (Builtin.append_ #[22, 22] 22 #[.slice (some x_1) 0 0, .slice b0.a b0.n b0.c]) [.sc .sl] fun (x_2 : Sl) =>
  retW x_2)
def H_bytes_Clone : Hints := {}
theorem E_bytes_Clone (b0 : Sl) : denF Tryz.prog H_bytes_Clone Tryz.f65 [.sc .sl] [.slice b0.a b0.n b0.c] = F_bytes_Clone b0 := by kernel_rfl
theorem C_bytes_Clone {R : Type} (b0 : Sl) (K : Res [.sc .sl] → W R) (Q : R → World → Prop) (w : World) (h : F_bytes_Clone b0 (fun r w => K r Q w) w) : callW Tryz.prog k_bytes_Clone [.slice b0.a b0.n b0.c] [.sc .sl] K Q w :=
  den_calls mix Tryz.func65 H_bytes_Clone (ts := [.sc .sl]) trivial (by rw [Tryz.ntmps65]; simp) (by rw [E_bytes_Clone]; exact h)

/-! 69 pinnace/snap.one -/
def F_snap_one (e0 : (Int × Sl)) : W (Int) :=
  newW 57 [.int .u32 e0.1, .slice e0.2.a e0.2.n e0.2.c] fun e_1 =>
  ld (.sc (.int .u32)) (Addr.add e_1 0) fun (x_2 : Int) =>
  callW Tryz.prog k_slots_Gen [.int .u32 x_2] [.sc (.int .i64)] fun (x_3 : Int) =>
  joinW (σ := Bool) (fun J_4 =>
    cond (decide (x_3 < 1))
      (J_4 true)
      (J_4 (decide (x_3 > 4194303))))
  <| fun s_5 =>
  cond s_5
    (retW 4)
    (ld (.sc .sl) (Addr.add e_1 1) fun (x_6 : Sl) =>
  callW Tryz.prog k_schema_List [.slice x_6.a x_6.n x_6.c] [.sc (.int .i64)] fun (x_7 : Int) =>
  retW x_7)
def H_snap_one : Hints := { reg := [(2, [(12, .sc .bool)])] }
theorem E_snap_one (e0 : (Int × Sl)) : denF Tryz.prog H_snap_one Tryz.f69 [.sc (.int .i64)] [.agg ⟨[.int .u32 e0.1, .slice e0.2.a e0.2.n e0.2.c]⟩] = F_snap_one e0 := by kernel_rfl
theorem C_snap_one {R : Type} (e0 : (Int × Sl)) (K : Res [.sc (.int .i64)] → W R) (Q : R → World → Prop) (w : World) (h : F_snap_one e0 (fun r w => K r Q w) w) : callW Tryz.prog k_snap_one [.agg ⟨[.int .u32 e0.1, .slice e0.2.a e0.2.n e0.2.c]⟩] [.sc (.int .i64)] K Q w :=
  den_calls mix Tryz.func69 H_snap_one (ts := [.sc (.int .i64)]) trivial (by rw [Tryz.ntmps69]; simp) (by rw [E_snap_one]; exact h)

/-! 70 slices.ContainsFunc[[]pinnace/api.Comp,pinnace/api.Comp] -/
def F_slices_ContainsFunc_Comp__snap_secret (s0 : Sl) : W (Bool) :=
  callW Tryz.prog k_slices_IndexFunc_Comp [.slice s0.a s0.n s0.c, .func (.func 71) #[] #[]] [.sc (.int .i64)] fun (x_1 : Int) =>
  retW (decide (x_1 ≥ 0))
def H_slices_ContainsFunc_Comp__snap_secret : Hints := {}
theorem E_slices_ContainsFunc_Comp__snap_secret (s0 : Sl) : denF Tryz.prog H_slices_ContainsFunc_Comp__snap_secret Tryz.f70 [.sc .bool] [.slice s0.a s0.n s0.c, .func (.func 71) #[] #[]] = F_slices_ContainsFunc_Comp__snap_secret s0 := by kernel_rfl
theorem C_slices_ContainsFunc_Comp__snap_secret {R : Type} (s0 : Sl) (K : Res [.sc .bool] → W R) (Q : R → World → Prop) (w : World) (h : F_slices_ContainsFunc_Comp__snap_secret s0 (fun r w => K r Q w) w) : callW Tryz.prog k_slices_ContainsFunc_Comp [.slice s0.a s0.n s0.c, .func (.func 71) #[] #[]] [.sc .bool] K Q w :=
  den_calls mix Tryz.func70 H_slices_ContainsFunc_Comp__snap_secret (ts := [.sc .bool]) trivial (by rw [Tryz.ntmps70]; simp) (by rw [E_slices_ContainsFunc_Comp__snap_secret]; exact h)

/-! 71 pinnace/snap.secret -/
def F_snap_secret (c0 : (Int × Int × Int × Int)) : W (Bool) :=
  newW 92 [.int .u8 c0.1, .int .i32 c0.2.1, .int .i32 c0.2.2.1, .int .i32 c0.2.2.2] fun c_1 =>
  ld (.sc (.int .u8)) (Addr.add c_1 0) fun (x_2 : Int) =>
  callW Tryz.prog k_schema_Told [.int .u8 x_2] [.sc .bool] fun (x_3 : Bool) =>
  retW (!x_3)
def H_snap_secret : Hints := {}
theorem E_snap_secret (c0 : (Int × Int × Int × Int)) : denF Tryz.prog H_snap_secret Tryz.f71 [.sc .bool] [.agg ⟨[.int .u8 c0.1, .int .i32 c0.2.1, .int .i32 c0.2.2.1, .int .i32 c0.2.2.2]⟩] = F_snap_secret c0 := by kernel_rfl
theorem C_snap_secret {R : Type} (c0 : (Int × Int × Int × Int)) (K : Res [.sc .bool] → W R) (Q : R → World → Prop) (w : World) (h : F_snap_secret c0 (fun r w => K r Q w) w) : callW Tryz.prog k_snap_secret [.agg ⟨[.int .u8 c0.1, .int .i32 c0.2.1, .int .i32 c0.2.2.1, .int .i32 c0.2.2.2]⟩] [.sc .bool] K Q w :=
  den_calls mix Tryz.func71 H_snap_secret (ts := [.sc .bool]) trivial (by rw [Tryz.ntmps71]; simp) (by rw [E_snap_secret]; exact h)

/-! 86 pinnace/pinnaceref02.Zig -/
def F_pinnaceref02_Zig (n0 : Int) : W (Int) :=
  cond (decide (n0 < 0))
    (retW (IntKind.wrap .u64 ((IntKind.wrap .u64 (2 * (IntKind.wrap .u64 (IntKind.wrap .i64 ((-1) - n0))))) + 1)))
    (retW (IntKind.wrap .u64 (2 * (IntKind.wrap .u64 n0))))
def H_pinnaceref02_Zig : Hints := {}
theorem E_pinnaceref02_Zig (n0 : Int) : denF Tryz.prog H_pinnaceref02_Zig Tryz.f86 [.sc (.int .u64)] [.int .i64 n0] = F_pinnaceref02_Zig n0 := by kernel_rfl
theorem C_pinnaceref02_Zig {R : Type} (n0 : Int) (K : Res [.sc (.int .u64)] → W R) (Q : R → World → Prop) (w : World) (h : F_pinnaceref02_Zig n0 (fun r w => K r Q w) w) : callW Tryz.prog k_pinnaceref02_Zig [.int .i64 n0] [.sc (.int .u64)] K Q w :=
  den_calls mix Tryz.func86 H_pinnaceref02_Zig (ts := [.sc (.int .u64)]) trivial (by rw [Tryz.ntmps86]; simp) (by rw [E_pinnaceref02_Zig]; exact h)

/-! 91 pinnace/nums.PutIn -/
def F_nums_PutIn (w0 : Option Addr) (n1 : Int) (lo2 : Int) (hi3 : Int) : W (Int) :=
  cond (Option.isNone w0)
    (retW 10)
    (cond (decide (hi3 < lo2))
      (retW 1)
      (joinW (σ := Bool) (fun J_1 =>
        cond (decide (n1 < lo2))
          (J_1 true)
          (J_1 (decide (n1 > hi3))))
      <| fun s_2 =>
      cond s_2
        (retW 5)
        (callW Tryz.prog k_nums_Width [.int .i64 lo2, .int .i64 hi3] [.sc (.int .i64)] fun (x_3 : Int) =>
  callW Tryz.prog k_bits_Writer_Put [.pointer w0, .int .u64 (IntKind.wrap .u64 ((IntKind.wrap .u64 n1) - (IntKind.wrap .u64 lo2))), .int .i64 x_3] [.sc (.int .i64)] fun (x_4 : Int) =>
  retW x_4)))
def H_nums_PutIn : Hints := { reg := [(5, [(16, .sc .bool)])] }
theorem E_nums_PutIn (w0 : Option Addr) (n1 : Int) (lo2 : Int) (hi3 : Int) : denF Tryz.prog H_nums_PutIn Tryz.f91 [.sc (.int .i64)] [.pointer w0, .int .i64 n1, .int .i64 lo2, .int .i64 hi3] = F_nums_PutIn w0 n1 lo2 hi3 := by kernel_rfl
theorem C_nums_PutIn {R : Type} (w0 : Option Addr) (n1 : Int) (lo2 : Int) (hi3 : Int) (K : Res [.sc (.int .i64)] → W R) (Q : R → World → Prop) (w : World) (h : F_nums_PutIn w0 n1 lo2 hi3 (fun r w => K r Q w) w) : callW Tryz.prog k_nums_PutIn [.pointer w0, .int .i64 n1, .int .i64 lo2, .int .i64 hi3] [.sc (.int .i64)] K Q w :=
  den_calls mix Tryz.func91 H_nums_PutIn (ts := [.sc (.int .i64)]) trivial (by rw [Tryz.ntmps91]; simp) (by rw [E_nums_PutIn]; exact h)

/-! 92 pinnace/nums.PutVar -/
def F_nums_PutVar (w0 : Option Addr) (v1 : Int) : W (Int) :=
  callW Tryz.prog k_nums_groups [.int .u64 v1] [.sc (.int .i64)] fun (x_1 : Int) =>
  cond (Option.isNone w0)
    (retW 10)
    (callW Tryz.prog k_bits_Writer_Len [.pointer w0] [.sc (.int .i64)] fun (x_2 : Int) =>
    cond (decide ((IntKind.wrap .i64 (x_2 + (IntKind.wrap .i64 (x_1 * 5)))) > 1048576))
      (retW 3)
      (loopW (σ := Int) (fun K_3 s_4 =>
    cond (decide (s_4 < x_1))
      (chkW (0 ≤ (IntKind.wrap .i64 (4 * s_4))) <|
    joinW (σ := Int) (fun J_5 =>
      cond (decide (s_4 < (IntKind.wrap .i64 (x_1 - 1))))
        (J_5 (bOr .u64 (bAnd .u64 (shR .u64 v1 (IntKind.wrap .i64 (4 * s_4))) 15) 16))
        (J_5 (bAnd .u64 (shR .u64 v1 (IntKind.wrap .i64 (4 * s_4))) 15)))
    <| fun s_6 =>
    callW Tryz.prog k_bits_Writer_Put [.pointer w0, .int .u64 s_6, .int .i64 5] [.sc (.int .i64)] fun (x_7 : Int) =>
    K_3 (IntKind.wrap .i64 (s_4 + 1)))
      (retW 0))
    0))
def H_nums_PutVar : Hints := { con := [(12032, [(7, .sc (.int .u64))])], lop := [(1, [(21, .sc (.int .i64))])] }
theorem E_nums_PutVar (w0 : Option Addr) (v1 : Int) : denF Tryz.prog H_nums_PutVar Tryz.f92 [.sc (.int .i64)] [.pointer w0, .int .u64 v1] = F_nums_PutVar w0 v1 := by kernel_rfl
theorem C_nums_PutVar {R : Type} (w0 : Option Addr) (v1 : Int) (K : Res [.sc (.int .i64)] → W R) (Q : R → World → Prop) (w : World) (h : F_nums_PutVar w0 v1 (fun r w => K r Q w) w) : callW Tryz.prog k_nums_PutVar [.pointer w0, .int .u64 v1] [.sc (.int .i64)] K Q w :=
  den_calls mix Tryz.func92 H_nums_PutVar (ts := [.sc (.int .i64)]) trivial (by rw [Tryz.ntmps92]; simp) (by rw [E_nums_PutVar]; exact h)

/-! 93 (*pinnace/packet.writer).plain -/
def F_packet_writer_plain (w0 : Option Addr) (v1 : Int) (n2 : Int) : W (Unit) :=
  ptrW w0 fun x_1 =>
  ld (.sc .ptr) (Addr.add x_1 0) fun (x_2 : Option Addr) =>
  callW Tryz.prog k_bits_Writer_Put [.pointer x_2, .int .u64 v1, .int .i64 n2] [.sc (.int .i64)] fun (x_3 : Int) =>
  callW Tryz.prog k_packet_writer_keep [.pointer w0, .int .i64 x_3] [] fun (x_4 : Unit) =>
  retW ()
def H_packet_writer_plain : Hints := {}
theorem E_packet_writer_plain (w0 : Option Addr) (v1 : Int) (n2 : Int) : denF Tryz.prog H_packet_writer_plain Tryz.f93 [] [.pointer w0, .int .u64 v1, .int .i64 n2] = F_packet_writer_plain w0 v1 n2 := by kernel_rfl
theorem C_packet_writer_plain {R : Type} (w0 : Option Addr) (v1 : Int) (n2 : Int) (K : Res [] → W R) (Q : R → World → Prop) (w : World) (h : F_packet_writer_plain w0 v1 n2 (fun r w => K r Q w) w) : callW Tryz.prog k_packet_writer_plain [.pointer w0, .int .u64 v1, .int .i64 n2] [] K Q w :=
  den_calls mix Tryz.func93 H_packet_writer_plain (ts := []) trivial (by rw [Tryz.ntmps93]; simp) (by rw [E_packet_writer_plain]; exact h)

/-! 94 (*pinnace/packet.writer).count -/
def F_packet_writer_count (w0 : Option Addr) (n1 : Int) : W (Unit) :=
  ptrW w0 fun x_1 =>
  ld (.sc .ptr) (Addr.add x_1 0) fun (x_2 : Option Addr) =>
  callW Tryz.prog k_nums_PutVar [.pointer x_2, .int .u64 (IntKind.wrap .u64 n1)] [.sc (.int .i64)] fun (x_3 : Int) =>
  callW Tryz.prog k_packet_writer_keep [.pointer w0, .int .i64 x_3] [] fun (x_4 : Unit) =>
  retW ()
def H_packet_writer_count : Hints := {}
theorem E_packet_writer_count (w0 : Option Addr) (n1 : Int) : denF Tryz.prog H_packet_writer_count Tryz.f94 [] [.pointer w0, .int .i64 n1] = F_packet_writer_count w0 n1 := by kernel_rfl
theorem C_packet_writer_count {R : Type} (w0 : Option Addr) (n1 : Int) (K : Res [] → W R) (Q : R → World → Prop) (w : World) (h : F_packet_writer_count w0 n1 (fun r w => K r Q w) w) : callW Tryz.prog k_packet_writer_count [.pointer w0, .int .i64 n1] [] K Q w :=
  den_calls mix Tryz.func94 H_packet_writer_count (ts := []) trivial (by rw [Tryz.ntmps94]; simp) (by rw [E_packet_writer_count]; exact h)

/-! 95 (*pinnace/packet.writer).id -/
def F_packet_writer_id (w0 : Option Addr) (last1 : Option Addr) (id2 : Int) : W (Unit) :=
  drawW <|
  ptrW w0 fun x_1 =>
  ld (.sc .ptr) (Addr.add x_1 0) fun (x_2 : Option Addr) =>
  ptrW last1 fun x_3 =>
  ld (.sc (.int .u32)) x_3 fun (x_4 : Int) =>
  callW Tryz.prog k_nums_PutVar [.pointer x_2, .int .u64 (IntKind.wrap .u64 (IntKind.wrap .u32 ((IntKind.wrap .u32 (id2 - x_4)) - 1)))] [.sc (.int .i64)] fun (x_5 : Int) =>
  callW Tryz.prog k_packet_writer_keep [.pointer w0, .int .i64 x_5] [] fun (x_6 : Unit) =>
  ptrW last1 fun x_7 =>
  stoL x_7 [.int .u32 id2] 0 <|
  retW ()
def H_packet_writer_id : Hints := { dr := [(0, ([], [[(0, []), (1, []), (2, []), (3, []), (4, []), (5, []), (6, []), (7, []), (8, []), (9, []), (10, []), (11, []), (12, []), (13, [])]]))] }
theorem E_packet_writer_id (w0 : Option Addr) (last1 : Option Addr) (id2 : Int) : denF Tryz.prog H_packet_writer_id Tryz.f95 [] [.pointer w0, .pointer last1, .int .u32 id2] = F_packet_writer_id w0 last1 id2 := by kernel_rfl
theorem C_packet_writer_id {R : Type} (w0 : Option Addr) (last1 : Option Addr) (id2 : Int) (K : Res [] → W R) (Q : R → World → Prop) (w : World) (h : F_packet_writer_id w0 last1 id2 (fun r w => K r Q w) w) : callW Tryz.prog k_packet_writer_id [.pointer w0, .pointer last1, .int .u32 id2] [] K Q w :=
  den_calls mix Tryz.func95 H_packet_writer_id (ts := []) trivial (by rw [Tryz.ntmps95]; simp) (by rw [E_packet_writer_id]; exact h)

/-! 97 (*pinnace/packet.writer).comps -/
def F_packet_writer_comps (w0 : Option Addr) (l1 : Sl) : W (Unit) :=
  loopW (σ := Int) (fun K_1 s_2 =>
    cond (decide (s_2 < (l1.n : Int)))
      (idxW l1.a l1.n 4 s_2 fun x_3 =>
    ld (.agg [.int .u8, .int .i32, .int .i32, .int .i32]) x_3 fun (x_4 : (Int × Int × Int × Int)) =>
    newW 92 [.int .u8 0, .int .i32 0, .int .i32 0, .int .i32 0] fun c_5 =>
    stoL c_5 [.int .u8 x_4.1, .int .i32 x_4.2.1, .int .i32 x_4.2.2.1, .int .i32 x_4.2.2.2] 0 <|
    drawW <|
    ptrW w0 fun x_6 =>
    ld (.sc .ptr) (Addr.add x_6 0) fun (x_7 : Option Addr) =>
    ld (.agg [.int .u8, .int .i32, .int .i32, .int .i32]) c_5 fun (x_8 : (Int × Int × Int × Int)) =>
    callW Tryz.prog k_comp_Put [.pointer x_7, .agg ⟨[.int .u8 x_8.1, .int .i32 x_8.2.1, .int .i32 x_8.2.2.1, .int .i32 x_8.2.2.2]⟩] [.sc (.int .i64)] fun (x_9 : Int) =>
    callW Tryz.prog k_packet_writer_keep [.pointer w0, .int .i64 x_9] [] fun (x_10 : Unit) =>
    K_1 (IntKind.wrap .i64 (s_2 + 1)))
      (retW ()))
    0
def H_packet_writer_comps : Hints := { lop := [(0, [(8, .sc (.int .i64))])], dr := [(3, ([], [[(0, []), (1, []), (2, []), (3, []), (4, []), (5, []), (6, []), (7, [])]]))] }
theorem E_packet_writer_comps (w0 : Option Addr) (l1 : Sl) : denF Tryz.prog H_packet_writer_comps Tryz.f97 [] [.pointer w0, .slice l1.a l1.n l1.c] = F_packet_writer_comps w0 l1 := by kernel_rfl
theorem C_packet_writer_comps {R : Type} (w0 : Option Addr) (l1 : Sl) (K : Res [] → W R) (Q : R → World → Prop) (w : World) (h : F_packet_writer_comps w0 l1 (fun r w => K r Q w) w) : callW Tryz.prog k_packet_writer_comps [.pointer w0, .slice l1.a l1.n l1.c] [] K Q w :=
  den_calls mix Tryz.func97 H_packet_writer_comps (ts := []) trivial (by rw [Tryz.ntmps97]; simp) (by rw [E_packet_writer_comps]; exact h)

/-! 99 pinnace/diff.change -/
def F_diff_change (was0 : (Int × Sl)) (now1 : (Int × Sl)) : W ((Int × Int × Sl × Sl)) :=
  newW 57 [.int .u32 was0.1, .slice was0.2.a was0.2.n was0.2.c] fun was_1 =>
  newW 57 [.int .u32 now1.1, .slice now1.2.a now1.2.n now1.2.c] fun now_2 =>
  newW 86 [.int .u32 0, .int .u8 0, .slice none 0 0, .slice none 0 0] fun x_3 =>
  joinW (σ := (Option Addr)) (fun J_4 =>
    drawW <|
    bothW
      (ld (.sc (.int .u32)) (Addr.add now_2 0) fun (x_5 : Int) =>
      ld (.sc .sl) (Addr.add was_1 1) fun (x_6 : Sl) =>
      ld (.sc .sl) (Addr.add now_2 1) fun (x_7 : Sl) =>
      callW Tryz.prog k_schema_Mask [.slice x_6.a x_6.n x_6.c] [.sc (.int .u8)] fun (x_8 : Int) =>
      andW (fun w => Rd w (Addr.add now_2 1) (.sc .sl) x_7) <|
      andW (fun w => Rd w (Addr.add now_2 0) (.sc (.int .u32)) x_5) <|
      callW Tryz.prog k_schema_Mask [.slice x_7.a x_7.n x_7.c] [.sc (.int .u8)] fun (x_9 : Int) =>
      andW (fun w => Rd w (Addr.add now_2 0) (.sc (.int .u32)) x_5) <|
      newW 86 [.int .u32 0, .int .u8 0, .slice none 0 0, .slice none 0 0] fun d_10 =>
      stoL d_10 [.int .u32 x_5, .int .u8 (bNot .u8 x_8 x_9), .slice none 0 0, .slice none 0 0] 0 <|
      J_4 (some d_10))
      (bothW
      (ld (.sc (.int .u32)) (Addr.add now_2 0) fun (x_11 : Int) =>
      ld (.sc .sl) (Addr.add was_1 1) fun (x_12 : Sl) =>
      ld (.sc .sl) (Addr.add now_2 1) fun (x_13 : Sl) =>
      callW Tryz.prog k_schema_Mask [.slice x_12.a x_12.n x_12.c] [.sc (.int .u8)] fun (x_14 : Int) =>
      andW (fun w => Rd w (Addr.add now_2 1) (.sc .sl) x_13) <|
      andW (fun w => Rd w (Addr.add now_2 0) (.sc (.int .u32)) x_11) <|
      newW 86 [.int .u32 0, .int .u8 0, .slice none 0 0, .slice none 0 0] fun d_15 =>
      callW Tryz.prog k_schema_Mask [.slice x_13.a x_13.n x_13.c] [.sc (.int .u8)] fun (x_16 : Int) =>
      andW (fun w => Rd w (Addr.add now_2 0) (.sc (.int .u32)) x_11) <|
      stoL d_15 [.int .u32 x_11, .int .u8 (bNot .u8 x_14 x_16), .slice none 0 0, .slice none 0 0] 0 <|
      J_4 (some d_15))
      (ld (.sc (.int .u32)) (Addr.add now_2 0) fun (x_17 : Int) =>
      ld (.sc .sl) (Addr.add was_1 1) fun (x_18 : Sl) =>
      ld (.sc .sl) (Addr.add now_2 1) fun (x_19 : Sl) =>
      newW 86 [.int .u32 0, .int .u8 0, .slice none 0 0, .slice none 0 0] fun d_20 =>
      callW Tryz.prog k_schema_Mask [.slice x_18.a x_18.n x_18.c] [.sc (.int .u8)] fun (x_21 : Int) =>
      andW (fun w => Rd w (Addr.add now_2 1) (.sc .sl) x_19) <|
      andW (fun w => Rd w (Addr.add now_2 0) (.sc (.int .u32)) x_17) <|
      callW Tryz.prog k_schema_Mask [.slice x_19.a x_19.n x_19.c] [.sc (.int .u8)] fun (x_22 : Int) =>
      andW (fun w => Rd w (Addr.add now_2 0) (.sc (.int .u32)) x_17) <|
      stoL d_20 [.int .u32 x_17, .int .u8 (bNot .u8 x_21 x_22), .slice none 0 0, .slice none 0 0] 0 <|
      J_4 (some d_20))))
  <| fun s_23 =>
  ld (.sc .sl) (Addr.add now_2 1) fun (x_24 : Sl) =>
  loopW (σ := Int) (fun K_25 s_26 =>
    cond (decide (s_26 < (x_24.n : Int)))
      (idxW x_24.a x_24.n 4 s_26 fun x_27 =>
    ld (.agg [.int .u8, .int .i32, .int .i32, .int .i32]) x_27 fun (x_28 : (Int × Int × Int × Int)) =>
    newW 92 [.int .u8 0, .int .i32 0, .int .i32 0, .int .i32 0] fun c_29 =>
    stoL c_29 [.int .u8 x_28.1, .int .i32 x_28.2.1, .int .i32 x_28.2.2.1, .int .i32 x_28.2.2.2] 0 <|
    ld (.sc .sl) (Addr.add was_1 1) fun (x_30 : Sl) =>
    ld (.sc (.int .u8)) (Addr.add c_29 0) fun (x_31 : Int) =>
    callW Tryz.prog k_diff_find [.slice x_30.a x_30.n x_30.c, .int .u8 x_31] [.agg [.int .u8, .int .i32, .int .i32, .int .i32], .sc .bool] fun (x_32 : (Int × Int × Int × Int) × Bool) =>
    newW 92 [.int .u8 0, .int .i32 0, .int .i32 0, .int .i32 0] fun x_33 =>
    stoL x_33 [.int .u8 x_32.1.1, .int .i32 x_32.1.2.1, .int .i32 x_32.1.2.2.1, .int .i32 x_32.1.2.2.2] 0 <|
    joinW (σ := Unit) (fun J_34 =>
      cond (!x_32.2)
        (ptrW s_23 fun x_35 =>
        ld (.sc .sl) (Addr.add x_35 2) fun (x_36 : Sl) =>
        ld (.agg [.int .u8, .int .i32, .int .i32, .int .i32]) c_29 fun (x_37 : (Int × Int × Int × Int)) =>
        newW 92 [.int .u8 x_37.1, .int .i32 x_37.2.1, .int .i32 x_37.2.2.1, .int .i32 x_37.2.2.2] fun x_38 =>
        rawW Tryz.prog (Builtin.append_ #[55, 55] 55 #[.slice x_36.a x_36.n x_36.c, .slice (some x_38) 1 1]) [.sc .sl] fun (x_39 : Sl) =>
        ptrW s_23 fun x_40 =>
        stoL (Addr.add x_40 2) [.slice x_39.a x_39.n x_39.c] 0 <|
        J_34 ())
        (ld (.agg [.int .u8, .int .i32, .int .i32, .int .i32]) x_33 fun (x_41 : (Int × Int × Int × Int)) =>
        ld (.agg [.int .u8, .int .i32, .int .i32, .int .i32]) c_29 fun (x_42 : (Int × Int × Int × Int)) =>
        rawQ Tryz.prog (do Go.eqGuard .neq 92 (.tmp 45) (.tmp 46) (.agg ⟨[.int .u8 x_41.1, .int .i32 x_41.2.1, .int .i32 x_41.2.2.1, .int .i32 x_41.2.2.2]⟩) (.agg ⟨[.int .u8 x_42.1, .int .i32 x_42.2.1, .int .i32 x_42.2.2.1, .int .i32 x_42.2.2.2]⟩); Go.binOp .neq 92 (.agg ⟨[.int .u8 x_41.1, .int .i32 x_41.2.1, .int .i32 x_41.2.2.1, .int .i32 x_41.2.2.2]⟩) (.agg ⟨[.int .u8 x_42.1, .int .i32 x_42.2.1, .int .i32 x_42.2.2.1, .int .i32 x_42.2.2.2]⟩)) [.sc .bool] fun (x_43 : Bool) =>
        joinW (σ := Unit) (fun J_44 =>
          cond x_43
            (ptrW s_23 fun x_45 =>
            ld (.sc .sl) (Addr.add x_45 3) fun (x_46 : Sl) =>
            ld (.agg [.int .u8, .int .i32, .int .i32, .int .i32]) c_29 fun (x_47 : (Int × Int × Int × Int)) =>
            newW 92 [.int .u8 x_47.1, .int .i32 x_47.2.1, .int .i32 x_47.2.2.1, .int .i32 x_47.2.2.2] fun x_48 =>
            rawW Tryz.prog (Builtin.append_ #[55, 55] 55 #[.slice x_46.a x_46.n x_46.c, .slice (some x_48) 1 1]) [.sc .sl] fun (x_49 : Sl) =>
            ptrW s_23 fun x_50 =>
            stoL (Addr.add x_50 3) [.slice x_49.a x_49.n x_49.c] 0 <|
            J_44 ())
            (J_44 ()))
        <| fun s_51 =>
        J_34 ()))
    <| fun s_52 =>
    K_25 (IntKind.wrap .i64 (s_26 + 1)))
      (ptrW s_23 fun x_53 =>
  ld (.agg [.int .u32, .int .u8, .sl, .sl]) x_53 fun (x_54 : (Int × Int × Sl × Sl)) =>
  stoL x_3 [.int .u32 x_54.1, .int .u8 x_54.2.1, .slice x_54.2.2.1.a x_54.2.2.1.n x_54.2.2.1.c, .slice x_54.2.2.2.a x_54.2.2.2.n x_54.2.2.2.c] 0 <|
  ld (.agg [.int .u32, .int .u8, .sl, .sl]) x_3 fun (x_55 : (Int × Int × Sl × Sl)) =>
  retW x_55))
    0
def H_diff_change : Hints := { reg := [(1, [(5, .sc .ptr)])], con := [(10044, []), (8035, [])], lop := [(0, [(23, .sc (.int .i64))])], dr := [(1, ([(4, 10), (7, 10)], [[(0, []), (1, []), (2, []), (3, []), (5, []), (6, []), (4, [1, 6]), (7, [1]), (8, []), (9, []), (10, []), (11, [])], [(0, []), (1, []), (2, []), (3, []), (5, []), (6, []), (4, [1, 6]), (10, []), (7, [1]), (8, []), (9, []), (11, [])], [(0, []), (1, []), (2, []), (3, []), (5, []), (6, []), (10, []), (4, [1, 6]), (7, [1]), (8, []), (9, []), (11, [])]]))] }
set_option maxRecDepth 100000 in
theorem E_diff_change (was0 : (Int × Sl)) (now1 : (Int × Sl)) : denF Tryz.prog H_diff_change Tryz.f99 [.agg [.int .u32, .int .u8, .sl, .sl]] [.agg ⟨[.int .u32 was0.1, .slice was0.2.a was0.2.n was0.2.c]⟩, .agg ⟨[.int .u32 now1.1, .slice now1.2.a now1.2.n now1.2.c]⟩] = F_diff_change was0 now1 := by kernel_rfl
theorem C_diff_change {R : Type} (was0 : (Int × Sl)) (now1 : (Int × Sl)) (K : Res [.agg [.int .u32, .int .u8, .sl, .sl]] → W R) (Q : R → World → Prop) (w : World) (h : F_diff_change was0 now1 (fun r w => K r Q w) w) : callW Tryz.prog k_diff_change [.agg ⟨[.int .u32 was0.1, .slice was0.2.a was0.2.n was0.2.c]⟩, .agg ⟨[.int .u32 now1.1, .slice now1.2.a now1.2.n now1.2.c]⟩] [.agg [.int .u32, .int .u8, .sl, .sl]] K Q w :=
  den_calls mix Tryz.func99 H_diff_change (ts := [.agg [.int .u32, .int .u8, .sl, .sl]]) ⟨by kernel_rfl, trivial⟩ (by rw [Tryz.ntmps99]; simp) (by rw [E_diff_change]; exact h)

/-! 100 pinnace/diff.nothing -/
def F_diff_nothing (d0 : (Int × Int × Sl × Sl)) : W (Bool) :=
  newW 86 [.int .u32 d0.1, .int .u8 d0.2.1, .slice d0.2.2.1.a d0.2.2.1.n d0.2.2.1.c, .slice d0.2.2.2.a d0.2.2.2.n d0.2.2.2.c] fun d_1 =>
  joinW (σ := Bool) (fun J_2 =>
    ld (.sc (.int .u8)) (Addr.add d_1 1) fun (x_3 : Int) =>
    cond (x_3 == 0)
      (ld (.sc .sl) (Addr.add d_1 2) fun (x_4 : Sl) =>
        cond ((x_4.n : Int) == 0)
              (ld (.sc .sl) (Addr.add d_1 3) fun (x_5 : Sl) =>
                J_2 ((x_5.n : Int) == 0))
              (J_2 false))
      (J_2 false))
  <| fun s_6 =>
  retW s_6
def H_diff_nothing : Hints := { reg := [(1, [(2, .sc .bool)])] }
theorem E_diff_nothing (d0 : (Int × Int × Sl × Sl)) : denF Tryz.prog H_diff_nothing Tryz.f100 [.sc .bool] [.agg ⟨[.int .u32 d0.1, .int .u8 d0.2.1, .slice d0.2.2.1.a d0.2.2.1.n d0.2.2.1.c, .slice d0.2.2.2.a d0.2.2.2.n d0.2.2.2.c]⟩] = F_diff_nothing d0 := by kernel_rfl
theorem C_diff_nothing {R : Type} (d0 : (Int × Int × Sl × Sl)) (K : Res [.sc .bool] → W R) (Q : R → World → Prop) (w : World) (h : F_diff_nothing d0 (fun r w => K r Q w) w) : callW Tryz.prog k_diff_nothing [.agg ⟨[.int .u32 d0.1, .int .u8 d0.2.1, .slice d0.2.2.1.a d0.2.2.1.n d0.2.2.1.c, .slice d0.2.2.2.a d0.2.2.2.n d0.2.2.2.c]⟩] [.sc .bool] K Q w :=
  den_calls mix Tryz.func100 H_diff_nothing (ts := [.sc .bool]) trivial (by rw [Tryz.ntmps100]; simp) (by rw [E_diff_nothing]; exact h)

/-! 101 pinnace/comp.PutStep -/
def F_comp_PutStep (w0 : Option Addr) (was1 : (Int × Int × Int × Int)) (c2 : (Int × Int × Int × Int)) : W (Int) :=
  newW 92 [.int .u8 was1.1, .int .i32 was1.2.1, .int .i32 was1.2.2.1, .int .i32 was1.2.2.2] fun was_1 =>
  newW 92 [.int .u8 c2.1, .int .i32 c2.2.1, .int .i32 c2.2.2.1, .int .i32 c2.2.2.2] fun c_2 =>
  cond (Option.isNone w0)
    (retW 10)
    (ld (.agg [.int .u8, .int .i32, .int .i32, .int .i32]) was_1 fun (x_3 : (Int × Int × Int × Int)) =>
  ld (.agg [.int .u8, .int .i32, .int .i32, .int .i32]) c_2 fun (x_4 : (Int × Int × Int × Int)) =>
  callW Tryz.prog k_comp_pair [.agg ⟨[.int .u8 x_3.1, .int .i32 x_3.2.1, .int .i32 x_3.2.2.1, .int .i32 x_3.2.2.2]⟩, .agg ⟨[.int .u8 x_4.1, .int .i32 x_4.2.1, .int .i32 x_4.2.2.1, .int .i32 x_4.2.2.2]⟩] [.sc (.int .i64)] fun (x_5 : Int) =>
  cond (x_5 != 0)
    (retW x_5)
    (ld (.agg [.int .u8, .int .i32, .int .i32, .int .i32]) was_1 fun (x_6 : (Int × Int × Int × Int)) =>
  ld (.agg [.int .u8, .int .i32, .int .i32, .int .i32]) c_2 fun (x_7 : (Int × Int × Int × Int)) =>
  callW Tryz.prog k_comp_step [.agg ⟨[.int .u8 x_6.1, .int .i32 x_6.2.1, .int .i32 x_6.2.2.1, .int .i32 x_6.2.2.2]⟩, .agg ⟨[.int .u8 x_7.1, .int .i32 x_7.2.1, .int .i32 x_7.2.2.1, .int .i32 x_7.2.2.2]⟩] [.sc .sl] fun (x_8 : Sl) =>
  callW Tryz.prog k_comp_put [.pointer w0, .slice x_8.a x_8.n x_8.c] [.sc (.int .i64)] fun (x_9 : Int) =>
  retW x_9))
def H_comp_PutStep : Hints := {}
theorem E_comp_PutStep (w0 : Option Addr) (was1 : (Int × Int × Int × Int)) (c2 : (Int × Int × Int × Int)) : denF Tryz.prog H_comp_PutStep Tryz.f101 [.sc (.int .i64)] [.pointer w0, .agg ⟨[.int .u8 was1.1, .int .i32 was1.2.1, .int .i32 was1.2.2.1, .int .i32 was1.2.2.2]⟩, .agg ⟨[.int .u8 c2.1, .int .i32 c2.2.1, .int .i32 c2.2.2.1, .int .i32 c2.2.2.2]⟩] = F_comp_PutStep w0 was1 c2 := by kernel_rfl
theorem C_comp_PutStep {R : Type} (w0 : Option Addr) (was1 : (Int × Int × Int × Int)) (c2 : (Int × Int × Int × Int)) (K : Res [.sc (.int .i64)] → W R) (Q : R → World → Prop) (w : World) (h : F_comp_PutStep w0 was1 c2 (fun r w => K r Q w) w) : callW Tryz.prog k_comp_PutStep [.pointer w0, .agg ⟨[.int .u8 was1.1, .int .i32 was1.2.1, .int .i32 was1.2.2.1, .int .i32 was1.2.2.2]⟩, .agg ⟨[.int .u8 c2.1, .int .i32 c2.2.1, .int .i32 c2.2.2.1, .int .i32 c2.2.2.2]⟩] [.sc (.int .i64)] K Q w :=
  den_calls mix Tryz.func101 H_comp_PutStep (ts := [.sc (.int .i64)]) trivial (by rw [Tryz.ntmps101]; simp) (by rw [E_comp_PutStep]; exact h)

/-! 102 pinnace/packet.old -/
def F_packet_old (was0 : Sl) (id1 : Int) (kind2 : Int) : W ((Int × Int × Int × Int)) :=
  newW 92 [.int .u8 0, .int .i32 0, .int .i32 0, .int .i32 0] fun x_1 =>
  callW Tryz.prog k_snap_Find [.slice was0.a was0.n was0.c, .int .u32 id1] [.sc (.int .i64)] fun (x_2 : Int) =>
  cond (decide (x_2 < 0))
    (stoL x_1 [.int .u8 0, .int .i32 0, .int .i32 0, .int .i32 0] 0 <|
    ld (.agg [.int .u8, .int .i32, .int .i32, .int .i32]) x_1 fun (x_3 : (Int × Int × Int × Int)) =>
    retW x_3)
    (idxW was0.a was0.n 2 x_2 fun x_4 =>
  ld (.sc .sl) (Addr.add x_4 1) fun (x_5 : Sl) =>
  loopW (σ := Int) (fun K_6 s_7 =>
    cond (decide (s_7 < (x_5.n : Int)))
      (idxW x_5.a x_5.n 4 s_7 fun x_8 =>
    ld (.agg [.int .u8, .int .i32, .int .i32, .int .i32]) x_8 fun (x_9 : (Int × Int × Int × Int)) =>
    newW 92 [.int .u8 0, .int .i32 0, .int .i32 0, .int .i32 0] fun c_10 =>
    stoL c_10 [.int .u8 x_9.1, .int .i32 x_9.2.1, .int .i32 x_9.2.2.1, .int .i32 x_9.2.2.2] 0 <|
    ld (.sc (.int .u8)) (Addr.add c_10 0) fun (x_11 : Int) =>
    cond (x_11 == kind2)
      (ld (.agg [.int .u8, .int .i32, .int .i32, .int .i32]) c_10 fun (x_12 : (Int × Int × Int × Int)) =>
      stoL x_1 [.int .u8 x_12.1, .int .i32 x_12.2.1, .int .i32 x_12.2.2.1, .int .i32 x_12.2.2.2] 0 <|
      ld (.agg [.int .u8, .int .i32, .int .i32, .int .i32]) x_1 fun (x_13 : (Int × Int × Int × Int)) =>
      retW x_13)
      (K_6 (IntKind.wrap .i64 (s_7 + 1))))
      (stoL x_1 [.int .u8 0, .int .i32 0, .int .i32 0, .int .i32 0] 0 <|
  ld (.agg [.int .u8, .int .i32, .int .i32, .int .i32]) x_1 fun (x_14 : (Int × Int × Int × Int)) =>
  retW x_14))
    0)
def H_packet_old : Hints := { lop := [(0, [(22, .sc (.int .i64))])] }
theorem E_packet_old (was0 : Sl) (id1 : Int) (kind2 : Int) : denF Tryz.prog H_packet_old Tryz.f102 [.agg [.int .u8, .int .i32, .int .i32, .int .i32]] [.slice was0.a was0.n was0.c, .int .u32 id1, .int .u8 kind2] = F_packet_old was0 id1 kind2 := by kernel_rfl
theorem C_packet_old {R : Type} (was0 : Sl) (id1 : Int) (kind2 : Int) (K : Res [.agg [.int .u8, .int .i32, .int .i32, .int .i32]] → W R) (Q : R → World → Prop) (w : World) (h : F_packet_old was0 id1 kind2 (fun r w => K r Q w) w) : callW Tryz.prog k_packet_old [.slice was0.a was0.n was0.c, .int .u32 id1, .int .u8 kind2] [.agg [.int .u8, .int .i32, .int .i32, .int .i32]] K Q w :=
  den_calls mix Tryz.func102 H_packet_old (ts := [.agg [.int .u8, .int .i32, .int .i32, .int .i32]]) ⟨by kernel_rfl, trivial⟩ (by rw [Tryz.ntmps102]; simp) (by rw [E_packet_old]; exact h)

/-! 103 pinnace/pinnaceref02.In -/
def F_pinnaceref02_In (n0 : Int) (lo1 : Int) (hi2 : Int) : W (Sl × Int) :=
  cond (decide (hi2 < lo1))
    (retW ((⟨none, 0, 0⟩ : Sl), 1))
    (joinW (σ := Bool) (fun J_1 =>
    cond (decide (n0 < lo1))
      (J_1 true)
      (J_1 (decide (n0 > hi2))))
  <| fun s_2 =>
  cond s_2
    (retW ((⟨none, 0, 0⟩ : Sl), 5))
    (callW Tryz.prog k_pinnaceref02_Width [.int .i64 lo1, .int .i64 hi2] [.sc (.int .i64)] fun (x_3 : Int) =>
  callW Tryz.prog k_pinnaceref01_Put [.slice none 0 0, .int .u64 (IntKind.wrap .u64 ((IntKind.wrap .u64 n0) - (IntKind.wrap .u64 lo1))), .int .i64 x_3] [.sc .sl, .sc (.int .i64)] fun (x_4 : Sl × Int) =>
  retW (x_4.1, 0)))
def H_pinnaceref02_In : Hints := { reg := [(3, [(20, .sc .bool)])] }
theorem E_pinnaceref02_In (n0 : Int) (lo1 : Int) (hi2 : Int) : denF Tryz.prog H_pinnaceref02_In Tryz.f103 [.sc .sl, .sc (.int .i64)] [.int .i64 n0, .int .i64 lo1, .int .i64 hi2] = F_pinnaceref02_In n0 lo1 hi2 := by kernel_rfl
theorem C_pinnaceref02_In {R : Type} (n0 : Int) (lo1 : Int) (hi2 : Int) (K : Res [.sc .sl, .sc (.int .i64)] → W R) (Q : R → World → Prop) (w : World) (h : F_pinnaceref02_In n0 lo1 hi2 (fun r w => K r Q w) w) : callW Tryz.prog k_pinnaceref02_In [.int .i64 n0, .int .i64 lo1, .int .i64 hi2] [.sc .sl, .sc (.int .i64)] K Q w :=
  den_calls mix Tryz.func103 H_pinnaceref02_In (ts := [.sc .sl, .sc (.int .i64)]) trivial (by rw [Tryz.ntmps103]; simp) (by rw [E_pinnaceref02_In]; exact h)

/-! 104 pinnace/pinnaceref06.Put -/
def F_pinnaceref06_Put (c0 : (Int × Int × Int × Int)) : W (Sl × Int) :=
  newW 92 [.int .u8 c0.1, .int .i32 c0.2.1, .int .i32 c0.2.2.1, .int .i32 c0.2.2.2] fun c_1 =>
  ld (.agg [.int .u8, .int .i32, .int .i32, .int .i32]) c_1 fun (x_2 : (Int × Int × Int × Int)) =>
  callW Tryz.prog k_pinnaceref05_Check [.agg ⟨[.int .u8 x_2.1, .int .i32 x_2.2.1, .int .i32 x_2.2.2.1, .int .i32 x_2.2.2.2]⟩] [.sc (.int .i64)] fun (x_3 : Int) =>
  cond (x_3 != 0)
    (retW ((⟨none, 0, 0⟩ : Sl), x_3))
    (ld (.sc (.int .u8)) (Addr.add c_1 0) fun (x_4 : Int) =>
  callW Tryz.prog k_pinnaceref05_Count [.int .u8 x_4] [.sc (.int .i64)] fun (x_5 : Int) =>
  loopW (σ := Sl × Int) (fun K_6 s_7 =>
    cond (decide (s_7.2 < x_5))
      (ld (.sc (.int .u8)) (Addr.add c_1 0) fun (x_8 : Int) =>
    callW Tryz.prog k_pinnaceref05_Range [.int .u8 x_8, .int .i64 s_7.2] [.sc (.int .i32), .sc (.int .i32), .sc (.int .i64)] fun (x_9 : Int × Int × Int) =>
    idxW (some (Addr.add c_1 1)) 3 1 s_7.2 fun x_10 =>
    ld (.sc (.int .i32)) x_10 fun (x_11 : Int) =>
    callW Tryz.prog k_pinnaceref02_In [.int .i64 (IntKind.wrap .i64 x_11), .int .i64 (IntKind.wrap .i64 x_9.1), .int .i64 (IntKind.wrap .i64 x_9.2.1)] [.sc .sl, .sc (.int .i64)] fun (x_12 : Sl × Int) =>
    rawW Tryz.prog (Builtin.append_ #[70, 70] 70 #[.slice s_7.1.a s_7.1.n s_7.1.c, .slice x_12.1.a x_12.1.n x_12.1.c]) [.sc .sl] fun (x_13 : Sl) =>
    K_6 (x_13, IntKind.wrap .i64 (s_7.2 + 1)))
      (retW (s_7.1, 0)))
    ((⟨none, 0, 0⟩ : Sl), 0))
def H_pinnaceref06_Put : Hints := { lop := [(0, [(5, .sc .sl), (20, .sc (.int .i64))])] }
theorem E_pinnaceref06_Put (c0 : (Int × Int × Int × Int)) : denF Tryz.prog H_pinnaceref06_Put Tryz.f104 [.sc .sl, .sc (.int .i64)] [.agg ⟨[.int .u8 c0.1, .int .i32 c0.2.1, .int .i32 c0.2.2.1, .int .i32 c0.2.2.2]⟩] = F_pinnaceref06_Put c0 := by kernel_rfl
theorem C_pinnaceref06_Put {R : Type} (c0 : (Int × Int × Int × Int)) (K : Res [.sc .sl, .sc (.int .i64)] → W R) (Q : R → World → Prop) (w : World) (h : F_pinnaceref06_Put c0 (fun r w => K r Q w) w) : callW Tryz.prog k_pinnaceref06_Put [.agg ⟨[.int .u8 c0.1, .int .i32 c0.2.1, .int .i32 c0.2.2.1, .int .i32 c0.2.2.2]⟩] [.sc .sl, .sc (.int .i64)] K Q w :=
  den_calls mix Tryz.func104 H_pinnaceref06_Put (ts := [.sc .sl, .sc (.int .i64)]) trivial (by rw [Tryz.ntmps104]; simp) (by rw [E_pinnaceref06_Put]; exact h)

/-! 105 pinnace/frame.step -/
def F_frame_step (c0 : Int) : W (Int) :=
  cond ((bAnd .u32 c0 1) != 0)
    (retW (bXor .u32 (shR .u32 c0 1) 3988292384))
    (retW (shR .u32 c0 1))
def H_frame_step : Hints := {}
theorem E_frame_step (c0 : Int) : denF Tryz.prog H_frame_step Tryz.f105 [.sc (.int .u32)] [.int .u32 c0] = F_frame_step c0 := by kernel_rfl
theorem C_frame_step {R : Type} (c0 : Int) (K : Res [.sc (.int .u32)] → W R) (Q : R → World → Prop) (w : World) (h : F_frame_step c0 (fun r w => K r Q w) w) : callW Tryz.prog k_frame_step [.int .u32 c0] [.sc (.int .u32)] K Q w :=
  den_calls mix Tryz.func105 H_frame_step (ts := [.sc (.int .u32)]) trivial (by rw [Tryz.ntmps105]; simp) (by rw [E_frame_step]; exact h)

/-! 112 slices.IndexFunc[[]pinnace/api.Comp,pinnace/api.Comp] -/
def F_slices_IndexFunc_Comp__diff_find_c1 (s0 : Sl) (f1c0 : Option Addr) : W (Int) :=
  loopW (σ := Int) (fun K_1 s_2 =>
    cond (decide (s_2 < (s0.n : Int)))
      (idxW s0.a s0.n 4 s_2 fun x_3 =>
    ld (.agg [.int .u8, .int .i32, .int .i32, .int .i32]) x_3 fun (x_4 : (Int × Int × Int × Int)) =>
    callW Tryz.prog k_diff_find_c1 [.agg ⟨[.int .u8 x_4.1, .int .i32 x_4.2.1, .int .i32 x_4.2.2.1, .int .i32 x_4.2.2.2]⟩, .pointer f1c0] [.sc .bool] fun (x_5 : Bool) =>
    cond x_5
      (retW s_2)
      (K_1 (IntKind.wrap .i64 (s_2 + 1))))
      (retW (-1)))
    0
def H_slices_IndexFunc_Comp__diff_find_c1 : Hints := { lop := [(0, [(8, .sc (.int .i64))])] }
theorem E_slices_IndexFunc_Comp__diff_find_c1 (s0 : Sl) (f1c0 : Option Addr) : denF Tryz.prog H_slices_IndexFunc_Comp__diff_find_c1 Tryz.f112 [.sc (.int .i64)] [.slice s0.a s0.n s0.c, .func (.func 165) #[] #[.pointer f1c0]] = F_slices_IndexFunc_Comp__diff_find_c1 s0 f1c0 := by kernel_rfl
theorem C_slices_IndexFunc_Comp__diff_find_c1 {R : Type} (s0 : Sl) (f1c0 : Option Addr) (K : Res [.sc (.int .i64)] → W R) (Q : R → World → Prop) (w : World) (h : F_slices_IndexFunc_Comp__diff_find_c1 s0 f1c0 (fun r w => K r Q w) w) : callW Tryz.prog k_slices_IndexFunc_Comp [.slice s0.a s0.n s0.c, .func (.func 165) #[] #[.pointer f1c0]] [.sc (.int .i64)] K Q w :=
  den_calls mix Tryz.func112 H_slices_IndexFunc_Comp__diff_find_c1 (ts := [.sc (.int .i64)]) trivial (by rw [Tryz.ntmps112]; simp) (by rw [E_slices_IndexFunc_Comp__diff_find_c1]; exact h)

/-! 112 slices.IndexFunc[[]pinnace/api.Comp,pinnace/api.Comp] -/
def F_slices_IndexFunc_Comp__snap_secret (s0 : Sl) : W (Int) :=
  loopW (σ := Int) (fun K_1 s_2 =>
    cond (decide (s_2 < (s0.n : Int)))
      (idxW s0.a s0.n 4 s_2 fun x_3 =>
    ld (.agg [.int .u8, .int .i32, .int .i32, .int .i32]) x_3 fun (x_4 : (Int × Int × Int × Int)) =>
    callW Tryz.prog k_snap_secret [.agg ⟨[.int .u8 x_4.1, .int .i32 x_4.2.1, .int .i32 x_4.2.2.1, .int .i32 x_4.2.2.2]⟩] [.sc .bool] fun (x_5 : Bool) =>
    cond x_5
      (retW s_2)
      (K_1 (IntKind.wrap .i64 (s_2 + 1))))
      (retW (-1)))
    0
def H_slices_IndexFunc_Comp__snap_secret : Hints := { lop := [(0, [(8, .sc (.int .i64))])] }
theorem E_slices_IndexFunc_Comp__snap_secret (s0 : Sl) : denF Tryz.prog H_slices_IndexFunc_Comp__snap_secret Tryz.f112 [.sc (.int .i64)] [.slice s0.a s0.n s0.c, .func (.func 71) #[] #[]] = F_slices_IndexFunc_Comp__snap_secret s0 := by kernel_rfl
theorem C_slices_IndexFunc_Comp__snap_secret {R : Type} (s0 : Sl) (K : Res [.sc (.int .i64)] → W R) (Q : R → World → Prop) (w : World) (h : F_slices_IndexFunc_Comp__snap_secret s0 (fun r w => K r Q w) w) : callW Tryz.prog k_slices_IndexFunc_Comp [.slice s0.a s0.n s0.c, .func (.func 71) #[] #[]] [.sc (.int .i64)] K Q w :=
  den_calls mix Tryz.func112 H_slices_IndexFunc_Comp__snap_secret (ts := [.sc (.int .i64)]) trivial (by rw [Tryz.ntmps112]; simp) (by rw [E_slices_IndexFunc_Comp__snap_secret]; exact h)

/-! 128 pinnace/pinnaceref02.Width -/
def F_pinnaceref02_Width (lo0 : Int) (hi1 : Int) : W (Int) :=
  joinW (σ := Int) (fun J_1 =>
    cond (decide (hi1 ≥ lo0))
      (loopW (σ := Int × Int) (fun K_2 s_3 =>
        cond (decide (s_3.2 > 0))
          (K_2 (IntKind.wrap .i64 (s_3.1 + 1), IntKind.wrap .u64 (Int.tdiv s_3.2 2)))
          (J_1 s_3.1))
        (0, IntKind.wrap .u64 ((IntKind.wrap .u64 hi1) - (IntKind.wrap .u64 lo0))))
      (J_1 0))
  <| fun s_4 =>
  retW s_4
def H_pinnaceref02_Width : Hints := { con := [(4009, [(5, .sc (.int .i64))])], lop := [(0, [(5, .sc (.int .i64)), (6, .sc (.int .u64))])] }
theorem E_pinnaceref02_Width (lo0 : Int) (hi1 : Int) : denF Tryz.prog H_pinnaceref02_Width Tryz.f128 [.sc (.int .i64)] [.int .i64 lo0, .int .i64 hi1] = F_pinnaceref02_Width lo0 hi1 := by kernel_rfl
theorem C_pinnaceref02_Width {R : Type} (lo0 : Int) (hi1 : Int) (K : Res [.sc (.int .i64)] → W R) (Q : R → World → Prop) (w : World) (h : F_pinnaceref02_Width lo0 hi1 (fun r w => K r Q w) w) : callW Tryz.prog k_pinnaceref02_Width [.int .i64 lo0, .int .i64 hi1] [.sc (.int .i64)] K Q w :=
  den_calls mix Tryz.func128 H_pinnaceref02_Width (ts := [.sc (.int .i64)]) trivial (by rw [Tryz.ntmps128]; simp) (by rw [E_pinnaceref02_Width]; exact h)

/-! 130 (*pinnace/bits.Writer).Put -/
def F_bits_Writer_Put (d0 : Option Addr) (o1 : Int) (p2 : Int) : W (Int) :=
  cond (Option.isNone d0)
    (retW 10)
    (joinW (σ := Bool) (fun J_1 =>
      cond (decide (p2 < 0))
        (J_1 true)
        (J_1 (decide (p2 > 64))))
    <| fun s_2 =>
    cond s_2
      (retW 1)
      (joinW (σ := Bool) (fun J_3 =>
        cond (decide (p2 < 64))
          (chkW (0 ≤ p2) <|
              J_3 ((shR .u64 o1 p2) != 0))
          (J_3 false))
      <| fun s_4 =>
      cond s_4
        (retW 5)
        (ptrW d0 fun x_5 =>
        ld (.sc (.int .i64)) (Addr.add x_5 1) fun (x_6 : Int) =>
        cond (decide ((IntKind.wrap .i64 (x_6 + p2)) > 1048576))
          (retW 3)
          (loopW (σ := Int) (fun K_7 s_8 =>
    cond (decide (s_8 < p2))
      (ptrW d0 fun x_9 =>
    ld (.sc (.int .i64)) (Addr.add x_9 1) fun (x_10 : Int) =>
    joinW (σ := Unit) (fun J_11 =>
      cond ((Int.tmod x_10 8) == 0)
        (ptrW d0 fun x_12 =>
        ld (.sc .sl) (Addr.add x_12 0) fun (x_13 : Sl) =>
        newW 5 [.int .u8 0] fun x_14 =>
        rawW Tryz.prog (Builtin.append_ #[22, 22] 22 #[.slice x_13.a x_13.n x_13.c, .slice (some x_14) 1 1]) [.sc .sl] fun (x_15 : Sl) =>
        ptrW d0 fun x_16 =>
        stoL (Addr.add x_16 0) [.slice x_15.a x_15.n x_15.c] 0 <|
        J_11 ())
        (J_11 ()))
    <| fun s_17 =>
    drawW <|
    ptrW d0 fun x_18 =>
    ld (.sc .sl) (Addr.add x_18 0) fun (x_19 : Sl) =>
    ptrW d0 fun x_20 =>
    ld (.sc (.int .i64)) (Addr.add x_20 1) fun (x_21 : Int) =>
    idxW x_19.a x_19.n 1 (IntKind.wrap .i64 (Int.tdiv x_21 8)) fun x_22 =>
    ld (.sc (.int .u8)) x_22 fun (x_23 : Int) =>
    chkW (0 ≤ s_8) <|
    ptrW d0 fun x_24 =>
    ld (.sc (.int .i64)) (Addr.add x_24 1) fun (x_25 : Int) =>
    chkW (0 ≤ (Int.tmod x_25 8)) <|
    idxW x_19.a x_19.n 1 (IntKind.wrap .i64 (Int.tdiv x_21 8)) fun x_26 =>
    stoL x_26 [.int .u8 (bOr .u8 x_23 (shL .u8 (IntKind.wrap .u8 (bAnd .u64 (shR .u64 o1 s_8) 1)) (Int.tmod x_25 8)))] 0 <|
    ptrW d0 fun x_27 =>
    ld (.sc (.int .i64)) (Addr.add x_27 1) fun (x_28 : Int) =>
    ptrW d0 fun x_29 =>
    stoL (Addr.add x_29 1) [.int .i64 (IntKind.wrap .i64 (x_28 + 1))] 0 <|
    K_7 (IntKind.wrap .i64 (s_8 + 1)))
      (retW 0))
    0))))
def H_bits_Writer_Put : Hints := { reg := [(3, [(11, .sc .bool)]), (5, [(18, .sc .bool)])], con := [(14044, [])], lop := [(1, [(36, .sc (.int .i64))])], dr := [(14, ([], [[(0, []), (1, []), (2, []), (3, []), (4, []), (5, []), (6, []), (7, []), (8, []), (9, []), (10, []), (11, []), (12, []), (13, []), (14, []), (15, []), (16, []), (17, []), (18, []), (19, []), (20, []), (21, []), (22, []), (23, []), (24, [])]]))] }
theorem E_bits_Writer_Put (d0 : Option Addr) (o1 : Int) (p2 : Int) : denF Tryz.prog H_bits_Writer_Put Tryz.f130 [.sc (.int .i64)] [.pointer d0, .int .u64 o1, .int .i64 p2] = F_bits_Writer_Put d0 o1 p2 := by kernel_rfl
theorem C_bits_Writer_Put {R : Type} (d0 : Option Addr) (o1 : Int) (p2 : Int) (K : Res [.sc (.int .i64)] → W R) (Q : R → World → Prop) (w : World) (h : F_bits_Writer_Put d0 o1 p2 (fun r w => K r Q w) w) : callW Tryz.prog k_bits_Writer_Put [.pointer d0, .int .u64 o1, .int .i64 p2] [.sc (.int .i64)] K Q w :=
  den_calls mix Tryz.func130 H_bits_Writer_Put (ts := [.sc (.int .i64)]) trivial (by rw [Tryz.ntmps130]; simp) (by rw [E_bits_Writer_Put]; exact h)

/-! 131 pinnace/nums.Width -/
def F_nums_Width (lo0 : Int) (hi1 : Int) : W (Int) :=
  cond (decide (hi1 < lo0))
    (retW 0)
    (callW Tryz.prog k_math_bits_Len64 [.int .u64 (IntKind.wrap .u64 ((IntKind.wrap .u64 hi1) - (IntKind.wrap .u64 lo0)))] [.sc (.int .i64)] fun (x_1 : Int) =>
  retW x_1)
def H_nums_Width : Hints := {}
theorem E_nums_Width (lo0 : Int) (hi1 : Int) : denF Tryz.prog H_nums_Width Tryz.f131 [.sc (.int .i64)] [.int .i64 lo0, .int .i64 hi1] = F_nums_Width lo0 hi1 := by kernel_rfl
theorem C_nums_Width {R : Type} (lo0 : Int) (hi1 : Int) (K : Res [.sc (.int .i64)] → W R) (Q : R → World → Prop) (w : World) (h : F_nums_Width lo0 hi1 (fun r w => K r Q w) w) : callW Tryz.prog k_nums_Width [.int .i64 lo0, .int .i64 hi1] [.sc (.int .i64)] K Q w :=
  den_calls mix Tryz.func131 H_nums_Width (ts := [.sc (.int .i64)]) trivial (by rw [Tryz.ntmps131]; simp) (by rw [E_nums_Width]; exact h)

/-! 132 pinnace/nums.groups -/
def F_nums_groups (v0 : Int) : W (Int) :=
  callW Tryz.prog k_math_bits_Len64 [.int .u64 v0] [.sc (.int .i64)] fun (x_1 : Int) =>
  retW (if (IntKind.wrap .i64 (Int.tdiv (IntKind.wrap .i64 ((IntKind.wrap .i64 (x_1 + 4)) - 1)) 4)) > 1 then (IntKind.wrap .i64 (Int.tdiv (IntKind.wrap .i64 ((IntKind.wrap .i64 (x_1 + 4)) - 1)) 4)) else 1)
def H_nums_groups : Hints := {}
theorem E_nums_groups (v0 : Int) : denF Tryz.prog H_nums_groups Tryz.f132 [.sc (.int .i64)] [.int .u64 v0] = F_nums_groups v0 := by kernel_rfl
theorem C_nums_groups {R : Type} (v0 : Int) (K : Res [.sc (.int .i64)] → W R) (Q : R → World → Prop) (w : World) (h : F_nums_groups v0 (fun r w => K r Q w) w) : callW Tryz.prog k_nums_groups [.int .u64 v0] [.sc (.int .i64)] K Q w :=
  den_calls mix Tryz.func132 H_nums_groups (ts := [.sc (.int .i64)]) trivial (by rw [Tryz.ntmps132]; simp) (by rw [E_nums_groups]; exact h)

/-! 133 (*pinnace/bits.Writer).Len -/
def F_bits_Writer_Len (w0 : Option Addr) : W (Int) :=
  cond (Option.isNone w0)
    (retW 0)
    (ptrW w0 fun x_1 =>
  ld (.sc (.int .i64)) (Addr.add x_1 1) fun (x_2 : Int) =>
  retW x_2)
def H_bits_Writer_Len : Hints := {}
theorem E_bits_Writer_Len (w0 : Option Addr) : denF Tryz.prog H_bits_Writer_Len Tryz.f133 [.sc (.int .i64)] [.pointer w0] = F_bits_Writer_Len w0 := by kernel_rfl
theorem C_bits_Writer_Len {R : Type} (w0 : Option Addr) (K : Res [.sc (.int .i64)] → W R) (Q : R → World → Prop) (w : World) (h : F_bits_Writer_Len w0 (fun r w => K r Q w) w) : callW Tryz.prog k_bits_Writer_Len [.pointer w0] [.sc (.int .i64)] K Q w :=
  den_calls mix Tryz.func133 H_bits_Writer_Len (ts := [.sc (.int .i64)]) trivial (by rw [Tryz.ntmps133]; simp) (by rw [E_bits_Writer_Len]; exact h)

/-! 134 pinnace/comp.Put -/
def F_comp_Put (w0 : Option Addr) (c1 : (Int × Int × Int × Int)) : W (Int) :=
  newW 92 [.int .u8 c1.1, .int .i32 c1.2.1, .int .i32 c1.2.2.1, .int .i32 c1.2.2.2] fun c_1 =>
  cond (Option.isNone w0)
    (retW 10)
    (ld (.agg [.int .u8, .int .i32, .int .i32, .int .i32]) c_1 fun (x_2 : (Int × Int × Int × Int)) =>
  callW Tryz.prog k_schema_Check [.agg ⟨[.int .u8 x_2.1, .int .i32 x_2.2.1, .int .i32 x_2.2.2.1, .int .i32 x_2.2.2.2]⟩] [.sc (.int .i64)] fun (x_3 : Int) =>
  cond (x_3 != 0)
    (retW x_3)
    (ld (.agg [.int .u8, .int .i32, .int .i32, .int .i32]) c_1 fun (x_4 : (Int × Int × Int × Int)) =>
  callW Tryz.prog k_comp_whole [.agg ⟨[.int .u8 x_4.1, .int .i32 x_4.2.1, .int .i32 x_4.2.2.1, .int .i32 x_4.2.2.2]⟩] [.sc .sl] fun (x_5 : Sl) =>
  callW Tryz.prog k_comp_put [.pointer w0, .slice x_5.a x_5.n x_5.c] [.sc (.int .i64)] fun (x_6 : Int) =>
  retW x_6))
def H_comp_Put : Hints := {}
theorem E_comp_Put (w0 : Option Addr) (c1 : (Int × Int × Int × Int)) : denF Tryz.prog H_comp_Put Tryz.f134 [.sc (.int .i64)] [.pointer w0, .agg ⟨[.int .u8 c1.1, .int .i32 c1.2.1, .int .i32 c1.2.2.1, .int .i32 c1.2.2.2]⟩] = F_comp_Put w0 c1 := by kernel_rfl
theorem C_comp_Put {R : Type} (w0 : Option Addr) (c1 : (Int × Int × Int × Int)) (K : Res [.sc (.int .i64)] → W R) (Q : R → World → Prop) (w : World) (h : F_comp_Put w0 c1 (fun r w => K r Q w) w) : callW Tryz.prog k_comp_Put [.pointer w0, .agg ⟨[.int .u8 c1.1, .int .i32 c1.2.1, .int .i32 c1.2.2.1, .int .i32 c1.2.2.2]⟩] [.sc (.int .i64)] K Q w :=
  den_calls mix Tryz.func134 H_comp_Put (ts := [.sc (.int .i64)]) trivial (by rw [Tryz.ntmps134]; simp) (by rw [E_comp_Put]; exact h)

/-! 135 pinnace/diff.find -/
def F_diff_find (l0 : Sl) (kind1 : Int) : W ((Int × Int × Int × Int) × Bool) :=
  newW 5 [.int .u8 kind1] fun kind_1 =>
  newW 92 [.int .u8 0, .int .i32 0, .int .i32 0, .int .i32 0] fun x_2 =>
  callW Tryz.prog k_slices_IndexFunc_Comp [.slice l0.a l0.n l0.c, .func (.func 165) #[] #[.pointer (some kind_1)]] [.sc (.int .i64)] fun (x_3 : Int) =>
  cond (decide (x_3 < 0))
    (stoL x_2 [.int .u8 0, .int .i32 0, .int .i32 0, .int .i32 0] 0 <|
    ld (.agg [.int .u8, .int .i32, .int .i32, .int .i32]) x_2 fun (x_4 : (Int × Int × Int × Int)) =>
    retW (x_4, false))
    (idxW l0.a l0.n 4 x_3 fun x_5 =>
  ld (.agg [.int .u8, .int .i32, .int .i32, .int .i32]) x_5 fun (x_6 : (Int × Int × Int × Int)) =>
  stoL x_2 [.int .u8 x_6.1, .int .i32 x_6.2.1, .int .i32 x_6.2.2.1, .int .i32 x_6.2.2.2] 0 <|
  ld (.agg [.int .u8, .int .i32, .int .i32, .int .i32]) x_2 fun (x_7 : (Int × Int × Int × Int)) =>
  retW (x_7, true))
def H_diff_find : Hints := {}
theorem E_diff_find (l0 : Sl) (kind1 : Int) : denF Tryz.prog H_diff_find Tryz.f135 [.agg [.int .u8, .int .i32, .int .i32, .int .i32], .sc .bool] [.slice l0.a l0.n l0.c, .int .u8 kind1] = F_diff_find l0 kind1 := by kernel_rfl
theorem C_diff_find {R : Type} (l0 : Sl) (kind1 : Int) (K : Res [.agg [.int .u8, .int .i32, .int .i32, .int .i32], .sc .bool] → W R) (Q : R → World → Prop) (w : World) (h : F_diff_find l0 kind1 (fun r w => K r Q w) w) : callW Tryz.prog k_diff_find [.slice l0.a l0.n l0.c, .int .u8 kind1] [.agg [.int .u8, .int .i32, .int .i32, .int .i32], .sc .bool] K Q w :=
  den_calls mix Tryz.func135 H_diff_find (ts := [.agg [.int .u8, .int .i32, .int .i32, .int .i32], .sc .bool]) ⟨by kernel_rfl, trivial⟩ (by rw [Tryz.ntmps135]; simp) (by rw [E_diff_find]; exact h)

/-! 136 pinnace/comp.pair -/
def F_comp_pair (was0 : (Int × Int × Int × Int)) (c1 : (Int × Int × Int × Int)) : W (Int) :=
  newW 92 [.int .u8 was0.1, .int .i32 was0.2.1, .int .i32 was0.2.2.1, .int .i32 was0.2.2.2] fun was_1 =>
  newW 92 [.int .u8 c1.1, .int .i32 c1.2.1, .int .i32 c1.2.2.1, .int .i32 c1.2.2.2] fun c_2 =>
  ld (.agg [.int .u8, .int .i32, .int .i32, .int .i32]) was_1 fun (x_3 : (Int × Int × Int × Int)) =>
  callW Tryz.prog k_schema_Check [.agg ⟨[.int .u8 x_3.1, .int .i32 x_3.2.1, .int .i32 x_3.2.2.1, .int .i32 x_3.2.2.2]⟩] [.sc (.int .i64)] fun (x_4 : Int) =>
  cond (x_4 != 0)
    (retW x_4)
    (ld (.agg [.int .u8, .int .i32, .int .i32, .int .i32]) c_2 fun (x_5 : (Int × Int × Int × Int)) =>
  callW Tryz.prog k_schema_Check [.agg ⟨[.int .u8 x_5.1, .int .i32 x_5.2.1, .int .i32 x_5.2.2.1, .int .i32 x_5.2.2.2]⟩] [.sc (.int .i64)] fun (x_6 : Int) =>
  cond (x_6 != 0)
    (retW x_6)
    (ld (.sc (.int .u8)) (Addr.add was_1 0) fun (x_7 : Int) =>
  ld (.sc (.int .u8)) (Addr.add c_2 0) fun (x_8 : Int) =>
  cond (x_7 != x_8)
    (retW 4)
    (retW 0)))
def H_comp_pair : Hints := {}
theorem E_comp_pair (was0 : (Int × Int × Int × Int)) (c1 : (Int × Int × Int × Int)) : denF Tryz.prog H_comp_pair Tryz.f136 [.sc (.int .i64)] [.agg ⟨[.int .u8 was0.1, .int .i32 was0.2.1, .int .i32 was0.2.2.1, .int .i32 was0.2.2.2]⟩, .agg ⟨[.int .u8 c1.1, .int .i32 c1.2.1, .int .i32 c1.2.2.1, .int .i32 c1.2.2.2]⟩] = F_comp_pair was0 c1 := by kernel_rfl
theorem C_comp_pair {R : Type} (was0 : (Int × Int × Int × Int)) (c1 : (Int × Int × Int × Int)) (K : Res [.sc (.int .i64)] → W R) (Q : R → World → Prop) (w : World) (h : F_comp_pair was0 c1 (fun r w => K r Q w) w) : callW Tryz.prog k_comp_pair [.agg ⟨[.int .u8 was0.1, .int .i32 was0.2.1, .int .i32 was0.2.2.1, .int .i32 was0.2.2.2]⟩, .agg ⟨[.int .u8 c1.1, .int .i32 c1.2.1, .int .i32 c1.2.2.1, .int .i32 c1.2.2.2]⟩] [.sc (.int .i64)] K Q w :=
  den_calls mix Tryz.func136 H_comp_pair (ts := [.sc (.int .i64)]) trivial (by rw [Tryz.ntmps136]; simp) (by rw [E_comp_pair]; exact h)

/-! 137 pinnace/comp.put -/
def F_comp_put (w0 : Option Addr) (l1 : Sl) : W (Int) :=
  callW Tryz.prog k_bits_Writer_Len [.pointer w0] [.sc (.int .i64)] fun (x_1 : Int) =>
  callW Tryz.prog k_comp_size [.slice l1.a l1.n l1.c] [.sc (.int .i64)] fun (x_2 : Int) =>
  cond (decide ((IntKind.wrap .i64 (x_1 + x_2)) > 1048576))
    (retW 3)
    (loopW (σ := Int) (fun K_3 s_4 =>
    cond (decide (s_4 < (l1.n : Int)))
      (idxW l1.a l1.n 2 s_4 fun x_5 =>
    ld (.agg [.int .u64, .int .i64]) x_5 fun (x_6 : (Int × Int)) =>
    newW 231 [.int .u64 0, .int .i64 0] fun p_7 =>
    stoL p_7 [.int .u64 x_6.1, .int .i64 x_6.2] 0 <|
    ld (.sc (.int .u64)) (Addr.add p_7 0) fun (x_8 : Int) =>
    ld (.sc (.int .i64)) (Addr.add p_7 1) fun (x_9 : Int) =>
    callW Tryz.prog k_bits_Writer_Put [.pointer w0, .int .u64 x_8, .int .i64 x_9] [.sc (.int .i64)] fun (x_10 : Int) =>
    K_3 (IntKind.wrap .i64 (s_4 + 1)))
      (retW 0))
    0)
def H_comp_put : Hints := { lop := [(0, [(15, .sc (.int .i64))])] }
theorem E_comp_put (w0 : Option Addr) (l1 : Sl) : denF Tryz.prog H_comp_put Tryz.f137 [.sc (.int .i64)] [.pointer w0, .slice l1.a l1.n l1.c] = F_comp_put w0 l1 := by kernel_rfl
theorem C_comp_put {R : Type} (w0 : Option Addr) (l1 : Sl) (K : Res [.sc (.int .i64)] → W R) (Q : R → World → Prop) (w : World) (h : F_comp_put w0 l1 (fun r w => K r Q w) w) : callW Tryz.prog k_comp_put [.pointer w0, .slice l1.a l1.n l1.c] [.sc (.int .i64)] K Q w :=
  den_calls mix Tryz.func137 H_comp_put (ts := [.sc (.int .i64)]) trivial (by rw [Tryz.ntmps137]; simp) (by rw [E_comp_put]; exact h)

/-! 138 pinnace/comp.step -/
def F_comp_step (was0 : (Int × Int × Int × Int)) (c1 : (Int × Int × Int × Int)) : W (Sl) :=
  newW 92 [.int .u8 was0.1, .int .i32 was0.2.1, .int .i32 was0.2.2.1, .int .i32 was0.2.2.2] fun was_1 =>
  newW 92 [.int .u8 c1.1, .int .i32 c1.2.1, .int .i32 c1.2.2.1, .int .i32 c1.2.2.2] fun c_2 =>
  ld (.sc (.int .u8)) (Addr.add c_2 0) fun (x_3 : Int) =>
  callW Tryz.prog k_schema_Count [.int .u8 x_3] [.sc (.int .i64)] fun (x_4 : Int) =>
  loopW (σ := Sl × Int) (fun K_5 s_6 =>
    cond (decide (s_6.2 < x_4))
      (ld (.agg [.int .u8, .int .i32, .int .i32, .int .i32]) was_1 fun (x_7 : (Int × Int × Int × Int)) =>
    ld (.agg [.int .u8, .int .i32, .int .i32, .int .i32]) c_2 fun (x_8 : (Int × Int × Int × Int)) =>
    callW Tryz.prog k_comp_more [.agg ⟨[.int .u8 x_7.1, .int .i32 x_7.2.1, .int .i32 x_7.2.2.1, .int .i32 x_7.2.2.2]⟩, .agg ⟨[.int .u8 x_8.1, .int .i32 x_8.2.1, .int .i32 x_8.2.2.1, .int .i32 x_8.2.2.2]⟩, .int .i64 s_6.2] [.sc (.int .u64)] fun (x_9 : Int) =>
    joinW (σ := Sl) (fun J_10 =>
      cond (x_9 == 0)
        (newW 231 [.int .u64 0, .int .i64 1] fun x_11 =>
        rawW Tryz.prog (Builtin.append_ #[202, 202] 202 #[.slice s_6.1.a s_6.1.n s_6.1.c, .slice (some x_11) 1 1]) [.sc .sl] fun (x_12 : Sl) =>
        J_10 x_12)
        (joinW (σ := Sl) (fun J_13 =>
          cond (decide (x_9 ≤ 16))
            (newW 231 [.int .u64 1, .int .i64 1, .int .u64 1, .int .i64 1, .int .u64 (IntKind.wrap .u64 (x_9 - 1)), .int .i64 4] fun x_14 =>
            rawW Tryz.prog (Builtin.append_ #[202, 202] 202 #[.slice s_6.1.a s_6.1.n s_6.1.c, .slice (some x_14) 3 3]) [.sc .sl] fun (x_15 : Sl) =>
            J_13 x_15)
            (ld (.agg [.int .u8, .int .i32, .int .i32, .int .i32]) c_2 fun (x_16 : (Int × Int × Int × Int)) =>
            callW Tryz.prog k_comp_field [.agg ⟨[.int .u8 x_16.1, .int .i32 x_16.2.1, .int .i32 x_16.2.2.1, .int .i32 x_16.2.2.2]⟩, .int .i64 s_6.2] [.agg [.int .u64, .int .i64]] fun (x_17 : (Int × Int)) =>
            newW 231 [.int .u64 1, .int .i64 1, .int .u64 0, .int .i64 1, .int .u64 x_17.1, .int .i64 x_17.2] fun x_18 =>
            rawW Tryz.prog (Builtin.append_ #[202, 202] 202 #[.slice s_6.1.a s_6.1.n s_6.1.c, .slice (some x_18) 3 3]) [.sc .sl] fun (x_19 : Sl) =>
            J_13 x_19))
        <| fun s_20 =>
        J_10 s_20))
    <| fun s_21 =>
    K_5 (s_21, IntKind.wrap .i64 (s_6.2 + 1)))
      (retW s_6.1))
    ((⟨none, 0, 0⟩ : Sl), 0)
def H_comp_step : Hints := { con := [(11033, [(5, .sc .sl)]), (9026, [(5, .sc .sl)])], lop := [(0, [(5, .sc .sl), (11, .sc (.int .i64))])] }
theorem E_comp_step (was0 : (Int × Int × Int × Int)) (c1 : (Int × Int × Int × Int)) : denF Tryz.prog H_comp_step Tryz.f138 [.sc .sl] [.agg ⟨[.int .u8 was0.1, .int .i32 was0.2.1, .int .i32 was0.2.2.1, .int .i32 was0.2.2.2]⟩, .agg ⟨[.int .u8 c1.1, .int .i32 c1.2.1, .int .i32 c1.2.2.1, .int .i32 c1.2.2.2]⟩] = F_comp_step was0 c1 := by kernel_rfl
theorem C_comp_step {R : Type} (was0 : (Int × Int × Int × Int)) (c1 : (Int × Int × Int × Int)) (K : Res [.sc .sl] → W R) (Q : R → World → Prop) (w : World) (h : F_comp_step was0 c1 (fun r w => K r Q w) w) : callW Tryz.prog k_comp_step [.agg ⟨[.int .u8 was0.1, .int .i32 was0.2.1, .int .i32 was0.2.2.1, .int .i32 was0.2.2.2]⟩, .agg ⟨[.int .u8 c1.1, .int .i32 c1.2.1, .int .i32 c1.2.2.1, .int .i32 c1.2.2.2]⟩] [.sc .sl] K Q w :=
  den_calls mix Tryz.func138 H_comp_step (ts := [.sc .sl]) trivial (by rw [Tryz.ntmps138]; simp) (by rw [E_comp_step]; exact h)

/-! 139 pinnace/snap.Find -/
def F_snap_Find (l0 : Sl) (id1 : Int) : W (Int) :=
  callW Tryz.prog k_slices_BinarySearchFunc_Ent [.slice l0.a l0.n l0.c, .int .u32 id1, .func (.func 171) #[] #[]] [.sc (.int .i64), .sc .bool] fun (x_1 : Int × Bool) =>
  cond (!x_1.2)
    (retW (-1))
    (retW x_1.1)
def H_snap_Find : Hints := {}
theorem E_snap_Find (l0 : Sl) (id1 : Int) : denF Tryz.prog H_snap_Find Tryz.f139 [.sc (.int .i64)] [.slice l0.a l0.n l0.c, .int .u32 id1] = F_snap_Find l0 id1 := by kernel_rfl
theorem C_snap_Find {R : Type} (l0 : Sl) (id1 : Int) (K : Res [.sc (.int .i64)] → W R) (Q : R → World → Prop) (w : World) (h : F_snap_Find l0 id1 (fun r w => K r Q w) w) : callW Tryz.prog k_snap_Find [.slice l0.a l0.n l0.c, .int .u32 id1] [.sc (.int .i64)] K Q w :=
  den_calls mix Tryz.func139 H_snap_Find (ts := [.sc (.int .i64)]) trivial (by rw [Tryz.ntmps139]; simp) (by rw [E_snap_Find]; exact h)

/-! 164 pinnace/comp.whole -/
def F_comp_whole (c0 : (Int × Int × Int × Int)) : W (Sl) :=
  newW 92 [.int .u8 c0.1, .int .i32 c0.2.1, .int .i32 c0.2.2.1, .int .i32 c0.2.2.2] fun c_1 =>
  ld (.sc (.int .u8)) (Addr.add c_1 0) fun (x_2 : Int) =>
  callW Tryz.prog k_schema_Count [.int .u8 x_2] [.sc (.int .i64)] fun (x_3 : Int) =>
  loopW (σ := Sl × Int) (fun K_4 s_5 =>
    cond (decide (s_5.2 < x_3))
      (ld (.agg [.int .u8, .int .i32, .int .i32, .int .i32]) c_1 fun (x_6 : (Int × Int × Int × Int)) =>
    callW Tryz.prog k_comp_field [.agg ⟨[.int .u8 x_6.1, .int .i32 x_6.2.1, .int .i32 x_6.2.2.1, .int .i32 x_6.2.2.2]⟩, .int .i64 s_5.2] [.agg [.int .u64, .int .i64]] fun (x_7 : (Int × Int)) =>
    newW 231 [.int .u64 x_7.1, .int .i64 x_7.2] fun x_8 =>
    rawW Tryz.prog (Builtin.append_ #[202, 202] 202 #[.slice s_5.1.a s_5.1.n s_5.1.c, .slice (some x_8) 1 1]) [.sc .sl] fun (x_9 : Sl) =>
    K_4 (x_9, IntKind.wrap .i64 (s_5.2 + 1)))
      (retW s_5.1))
    ((⟨none, 0, 0⟩ : Sl), 0)
def H_comp_whole : Hints := { lop := [(0, [(3, .sc .sl), (8, .sc (.int .i64))])] }
theorem E_comp_whole (c0 : (Int × Int × Int × Int)) : denF Tryz.prog H_comp_whole Tryz.f164 [.sc .sl] [.agg ⟨[.int .u8 c0.1, .int .i32 c0.2.1, .int .i32 c0.2.2.1, .int .i32 c0.2.2.2]⟩] = F_comp_whole c0 := by kernel_rfl
theorem C_comp_whole {R : Type} (c0 : (Int × Int × Int × Int)) (K : Res [.sc .sl] → W R) (Q : R → World → Prop) (w : World) (h : F_comp_whole c0 (fun r w => K r Q w) w) : callW Tryz.prog k_comp_whole [.agg ⟨[.int .u8 c0.1, .int .i32 c0.2.1, .int .i32 c0.2.2.1, .int .i32 c0.2.2.2]⟩] [.sc .sl] K Q w :=
  den_calls mix Tryz.func164 H_comp_whole (ts := [.sc .sl]) trivial (by rw [Tryz.ntmps164]; simp) (by rw [E_comp_whole]; exact h)

/-! 165 pinnace/diff.find$1 -/
def F_diff_find_c1 (c0 : (Int × Int × Int × Int)) (c1 : Option Addr) : W (Bool) :=
  newW 92 [.int .u8 c0.1, .int .i32 c0.2.1, .int .i32 c0.2.2.1, .int .i32 c0.2.2.2] fun c_1 =>
  ld (.sc (.int .u8)) (Addr.add c_1 0) fun (x_2 : Int) =>
  ptrW c1 fun x_3 =>
  ld (.sc (.int .u8)) x_3 fun (x_4 : Int) =>
  retW (x_2 == x_4)
def H_diff_find_c1 : Hints := {}
theorem E_diff_find_c1 (c0 : (Int × Int × Int × Int)) (c1 : Option Addr) : denF Tryz.prog H_diff_find_c1 Tryz.f165 [.sc .bool] [.agg ⟨[.int .u8 c0.1, .int .i32 c0.2.1, .int .i32 c0.2.2.1, .int .i32 c0.2.2.2]⟩, .pointer c1] = F_diff_find_c1 c0 c1 := by kernel_rfl
theorem C_diff_find_c1 {R : Type} (c0 : (Int × Int × Int × Int)) (c1 : Option Addr) (K : Res [.sc .bool] → W R) (Q : R → World → Prop) (w : World) (h : F_diff_find_c1 c0 c1 (fun r w => K r Q w) w) : callW Tryz.prog k_diff_find_c1 [.agg ⟨[.int .u8 c0.1, .int .i32 c0.2.1, .int .i32 c0.2.2.1, .int .i32 c0.2.2.2]⟩, .pointer c1] [.sc .bool] K Q w :=
  den_calls mix Tryz.func165 H_diff_find_c1 (ts := [.sc .bool]) trivial (by rw [Tryz.ntmps165]; simp) (by rw [E_diff_find_c1]; exact h)

/-! 166 pinnace/comp.size -/
def F_comp_size (l0 : Sl) : W (Int) :=
  loopW (σ := Int × Int) (fun K_1 s_2 =>
    cond (decide (s_2.2 < (l0.n : Int)))
      (idxW l0.a l0.n 2 s_2.2 fun x_3 =>
    ld (.agg [.int .u64, .int .i64]) x_3 fun (x_4 : (Int × Int)) =>
    newW 231 [.int .u64 0, .int .i64 0] fun p_5 =>
    stoL p_5 [.int .u64 x_4.1, .int .i64 x_4.2] 0 <|
    ld (.sc (.int .i64)) (Addr.add p_5 1) fun (x_6 : Int) =>
    K_1 (IntKind.wrap .i64 (s_2.1 + x_6), IntKind.wrap .i64 (s_2.2 + 1)))
      (retW s_2.1))
    (0, 0)
def H_comp_size : Hints := { lop := [(0, [(3, .sc (.int .i64)), (8, .sc (.int .i64))])] }
theorem E_comp_size (l0 : Sl) : denF Tryz.prog H_comp_size Tryz.f166 [.sc (.int .i64)] [.slice l0.a l0.n l0.c] = F_comp_size l0 := by kernel_rfl
theorem C_comp_size {R : Type} (l0 : Sl) (K : Res [.sc (.int .i64)] → W R) (Q : R → World → Prop) (w : World) (h : F_comp_size l0 (fun r w => K r Q w) w) : callW Tryz.prog k_comp_size [.slice l0.a l0.n l0.c] [.sc (.int .i64)] K Q w :=
  den_calls mix Tryz.func166 H_comp_size (ts := [.sc (.int .i64)]) trivial (by rw [Tryz.ntmps166]; simp) (by rw [E_comp_size]; exact h)

/-! 168 pinnace/comp.more -/
def F_comp_more (was0 : (Int × Int × Int × Int)) (c1 : (Int × Int × Int × Int)) (i2 : Int) : W (Int) :=
  newW 92 [.int .u8 was0.1, .int .i32 was0.2.1, .int .i32 was0.2.2.1, .int .i32 was0.2.2.2] fun was_1 =>
  newW 92 [.int .u8 c1.1, .int .i32 c1.2.1, .int .i32 c1.2.2.1, .int .i32 c1.2.2.2] fun c_2 =>
  drawW <|
  idxW (some (Addr.add c_2 1)) 3 1 i2 fun x_3 =>
  ld (.sc (.int .i32)) x_3 fun (x_4 : Int) =>
  idxW (some (Addr.add was_1 1)) 3 1 i2 fun x_5 =>
  ld (.sc (.int .i32)) x_5 fun (x_6 : Int) =>
  callW Tryz.prog k_nums_Zig [.int .i64 (IntKind.wrap .i64 ((IntKind.wrap .i64 x_4) - (IntKind.wrap .i64 x_6)))] [.sc (.int .u64)] fun (x_7 : Int) =>
  retW x_7
def H_comp_more : Hints := { dr := [(1, ([], [[(0, []), (1, []), (2, []), (3, []), (4, []), (5, []), (6, []), (7, []), (8, []), (9, []), (10, []), (11, []), (12, [])]]))] }
theorem E_comp_more (was0 : (Int × Int × Int × Int)) (c1 : (Int × Int × Int × Int)) (i2 : Int) : denF Tryz.prog H_comp_more Tryz.f168 [.sc (.int .u64)] [.agg ⟨[.int .u8 was0.1, .int .i32 was0.2.1, .int .i32 was0.2.2.1, .int .i32 was0.2.2.2]⟩, .agg ⟨[.int .u8 c1.1, .int .i32 c1.2.1, .int .i32 c1.2.2.1, .int .i32 c1.2.2.2]⟩, .int .i64 i2] = F_comp_more was0 c1 i2 := by kernel_rfl
theorem C_comp_more {R : Type} (was0 : (Int × Int × Int × Int)) (c1 : (Int × Int × Int × Int)) (i2 : Int) (K : Res [.sc (.int .u64)] → W R) (Q : R → World → Prop) (w : World) (h : F_comp_more was0 c1 i2 (fun r w => K r Q w) w) : callW Tryz.prog k_comp_more [.agg ⟨[.int .u8 was0.1, .int .i32 was0.2.1, .int .i32 was0.2.2.1, .int .i32 was0.2.2.2]⟩, .agg ⟨[.int .u8 c1.1, .int .i32 c1.2.1, .int .i32 c1.2.2.1, .int .i32 c1.2.2.2]⟩, .int .i64 i2] [.sc (.int .u64)] K Q w :=
  den_calls mix Tryz.func168 H_comp_more (ts := [.sc (.int .u64)]) trivial (by rw [Tryz.ntmps168]; simp) (by rw [E_comp_more]; exact h)

/-! 169 pinnace/comp.field -/
def F_comp_field (c0 : (Int × Int × Int × Int)) (i1 : Int) : W ((Int × Int)) :=
  newW 92 [.int .u8 c0.1, .int .i32 c0.2.1, .int .i32 c0.2.2.1, .int .i32 c0.2.2.2] fun c_1 =>
  newW 231 [.int .u64 0, .int .i64 0] fun x_2 =>
  ld (.sc (.int .u8)) (Addr.add c_1 0) fun (x_3 : Int) =>
  callW Tryz.prog k_schema_Range [.int .u8 x_3, .int .i64 i1] [.sc (.int .i32), .sc (.int .i32), .sc (.int .i64)] fun (x_4 : Int × Int × Int) =>
  drawW <|
  idxW (some (Addr.add c_1 1)) 3 1 i1 fun x_5 =>
  ld (.sc (.int .i32)) x_5 fun (x_6 : Int) =>
  callW Tryz.prog k_nums_Width [.int .i64 (IntKind.wrap .i64 x_4.1), .int .i64 (IntKind.wrap .i64 x_4.2.1)] [.sc (.int .i64)] fun (x_7 : Int) =>
  andW (fun w => Rd w x_5 (.sc (.int .i32)) x_6) <|
  stoL x_2 [.int .u64 (IntKind.wrap .u64 (IntKind.wrap .i64 ((IntKind.wrap .i64 x_6) - (IntKind.wrap .i64 x_4.1)))), .int .i64 x_7] 0 <|
  ld (.agg [.int .u64, .int .i64]) x_2 fun (x_8 : (Int × Int)) =>
  retW x_8
def H_comp_field : Hints := { dr := [(2, ([], [[(0, []), (1, []), (2, []), (3, []), (4, []), (5, []), (6, []), (7, []), (8, []), (9, []), (10, []), (11, []), (12, []), (13, [3]), (14, []), (15, [])]]))] }
theorem E_comp_field (c0 : (Int × Int × Int × Int)) (i1 : Int) : denF Tryz.prog H_comp_field Tryz.f169 [.agg [.int .u64, .int .i64]] [.agg ⟨[.int .u8 c0.1, .int .i32 c0.2.1, .int .i32 c0.2.2.1, .int .i32 c0.2.2.2]⟩, .int .i64 i1] = F_comp_field c0 i1 := by kernel_rfl
theorem C_comp_field {R : Type} (c0 : (Int × Int × Int × Int)) (i1 : Int) (K : Res [.agg [.int .u64, .int .i64]] → W R) (Q : R → World → Prop) (w : World) (h : F_comp_field c0 i1 (fun r w => K r Q w) w) : callW Tryz.prog k_comp_field [.agg ⟨[.int .u8 c0.1, .int .i32 c0.2.1, .int .i32 c0.2.2.1, .int .i32 c0.2.2.2]⟩, .int .i64 i1] [.agg [.int .u64, .int .i64]] K Q w :=
  den_calls mix Tryz.func169 H_comp_field (ts := [.agg [.int .u64, .int .i64]]) ⟨by kernel_rfl, trivial⟩ (by rw [Tryz.ntmps169]; simp) (by rw [E_comp_field]; exact h)

/-! 170 slices.BinarySearchFunc[[]pinnace/api.Ent,pinnace/api.Ent,pinnace/api.ID] -/
def F_slices_BinarySearchFunc_Ent__snap_Find_c1 (x0 : Sl) (target1 : Int) : W (Int × Bool) :=
  loopW (σ := Int × Int) (fun K_1 s_2 =>
    cond (decide (s_2.1 < s_2.2))
      (idxW x0.a x0.n 2 (IntKind.wrap .i64 (shR .u64 (IntKind.wrap .u64 (IntKind.wrap .i64 (s_2.1 + s_2.2))) 1)) fun x_3 =>
    ld (.agg [.int .u32, .sl]) x_3 fun (x_4 : (Int × Sl)) =>
    callW Tryz.prog k_snap_Find_c1 [.agg ⟨[.int .u32 x_4.1, .slice x_4.2.a x_4.2.n x_4.2.c]⟩, .int .u32 target1] [.sc (.int .i64)] fun (x_5 : Int) =>
    joinW (σ := Int × Int) (fun J_6 =>
      cond (decide (x_5 < 0))
        (J_6 (IntKind.wrap .i64 ((IntKind.wrap .i64 (shR .u64 (IntKind.wrap .u64 (IntKind.wrap .i64 (s_2.1 + s_2.2))) 1)) + 1), s_2.2))
        (J_6 (s_2.1, IntKind.wrap .i64 (shR .u64 (IntKind.wrap .u64 (IntKind.wrap .i64 (s_2.1 + s_2.2))) 1))))
    <| fun s_7 =>
    K_1 (s_7.1, s_7.2))
      (joinW (σ := Int × Bool) (fun J_8 =>
    cond (decide (s_2.1 < (x0.n : Int)))
      (idxW x0.a x0.n 2 s_2.1 fun x_9 =>
            ld (.agg [.int .u32, .sl]) x_9 fun (x_10 : (Int × Sl)) =>
              callW Tryz.prog k_snap_Find_c1 [.agg ⟨[.int .u32 x_10.1, .slice x_10.2.a x_10.2.n x_10.2.c]⟩, .int .u32 target1] [.sc (.int .i64)] fun (x_11 : Int) =>
                  J_8 (s_2.1, (x_11 == 0)))
      (J_8 (s_2.1, false)))
  <| fun s_12 =>
  retW (s_12.1, s_12.2)))
    (0, (x0.n : Int))
def H_slices_BinarySearchFunc_Ent__snap_Find_c1 : Hints := { reg := [(8, [(6, .sc (.int .i64)), (7, .sc .bool)])], con := [(7031, [(9, .sc (.int .i64)), (10, .sc (.int .i64))])], lop := [(0, [(9, .sc (.int .i64)), (10, .sc (.int .i64))])] }
theorem E_slices_BinarySearchFunc_Ent__snap_Find_c1 (x0 : Sl) (target1 : Int) : denF Tryz.prog H_slices_BinarySearchFunc_Ent__snap_Find_c1 Tryz.f170 [.sc (.int .i64), .sc .bool] [.slice x0.a x0.n x0.c, .int .u32 target1, .func (.func 171) #[] #[]] = F_slices_BinarySearchFunc_Ent__snap_Find_c1 x0 target1 := by kernel_rfl
theorem C_slices_BinarySearchFunc_Ent__snap_Find_c1 {R : Type} (x0 : Sl) (target1 : Int) (K : Res [.sc (.int .i64), .sc .bool] → W R) (Q : R → World → Prop) (w : World) (h : F_slices_BinarySearchFunc_Ent__snap_Find_c1 x0 target1 (fun r w => K r Q w) w) : callW Tryz.prog k_slices_BinarySearchFunc_Ent [.slice x0.a x0.n x0.c, .int .u32 target1, .func (.func 171) #[] #[]] [.sc (.int .i64), .sc .bool] K Q w :=
  den_calls mix Tryz.func170 H_slices_BinarySearchFunc_Ent__snap_Find_c1 (ts := [.sc (.int .i64), .sc .bool]) trivial (by rw [Tryz.ntmps170]; simp) (by rw [E_slices_BinarySearchFunc_Ent__snap_Find_c1]; exact h)

/-! 171 pinnace/snap.Find$1 -/
def F_snap_Find_c1 (e0 : (Int × Sl)) (id1 : Int) : W (Int) :=
  newW 57 [.int .u32 e0.1, .slice e0.2.a e0.2.n e0.2.c] fun e_1 =>
  ld (.sc (.int .u32)) (Addr.add e_1 0) fun (x_2 : Int) =>
  callW Tryz.prog k_cmp_Compare_ID [.int .u32 x_2, .int .u32 id1] [.sc (.int .i64)] fun (x_3 : Int) =>
  retW x_3
def H_snap_Find_c1 : Hints := {}
theorem E_snap_Find_c1 (e0 : (Int × Sl)) (id1 : Int) : denF Tryz.prog H_snap_Find_c1 Tryz.f171 [.sc (.int .i64)] [.agg ⟨[.int .u32 e0.1, .slice e0.2.a e0.2.n e0.2.c]⟩, .int .u32 id1] = F_snap_Find_c1 e0 id1 := by kernel_rfl
theorem C_snap_Find_c1 {R : Type} (e0 : (Int × Sl)) (id1 : Int) (K : Res [.sc (.int .i64)] → W R) (Q : R → World → Prop) (w : World) (h : F_snap_Find_c1 e0 id1 (fun r w => K r Q w) w) : callW Tryz.prog k_snap_Find_c1 [.agg ⟨[.int .u32 e0.1, .slice e0.2.a e0.2.n e0.2.c]⟩, .int .u32 id1] [.sc (.int .i64)] K Q w :=
  den_calls mix Tryz.func171 H_snap_Find_c1 (ts := [.sc (.int .i64)]) trivial (by rw [Tryz.ntmps171]; simp) (by rw [E_snap_Find_c1]; exact h)

/-! 183 pinnace/nums.Zig -/
def F_nums_Zig (n0 : Int) : W (Int) :=
  retW (bXor .u64 (IntKind.wrap .u64 (shL .i64 n0 1)) (IntKind.wrap .u64 (shR .i64 n0 63)))
def H_nums_Zig : Hints := {}
theorem E_nums_Zig (n0 : Int) : denF Tryz.prog H_nums_Zig Tryz.f183 [.sc (.int .u64)] [.int .i64 n0] = F_nums_Zig n0 := by kernel_rfl
theorem C_nums_Zig {R : Type} (n0 : Int) (K : Res [.sc (.int .u64)] → W R) (Q : R → World → Prop) (w : World) (h : F_nums_Zig n0 (fun r w => K r Q w) w) : callW Tryz.prog k_nums_Zig [.int .i64 n0] [.sc (.int .u64)] K Q w :=
  den_calls mix Tryz.func183 H_nums_Zig (ts := [.sc (.int .u64)]) trivial (by rw [Tryz.ntmps183]; simp) (by rw [E_nums_Zig]; exact h)

end Go.Proofs.YtchhhjlpnecjkaaGreat
