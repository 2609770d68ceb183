/-
  What the proof of packetSeals_holds leans on, laid together by a program of this session (wip/pack.py) out of its own texts; the last of these texts holds packetSeals_holds.
-/
import Derived.Test.YtchhhjlpnecjkaaGreatS1
set_option linter.unusedVariables false
set_option linter.unusedVariables false
namespace Go.Proofs.YtchhhjlpnecjkaaGreat
open Go Go.Proofs.YtchhhjlpnecjkaaGreat.Den
def F_diff_Diff (d0 : Sl) (o1 : Sl) : W ((Sl × Sl × Sl) × Int) :=
  newW 80 [.slice none 0 0, .slice none 0 0, .slice none 0 0] fun x_1 =>
  newW 23 [.slice d0.a d0.n d0.c, .slice o1.a o1.n o1.c] fun x_2 =>
  loopW (σ := Int) (fun K_3 s_4 =>
    cond (decide (s_4 < (2 : Int)))
      (idxW (some x_2) 2 1 s_4 fun x_5 =>
    ld (.sc .sl) x_5 fun (x_6 : Sl) =>
    callW Tryz.prog k_snap_Form [.slice x_6.a x_6.n x_6.c] [.sc (.int .i64)] fun (x_7 : Int) =>
    cond (x_7 != 0)
      (stoL x_1 [.slice none 0 0, .slice none 0 0, .slice none 0 0] 0 <|
      ld (.agg [.sl, .sl, .sl]) x_1 fun (x_8 : (Sl × Sl × Sl)) =>
      retW (x_8, x_7))
      (K_3 (IntKind.wrap .i64 (s_4 + 1))))
      (newW 80 [.slice none 0 0, .slice none 0 0, .slice none 0 0] fun x_9 =>
  loopW (σ := Int × Int) (fun K_10 s_11 =>
    joinW (σ := Bool) (fun J_12 =>
      cond (decide (s_11.1 < (d0.n : Int)))
        (J_12 true)
        (J_12 (decide (s_11.2 < (o1.n : Int)))))
    <| fun s_13 =>
    cond s_13
      (joinW (σ := Bool) (fun J_14 =>
      drawW <|
      cond (s_11.2 == (o1.n : Int))
        (J_14 true)
        (cond (decide (s_11.1 < (d0.n : Int)))
                  (idxW d0.a d0.n 2 s_11.1 fun x_15 =>
                      ld (.sc (.int .u32)) (Addr.add x_15 0) fun (x_16 : Int) =>
                          idxW o1.a o1.n 2 s_11.2 fun x_17 =>
                                ld (.sc (.int .u32)) (Addr.add x_17 0) fun (x_18 : Int) =>
                                    J_14 (decide (x_16 < x_18)))
                  (J_14 false)))
    <| fun s_19 =>
    joinW (σ := Int × Int) (fun J_20 =>
      cond s_19
        (drawW <|
        ld (.sc .sl) (Addr.add x_9 0) fun (x_21 : Sl) =>
        idxW d0.a d0.n 2 s_11.1 fun x_22 =>
        ld (.sc (.int .u32)) (Addr.add x_22 0) fun (x_23 : Int) =>
        newW 54 [.int .u32 x_23] fun x_24 =>
        rawW Tryz.prog (Builtin.append_ #[77, 77] 77 #[.slice x_21.a x_21.n x_21.c, .slice (some x_24) 1 1]) [.sc .sl] fun (x_25 : Sl) =>
        stoL (Addr.add x_9 0) [.slice x_25.a x_25.n x_25.c] 0 <|
        J_20 (IntKind.wrap .i64 (s_11.1 + 1), s_11.2))
        (joinW (σ := Bool) (fun J_26 =>
          drawW <|
          cond (s_11.1 == (d0.n : Int))
            (J_26 true)
            (idxW o1.a o1.n 2 s_11.2 fun x_27 =>
                ld (.sc (.int .u32)) (Addr.add x_27 0) fun (x_28 : Int) =>
                    idxW d0.a d0.n 2 s_11.1 fun x_29 =>
                          ld (.sc (.int .u32)) (Addr.add x_29 0) fun (x_30 : Int) =>
                              J_26 (decide (x_28 < x_30))))
        <| fun s_31 =>
        joinW (σ := Int × Int) (fun J_32 =>
          cond s_31
            (drawW <|
            ld (.sc .sl) (Addr.add x_9 1) fun (x_33 : Sl) =>
            idxW o1.a o1.n 2 s_11.2 fun x_34 =>
            ld (.sc (.int .u32)) (Addr.add x_34 0) fun (x_35 : Int) =>
            idxW o1.a o1.n 2 s_11.2 fun x_36 =>
            ld (.sc .sl) (Addr.add x_36 1) fun (x_37 : Sl) =>
            callW Tryz.prog k_slices_Clone_Comp [.slice x_37.a x_37.n x_37.c] [.sc .sl] fun (x_38 : Sl) =>
            andW (fun w => Rd w (Addr.add x_34 0) (.sc (.int .u32)) x_35) <|
            andW (fun w => Rd w (Addr.add x_9 1) (.sc .sl) x_33) <|
            newW 57 [.int .u32 x_35, .slice x_38.a x_38.n x_38.c] fun x_39 =>
            rawW Tryz.prog (Builtin.append_ #[23, 23] 23 #[.slice x_33.a x_33.n x_33.c, .slice (some x_39) 1 1]) [.sc .sl] fun (x_40 : Sl) =>
            stoL (Addr.add x_9 1) [.slice x_40.a x_40.n x_40.c] 0 <|
            J_32 (s_11.1, IntKind.wrap .i64 (s_11.2 + 1)))
            (joinW (σ := (Option Addr)) (fun J_41 =>
              drawW <|
              bothW
                (idxW d0.a d0.n 2 s_11.1 fun x_42 =>
                ld (.agg [.int .u32, .sl]) x_42 fun (x_43 : (Int × Sl)) =>
                idxW o1.a o1.n 2 s_11.2 fun x_44 =>
                ld (.agg [.int .u32, .sl]) x_44 fun (x_45 : (Int × Sl)) =>
                callW Tryz.prog k_diff_change [.agg ⟨[.int .u32 x_43.1, .slice x_43.2.a x_43.2.n x_43.2.c]⟩, .agg ⟨[.int .u32 x_45.1, .slice x_45.2.a x_45.2.n x_45.2.c]⟩] [.agg [.int .u32, .int .u8, .sl, .sl]] fun (x_46 : (Int × Int × Sl × Sl)) =>
                newW 86 [.int .u32 0, .int .u8 0, .slice none 0 0, .slice none 0 0] fun x_47 =>
                stoL x_47 [.int .u32 x_46.1, .int .u8 x_46.2.1, .slice x_46.2.2.1.a x_46.2.2.1.n x_46.2.2.1.c, .slice x_46.2.2.2.a x_46.2.2.2.n x_46.2.2.2.c] 0 <|
                J_41 (some x_47))
                (idxW d0.a d0.n 2 s_11.1 fun x_48 =>
                ld (.agg [.int .u32, .sl]) x_48 fun (x_49 : (Int × Sl)) =>
                idxW o1.a o1.n 2 s_11.2 fun x_50 =>
                ld (.agg [.int .u32, .sl]) x_50 fun (x_51 : (Int × Sl)) =>
                newW 86 [.int .u32 0, .int .u8 0, .slice none 0 0, .slice none 0 0] fun x_52 =>
                callW Tryz.prog k_diff_change [.agg ⟨[.int .u32 x_49.1, .slice x_49.2.a x_49.2.n x_49.2.c]⟩, .agg ⟨[.int .u32 x_51.1, .slice x_51.2.a x_51.2.n x_51.2.c]⟩] [.agg [.int .u32, .int .u8, .sl, .sl]] fun (x_53 : (Int × Int × Sl × Sl)) =>
                stoL x_52 [.int .u32 x_53.1, .int .u8 x_53.2.1, .slice x_53.2.2.1.a x_53.2.2.1.n x_53.2.2.1.c, .slice x_53.2.2.2.a x_53.2.2.2.n x_53.2.2.2.c] 0 <|
                J_41 (some x_52)))
            <| fun s_54 =>
            ptrW s_54 fun x_55 =>
            ld (.agg [.int .u32, .int .u8, .sl, .sl]) x_55 fun (x_56 : (Int × Int × Sl × Sl)) =>
            callW Tryz.prog k_diff_nothing [.agg ⟨[.int .u32 x_56.1, .int .u8 x_56.2.1, .slice x_56.2.2.1.a x_56.2.2.1.n x_56.2.2.1.c, .slice x_56.2.2.2.a x_56.2.2.2.n x_56.2.2.2.c]⟩] [.sc .bool] fun (x_57 : Bool) =>
            joinW (σ := Unit) (fun J_58 =>
              cond (!x_57)
                (ld (.sc .sl) (Addr.add x_9 2) fun (x_59 : Sl) =>
                ptrW s_54 fun x_60 =>
                ld (.agg [.int .u32, .int .u8, .sl, .sl]) x_60 fun (x_61 : (Int × Int × Sl × Sl)) =>
                newW 86 [.int .u32 x_61.1, .int .u8 x_61.2.1, .slice x_61.2.2.1.a x_61.2.2.1.n x_61.2.2.1.c, .slice x_61.2.2.2.a x_61.2.2.2.n x_61.2.2.2.c] fun x_62 =>
                rawW Tryz.prog (Builtin.append_ #[78, 78] 78 #[.slice x_59.a x_59.n x_59.c, .slice (some x_62) 1 1]) [.sc .sl] fun (x_63 : Sl) =>
                stoL (Addr.add x_9 2) [.slice x_63.a x_63.n x_63.c] 0 <|
                J_58 ())
                (J_58 ()))
            <| fun s_64 =>
            J_32 (IntKind.wrap .i64 (s_11.1 + 1), IntKind.wrap .i64 (s_11.2 + 1))))
        <| fun s_65 =>
        J_20 (s_65.1, s_65.2)))
    <| fun s_66 =>
    K_10 (s_66.1, s_66.2))
      (ld (.agg [.sl, .sl, .sl]) x_9 fun (x_67 : (Sl × Sl × Sl)) =>
  stoL x_1 [.slice x_67.1.a x_67.1.n x_67.1.c, .slice x_67.2.1.a x_67.2.1.n x_67.2.1.c, .slice x_67.2.2.a x_67.2.2.n x_67.2.2.c] 0 <|
  ld (.agg [.sl, .sl, .sl]) x_1 fun (x_68 : (Sl × Sl × Sl)) =>
  retW (x_68, 0)))
    (0, 0)))
    0
def H_diff_Diff : Hints := { reg := [(10, [(37, .sc .bool)]), (16, [(60, .sc .bool)]), (19, [(96, .sc .bool)]), (11, [(12, .sc .ptr)])], con := [(14049, []), (21096, [(10, .sc (.int .i64)), (11, .sc (.int .i64))]), (18060, [(10, .sc (.int .i64)), (11, .sc (.int .i64))])], lop := [(0, [(17, .sc (.int .i64))]), (2, [(10, .sc (.int .i64)), (11, .sc (.int .i64))])], dr := [(16, ([], [[(0, []), (1, []), (2, []), (3, []), (4, []), (5, []), (6, []), (7, []), (8, []), (9, []), (10, []), (11, []), (12, []), (13, []), (14, []), (15, []), (16, []), (17, []), (18, []), (19, []), (20, []), (21, []), (22, []), (23, [])]])), (17, ([], [[(0, []), (1, []), (2, []), (3, []), (4, []), (5, []), (6, []), (7, []), (8, []), (9, []), (10, [])]])), (19, ([], [[(0, []), (1, []), (2, []), (3, []), (4, []), (5, []), (6, []), (7, []), (8, []), (9, []), (10, []), (11, []), (12, []), (13, []), (14, []), (15, []), (16, []), (17, [])]])), (20, ([], [[(0, []), (1, []), (2, []), (3, []), (4, []), (5, []), (6, []), (7, []), (8, []), (9, []), (10, []), (11, []), (12, [1, 6]), (13, []), (14, []), (15, []), (16, []), (17, [])]])), (11, ([(8, 9)], [[(0, []), (1, []), (2, []), (3, []), (4, []), (5, []), (6, []), (7, []), (8, []), (9, []), (10, [])], [(0, []), (1, []), (2, []), (3, []), (4, []), (5, []), (6, []), (7, []), (9, []), (8, []), (10, [])]]))] }
set_option maxRecDepth 100000 in
theorem E_diff_Diff (d0 : Sl) (o1 : Sl) : denF Tryz.prog H_diff_Diff Tryz.f49 [.agg [.sl, .sl, .sl], .sc (.int .i64)] [.slice d0.a d0.n d0.c, .slice o1.a o1.n o1.c] = F_diff_Diff d0 o1 := by kernel_rfl
theorem C_diff_Diff {R : Type} (d0 : Sl) (o1 : Sl) (K : Res [.agg [.sl, .sl, .sl], .sc (.int .i64)] → W R) (Q : R → World → Prop) (w : World) (h : F_diff_Diff d0 o1 (fun r w => K r Q w) w) : callW Tryz.prog k_diff_Diff [.slice d0.a d0.n d0.c, .slice o1.a o1.n o1.c] [.agg [.sl, .sl, .sl], .sc (.int .i64)] K Q w :=
  den_calls mix Tryz.func49 H_diff_Diff (ts := [.agg [.sl, .sl, .sl], .sc (.int .i64)]) ⟨by kernel_rfl, trivial⟩ (by rw [Tryz.ntmps49]; simp) (by rw [E_diff_Diff]; exact h)
def F_packet_writer_delta (d0 : Option Addr) (o1 : Sl) (p2 : (Sl × Sl × Sl)) : W (Unit) :=
  newW 80 [.slice p2.1.a p2.1.n p2.1.c, .slice p2.2.1.a p2.2.1.n p2.2.1.c, .slice p2.2.2.a p2.2.2.n p2.2.2.c] fun x_1 =>
  ld (.sc .sl) (Addr.add x_1 0) fun (x_2 : Sl) =>
  callW Tryz.prog k_packet_writer_count [.pointer d0, .int .i64 (x_2.n : Int)] [] fun (x_3 : Unit) =>
  newW 54 [.int .u32 0] fun x_4 =>
  stoL x_4 [.int .u32 0] 0 <|
  ld (.sc .sl) (Addr.add x_1 0) fun (x_5 : Sl) =>
  loopW (σ := Int) (fun K_6 s_7 =>
    cond (decide (s_7 < (x_5.n : Int)))
      (idxW x_5.a x_5.n 1 s_7 fun x_8 =>
    ld (.sc (.int .u32)) x_8 fun (x_9 : Int) =>
    callW Tryz.prog k_packet_writer_id [.pointer d0, .pointer (some x_4), .int .u32 x_9] [] fun (x_10 : Unit) =>
    K_6 (IntKind.wrap .i64 (s_7 + 1)))
      (ld (.sc .sl) (Addr.add x_1 1) fun (x_11 : Sl) =>
  callW Tryz.prog k_packet_writer_ents [.pointer d0, .slice x_11.a x_11.n x_11.c] [] fun (x_12 : Unit) =>
  ld (.sc .sl) (Addr.add x_1 2) fun (x_13 : Sl) =>
  callW Tryz.prog k_packet_writer_count [.pointer d0, .int .i64 (x_13.n : Int)] [] fun (x_14 : Unit) =>
  stoL x_4 [.int .u32 0] 0 <|
  ld (.sc .sl) (Addr.add x_1 2) fun (x_15 : Sl) =>
  loopW (σ := Int) (fun K_16 s_17 =>
    cond (decide (s_17 < (x_15.n : Int)))
      (idxW x_15.a x_15.n 4 s_17 fun x_18 =>
    ld (.agg [.int .u32, .int .u8, .sl, .sl]) x_18 fun (x_19 : (Int × Int × Sl × Sl)) =>
    newW 86 [.int .u32 0, .int .u8 0, .slice none 0 0, .slice none 0 0] fun x_20 =>
    stoL x_20 [.int .u32 x_19.1, .int .u8 x_19.2.1, .slice x_19.2.2.1.a x_19.2.2.1.n x_19.2.2.1.c, .slice x_19.2.2.2.a x_19.2.2.2.n x_19.2.2.2.c] 0 <|
    ld (.sc (.int .u32)) (Addr.add x_20 0) fun (x_21 : Int) =>
    callW Tryz.prog k_packet_writer_id [.pointer d0, .pointer (some x_4), .int .u32 x_21] [] fun (x_22 : Unit) =>
    drawW <|
    ld (.sc (.int .u8)) (Addr.add x_20 1) fun (x_23 : Int) =>
    ld (.sc .sl) (Addr.add x_20 2) fun (x_24 : Sl) =>
    ld (.sc .sl) (Addr.add x_20 3) fun (x_25 : Sl) =>
    callW Tryz.prog k_schema_Mask [.slice x_24.a x_24.n x_24.c] [.sc (.int .u8)] fun (x_26 : Int) =>
    andW (fun w => Rd w (Addr.add x_20 3) (.sc .sl) x_25) <|
    andW (fun w => Rd w (Addr.add x_20 1) (.sc (.int .u8)) x_23) <|
    callW Tryz.prog k_schema_Mask [.slice x_25.a x_25.n x_25.c] [.sc (.int .u8)] fun (x_27 : Int) =>
    andW (fun w => Rd w (Addr.add x_20 1) (.sc (.int .u8)) x_23) <|
    newW 5 [.int .u8 x_23, .int .u8 x_26, .int .u8 x_27] fun x_28 =>
    loopW (σ := Int) (fun K_29 s_30 =>
      cond (decide (s_30 < (3 : Int)))
        (idxW (some x_28) 3 1 s_30 fun x_31 =>
      ld (.sc (.int .u8)) x_31 fun (x_32 : Int) =>
      callW Tryz.prog k_packet_writer_plain [.pointer d0, .int .u64 (IntKind.wrap .u64 x_32), .int .i64 5] [] fun (x_33 : Unit) =>
      K_29 (IntKind.wrap .i64 (s_30 + 1)))
        (ld (.sc .sl) (Addr.add x_20 2) fun (x_34 : Sl) =>
    callW Tryz.prog k_packet_writer_comps [.pointer d0, .slice x_34.a x_34.n x_34.c] [] fun (x_35 : Unit) =>
    ld (.sc .sl) (Addr.add x_20 3) fun (x_36 : Sl) =>
    loopW (σ := Int) (fun K_37 s_38 =>
      cond (decide (s_38 < (x_36.n : Int)))
        (idxW x_36.a x_36.n 4 s_38 fun x_39 =>
      ld (.agg [.int .u8, .int .i32, .int .i32, .int .i32]) x_39 fun (x_40 : (Int × Int × Int × Int)) =>
      newW 92 [.int .u8 0, .int .i32 0, .int .i32 0, .int .i32 0] fun x_41 =>
      stoL x_41 [.int .u8 x_40.1, .int .i32 x_40.2.1, .int .i32 x_40.2.2.1, .int .i32 x_40.2.2.2] 0 <|
      drawW <|
      ptrW d0 fun x_42 =>
      ld (.sc .ptr) (Addr.add x_42 0) fun (x_43 : Option Addr) =>
      ld (.sc (.int .u32)) (Addr.add x_20 0) fun (x_44 : Int) =>
      ld (.sc (.int .u8)) (Addr.add x_41 0) fun (x_45 : Int) =>
      ld (.agg [.int .u8, .int .i32, .int .i32, .int .i32]) x_41 fun (x_46 : (Int × Int × Int × Int)) =>
      callW Tryz.prog k_packet_old [.slice o1.a o1.n o1.c, .int .u32 x_44, .int .u8 x_45] [.agg [.int .u8, .int .i32, .int .i32, .int .i32]] fun (x_47 : (Int × Int × Int × Int)) =>
      andW (fun w => Rd w x_41 (.agg [.int .u8, .int .i32, .int .i32, .int .i32]) x_46) <|
      andW (fun w => Rd w (Addr.add x_42 0) (.sc .ptr) x_43) <|
      callW Tryz.prog k_comp_PutStep [.pointer x_43, .agg ⟨[.int .u8 x_47.1, .int .i32 x_47.2.1, .int .i32 x_47.2.2.1, .int .i32 x_47.2.2.2]⟩, .agg ⟨[.int .u8 x_46.1, .int .i32 x_46.2.1, .int .i32 x_46.2.2.1, .int .i32 x_46.2.2.2]⟩] [.sc (.int .i64)] fun (x_48 : Int) =>
      callW Tryz.prog k_packet_writer_keep [.pointer d0, .int .i64 x_48] [] fun (x_49 : Unit) =>
      K_37 (IntKind.wrap .i64 (s_38 + 1)))
        (K_16 (IntKind.wrap .i64 (s_17 + 1))))
      0))
      0)
      (retW ()))
    0))
    0
def H_packet_writer_delta : Hints := { lop := [(0, [(23, .sc (.int .i64))]), (2, [(43, .sc (.int .i64))]), (4, [(61, .sc (.int .i64))]), (6, [(77, .sc (.int .i64))])], dr := [(15, ([], [[(0, []), (1, []), (2, []), (3, []), (5, []), (6, []), (10, []), (4, [1, 6]), (7, [1]), (8, []), (9, [])]])), (24, ([], [[(0, []), (1, []), (2, []), (3, []), (4, []), (5, []), (6, []), (7, []), (8, []), (9, []), (11, []), (10, [4, 11]), (12, []), (13, [])]]))] }
theorem E_packet_writer_delta (d0 : Option Addr) (o1 : Sl) (p2 : (Sl × Sl × Sl)) : denF Tryz.prog H_packet_writer_delta Tryz.f50 [] [.pointer d0, .slice o1.a o1.n o1.c, .agg ⟨[.slice p2.1.a p2.1.n p2.1.c, .slice p2.2.1.a p2.2.1.n p2.2.1.c, .slice p2.2.2.a p2.2.2.n p2.2.2.c]⟩] = F_packet_writer_delta d0 o1 p2 := by kernel_rfl
theorem C_packet_writer_delta {R : Type} (d0 : Option Addr) (o1 : Sl) (p2 : (Sl × Sl × Sl)) (K : Res [] → W R) (Q : R → World → Prop) (w : World) (h : F_packet_writer_delta d0 o1 p2 (fun r w => K r Q w) w) : callW Tryz.prog k_packet_writer_delta [.pointer d0, .slice o1.a o1.n o1.c, .agg ⟨[.slice p2.1.a p2.1.n p2.1.c, .slice p2.2.1.a p2.2.1.n p2.2.1.c, .slice p2.2.2.a p2.2.2.n p2.2.2.c]⟩] [] K Q w :=
  den_calls mix Tryz.func50 H_packet_writer_delta (ts := []) trivial (by rw [Tryz.ntmps50]; simp) (by rw [E_packet_writer_delta]; exact h)
def F_frame_Seal (body0 : Sl) : W (Sl × Int) :=
  cond (decide ((body0.n : Int) > 4096))
    (retW ((⟨none, 0, 0⟩ : Sl), 3))
    (callW Tryz.prog k_bytes_Clone [.slice body0.a body0.n body0.c] [.sc .sl] fun (x_1 : Sl) =>
  callW Tryz.prog k_frame_Sum [.slice body0.a body0.n body0.c] [.sc (.int .u32)] fun (x_2 : Int) =>
  callW Tryz.prog k_frame_tail [.int .u32 x_2] [.sc .sl] fun (x_3 : Sl) =>
  rawW Tryz.prog (Builtin.append_ #[22, 22] 22 #[.slice x_1.a x_1.n x_1.c, .slice x_3.a x_3.n x_3.c]) [.sc .sl] fun (x_4 : Sl) =>
  retW (x_4, 0))
def H_frame_Seal : Hints := {}
theorem E_frame_Seal (body0 : Sl) : denF Tryz.prog H_frame_Seal Tryz.f51 [.sc .sl, .sc (.int .i64)] [.slice body0.a body0.n body0.c] = F_frame_Seal body0 := by kernel_rfl
theorem C_frame_Seal {R : Type} (body0 : Sl) (K : Res [.sc .sl, .sc (.int .i64)] → W R) (Q : R → World → Prop) (w : World) (h : F_frame_Seal body0 (fun r w => K r Q w) w) : callW Tryz.prog k_frame_Seal [.slice body0.a body0.n body0.c] [.sc .sl, .sc (.int .i64)] K Q w :=
  den_calls mix Tryz.func51 H_frame_Seal (ts := [.sc .sl, .sc (.int .i64)]) trivial (by rw [Tryz.ntmps51]; simp) (by rw [E_frame_Seal]; exact h)
def F_bits_Writer_Bytes (w0 : Option Addr) : W (Sl) :=
  cond (Option.isNone w0)
    (retW (⟨none, 0, 0⟩ : Sl))
    (ptrW w0 fun x_1 =>
  ld (.sc .sl) (Addr.add x_1 0) fun (x_2 : Sl) =>
  callW Tryz.prog k_bytes_Clone [.slice x_2.a x_2.n x_2.c] [.sc .sl] fun (x_3 : Sl) =>
  retW x_3)
def H_bits_Writer_Bytes : Hints := {}
theorem E_bits_Writer_Bytes (w0 : Option Addr) : denF Tryz.prog H_bits_Writer_Bytes Tryz.f52 [.sc .sl] [.pointer w0] = F_bits_Writer_Bytes w0 := by kernel_rfl
theorem C_bits_Writer_Bytes {R : Type} (w0 : Option Addr) (K : Res [.sc .sl] → W R) (Q : R → World → Prop) (w : World) (h : F_bits_Writer_Bytes w0 (fun r w => K r Q w) w) : callW Tryz.prog k_bits_Writer_Bytes [.pointer w0] [.sc .sl] K Q w :=
  den_calls mix Tryz.func52 H_bits_Writer_Bytes (ts := [.sc .sl]) trivial (by rw [Tryz.ntmps52]; simp) (by rw [E_bits_Writer_Bytes]; exact h)
def F_pinnaceref20_Head (h0 : (Int × Int × Int × Int × Int)) : W (Sl) :=
  newW 30 [.int .u8 h0.1, .int .u8 h0.2.1, .int .u32 h0.2.2.1, .int .u32 h0.2.2.2.1, .int .u32 h0.2.2.2.2] fun h_1 =>
  ld (.sc (.int .u8)) (Addr.add h_1 0) fun (x_2 : Int) =>
  callW Tryz.prog k_pinnaceref02_In [.int .i64 (IntKind.wrap .i64 x_2), .int .i64 1, .int .i64 5] [.sc .sl, .sc (.int .i64)] fun (x_3 : Sl × Int) =>
  ld (.sc (.int .u8)) (Addr.add h_1 1) fun (x_4 : Int) =>
  callW Tryz.prog k_pinnaceref02_In [.int .i64 (IntKind.wrap .i64 x_4), .int .i64 0, .int .i64 15] [.sc .sl, .sc (.int .i64)] fun (x_5 : Sl × Int) =>
  drawW <|
  ld (.sc (.int .u32)) (Addr.add h_1 2) fun (x_6 : Int) =>
  rawW Tryz.prog (Builtin.append_ #[70, 70] 70 #[.slice x_3.1.a x_3.1.n x_3.1.c, .slice x_5.1.a x_5.1.n x_5.1.c]) [.sc .sl] fun (x_7 : Sl) =>
  andW (fun w => Rd w (Addr.add h_1 2) (.sc (.int .u32)) x_6) <|
  callW Tryz.prog k_pinnaceref02_Var [.int .u64 (IntKind.wrap .u64 x_6)] [.sc .sl] fun (x_8 : Sl) =>
  rawW Tryz.prog (Builtin.append_ #[70, 70] 70 #[.slice x_7.a x_7.n x_7.c, .slice x_8.a x_8.n x_8.c]) [.sc .sl] fun (x_9 : Sl) =>
  ld (.sc (.int .u8)) (Addr.add h_1 0) fun (x_10 : Int) =>
  joinW (σ := Sl) (fun J_11 =>
    cond (decide (x_10 ≤ 3))
      (ld (.sc (.int .u32)) (Addr.add h_1 3) fun (x_12 : Int) =>
      callW Tryz.prog k_pinnaceref01_Put [.slice x_9.a x_9.n x_9.c, .int .u64 (IntKind.wrap .u64 x_12), .int .i64 32] [.sc .sl, .sc (.int .i64)] fun (x_13 : Sl × Int) =>
      J_11 x_13.1)
      (J_11 x_9))
  <| fun s_14 =>
  ld (.sc (.int .u8)) (Addr.add h_1 0) fun (x_15 : Int) =>
  joinW (σ := Sl) (fun J_16 =>
    cond (x_15 == 2)
      (ld (.sc (.int .u32)) (Addr.add h_1 3) fun (x_17 : Int) =>
      ld (.sc (.int .u32)) (Addr.add h_1 4) fun (x_18 : Int) =>
      callW Tryz.prog k_pinnaceref02_Var [.int .u64 (IntKind.wrap .u64 (IntKind.wrap .u32 ((IntKind.wrap .u32 (x_17 - x_18)) - 1)))] [.sc .sl] fun (x_19 : Sl) =>
      rawW Tryz.prog (Builtin.append_ #[70, 70] 70 #[.slice s_14.a s_14.n s_14.c, .slice x_19.a x_19.n x_19.c]) [.sc .sl] fun (x_20 : Sl) =>
      J_16 x_20)
      (J_16 s_14))
  <| fun s_21 =>
  retW s_21
def H_pinnaceref20_Head : Hints := { con := [(6031, [(3, .sc .sl)]), (8042, [(3, .sc .sl)])], dr := [(3, ([], [[(0, []), (1, []), (3, []), (4, []), (5, []), (2, [4]), (6, []), (7, []), (8, [])]]))] }
theorem E_pinnaceref20_Head (h0 : (Int × Int × Int × Int × Int)) : denF Tryz.prog H_pinnaceref20_Head Tryz.f53 [.sc .sl] [.agg ⟨[.int .u8 h0.1, .int .u8 h0.2.1, .int .u32 h0.2.2.1, .int .u32 h0.2.2.2.1, .int .u32 h0.2.2.2.2]⟩] = F_pinnaceref20_Head h0 := by kernel_rfl
theorem C_pinnaceref20_Head {R : Type} (h0 : (Int × Int × Int × Int × Int)) (K : Res [.sc .sl] → W R) (Q : R → World → Prop) (w : World) (h : F_pinnaceref20_Head h0 (fun r w => K r Q w) w) : callW Tryz.prog k_pinnaceref20_Head [.agg ⟨[.int .u8 h0.1, .int .u8 h0.2.1, .int .u32 h0.2.2.1, .int .u32 h0.2.2.2.1, .int .u32 h0.2.2.2.2]⟩] [.sc .sl] K Q w :=
  den_calls mix Tryz.func53 H_pinnaceref20_Head (ts := [.sc .sl]) trivial (by rw [Tryz.ntmps53]; simp) (by rw [E_pinnaceref20_Head]; exact h)
def F_pinnaceref20_ents (l0 : Sl) (e1 : Sl) : W (Sl) :=
  callW Tryz.prog k_pinnaceref02_Var [.int .u64 (IntKind.wrap .u64 (e1.n : Int))] [.sc .sl] fun (x_1 : Sl) =>
  rawW Tryz.prog (Builtin.append_ #[70, 70] 70 #[.slice l0.a l0.n l0.c, .slice x_1.a x_1.n x_1.c]) [.sc .sl] fun (x_2 : Sl) =>
  loopW (σ := Sl × Int × Int) (fun K_3 s_4 =>
    cond (decide (s_4.2.2 < (e1.n : Int)))
      (idxW e1.a e1.n 2 s_4.2.2 fun x_5 =>
    ld (.agg [.int .u32, .sl]) x_5 fun (x_6 : (Int × Sl)) =>
    newW 57 [.int .u32 0, .slice none 0 0] fun x_7 =>
    stoL x_7 [.int .u32 x_6.1, .slice x_6.2.a x_6.2.n x_6.2.c] 0 <|
    ld (.sc (.int .u32)) (Addr.add x_7 0) fun (x_8 : Int) =>
    callW Tryz.prog k_pinnaceref20_id [.slice s_4.1.a s_4.1.n s_4.1.c, .int .u32 s_4.2.1, .int .u32 x_8] [.sc .sl] fun (x_9 : Sl) =>
    ld (.sc (.int .u32)) (Addr.add x_7 0) fun (x_10 : Int) =>
    ld (.sc .sl) (Addr.add x_7 1) fun (x_11 : Sl) =>
    callW Tryz.prog k_pinnaceref05_Mask [.slice x_11.a x_11.n x_11.c] [.sc (.int .u8)] fun (x_12 : Int) =>
    callW Tryz.prog k_pinnaceref01_Put [.slice x_9.a x_9.n x_9.c, .int .u64 (IntKind.wrap .u64 x_12), .int .i64 5] [.sc .sl, .sc (.int .i64)] fun (x_13 : Sl × Int) =>
    ld (.sc .sl) (Addr.add x_7 1) fun (x_14 : Sl) =>
    callW Tryz.prog k_pinnaceref20_comps [.slice x_13.1.a x_13.1.n x_13.1.c, .slice x_14.a x_14.n x_14.c] [.sc .sl] fun (x_15 : Sl) =>
    K_3 (x_15, x_10, IntKind.wrap .i64 (s_4.2.2 + 1)))
      (retW s_4.1))
    (x_2, 0, 0)
def H_pinnaceref20_ents : Hints := { lop := [(0, [(0, .sc .sl), (5, .sc (.int .u32)), (16, .sc (.int .i64))])] }
theorem E_pinnaceref20_ents (l0 : Sl) (e1 : Sl) : denF Tryz.prog H_pinnaceref20_ents Tryz.f54 [.sc .sl] [.slice l0.a l0.n l0.c, .slice e1.a e1.n e1.c] = F_pinnaceref20_ents l0 e1 := by kernel_rfl
theorem C_pinnaceref20_ents {R : Type} (l0 : Sl) (e1 : Sl) (K : Res [.sc .sl] → W R) (Q : R → World → Prop) (w : World) (h : F_pinnaceref20_ents l0 e1 (fun r w => K r Q w) w) : callW Tryz.prog k_pinnaceref20_ents [.slice l0.a l0.n l0.c, .slice e1.a e1.n e1.c] [.sc .sl] K Q w :=
  den_calls mix Tryz.func54 H_pinnaceref20_ents (ts := [.sc .sl]) trivial (by rw [Tryz.ntmps54]; simp) (by rw [E_pinnaceref20_ents]; exact h)
def F_pinnaceref19_Diff (d0 : Sl) (o1 : Sl) : W ((Sl × Sl × Sl) × Int) :=
  newW 80 [.slice none 0 0, .slice none 0 0, .slice none 0 0] fun x_1 =>
  callW Tryz.prog k_pinnaceref18_Form [.slice d0.a d0.n d0.c] [.sc (.int .i64)] fun (x_2 : Int) =>
  cond (x_2 != 0)
    (stoL x_1 [.slice none 0 0, .slice none 0 0, .slice none 0 0] 0 <|
    ld (.agg [.sl, .sl, .sl]) x_1 fun (x_3 : (Sl × Sl × Sl)) =>
    retW (x_3, x_2))
    (callW Tryz.prog k_pinnaceref18_Form [.slice o1.a o1.n o1.c] [.sc (.int .i64)] fun (x_4 : Int) =>
  cond (x_4 != 0)
    (stoL x_1 [.slice none 0 0, .slice none 0 0, .slice none 0 0] 0 <|
    ld (.agg [.sl, .sl, .sl]) x_1 fun (x_5 : (Sl × Sl × Sl)) =>
    retW (x_5, x_4))
    (newW 80 [.slice none 0 0, .slice none 0 0, .slice none 0 0] fun x_6 =>
  loopW (σ := Int) (fun K_7 s_8 =>
    cond (decide (s_8 < (d0.n : Int)))
      (idxW d0.a d0.n 2 s_8 fun x_9 =>
    ld (.agg [.int .u32, .sl]) x_9 fun (x_10 : (Int × Sl)) =>
    newW 57 [.int .u32 0, .slice none 0 0] fun x_11 =>
    stoL x_11 [.int .u32 x_10.1, .slice x_10.2.a x_10.2.n x_10.2.c] 0 <|
    ld (.sc (.int .u32)) (Addr.add x_11 0) fun (x_12 : Int) =>
    callW Tryz.prog k_pinnaceref18_Find [.slice o1.a o1.n o1.c, .int .u32 x_12] [.sc (.int .i64)] fun (x_13 : Int) =>
    joinW (σ := Unit) (fun J_14 =>
      cond (decide (x_13 < 0))
        (ld (.sc .sl) (Addr.add x_6 0) fun (x_15 : Sl) =>
        ld (.sc (.int .u32)) (Addr.add x_11 0) fun (x_16 : Int) =>
        newW 54 [.int .u32 x_16] fun x_17 =>
        rawW Tryz.prog (Builtin.append_ #[77, 77] 77 #[.slice x_15.a x_15.n x_15.c, .slice (some x_17) 1 1]) [.sc .sl] fun (x_18 : Sl) =>
        stoL (Addr.add x_6 0) [.slice x_18.a x_18.n x_18.c] 0 <|
        J_14 ())
        (J_14 ()))
    <| fun s_19 =>
    K_7 (IntKind.wrap .i64 (s_8 + 1)))
      (loopW (σ := Int) (fun K_20 s_21 =>
    cond (decide (s_21 < (o1.n : Int)))
      (joinW (σ := Unit) (fun J_22 =>
      idxW o1.a o1.n 2 s_21 fun x_23 =>
      ld (.agg [.int .u32, .sl]) x_23 fun (x_24 : (Int × Sl)) =>
      newW 57 [.int .u32 0, .slice none 0 0] fun x_25 =>
      stoL x_25 [.int .u32 x_24.1, .slice x_24.2.a x_24.2.n x_24.2.c] 0 <|
      ld (.sc (.int .u32)) (Addr.add x_25 0) fun (x_26 : Int) =>
      callW Tryz.prog k_pinnaceref18_Find [.slice d0.a d0.n d0.c, .int .u32 x_26] [.sc (.int .i64)] fun (x_27 : Int) =>
      cond (decide (x_27 < 0))
        (drawW <|
        ld (.sc .sl) (Addr.add x_6 1) fun (x_28 : Sl) =>
        ld (.sc (.int .u32)) (Addr.add x_25 0) fun (x_29 : Int) =>
        ld (.sc .sl) (Addr.add x_25 1) fun (x_30 : Sl) =>
        callW Tryz.prog k_pinnaceref05_Twin [.slice x_30.a x_30.n x_30.c] [.sc .sl] fun (x_31 : Sl) =>
        andW (fun w => Rd w (Addr.add x_25 0) (.sc (.int .u32)) x_29) <|
        andW (fun w => Rd w (Addr.add x_6 1) (.sc .sl) x_28) <|
        newW 57 [.int .u32 x_29, .slice x_31.a x_31.n x_31.c] fun x_32 =>
        rawW Tryz.prog (Builtin.append_ #[23, 23] 23 #[.slice x_28.a x_28.n x_28.c, .slice (some x_32) 1 1]) [.sc .sl] fun (x_33 : Sl) =>
        stoL (Addr.add x_6 1) [.slice x_33.a x_33.n x_33.c] 0 <|
        J_22 ())
        (ld (.sc (.int .u32)) (Addr.add x_25 0) fun (x_34 : Int) =>
      newW 86 [.int .u32 0, .int .u8 0, .slice none 0 0, .slice none 0 0] fun x_35 =>
      stoL x_35 [.int .u32 x_34, .int .u8 0, .slice none 0 0, .slice none 0 0] 0 <|
      loopW (σ := Int) (fun K_36 s_37 =>
        cond (decide (s_37 < 6))
          (drawW <|
        idxW d0.a d0.n 2 x_27 fun x_38 =>
        ld (.sc .sl) (Addr.add x_38 1) fun (x_39 : Sl) =>
        ld (.sc .sl) (Addr.add x_25 1) fun (x_40 : Sl) =>
        callW Tryz.prog k_pinnaceref05_Find [.slice x_39.a x_39.n x_39.c, .int .u8 s_37] [.sc (.int .i64)] fun (x_41 : Int) =>
        andW (fun w => Rd w (Addr.add x_25 1) (.sc .sl) x_40) <|
        callW Tryz.prog k_pinnaceref05_Find [.slice x_40.a x_40.n x_40.c, .int .u8 s_37] [.sc (.int .i64)] fun (x_42 : Int) =>
        joinW (σ := Bool) (fun J_43 =>
          cond (decide (x_41 ≥ 0))
            (J_43 (decide (x_42 < 0)))
            (J_43 false))
        <| fun s_44 =>
        joinW (σ := Unit) (fun J_45 =>
          cond s_44
            (ld (.sc (.int .u8)) (Addr.add x_35 1) fun (x_46 : Int) =>
            chkW (0 ≤ s_37) <|
            stoL (Addr.add x_35 1) [.int .u8 (IntKind.wrap .u8 (x_46 + (shL .u8 1 s_37)))] 0 <|
            J_45 ())
            (joinW (σ := Bool) (fun J_47 =>
              cond (decide (x_41 < 0))
                (J_47 (decide (x_42 ≥ 0)))
                (J_47 false))
            <| fun s_48 =>
            joinW (σ := Unit) (fun J_49 =>
              cond s_48
                (drawW <|
                ld (.sc .sl) (Addr.add x_35 2) fun (x_50 : Sl) =>
                ld (.sc .sl) (Addr.add x_25 1) fun (x_51 : Sl) =>
                idxW x_51.a x_51.n 4 x_42 fun x_52 =>
                ld (.agg [.int .u8, .int .i32, .int .i32, .int .i32]) x_52 fun (x_53 : (Int × Int × Int × Int)) =>
                newW 92 [.int .u8 x_53.1, .int .i32 x_53.2.1, .int .i32 x_53.2.2.1, .int .i32 x_53.2.2.2] fun x_54 =>
                rawW Tryz.prog (Builtin.append_ #[55, 55] 55 #[.slice x_50.a x_50.n x_50.c, .slice (some x_54) 1 1]) [.sc .sl] fun (x_55 : Sl) =>
                stoL (Addr.add x_35 2) [.slice x_55.a x_55.n x_55.c] 0 <|
                J_49 ())
                (joinW (σ := Bool) (fun J_56 =>
                  drawW <|
                  cond (decide (x_41 ≥ 0))
                    (idxW d0.a d0.n 2 x_27 fun x_57 =>
                        ld (.sc .sl) (Addr.add x_57 1) fun (x_58 : Sl) =>
                            idxW x_58.a x_58.n 4 x_41 fun x_59 =>
                                ld (.agg [.int .u8, .int .i32, .int .i32, .int .i32]) x_59 fun (x_60 : (Int × Int × Int × Int)) =>
                                  ld (.sc .sl) (Addr.add x_25 1) fun (x_61 : Sl) =>
                                      idxW x_61.a x_61.n 4 x_42 fun x_62 =>
                                          ld (.agg [.int .u8, .int .i32, .int .i32, .int .i32]) x_62 fun (x_63 : (Int × Int × Int × Int)) =>
                                            rawQ Tryz.prog (do Go.eqGuard .neq 92 (.tmp 130) (.tmp 135) (.agg ⟨[.int .u8 x_60.1, .int .i32 x_60.2.1, .int .i32 x_60.2.2.1, .int .i32 x_60.2.2.2]⟩) (.agg ⟨[.int .u8 x_63.1, .int .i32 x_63.2.1, .int .i32 x_63.2.2.1, .int .i32 x_63.2.2.2]⟩); Go.binOp .neq 92 (.agg ⟨[.int .u8 x_60.1, .int .i32 x_60.2.1, .int .i32 x_60.2.2.1, .int .i32 x_60.2.2.2]⟩) (.agg ⟨[.int .u8 x_63.1, .int .i32 x_63.2.1, .int .i32 x_63.2.2.1, .int .i32 x_63.2.2.2]⟩)) [.sc .bool] fun (x_64 : Bool) =>
                                              J_56 x_64)
                    (J_56 false))
                <| fun s_65 =>
                joinW (σ := Unit) (fun J_66 =>
                  cond s_65
                    (drawW <|
                    ld (.sc .sl) (Addr.add x_35 3) fun (x_67 : Sl) =>
                    ld (.sc .sl) (Addr.add x_25 1) fun (x_68 : Sl) =>
                    idxW x_68.a x_68.n 4 x_42 fun x_69 =>
                    ld (.agg [.int .u8, .int .i32, .int .i32, .int .i32]) x_69 fun (x_70 : (Int × Int × Int × Int)) =>
                    newW 92 [.int .u8 x_70.1, .int .i32 x_70.2.1, .int .i32 x_70.2.2.1, .int .i32 x_70.2.2.2] fun x_71 =>
                    rawW Tryz.prog (Builtin.append_ #[55, 55] 55 #[.slice x_67.a x_67.n x_67.c, .slice (some x_71) 1 1]) [.sc .sl] fun (x_72 : Sl) =>
                    stoL (Addr.add x_35 3) [.slice x_72.a x_72.n x_72.c] 0 <|
                    J_66 ())
                    (J_66 ()))
                <| fun s_73 =>
                J_49 ()))
            <| fun s_74 =>
            J_45 ()))
        <| fun s_75 =>
        K_36 (IntKind.wrap .u8 (s_37 + 1)))
          (joinW (σ := Bool) (fun J_76 =>
        ld (.sc (.int .u8)) (Addr.add x_35 1) fun (x_77 : Int) =>
        cond (decide (x_77 > 0))
          (J_76 true)
          (ld (.sc .sl) (Addr.add x_35 2) fun (x_78 : Sl) =>
            ld (.sc .sl) (Addr.add x_35 3) fun (x_79 : Sl) =>
                  J_76 (decide ((IntKind.wrap .i64 ((x_78.n : Int) + (x_79.n : Int))) > 0))))
      <| fun s_80 =>
      joinW (σ := Unit) (fun J_81 =>
        cond s_80
          (ld (.sc .sl) (Addr.add x_6 2) fun (x_82 : Sl) =>
          ld (.agg [.int .u32, .int .u8, .sl, .sl]) x_35 fun (x_83 : (Int × Int × Sl × Sl)) =>
          newW 86 [.int .u32 x_83.1, .int .u8 x_83.2.1, .slice x_83.2.2.1.a x_83.2.2.1.n x_83.2.2.1.c, .slice x_83.2.2.2.a x_83.2.2.2.n x_83.2.2.2.c] fun x_84 =>
          rawW Tryz.prog (Builtin.append_ #[78, 78] 78 #[.slice x_82.a x_82.n x_82.c, .slice (some x_84) 1 1]) [.sc .sl] fun (x_85 : Sl) =>
          stoL (Addr.add x_6 2) [.slice x_85.a x_85.n x_85.c] 0 <|
          J_81 ())
          (J_81 ()))
      <| fun s_86 =>
      J_22 ()))
        0))
    <| fun s_87 =>
    K_20 (IntKind.wrap .i64 (s_21 + 1)))
      (ld (.agg [.sl, .sl, .sl]) x_6 fun (x_88 : (Sl × Sl × Sl)) =>
  stoL x_1 [.slice x_88.1.a x_88.1.n x_88.1.c, .slice x_88.2.1.a x_88.2.1.n x_88.2.1.c, .slice x_88.2.2.a x_88.2.2.n x_88.2.2.c] 0 <|
  ld (.agg [.sl, .sl, .sl]) x_1 fun (x_89 : (Sl × Sl × Sl)) =>
  retW (x_89, 0)))
    0))
    0))
def H_pinnaceref19_Diff : Hints := { reg := [(25, [(89, .sc .bool)]), (27, [(102, .sc .bool)]), (29, [(119, .sc .bool)]), (32, [(161, .sc .bool)])], con := [(13040, []), (31119, []), (29102, []), (27089, []), (34161, [])], blk := [(3, [])], lop := [(0, [(32, .sc (.int .i64))]), (2, [(51, .sc (.int .i64))]), (4, [(75, .sc (.int .u8))])], dr := [(19, ([], [[(0, []), (1, []), (2, []), (3, []), (4, []), (5, []), (6, [1, 3]), (7, []), (8, []), (9, []), (10, []), (11, [])]])), (24, ([], [[(0, []), (1, []), (2, []), (3, []), (4, []), (5, []), (7, []), (8, []), (9, []), (6, [8]), (10, []), (11, []), (12, [])]])), (28, ([], [[(0, []), (1, []), (2, []), (3, []), (4, []), (5, []), (6, []), (7, []), (8, []), (9, []), (10, [])]])), (29, ([], [[(0, []), (1, []), (2, []), (3, []), (4, []), (5, []), (6, []), (7, []), (8, []), (9, []), (10, []), (11, []), (12, []), (13, []), (14, []), (15, []), (16, []), (17, []), (18, [])]])), (30, ([], [[(0, []), (1, []), (2, []), (3, []), (4, []), (5, []), (6, []), (7, []), (8, []), (9, []), (10, [])]]))] }
set_option maxRecDepth 100000 in
theorem E_pinnaceref19_Diff (d0 : Sl) (o1 : Sl) : denF Tryz.prog H_pinnaceref19_Diff Tryz.f55 [.agg [.sl, .sl, .sl], .sc (.int .i64)] [.slice d0.a d0.n d0.c, .slice o1.a o1.n o1.c] = F_pinnaceref19_Diff d0 o1 := by kernel_rfl
theorem C_pinnaceref19_Diff {R : Type} (d0 : Sl) (o1 : Sl) (K : Res [.agg [.sl, .sl, .sl], .sc (.int .i64)] → W R) (Q : R → World → Prop) (w : World) (h : F_pinnaceref19_Diff d0 o1 (fun r w => K r Q w) w) : callW Tryz.prog k_pinnaceref19_Diff [.slice d0.a d0.n d0.c, .slice o1.a o1.n o1.c] [.agg [.sl, .sl, .sl], .sc (.int .i64)] K Q w :=
  den_calls mix Tryz.func55 H_pinnaceref19_Diff (ts := [.agg [.sl, .sl, .sl], .sc (.int .i64)]) ⟨by kernel_rfl, trivial⟩ (by rw [Tryz.ntmps55]; simp) (by rw [E_pinnaceref19_Diff]; exact h)
def F_pinnaceref02_Var (v0 : Int) : W (Sl) :=
  loopW (σ := Int × Sl) (fun K_1 s_2 =>
    loopW (σ := Int × Sl × Int) (fun K_3 s_4 =>
      cond (decide (s_4.2.2 < 4))
        (newW 4 [.bool ((Int.tmod s_4.1 2) == 1)] fun x_5 =>
      rawW Tryz.prog (Builtin.append_ #[70, 70] 70 #[.slice s_4.2.1.a s_4.2.1.n s_4.2.1.c, .slice (some x_5) 1 1]) [.sc .sl] fun (x_6 : Sl) =>
      K_3 (IntKind.wrap .u64 (Int.tdiv s_4.1 2), x_6, IntKind.wrap .i64 (s_4.2.2 + 1)))
        (newW 4 [.bool (decide (s_4.1 > 0))] fun x_7 =>
    rawW Tryz.prog (Builtin.append_ #[70, 70] 70 #[.slice s_4.2.1.a s_4.2.1.n s_4.2.1.c, .slice (some x_7) 1 1]) [.sc .sl] fun (x_8 : Sl) =>
    cond (s_4.1 == 0)
      (retW x_8)
      (K_1 (s_4.1, x_8))))
      (s_2.1, s_2.2, 0))
    (v0, (⟨none, 0, 0⟩ : Sl))
def H_pinnaceref02_Var : Hints := { lop := [(0, [(0, .sc (.int .u64)), (3, .sc .sl)]), (2, [(0, .sc (.int .u64)), (3, .sc .sl), (4, .sc (.int .i64))])] }
theorem E_pinnaceref02_Var (v0 : Int) : denF Tryz.prog H_pinnaceref02_Var Tryz.f56 [.sc .sl] [.int .u64 v0] = F_pinnaceref02_Var v0 := by kernel_rfl
theorem C_pinnaceref02_Var {R : Type} (v0 : Int) (K : Res [.sc .sl] → W R) (Q : R → World → Prop) (w : World) (h : F_pinnaceref02_Var v0 (fun r w => K r Q w) w) : callW Tryz.prog k_pinnaceref02_Var [.int .u64 v0] [.sc .sl] K Q w :=
  den_calls mix Tryz.func56 H_pinnaceref02_Var (ts := [.sc .sl]) trivial (by rw [Tryz.ntmps56]; simp) (by rw [E_pinnaceref02_Var]; exact h)
def F_pinnaceref20_id (l0 : Sl) (last1 : Int) (now2 : Int) : W (Sl) :=
  callW Tryz.prog k_pinnaceref02_Var [.int .u64 (IntKind.wrap .u64 (IntKind.wrap .u32 ((IntKind.wrap .u32 (now2 - last1)) - 1)))] [.sc .sl] fun (x_1 : Sl) =>
  rawW Tryz.prog (Builtin.append_ #[70, 70] 70 #[.slice l0.a l0.n l0.c, .slice x_1.a x_1.n x_1.c]) [.sc .sl] fun (x_2 : Sl) =>
  retW x_2
def H_pinnaceref20_id : Hints := {}
theorem E_pinnaceref20_id (l0 : Sl) (last1 : Int) (now2 : Int) : denF Tryz.prog H_pinnaceref20_id Tryz.f57 [.sc .sl] [.slice l0.a l0.n l0.c, .int .u32 last1, .int .u32 now2] = F_pinnaceref20_id l0 last1 now2 := by kernel_rfl
theorem C_pinnaceref20_id {R : Type} (l0 : Sl) (last1 : Int) (now2 : Int) (K : Res [.sc .sl] → W R) (Q : R → World → Prop) (w : World) (h : F_pinnaceref20_id l0 last1 now2 (fun r w => K r Q w) w) : callW Tryz.prog k_pinnaceref20_id [.slice l0.a l0.n l0.c, .int .u32 last1, .int .u32 now2] [.sc .sl] K Q w :=
  den_calls mix Tryz.func57 H_pinnaceref20_id (ts := [.sc .sl]) trivial (by rw [Tryz.ntmps57]; simp) (by rw [E_pinnaceref20_id]; exact h)
def F_pinnaceref01_Put (l0 : Sl) (v1 : Int) (n2 : Int) : W (Sl × Int) :=
  joinW (σ := Bool) (fun J_1 =>
    cond (decide (n2 < 0))
      (J_1 true)
      (J_1 (decide (n2 > 64))))
  <| fun s_2 =>
  cond s_2
    (retW (l0, 1))
    (newW 4 [] fun x_3 =>
  rawW Tryz.prog (Builtin.append_ #[70, 70] 70 #[.slice (some x_3) 0 0, .slice l0.a l0.n l0.c]) [.sc .sl] fun (x_4 : Sl) =>
  loopW (σ := Int × Sl × Int) (fun K_5 s_6 =>
    cond (decide (s_6.2.2 < n2))
      (newW 4 [.bool ((Int.tmod s_6.1 2) == 1)] fun x_7 =>
    rawW Tryz.prog (Builtin.append_ #[70, 70] 70 #[.slice s_6.2.1.a s_6.2.1.n s_6.2.1.c, .slice (some x_7) 1 1]) [.sc .sl] fun (x_8 : Sl) =>
    K_5 (IntKind.wrap .u64 (Int.tdiv s_6.1 2), x_8, IntKind.wrap .i64 (s_6.2.2 + 1)))
      (cond (s_6.1 != 0)
    (retW (l0, 5))
    (cond (decide ((s_6.2.1.n : Int) > 1048576))
    (retW (l0, 3))
    (retW (s_6.2.1, 0)))))
    (v1, x_4, 0))
def H_pinnaceref01_Put : Hints := { reg := [(1, [(14, .sc .bool)])], lop := [(0, [(1, .sc (.int .u64)), (8, .sc .sl), (20, .sc (.int .i64))])] }
theorem E_pinnaceref01_Put (l0 : Sl) (v1 : Int) (n2 : Int) : denF Tryz.prog H_pinnaceref01_Put Tryz.f58 [.sc .sl, .sc (.int .i64)] [.slice l0.a l0.n l0.c, .int .u64 v1, .int .i64 n2] = F_pinnaceref01_Put l0 v1 n2 := by kernel_rfl
theorem C_pinnaceref01_Put {R : Type} (l0 : Sl) (v1 : Int) (n2 : Int) (K : Res [.sc .sl, .sc (.int .i64)] → W R) (Q : R → World → Prop) (w : World) (h : F_pinnaceref01_Put l0 v1 n2 (fun r w => K r Q w) w) : callW Tryz.prog k_pinnaceref01_Put [.slice l0.a l0.n l0.c, .int .u64 v1, .int .i64 n2] [.sc .sl, .sc (.int .i64)] K Q w :=
  den_calls mix Tryz.func58 H_pinnaceref01_Put (ts := [.sc .sl, .sc (.int .i64)]) trivial (by rw [Tryz.ntmps58]; simp) (by rw [E_pinnaceref01_Put]; exact h)
def F_pinnaceref20_comps (l0 : Sl) (c1 : Sl) : W (Sl) :=
  loopW (σ := Sl × Int) (fun K_1 s_2 =>
    cond (decide (s_2.2 < (c1.n : Int)))
      (idxW c1.a c1.n 4 s_2.2 fun x_3 =>
    ld (.agg [.int .u8, .int .i32, .int .i32, .int .i32]) x_3 fun (x_4 : (Int × Int × Int × Int)) =>
    newW 92 [.int .u8 0, .int .i32 0, .int .i32 0, .int .i32 0] fun x_5 =>
    stoL x_5 [.int .u8 x_4.1, .int .i32 x_4.2.1, .int .i32 x_4.2.2.1, .int .i32 x_4.2.2.2] 0 <|
    ld (.agg [.int .u8, .int .i32, .int .i32, .int .i32]) x_5 fun (x_6 : (Int × Int × Int × Int)) =>
    callW Tryz.prog k_pinnaceref06_Put [.agg ⟨[.int .u8 x_6.1, .int .i32 x_6.2.1, .int .i32 x_6.2.2.1, .int .i32 x_6.2.2.2]⟩] [.sc .sl, .sc (.int .i64)] fun (x_7 : Sl × Int) =>
    rawW Tryz.prog (Builtin.append_ #[70, 70] 70 #[.slice s_2.1.a s_2.1.n s_2.1.c, .slice x_7.1.a x_7.1.n x_7.1.c]) [.sc .sl] fun (x_8 : Sl) =>
    K_1 (x_8, IntKind.wrap .i64 (s_2.2 + 1)))
      (retW s_2.1))
    (l0, 0)
def H_pinnaceref20_comps : Hints := { lop := [(0, [(0, .sc .sl), (11, .sc (.int .i64))])] }
theorem E_pinnaceref20_comps (l0 : Sl) (c1 : Sl) : denF Tryz.prog H_pinnaceref20_comps Tryz.f60 [.sc .sl] [.slice l0.a l0.n l0.c, .slice c1.a c1.n c1.c] = F_pinnaceref20_comps l0 c1 := by kernel_rfl
theorem C_pinnaceref20_comps {R : Type} (l0 : Sl) (c1 : Sl) (K : Res [.sc .sl] → W R) (Q : R → World → Prop) (w : World) (h : F_pinnaceref20_comps l0 c1 (fun r w => K r Q w) w) : callW Tryz.prog k_pinnaceref20_comps [.slice l0.a l0.n l0.c, .slice c1.a c1.n c1.c] [.sc .sl] K Q w :=
  den_calls mix Tryz.func60 H_pinnaceref20_comps (ts := [.sc .sl]) trivial (by rw [Tryz.ntmps60]; simp) (by rw [E_pinnaceref20_comps]; exact h)
def F_pinnaceref06_Step (d0 : (Int × Int × Int × Int)) (o1 : (Int × Int × Int × Int)) : W (Sl × Int) :=
  newW 92 [.int .u8 d0.1, .int .i32 d0.2.1, .int .i32 d0.2.2.1, .int .i32 d0.2.2.2] fun x_1 =>
  newW 92 [.int .u8 o1.1, .int .i32 o1.2.1, .int .i32 o1.2.2.1, .int .i32 o1.2.2.2] fun x_2 =>
  ld (.agg [.int .u8, .int .i32, .int .i32, .int .i32]) x_1 fun (x_3 : (Int × Int × Int × Int)) =>
  callW Tryz.prog k_pinnaceref05_Check [.agg ⟨[.int .u8 x_3.1, .int .i32 x_3.2.1, .int .i32 x_3.2.2.1, .int .i32 x_3.2.2.2]⟩] [.sc (.int .i64)] fun (x_4 : Int) =>
  cond (x_4 != 0)
    (retW ((⟨none, 0, 0⟩ : Sl), x_4))
    (ld (.agg [.int .u8, .int .i32, .int .i32, .int .i32]) x_2 fun (x_5 : (Int × Int × Int × Int)) =>
  callW Tryz.prog k_pinnaceref05_Check [.agg ⟨[.int .u8 x_5.1, .int .i32 x_5.2.1, .int .i32 x_5.2.2.1, .int .i32 x_5.2.2.2]⟩] [.sc (.int .i64)] fun (x_6 : Int) =>
  cond (x_6 != 0)
    (retW ((⟨none, 0, 0⟩ : Sl), x_6))
    (ld (.sc (.int .u8)) (Addr.add x_1 0) fun (x_7 : Int) =>
  ld (.sc (.int .u8)) (Addr.add x_2 0) fun (x_8 : Int) =>
  cond (x_7 != x_8)
    (retW ((⟨none, 0, 0⟩ : Sl), 4))
    (ld (.sc (.int .u8)) (Addr.add x_2 0) fun (x_9 : Int) =>
  callW Tryz.prog k_pinnaceref05_Count [.int .u8 x_9] [.sc (.int .i64)] fun (x_10 : Int) =>
  loopW (σ := Sl × Int) (fun K_11 s_12 =>
    cond (decide (s_12.2 < x_10))
      (joinW (σ := Sl) (fun J_13 =>
      drawW <|
      idxW (some (Addr.add x_2 1)) 3 1 s_12.2 fun x_14 =>
      ld (.sc (.int .i32)) x_14 fun (x_15 : Int) =>
      idxW (some (Addr.add x_1 1)) 3 1 s_12.2 fun x_16 =>
      ld (.sc (.int .i32)) x_16 fun (x_17 : Int) =>
      callW Tryz.prog k_pinnaceref02_Zig [.int .i64 (IntKind.wrap .i64 ((IntKind.wrap .i64 x_15) - (IntKind.wrap .i64 x_17)))] [.sc (.int .u64)] fun (x_18 : Int) =>
      newW 4 [.bool (decide (x_18 > 0))] fun x_19 =>
      rawW Tryz.prog (Builtin.append_ #[70, 70] 70 #[.slice s_12.1.a s_12.1.n s_12.1.c, .slice (some x_19) 1 1]) [.sc .sl] fun (x_20 : Sl) =>
      cond (x_18 == 0)
        (J_13 x_20)
        (newW 4 [.bool (decide (x_18 ≤ 16))] fun x_21 =>
      rawW Tryz.prog (Builtin.append_ #[70, 70] 70 #[.slice x_20.a x_20.n x_20.c, .slice (some x_21) 1 1]) [.sc .sl] fun (x_22 : Sl) =>
      cond (decide (x_18 ≤ 16))
        (callW Tryz.prog k_pinnaceref01_Put [.slice x_22.a x_22.n x_22.c, .int .u64 (IntKind.wrap .u64 (x_18 - 1)), .int .i64 4] [.sc .sl, .sc (.int .i64)] fun (x_23 : Sl × Int) =>
        J_13 x_23.1)
        (ld (.sc (.int .u8)) (Addr.add x_2 0) fun (x_24 : Int) =>
      callW Tryz.prog k_pinnaceref05_Range [.int .u8 x_24, .int .i64 s_12.2] [.sc (.int .i32), .sc (.int .i32), .sc (.int .i64)] fun (x_25 : Int × Int × Int) =>
      idxW (some (Addr.add x_2 1)) 3 1 s_12.2 fun x_26 =>
      ld (.sc (.int .i32)) x_26 fun (x_27 : Int) =>
      callW Tryz.prog k_pinnaceref02_In [.int .i64 (IntKind.wrap .i64 x_27), .int .i64 (IntKind.wrap .i64 x_25.1), .int .i64 (IntKind.wrap .i64 x_25.2.1)] [.sc .sl, .sc (.int .i64)] fun (x_28 : Sl × Int) =>
      rawW Tryz.prog (Builtin.append_ #[70, 70] 70 #[.slice x_22.a x_22.n x_22.c, .slice x_28.1.a x_28.1.n x_28.1.c]) [.sc .sl] fun (x_29 : Sl) =>
      J_13 x_29)))
    <| fun s_30 =>
    K_11 (s_30, IntKind.wrap .i64 (s_12.2 + 1)))
      (retW (s_12.1, 0)))
    ((⟨none, 0, 0⟩ : Sl), 0))))
def H_pinnaceref06_Step : Hints := { blk := [(1, [(8, .sc .sl)])], lop := [(0, [(8, .sc .sl), (34, .sc (.int .i64))])], dr := [(13, ([], [[(0, []), (1, []), (2, []), (3, []), (4, []), (5, []), (6, []), (7, []), (8, []), (9, []), (10, []), (11, []), (12, [])]]))] }
theorem E_pinnaceref06_Step (d0 : (Int × Int × Int × Int)) (o1 : (Int × Int × Int × Int)) : denF Tryz.prog H_pinnaceref06_Step Tryz.f61 [.sc .sl, .sc (.int .i64)] [.agg ⟨[.int .u8 d0.1, .int .i32 d0.2.1, .int .i32 d0.2.2.1, .int .i32 d0.2.2.2]⟩, .agg ⟨[.int .u8 o1.1, .int .i32 o1.2.1, .int .i32 o1.2.2.1, .int .i32 o1.2.2.2]⟩] = F_pinnaceref06_Step d0 o1 := by kernel_rfl
theorem C_pinnaceref06_Step {R : Type} (d0 : (Int × Int × Int × Int)) (o1 : (Int × Int × Int × Int)) (K : Res [.sc .sl, .sc (.int .i64)] → W R) (Q : R → World → Prop) (w : World) (h : F_pinnaceref06_Step d0 o1 (fun r w => K r Q w) w) : callW Tryz.prog k_pinnaceref06_Step [.agg ⟨[.int .u8 d0.1, .int .i32 d0.2.1, .int .i32 d0.2.2.1, .int .i32 d0.2.2.2]⟩, .agg ⟨[.int .u8 o1.1, .int .i32 o1.2.1, .int .i32 o1.2.2.1, .int .i32 o1.2.2.2]⟩] [.sc .sl, .sc (.int .i64)] K Q w :=
  den_calls mix Tryz.func61 H_pinnaceref06_Step (ts := [.sc .sl, .sc (.int .i64)]) trivial (by rw [Tryz.ntmps61]; simp) (by rw [E_pinnaceref06_Step]; exact h)
def F_pinnaceref01_Bytes (l0 : Sl) : W (Sl) :=
  rawW Tryz.prog (Instr.makeSlice 22 (.int .i64 (IntKind.wrap .i64 (Int.tdiv (IntKind.wrap .i64 ((l0.n : Int) + 7)) 8))) (.int .i64 (IntKind.wrap .i64 (Int.tdiv (IntKind.wrap .i64 ((l0.n : Int) + 7)) 8)))) [.sc .sl] fun (x_1 : Sl) =>
  loopW (σ := Int) (fun K_2 s_3 =>
    cond (decide (s_3 < (l0.n : Int)))
      (idxW l0.a l0.n 1 s_3 fun x_4 =>
    ld (.sc .bool) x_4 fun (x_5 : Bool) =>
    joinW (σ := Unit) (fun J_6 =>
      cond x_5
        (idxW x_1.a x_1.n 1 (IntKind.wrap .i64 (Int.tdiv s_3 8)) fun x_7 =>
        ld (.sc (.int .u8)) x_7 fun (x_8 : Int) =>
        chkW (0 ≤ (IntKind.wrap .u64 (Int.tmod s_3 8))) <|
        idxW x_1.a x_1.n 1 (IntKind.wrap .i64 (Int.tdiv s_3 8)) fun x_9 =>
        stoL x_9 [.int .u8 (IntKind.wrap .u8 (x_8 + (shL .u8 1 (IntKind.wrap .u64 (Int.tmod s_3 8)))))] 0 <|
        J_6 ())
        (J_6 ()))
    <| fun s_10 =>
    K_2 (IntKind.wrap .i64 (s_3 + 1)))
      (retW x_1))
    0
def H_pinnaceref01_Bytes : Hints := { con := [(7018, [])], lop := [(0, [(13, .sc (.int .i64))])] }
theorem E_pinnaceref01_Bytes (l0 : Sl) : denF Tryz.prog H_pinnaceref01_Bytes Tryz.f62 [.sc .sl] [.slice l0.a l0.n l0.c] = F_pinnaceref01_Bytes l0 := by kernel_rfl
theorem C_pinnaceref01_Bytes {R : Type} (l0 : Sl) (K : Res [.sc .sl] → W R) (Q : R → World → Prop) (w : World) (h : F_pinnaceref01_Bytes l0 (fun r w => K r Q w) w) : callW Tryz.prog k_pinnaceref01_Bytes [.slice l0.a l0.n l0.c] [.sc .sl] K Q w :=
  den_calls mix Tryz.func62 H_pinnaceref01_Bytes (ts := [.sc .sl]) trivial (by rw [Tryz.ntmps62]; simp) (by rw [E_pinnaceref01_Bytes]; exact h)
def F_frame_tail (s0 : Int) : W (Sl) :=
  rawW Tryz.prog (Instr.makeSlice 22 (.int .i64 4) (.int .i64 4)) [.sc .sl] fun (x_1 : Sl) =>
  loopW (σ := Int) (fun K_2 s_3 =>
    cond (decide (s_3 < (x_1.n : Int)))
      (chkW (0 ≤ (IntKind.wrap .i64 (8 * s_3))) <|
    idxW x_1.a x_1.n 1 s_3 fun x_4 =>
    stoL x_4 [.int .u8 (IntKind.wrap .u8 (shR .u32 s0 (IntKind.wrap .i64 (8 * s_3))))] 0 <|
    K_2 (IntKind.wrap .i64 (s_3 + 1)))
      (retW x_1))
    0
def H_frame_tail : Hints := { lop := [(0, [(8, .sc (.int .i64))])] }
theorem E_frame_tail (s0 : Int) : denF Tryz.prog H_frame_tail Tryz.f63 [.sc .sl] [.int .u32 s0] = F_frame_tail s0 := by kernel_rfl
theorem C_frame_tail {R : Type} (s0 : Int) (K : Res [.sc .sl] → W R) (Q : R → World → Prop) (w : World) (h : F_frame_tail s0 (fun r w => K r Q w) w) : callW Tryz.prog k_frame_tail [.int .u32 s0] [.sc .sl] K Q w :=
  den_calls mix Tryz.func63 H_frame_tail (ts := [.sc .sl]) trivial (by rw [Tryz.ntmps63]; simp) (by rw [E_frame_tail]; exact h)
def F_frame_Sum (p0 : Sl) : W (Int) :=
  loopW (σ := Int × Int) (fun K_1 s_2 =>
    cond (decide (s_2.2 < (p0.n : Int)))
      (idxW p0.a p0.n 1 s_2.2 fun x_3 =>
    ld (.sc (.int .u8)) x_3 fun (x_4 : Int) =>
    loopW (σ := Int × Int) (fun K_5 s_6 =>
      cond (decide (s_6.2 < 8))
        (callW Tryz.prog k_frame_step [.int .u32 s_6.1] [.sc (.int .u32)] fun (x_7 : Int) =>
      K_5 (x_7, IntKind.wrap .i64 (s_6.2 + 1)))
        (K_1 (s_6.1, IntKind.wrap .i64 (s_2.2 + 1))))
      (bXor .u32 s_2.1 (IntKind.wrap .u32 x_4), 0))
      (retW (bXor .u32 (4294967295) s_2.1)))
    (4294967295, 0)
def H_frame_Sum : Hints := { lop := [(0, [(3, .sc (.int .u32)), (8, .sc (.int .i64))]), (2, [(3, .sc (.int .u32)), (16, .sc (.int .i64))])] }
theorem E_frame_Sum (p0 : Sl) : denF Tryz.prog H_frame_Sum Tryz.f64 [.sc (.int .u32)] [.slice p0.a p0.n p0.c] = F_frame_Sum p0 := by kernel_rfl
theorem C_frame_Sum {R : Type} (p0 : Sl) (K : Res [.sc (.int .u32)] → W R) (Q : R → World → Prop) (w : World) (h : F_frame_Sum p0 (fun r w => K r Q w) w) : callW Tryz.prog k_frame_Sum [.slice p0.a p0.n p0.c] [.sc (.int .u32)] K Q w :=
  den_calls mix Tryz.func64 H_frame_Sum (ts := [.sc (.int .u32)]) trivial (by rw [Tryz.ntmps64]; simp) (by rw [E_frame_Sum]; exact h)
def F_bytes_Clone (b0 : Sl) : W (Sl) :=
  cond (Option.isNone b0.a)
    (retW (⟨none, 0, 0⟩ : Sl))
    (newW 5 [] fun x_1 =>
  rawW Tryz.prog (Builtin.append_ #[22, 22] 22 #[.slice (some x_1) 0 0, .slice b0.a b0.n b0.c]) [.sc .sl] fun (x_2 : Sl) =>
  retW x_2)
def H_bytes_Clone : Hints := {}
theorem E_bytes_Clone (b0 : Sl) : denF Tryz.prog H_bytes_Clone Tryz.f65 [.sc .sl] [.slice b0.a b0.n b0.c] = F_bytes_Clone b0 := by kernel_rfl
theorem C_bytes_Clone {R : Type} (b0 : Sl) (K : Res [.sc .sl] → W R) (Q : R → World → Prop) (w : World) (h : F_bytes_Clone b0 (fun r w => K r Q w) w) : callW Tryz.prog k_bytes_Clone [.slice b0.a b0.n b0.c] [.sc .sl] K Q w :=
  den_calls mix Tryz.func65 H_bytes_Clone (ts := [.sc .sl]) trivial (by rw [Tryz.ntmps65]; simp) (by rw [E_bytes_Clone]; exact h)
def F_bits_Read (p0 : Sl) : W ((Option Addr)) :=
  callW Tryz.prog k_bytes_Clone [.slice p0.a p0.n p0.c] [.sc .sl] fun (x_1 : Sl) =>
  newW 173 [.slice x_1.a x_1.n x_1.c, .int .i64 0] fun x_2 =>
  retW (some x_2)
def H_bits_Read : Hints := {}
theorem E_bits_Read (p0 : Sl) : denF Tryz.prog H_bits_Read Tryz.f67 [.sc .ptr] [.slice p0.a p0.n p0.c] = F_bits_Read p0 := by kernel_rfl
theorem C_bits_Read {R : Type} (p0 : Sl) (K : Res [.sc .ptr] → W R) (Q : R → World → Prop) (w : World) (h : F_bits_Read p0 (fun r w => K r Q w) w) : callW Tryz.prog k_bits_Read [.slice p0.a p0.n p0.c] [.sc .ptr] K Q w :=
  den_calls mix Tryz.func67 H_bits_Read (ts := [.sc .ptr]) trivial (by rw [Tryz.ntmps67]; simp) (by rw [E_bits_Read]; exact h)
def F_packet_reader_head (d0 : (Option Addr)) : W (((Int × Int × Int × Int × Int)) ⊕ List PanicEntry) :=
  newW 62 [.pointer d0] fun o_1 =>
  newW 30 [.int .u8 0, .int .u8 0, .int .u32 0, .int .u32 0, .int .u32 0] fun x_2 =>
  joinW (σ := (Option Addr)) (fun J_3 =>
    drawW <|
    bothW
      (ld (.sc .ptr) (Addr.add o_1 0) fun (x_4 : Option Addr) =>
      ld (.sc .ptr) (Addr.add o_1 0) fun (x_5 : Option Addr) =>
      callW Tryz.prog k_nums_GetIn [.pointer x_4, .int .i64 1, .int .i64 5] [.sc (.int .i64), .sc (.int .i64)] fun (x_6 : Int × Int) =>
      andW (fun w => Rd w (Addr.add o_1 0) (.sc .ptr) x_5) <|
      callP Tryz.prog k_packet_must_int64 [.int .i64 x_6.1, .int .i64 x_6.2] [.sc (.int .i64)] fun (x_7 : Int) =>
      andW (fun w => Rd w (Addr.add o_1 0) (.sc .ptr) x_5) <|
      callW Tryz.prog k_nums_GetIn [.pointer x_5, .int .i64 0, .int .i64 15] [.sc (.int .i64), .sc (.int .i64)] fun (x_8 : Int × Int) =>
      callP Tryz.prog k_packet_must_int64 [.int .i64 x_8.1, .int .i64 x_8.2] [.sc (.int .i64)] fun (x_9 : Int) =>
      newW 30 [.int .u8 0, .int .u8 0, .int .u32 0, .int .u32 0, .int .u32 0] fun x_10 =>
      stoL x_10 [.int .u8 (IntKind.wrap .u8 x_7), .int .u8 (IntKind.wrap .u8 x_9), .int .u32 0, .int .u32 0, .int .u32 0] 0 <|
      J_3 (some x_10))
      (bothW
      (ld (.sc .ptr) (Addr.add o_1 0) fun (x_11 : Option Addr) =>
      ld (.sc .ptr) (Addr.add o_1 0) fun (x_12 : Option Addr) =>
      callW Tryz.prog k_nums_GetIn [.pointer x_11, .int .i64 1, .int .i64 5] [.sc (.int .i64), .sc (.int .i64)] fun (x_13 : Int × Int) =>
      andW (fun w => Rd w (Addr.add o_1 0) (.sc .ptr) x_12) <|
      callP Tryz.prog k_packet_must_int64 [.int .i64 x_13.1, .int .i64 x_13.2] [.sc (.int .i64)] fun (x_14 : Int) =>
      andW (fun w => Rd w (Addr.add o_1 0) (.sc .ptr) x_12) <|
      callW Tryz.prog k_nums_GetIn [.pointer x_12, .int .i64 0, .int .i64 15] [.sc (.int .i64), .sc (.int .i64)] fun (x_15 : Int × Int) =>
      newW 30 [.int .u8 0, .int .u8 0, .int .u32 0, .int .u32 0, .int .u32 0] fun x_16 =>
      callP Tryz.prog k_packet_must_int64 [.int .i64 x_15.1, .int .i64 x_15.2] [.sc (.int .i64)] fun (x_17 : Int) =>
      stoL x_16 [.int .u8 (IntKind.wrap .u8 x_14), .int .u8 (IntKind.wrap .u8 x_17), .int .u32 0, .int .u32 0, .int .u32 0] 0 <|
      J_3 (some x_16))
      (bothW
      (ld (.sc .ptr) (Addr.add o_1 0) fun (x_18 : Option Addr) =>
      ld (.sc .ptr) (Addr.add o_1 0) fun (x_19 : Option Addr) =>
      callW Tryz.prog k_nums_GetIn [.pointer x_18, .int .i64 1, .int .i64 5] [.sc (.int .i64), .sc (.int .i64)] fun (x_20 : Int × Int) =>
      andW (fun w => Rd w (Addr.add o_1 0) (.sc .ptr) x_19) <|
      callP Tryz.prog k_packet_must_int64 [.int .i64 x_20.1, .int .i64 x_20.2] [.sc (.int .i64)] fun (x_21 : Int) =>
      andW (fun w => Rd w (Addr.add o_1 0) (.sc .ptr) x_19) <|
      newW 30 [.int .u8 0, .int .u8 0, .int .u32 0, .int .u32 0, .int .u32 0] fun x_22 =>
      callW Tryz.prog k_nums_GetIn [.pointer x_19, .int .i64 0, .int .i64 15] [.sc (.int .i64), .sc (.int .i64)] fun (x_23 : Int × Int) =>
      callP Tryz.prog k_packet_must_int64 [.int .i64 x_23.1, .int .i64 x_23.2] [.sc (.int .i64)] fun (x_24 : Int) =>
      stoL x_22 [.int .u8 (IntKind.wrap .u8 x_21), .int .u8 (IntKind.wrap .u8 x_24), .int .u32 0, .int .u32 0, .int .u32 0] 0 <|
      J_3 (some x_22))
      (bothW
      (ld (.sc .ptr) (Addr.add o_1 0) fun (x_25 : Option Addr) =>
      ld (.sc .ptr) (Addr.add o_1 0) fun (x_26 : Option Addr) =>
      callW Tryz.prog k_nums_GetIn [.pointer x_25, .int .i64 1, .int .i64 5] [.sc (.int .i64), .sc (.int .i64)] fun (x_27 : Int × Int) =>
      andW (fun w => Rd w (Addr.add o_1 0) (.sc .ptr) x_26) <|
      newW 30 [.int .u8 0, .int .u8 0, .int .u32 0, .int .u32 0, .int .u32 0] fun x_28 =>
      callP Tryz.prog k_packet_must_int64 [.int .i64 x_27.1, .int .i64 x_27.2] [.sc (.int .i64)] fun (x_29 : Int) =>
      andW (fun w => Rd w (Addr.add o_1 0) (.sc .ptr) x_26) <|
      callW Tryz.prog k_nums_GetIn [.pointer x_26, .int .i64 0, .int .i64 15] [.sc (.int .i64), .sc (.int .i64)] fun (x_30 : Int × Int) =>
      callP Tryz.prog k_packet_must_int64 [.int .i64 x_30.1, .int .i64 x_30.2] [.sc (.int .i64)] fun (x_31 : Int) =>
      stoL x_28 [.int .u8 (IntKind.wrap .u8 x_29), .int .u8 (IntKind.wrap .u8 x_31), .int .u32 0, .int .u32 0, .int .u32 0] 0 <|
      J_3 (some x_28))
      (ld (.sc .ptr) (Addr.add o_1 0) fun (x_32 : Option Addr) =>
      ld (.sc .ptr) (Addr.add o_1 0) fun (x_33 : Option Addr) =>
      newW 30 [.int .u8 0, .int .u8 0, .int .u32 0, .int .u32 0, .int .u32 0] fun x_34 =>
      callW Tryz.prog k_nums_GetIn [.pointer x_32, .int .i64 1, .int .i64 5] [.sc (.int .i64), .sc (.int .i64)] fun (x_35 : Int × Int) =>
      andW (fun w => Rd w (Addr.add o_1 0) (.sc .ptr) x_33) <|
      callP Tryz.prog k_packet_must_int64 [.int .i64 x_35.1, .int .i64 x_35.2] [.sc (.int .i64)] fun (x_36 : Int) =>
      andW (fun w => Rd w (Addr.add o_1 0) (.sc .ptr) x_33) <|
      callW Tryz.prog k_nums_GetIn [.pointer x_33, .int .i64 0, .int .i64 15] [.sc (.int .i64), .sc (.int .i64)] fun (x_37 : Int × Int) =>
      callP Tryz.prog k_packet_must_int64 [.int .i64 x_37.1, .int .i64 x_37.2] [.sc (.int .i64)] fun (x_38 : Int) =>
      stoL x_34 [.int .u8 (IntKind.wrap .u8 x_36), .int .u8 (IntKind.wrap .u8 x_38), .int .u32 0, .int .u32 0, .int .u32 0] 0 <|
      J_3 (some x_34))))))
  <| fun s_39 =>
  ld (.agg [.ptr]) o_1 fun (x_40 : (Option Addr)) =>
  callP Tryz.prog k_packet_reader_count [.agg ⟨[.pointer x_40]⟩] [.sc (.int .u64)] fun (x_41 : Int) =>
  ptrW s_39 fun x_42 =>
  stoL (Addr.add x_42 2) [.int .u32 (IntKind.wrap .u32 x_41)] 0 <|
  ptrW s_39 fun x_43 =>
  ld (.sc (.int .u8)) (Addr.add x_43 0) fun (x_44 : Int) =>
  joinW (σ := Unit) (fun J_45 =>
    cond (decide (x_44 ≤ 3))
      (ld (.agg [.ptr]) o_1 fun (x_46 : (Option Addr)) =>
      callP Tryz.prog k_packet_reader_plain [.agg ⟨[.pointer x_46]⟩, .int .i64 32] [.sc (.int .u64)] fun (x_47 : Int) =>
      ptrW s_39 fun x_48 =>
      stoL (Addr.add x_48 3) [.int .u32 (IntKind.wrap .u32 x_47)] 0 <|
      J_45 ())
      (J_45 ()))
  <| fun s_49 =>
  ptrW s_39 fun x_50 =>
  ld (.sc (.int .u8)) (Addr.add x_50 0) fun (x_51 : Int) =>
  joinW (σ := Unit) (fun J_52 =>
    cond (x_51 == 2)
      (ld (.agg [.ptr]) o_1 fun (x_53 : (Option Addr)) =>
      callP Tryz.prog k_packet_reader_count [.agg ⟨[.pointer x_53]⟩] [.sc (.int .u64)] fun (x_54 : Int) =>
      ptrW s_39 fun x_55 =>
      ld (.sc (.int .u32)) (Addr.add x_55 3) fun (x_56 : Int) =>
      joinW (σ := Unit) (fun J_57 =>
        cond (decide (x_54 ≥ (IntKind.wrap .u64 x_56)))
          (panW (.iface 171 (.agg ⟨[]⟩)))
          (J_57 ()))
      <| fun s_58 =>
      ptrW s_39 fun x_59 =>
      ld (.sc (.int .u32)) (Addr.add x_59 3) fun (x_60 : Int) =>
      ptrW s_39 fun x_61 =>
      stoL (Addr.add x_61 4) [.int .u32 (IntKind.wrap .u32 ((IntKind.wrap .u32 (x_60 - (IntKind.wrap .u32 x_54))) - 1))] 0 <|
      J_52 ())
      (J_52 ()))
  <| fun s_62 =>
  joinW (σ := Bool) (fun J_63 =>
    ptrW s_39 fun x_64 =>
    ld (.sc (.int .u32)) (Addr.add x_64 2) fun (x_65 : Int) =>
    cond ((IntKind.wrap .u64 x_65) != x_41)
      (J_63 true)
      (ptrW s_39 fun x_66 =>
      ld (.agg [.int .u8, .int .u8, .int .u32, .int .u32, .int .u32]) x_66 fun (x_67 : (Int × Int × Int × Int × Int)) =>
      callW Tryz.prog k_packet_Check [.agg ⟨[.int .u8 x_67.1, .int .u8 x_67.2.1, .int .u32 x_67.2.2.1, .int .u32 x_67.2.2.2.1, .int .u32 x_67.2.2.2.2]⟩] [.sc (.int .i64)] fun (x_68 : Int) =>
        J_63 (x_68 != 0)))
  <| fun s_69 =>
  joinW (σ := Unit) (fun J_70 =>
    cond s_69
      (panW (.iface 171 (.agg ⟨[]⟩)))
      (J_70 ()))
  <| fun s_71 =>
  ptrW s_39 fun x_72 =>
  ld (.agg [.int .u8, .int .u8, .int .u32, .int .u32, .int .u32]) x_72 fun (x_73 : (Int × Int × Int × Int × Int)) =>
  stoL x_2 [.int .u8 x_73.1, .int .u8 x_73.2.1, .int .u32 x_73.2.2.1, .int .u32 x_73.2.2.2.1, .int .u32 x_73.2.2.2.2] 0 <|
  ld (.agg [.int .u8, .int .u8, .int .u32, .int .u32, .int .u32]) x_2 fun (x_74 : (Int × Int × Int × Int × Int)) =>
  retW (.inl x_74)
def H_packet_reader_head : Hints := { reg := [(1, [(3, .sc .ptr)]), (11, [(61, .sc .bool)])], con := [(6028, []), (10042, []), (8035, []), (13061, [])], dr := [(1, ([(2, 15), (5, 15), (9, 15), (12, 15)], [[(0, []), (1, []), (7, []), (8, []), (2, [8]), (3, []), (4, []), (5, [8]), (6, []), (9, []), (10, []), (11, []), (12, []), (13, []), (14, []), (15, []), (16, [])], [(0, []), (1, []), (7, []), (8, []), (2, [8]), (3, []), (4, []), (5, [8]), (6, []), (9, []), (10, []), (11, []), (15, []), (12, []), (13, []), (14, []), (16, [])], [(0, []), (1, []), (7, []), (8, []), (2, [8]), (3, []), (4, []), (5, [8]), (6, []), (15, []), (9, []), (10, []), (11, []), (12, []), (13, []), (14, []), (16, [])], [(0, []), (1, []), (7, []), (8, []), (2, [8]), (3, []), (4, []), (15, []), (5, [8]), (6, []), (9, []), (10, []), (11, []), (12, []), (13, []), (14, []), (16, [])], [(0, []), (1, []), (7, []), (8, []), (15, []), (2, [8]), (3, []), (4, []), (5, [8]), (6, []), (9, []), (10, []), (11, []), (12, []), (13, []), (14, []), (16, [])]]))], mp := [106, 108, 109] }
set_option maxRecDepth 100000 in
theorem E_packet_reader_head (d0 : (Option Addr)) : denFP Tryz.prog H_packet_reader_head Tryz.f68 [.agg [.int .u8, .int .u8, .int .u32, .int .u32, .int .u32]] [.agg ⟨[.pointer d0]⟩] = F_packet_reader_head d0 := by kernel_rfl
theorem C_packet_reader_head {R : Type} [Pan R] (d0 : (Option Addr)) (K : Res [.agg [.int .u8, .int .u8, .int .u32, .int .u32, .int .u32]] → W R) (Q : R → World → Prop) (w : World) (h : F_packet_reader_head d0 (kP K Q) w) : callP Tryz.prog k_packet_reader_head [.agg ⟨[.pointer d0]⟩] [.agg [.int .u8, .int .u8, .int .u32, .int .u32, .int .u32]] K Q w :=
  den_callsP mix Tryz.func68 H_packet_reader_head (ts := [.agg [.int .u8, .int .u8, .int .u32, .int .u32, .int .u32]]) (post := kP K Q) ⟨by kernel_rfl, trivial⟩ (by rw [Tryz.ntmps68]; simp) (by rw [E_packet_reader_head]; exact h)
def F_snap_one (e0 : (Int × Sl)) : W (Int) :=
  newW 57 [.int .u32 e0.1, .slice e0.2.a e0.2.n e0.2.c] fun e_1 =>
  ld (.sc (.int .u32)) (Addr.add e_1 0) fun (x_2 : Int) =>
  callW Tryz.prog k_slots_Gen [.int .u32 x_2] [.sc (.int .i64)] fun (x_3 : Int) =>
  joinW (σ := Bool) (fun J_4 =>
    cond (decide (x_3 < 1))
      (J_4 true)
      (J_4 (decide (x_3 > 4194303))))
  <| fun s_5 =>
  cond s_5
    (retW 4)
    (ld (.sc .sl) (Addr.add e_1 1) fun (x_6 : Sl) =>
  callW Tryz.prog k_schema_List [.slice x_6.a x_6.n x_6.c] [.sc (.int .i64)] fun (x_7 : Int) =>
  retW x_7)
def H_snap_one : Hints := { reg := [(2, [(12, .sc .bool)])] }
theorem E_snap_one (e0 : (Int × Sl)) : denF Tryz.prog H_snap_one Tryz.f69 [.sc (.int .i64)] [.agg ⟨[.int .u32 e0.1, .slice e0.2.a e0.2.n e0.2.c]⟩] = F_snap_one e0 := by kernel_rfl
theorem C_snap_one {R : Type} (e0 : (Int × Sl)) (K : Res [.sc (.int .i64)] → W R) (Q : R → World → Prop) (w : World) (h : F_snap_one e0 (fun r w => K r Q w) w) : callW Tryz.prog k_snap_one [.agg ⟨[.int .u32 e0.1, .slice e0.2.a e0.2.n e0.2.c]⟩] [.sc (.int .i64)] K Q w :=
  den_calls mix Tryz.func69 H_snap_one (ts := [.sc (.int .i64)]) trivial (by rw [Tryz.ntmps69]; simp) (by rw [E_snap_one]; exact h)
def F_slices_ContainsFunc_Comp__snap_secret (s0 : Sl) : W (Bool) :=
  callW Tryz.prog k_slices_IndexFunc_Comp [.slice s0.a s0.n s0.c, .func (.func 71) #[] #[]] [.sc (.int .i64)] fun (x_1 : Int) =>
  retW (decide (x_1 ≥ 0))
def H_slices_ContainsFunc_Comp__snap_secret : Hints := {}
theorem E_slices_ContainsFunc_Comp__snap_secret (s0 : Sl) : denF Tryz.prog H_slices_ContainsFunc_Comp__snap_secret Tryz.f70 [.sc .bool] [.slice s0.a s0.n s0.c, .func (.func 71) #[] #[]] = F_slices_ContainsFunc_Comp__snap_secret s0 := by kernel_rfl
theorem C_slices_ContainsFunc_Comp__snap_secret {R : Type} (s0 : Sl) (K : Res [.sc .bool] → W R) (Q : R → World → Prop) (w : World) (h : F_slices_ContainsFunc_Comp__snap_secret s0 (fun r w => K r Q w) w) : callW Tryz.prog k_slices_ContainsFunc_Comp [.slice s0.a s0.n s0.c, .func (.func 71) #[] #[]] [.sc .bool] K Q w :=
  den_calls mix Tryz.func70 H_slices_ContainsFunc_Comp__snap_secret (ts := [.sc .bool]) trivial (by rw [Tryz.ntmps70]; simp) (by rw [E_slices_ContainsFunc_Comp__snap_secret]; exact h)
def F_snap_secret (c0 : (Int × Int × Int × Int)) : W (Bool) :=
  newW 92 [.int .u8 c0.1, .int .i32 c0.2.1, .int .i32 c0.2.2.1, .int .i32 c0.2.2.2] fun c_1 =>
  ld (.sc (.int .u8)) (Addr.add c_1 0) fun (x_2 : Int) =>
  callW Tryz.prog k_schema_Told [.int .u8 x_2] [.sc .bool] fun (x_3 : Bool) =>
  retW (!x_3)
def H_snap_secret : Hints := {}
theorem E_snap_secret (c0 : (Int × Int × Int × Int)) : denF Tryz.prog H_snap_secret Tryz.f71 [.sc .bool] [.agg ⟨[.int .u8 c0.1, .int .i32 c0.2.1, .int .i32 c0.2.2.1, .int .i32 c0.2.2.2]⟩] = F_snap_secret c0 := by kernel_rfl
theorem C_snap_secret {R : Type} (c0 : (Int × Int × Int × Int)) (K : Res [.sc .bool] → W R) (Q : R → World → Prop) (w : World) (h : F_snap_secret c0 (fun r w => K r Q w) w) : callW Tryz.prog k_snap_secret [.agg ⟨[.int .u8 c0.1, .int .i32 c0.2.1, .int .i32 c0.2.2.1, .int .i32 c0.2.2.2]⟩] [.sc .bool] K Q w :=
  den_calls mix Tryz.func71 H_snap_secret (ts := [.sc .bool]) trivial (by rw [Tryz.ntmps71]; simp) (by rw [E_snap_secret]; exact h)
def F_packet_reader_ents (r0 : (Option Addr)) : W ((Sl) ⊕ List PanicEntry) :=
  newW 62 [.pointer r0] fun r_1 =>
  newW 54 [.int .u32 0] fun last_2 =>
  stoL last_2 [.int .u32 0] 0 <|
  ld (.agg [.ptr]) r_1 fun (x_3 : (Option Addr)) =>
  callP Tryz.prog k_packet_reader_count [.agg ⟨[.pointer x_3]⟩] [.sc (.int .u64)] fun (x_4 : Int) =>
  loopW (σ := Sl × Int) (fun K_5 s_6 =>
    cond (decide (s_6.2 > 0))
      (ld (.agg [.ptr]) r_1 fun (x_7 : (Option Addr)) =>
    callP Tryz.prog k_packet_reader_id [.agg ⟨[.pointer x_7]⟩, .pointer (some last_2)] [.sc (.int .u32)] fun (x_8 : Int) =>
    newW 57 [.int .u32 0, .slice none 0 0] fun e_9 =>
    stoL e_9 [.int .u32 x_8, .slice none 0 0] 0 <|
    drawW <|
    ld (.agg [.ptr]) r_1 fun (x_10 : (Option Addr)) =>
    ld (.agg [.ptr]) r_1 fun (x_11 : (Option Addr)) =>
    callP Tryz.prog k_packet_reader_plain [.agg ⟨[.pointer x_11]⟩, .int .i64 5] [.sc (.int .u64)] fun (x_12 : Int) =>
    andW (fun w => Rd w r_1 (.agg [.ptr]) x_10) <|
    callP Tryz.prog k_packet_reader_comps [.agg ⟨[.pointer x_10]⟩, .int .u64 x_12] [.sc .sl] fun (x_13 : Sl) =>
    stoL (Addr.add e_9 1) [.slice x_13.a x_13.n x_13.c] 0 <|
    ld (.agg [.int .u32, .sl]) e_9 fun (x_14 : (Int × Sl)) =>
    newW 57 [.int .u32 x_14.1, .slice x_14.2.a x_14.2.n x_14.2.c] fun x_15 =>
    rawW Tryz.prog (Builtin.append_ #[23, 23] 23 #[.slice s_6.1.a s_6.1.n s_6.1.c, .slice (some x_15) 1 1]) [.sc .sl] fun (x_16 : Sl) =>
    K_5 (x_16, IntKind.wrap .u64 (s_6.2 - 1)))
      (retW (.inl s_6.1)))
    ((⟨none, 0, 0⟩ : Sl), x_4)
def H_packet_reader_ents : Hints := { lop := [(0, [(3, .sc .sl), (5, .sc (.int .u64))])], dr := [(7, ([], [[(0, []), (1, []), (2, [0]), (3, []), (4, []), (5, [])]]))], mp := [108, 109, 114, 115] }
theorem E_packet_reader_ents (r0 : (Option Addr)) : denFP Tryz.prog H_packet_reader_ents Tryz.f72 [.sc .sl] [.agg ⟨[.pointer r0]⟩] = F_packet_reader_ents r0 := by kernel_rfl
theorem C_packet_reader_ents {R : Type} [Pan R] (r0 : (Option Addr)) (K : Res [.sc .sl] → W R) (Q : R → World → Prop) (w : World) (h : F_packet_reader_ents r0 (kP K Q) w) : callP Tryz.prog k_packet_reader_ents [.agg ⟨[.pointer r0]⟩] [.sc .sl] K Q w :=
  den_callsP mix Tryz.func72 H_packet_reader_ents (ts := [.sc .sl]) (post := kP K Q) trivial (by rw [Tryz.ntmps72]; simp) (by rw [E_packet_reader_ents]; exact h)
def F_diff_Patch (d0 : Sl) (o1 : (Sl × Sl × Sl)) : W (Sl × Int) :=
  newW 80 [.slice o1.1.a o1.1.n o1.1.c, .slice o1.2.1.a o1.2.1.n o1.2.1.c, .slice o1.2.2.a o1.2.2.n o1.2.2.c] fun x_1 =>
  callW Tryz.prog k_snap_Form [.slice d0.a d0.n d0.c] [.sc (.int .i64)] fun (x_2 : Int) =>
  cond (x_2 != 0)
    (retW ((⟨none, 0, 0⟩ : Sl), x_2))
    (loopW (σ := Sl × Int) (fun K_3 s_4 =>
    cond (decide (s_4.2 < (d0.n : Int)))
      (joinW (σ := Sl) (fun J_5 =>
      idxW d0.a d0.n 2 s_4.2 fun x_6 =>
      ld (.agg [.int .u32, .sl]) x_6 fun (x_7 : (Int × Sl)) =>
      newW 57 [.int .u32 0, .slice none 0 0] fun x_8 =>
      stoL x_8 [.int .u32 x_7.1, .slice x_7.2.a x_7.2.n x_7.2.c] 0 <|
      ld (.sc .sl) (Addr.add x_1 0) fun (x_9 : Sl) =>
      ld (.sc (.int .u32)) (Addr.add x_8 0) fun (x_10 : Int) =>
      callW Tryz.prog k_slices_Contains_ID [.slice x_9.a x_9.n x_9.c, .int .u32 x_10] [.sc .bool] fun (x_11 : Bool) =>
      cond x_11
        (J_5 s_4.1)
        (ld (.sc .sl) (Addr.add x_1 2) fun (x_12 : Sl) =>
      callW Tryz.prog k_slices_IndexFunc_Change [.slice x_12.a x_12.n x_12.c, .func (.func 118) #[] #[.pointer (some x_8)]] [.sc (.int .i64)] fun (x_13 : Int) =>
      joinW (σ := Unit) (fun J_14 =>
        cond (decide (x_13 ≥ 0))
          (drawW <|
          ld (.agg [.int .u32, .sl]) x_8 fun (x_15 : (Int × Sl)) =>
          ld (.sc .sl) (Addr.add x_1 2) fun (x_16 : Sl) =>
          idxW x_16.a x_16.n 4 x_13 fun x_17 =>
          ld (.agg [.int .u32, .int .u8, .sl, .sl]) x_17 fun (x_18 : (Int × Int × Sl × Sl)) =>
          callW Tryz.prog k_diff_turn [.agg ⟨[.int .u32 x_15.1, .slice x_15.2.a x_15.2.n x_15.2.c]⟩, .agg ⟨[.int .u32 x_18.1, .int .u8 x_18.2.1, .slice x_18.2.2.1.a x_18.2.2.1.n x_18.2.2.1.c, .slice x_18.2.2.2.a x_18.2.2.2.n x_18.2.2.2.c]⟩] [.agg [.int .u32, .sl]] fun (x_19 : (Int × Sl)) =>
          stoL x_8 [.int .u32 x_19.1, .slice x_19.2.a x_19.2.n x_19.2.c] 0 <|
          J_14 ())
          (J_14 ()))
      <| fun s_20 =>
      ld (.agg [.int .u32, .sl]) x_8 fun (x_21 : (Int × Sl)) =>
      newW 57 [.int .u32 x_21.1, .slice x_21.2.a x_21.2.n x_21.2.c] fun x_22 =>
      rawW Tryz.prog (Builtin.append_ #[23, 23] 23 #[.slice s_4.1.a s_4.1.n s_4.1.c, .slice (some x_22) 1 1]) [.sc .sl] fun (x_23 : Sl) =>
      J_5 x_23))
    <| fun s_24 =>
    K_3 (s_24, IntKind.wrap .i64 (s_4.2 + 1)))
      (ld (.sc .sl) (Addr.add x_1 1) fun (x_25 : Sl) =>
  rawW Tryz.prog (Builtin.append_ #[23, 23] 23 #[.slice s_4.1.a s_4.1.n s_4.1.c, .slice x_25.a x_25.n x_25.c]) [.sc .sl] fun (x_26 : Sl) =>
  callW Tryz.prog k_slices_SortStableFunc_Ent [.slice x_26.a x_26.n x_26.c, .func (.func 121) #[] #[]] [] fun (x_27 : Unit) =>
  callW Tryz.prog k_diff_Diff [.slice d0.a d0.n d0.c, .slice x_26.a x_26.n x_26.c] [.agg [.sl, .sl, .sl], .sc (.int .i64)] fun (x_28 : (Sl × Sl × Sl) × Int) =>
  newW 80 [.slice none 0 0, .slice none 0 0, .slice none 0 0] fun x_29 =>
  stoL x_29 [.slice x_28.1.1.a x_28.1.1.n x_28.1.1.c, .slice x_28.1.2.1.a x_28.1.2.1.n x_28.1.2.1.c, .slice x_28.1.2.2.a x_28.1.2.2.n x_28.1.2.2.c] 0 <|
  joinW (σ := Bool) (fun J_30 =>
    cond (x_28.2 != 0)
      (J_30 true)
      (ld (.agg [.sl, .sl, .sl]) x_29 fun (x_31 : (Sl × Sl × Sl)) =>
      ld (.agg [.sl, .sl, .sl]) x_1 fun (x_32 : (Sl × Sl × Sl)) =>
        callW Tryz.prog k_diff_same [.agg ⟨[.slice x_31.1.a x_31.1.n x_31.1.c, .slice x_31.2.1.a x_31.2.1.n x_31.2.1.c, .slice x_31.2.2.a x_31.2.2.n x_31.2.2.c]⟩, .agg ⟨[.slice x_32.1.a x_32.1.n x_32.1.c, .slice x_32.2.1.a x_32.2.1.n x_32.2.1.c, .slice x_32.2.2.a x_32.2.2.n x_32.2.2.c]⟩] [.sc .bool] fun (x_33 : Bool) =>
          J_30 (!x_33)))
  <| fun s_34 =>
  cond s_34
    (retW ((⟨none, 0, 0⟩ : Sl), 4))
    (callW Tryz.prog k_snap_Copy [.slice x_26.a x_26.n x_26.c] [.sc .sl] fun (x_35 : Sl) =>
  retW (x_35, 0))))
    ((⟨none, 0, 0⟩ : Sl), 0))
def H_diff_Patch : Hints := { reg := [(17, [(66, .sc .bool)])], con := [(12034, [])], blk := [(1, [(7, .sc .sl)])], lop := [(0, [(7, .sc .sl), (20, .sc (.int .i64))])], dr := [(11, ([], [[(0, []), (1, []), (2, []), (3, []), (4, []), (5, []), (6, []), (7, [])]]))] }
theorem E_diff_Patch (d0 : Sl) (o1 : (Sl × Sl × Sl)) : denF Tryz.prog H_diff_Patch Tryz.f73 [.sc .sl, .sc (.int .i64)] [.slice d0.a d0.n d0.c, .agg ⟨[.slice o1.1.a o1.1.n o1.1.c, .slice o1.2.1.a o1.2.1.n o1.2.1.c, .slice o1.2.2.a o1.2.2.n o1.2.2.c]⟩] = F_diff_Patch d0 o1 := by kernel_rfl
theorem C_diff_Patch {R : Type} (d0 : Sl) (o1 : (Sl × Sl × Sl)) (K : Res [.sc .sl, .sc (.int .i64)] → W R) (Q : R → World → Prop) (w : World) (h : F_diff_Patch d0 o1 (fun r w => K r Q w) w) : callW Tryz.prog k_diff_Patch [.slice d0.a d0.n d0.c, .agg ⟨[.slice o1.1.a o1.1.n o1.1.c, .slice o1.2.1.a o1.2.1.n o1.2.1.c, .slice o1.2.2.a o1.2.2.n o1.2.2.c]⟩] [.sc .sl, .sc (.int .i64)] K Q w :=
  den_calls mix Tryz.func73 H_diff_Patch (ts := [.sc .sl, .sc (.int .i64)]) trivial (by rw [Tryz.ntmps73]; simp) (by rw [E_diff_Patch]; exact h)
def F_packet_reader_delta (d0 : (Option Addr)) (o1 : Sl) : W (((Sl × Sl × Sl)) ⊕ List PanicEntry) :=
  newW 62 [.pointer d0] fun x_1 =>
  newW 80 [.slice none 0 0, .slice none 0 0, .slice none 0 0] fun x_2 =>
  newW 80 [.slice none 0 0, .slice none 0 0, .slice none 0 0] fun x_3 =>
  newW 54 [.int .u32 0] fun x_4 =>
  stoL x_4 [.int .u32 0] 0 <|
  ld (.agg [.ptr]) x_1 fun (x_5 : (Option Addr)) =>
  callP Tryz.prog k_packet_reader_count [.agg ⟨[.pointer x_5]⟩] [.sc (.int .u64)] fun (x_6 : Int) =>
  loopW (σ := Int) (fun K_7 s_8 =>
    cond (decide (s_8 > 0))
      (drawW <|
    ld (.sc .sl) (Addr.add x_3 0) fun (x_9 : Sl) =>
    ld (.agg [.ptr]) x_1 fun (x_10 : (Option Addr)) =>
    callP Tryz.prog k_packet_reader_id [.agg ⟨[.pointer x_10]⟩, .pointer (some x_4)] [.sc (.int .u32)] fun (x_11 : Int) =>
    andW (fun w => Rd w (Addr.add x_3 0) (.sc .sl) x_9) <|
    newW 54 [.int .u32 x_11] fun x_12 =>
    rawW Tryz.prog (Builtin.append_ #[77, 77] 77 #[.slice x_9.a x_9.n x_9.c, .slice (some x_12) 1 1]) [.sc .sl] fun (x_13 : Sl) =>
    stoL (Addr.add x_3 0) [.slice x_13.a x_13.n x_13.c] 0 <|
    K_7 (IntKind.wrap .u64 (s_8 - 1)))
      (ld (.agg [.ptr]) x_1 fun (x_14 : (Option Addr)) =>
  callP Tryz.prog k_packet_reader_ents [.agg ⟨[.pointer x_14]⟩] [.sc .sl] fun (x_15 : Sl) =>
  stoL (Addr.add x_3 1) [.slice x_15.a x_15.n x_15.c] 0 <|
  stoL x_4 [.int .u32 0] 0 <|
  ld (.agg [.ptr]) x_1 fun (x_16 : (Option Addr)) =>
  callP Tryz.prog k_packet_reader_count [.agg ⟨[.pointer x_16]⟩] [.sc (.int .u64)] fun (x_17 : Int) =>
  loopW (σ := Int) (fun K_18 s_19 =>
    cond (decide (s_19 > 0))
      (ld (.agg [.ptr]) x_1 fun (x_20 : (Option Addr)) =>
    callP Tryz.prog k_packet_reader_id [.agg ⟨[.pointer x_20]⟩, .pointer (some x_4)] [.sc (.int .u32)] fun (x_21 : Int) =>
    newW 86 [.int .u32 0, .int .u8 0, .slice none 0 0, .slice none 0 0] fun x_22 =>
    stoL x_22 [.int .u32 x_21, .int .u8 0, .slice none 0 0, .slice none 0 0] 0 <|
    ld (.agg [.ptr]) x_1 fun (x_23 : (Option Addr)) =>
    callP Tryz.prog k_packet_reader_plain [.agg ⟨[.pointer x_23]⟩, .int .i64 5] [.sc (.int .u64)] fun (x_24 : Int) =>
    stoL (Addr.add x_22 1) [.int .u8 (IntKind.wrap .u8 x_24)] 0 <|
    drawW <|
    ld (.agg [.ptr]) x_1 fun (x_25 : (Option Addr)) =>
    ld (.agg [.ptr]) x_1 fun (x_26 : (Option Addr)) =>
    callP Tryz.prog k_packet_reader_plain [.agg ⟨[.pointer x_25]⟩, .int .i64 5] [.sc (.int .u64)] fun (x_27 : Int) =>
    andW (fun w => Rd w x_1 (.agg [.ptr]) x_26) <|
    callP Tryz.prog k_packet_reader_plain [.agg ⟨[.pointer x_26]⟩, .int .i64 5] [.sc (.int .u64)] fun (x_28 : Int) =>
    ld (.agg [.ptr]) x_1 fun (x_29 : (Option Addr)) =>
    callP Tryz.prog k_packet_reader_comps [.agg ⟨[.pointer x_29]⟩, .int .u64 x_27] [.sc .sl] fun (x_30 : Sl) =>
    stoL (Addr.add x_22 2) [.slice x_30.a x_30.n x_30.c] 0 <|
    callW Tryz.prog k_packet_kinds [.int .u64 x_28] [.sc .sl] fun (x_31 : Sl) =>
    loopW (σ := Int) (fun K_32 s_33 =>
      cond (decide (s_33 < (x_31.n : Int)))
        (idxW x_31.a x_31.n 1 s_33 fun x_34 =>
      ld (.sc (.int .u8)) x_34 fun (x_35 : Int) =>
      ld (.sc (.int .u32)) (Addr.add x_22 0) fun (x_36 : Int) =>
      callW Tryz.prog k_packet_old [.slice o1.a o1.n o1.c, .int .u32 x_36, .int .u8 x_35] [.agg [.int .u8, .int .i32, .int .i32, .int .i32]] fun (x_37 : (Int × Int × Int × Int)) =>
      newW 92 [.int .u8 0, .int .i32 0, .int .i32 0, .int .i32 0] fun x_38 =>
      stoL x_38 [.int .u8 x_37.1, .int .i32 x_37.2.1, .int .i32 x_37.2.2.1, .int .i32 x_37.2.2.2] 0 <|
      ld (.sc (.int .u8)) (Addr.add x_38 0) fun (x_39 : Int) =>
      joinW (σ := Unit) (fun J_40 =>
        cond (x_39 != x_35)
          (panW (.iface 171 (.agg ⟨[]⟩)))
          (J_40 ()))
      <| fun s_41 =>
      drawW <|
      ld (.sc .sl) (Addr.add x_22 3) fun (x_42 : Sl) =>
      ld (.sc .ptr) (Addr.add x_1 0) fun (x_43 : Option Addr) =>
      ld (.agg [.int .u8, .int .i32, .int .i32, .int .i32]) x_38 fun (x_44 : (Int × Int × Int × Int)) =>
      callW Tryz.prog k_comp_GetStep [.pointer x_43, .agg ⟨[.int .u8 x_44.1, .int .i32 x_44.2.1, .int .i32 x_44.2.2.1, .int .i32 x_44.2.2.2]⟩] [.agg [.int .u8, .int .i32, .int .i32, .int .i32], .sc (.int .i64)] fun (x_45 : (Int × Int × Int × Int) × Int) =>
      andW (fun w => Rd w (Addr.add x_22 3) (.sc .sl) x_42) <|
      callP Tryz.prog k_packet_must_Comp [.agg ⟨[.int .u8 x_45.1.1, .int .i32 x_45.1.2.1, .int .i32 x_45.1.2.2.1, .int .i32 x_45.1.2.2.2]⟩, .int .i64 x_45.2] [.agg [.int .u8, .int .i32, .int .i32, .int .i32]] fun (x_46 : (Int × Int × Int × Int)) =>
      andW (fun w => Rd w (Addr.add x_22 3) (.sc .sl) x_42) <|
      newW 92 [.int .u8 x_46.1, .int .i32 x_46.2.1, .int .i32 x_46.2.2.1, .int .i32 x_46.2.2.2] fun x_47 =>
      rawW Tryz.prog (Builtin.append_ #[55, 55] 55 #[.slice x_42.a x_42.n x_42.c, .slice (some x_47) 1 1]) [.sc .sl] fun (x_48 : Sl) =>
      stoL (Addr.add x_22 3) [.slice x_48.a x_48.n x_48.c] 0 <|
      K_32 (IntKind.wrap .i64 (s_33 + 1)))
        (ld (.sc .sl) (Addr.add x_3 2) fun (x_49 : Sl) =>
    ld (.agg [.int .u32, .int .u8, .sl, .sl]) x_22 fun (x_50 : (Int × Int × Sl × Sl)) =>
    newW 86 [.int .u32 x_50.1, .int .u8 x_50.2.1, .slice x_50.2.2.1.a x_50.2.2.1.n x_50.2.2.1.c, .slice x_50.2.2.2.a x_50.2.2.2.n x_50.2.2.2.c] fun x_51 =>
    rawW Tryz.prog (Builtin.append_ #[78, 78] 78 #[.slice x_49.a x_49.n x_49.c, .slice (some x_51) 1 1]) [.sc .sl] fun (x_52 : Sl) =>
    stoL (Addr.add x_3 2) [.slice x_52.a x_52.n x_52.c] 0 <|
    K_18 (IntKind.wrap .u64 (s_19 - 1))))
      0)
      (ld (.agg [.sl, .sl, .sl]) x_3 fun (x_53 : (Sl × Sl × Sl)) =>
  stoL x_2 [.slice x_53.1.a x_53.1.n x_53.1.c, .slice x_53.2.1.a x_53.2.1.n x_53.2.1.c, .slice x_53.2.2.a x_53.2.2.n x_53.2.2.c] 0 <|
  ld (.agg [.sl, .sl, .sl]) x_2 fun (x_54 : (Sl × Sl × Sl)) =>
  retW (.inl x_54)))
    x_17))
    x_6
def H_packet_reader_delta : Hints := { con := [(22067, [])], lop := [(0, [(7, .sc (.int .u64))]), (2, [(8, .sc (.int .u64))]), (4, [(55, .sc (.int .i64))])], dr := [(6, ([], [[(0, []), (1, []), (2, []), (3, [1]), (4, []), (5, []), (6, []), (7, [])]])), (14, ([], [[(0, []), (2, []), (1, [2]), (3, []), (4, []), (5, [])]])), (22, ([], [[(0, []), (1, []), (2, []), (3, []), (4, []), (5, [1]), (6, []), (7, []), (8, [1]), (9, []), (10, []), (11, []), (12, [])]]))], mp := [72, 108, 109, 114, 115, 126] }
set_option maxRecDepth 100000 in
theorem E_packet_reader_delta (d0 : (Option Addr)) (o1 : Sl) : denFP Tryz.prog H_packet_reader_delta Tryz.f74 [.agg [.sl, .sl, .sl]] [.agg ⟨[.pointer d0]⟩, .slice o1.a o1.n o1.c] = F_packet_reader_delta d0 o1 := by kernel_rfl
theorem C_packet_reader_delta {R : Type} [Pan R] (d0 : (Option Addr)) (o1 : Sl) (K : Res [.agg [.sl, .sl, .sl]] → W R) (Q : R → World → Prop) (w : World) (h : F_packet_reader_delta d0 o1 (kP K Q) w) : callP Tryz.prog k_packet_reader_delta [.agg ⟨[.pointer d0]⟩, .slice o1.a o1.n o1.c] [.agg [.sl, .sl, .sl]] K Q w :=
  den_callsP mix Tryz.func74 H_packet_reader_delta (ts := [.agg [.sl, .sl, .sl]]) (post := kP K Q) ⟨by kernel_rfl, trivial⟩ (by rw [Tryz.ntmps74]; simp) (by rw [E_packet_reader_delta]; exact h)
def F_pinnaceref02_Zig (n0 : Int) : W (Int) :=
  cond (decide (n0 < 0))
    (retW (IntKind.wrap .u64 ((IntKind.wrap .u64 (2 * (IntKind.wrap .u64 (IntKind.wrap .i64 ((-1) - n0))))) + 1)))
    (retW (IntKind.wrap .u64 (2 * (IntKind.wrap .u64 n0))))
def H_pinnaceref02_Zig : Hints := {}
theorem E_pinnaceref02_Zig (n0 : Int) : denF Tryz.prog H_pinnaceref02_Zig Tryz.f86 [.sc (.int .u64)] [.int .i64 n0] = F_pinnaceref02_Zig n0 := by kernel_rfl
theorem C_pinnaceref02_Zig {R : Type} (n0 : Int) (K : Res [.sc (.int .u64)] → W R) (Q : R → World → Prop) (w : World) (h : F_pinnaceref02_Zig n0 (fun r w => K r Q w) w) : callW Tryz.prog k_pinnaceref02_Zig [.int .i64 n0] [.sc (.int .u64)] K Q w :=
  den_calls mix Tryz.func86 H_pinnaceref02_Zig (ts := [.sc (.int .u64)]) trivial (by rw [Tryz.ntmps86]; simp) (by rw [E_pinnaceref02_Zig]; exact h)
def F_nums_PutIn (w0 : Option Addr) (n1 : Int) (lo2 : Int) (hi3 : Int) : W (Int) :=
  cond (Option.isNone w0)
    (retW 10)
    (cond (decide (hi3 < lo2))
      (retW 1)
      (joinW (σ := Bool) (fun J_1 =>
        cond (decide (n1 < lo2))
          (J_1 true)
          (J_1 (decide (n1 > hi3))))
      <| fun s_2 =>
      cond s_2
        (retW 5)
        (callW Tryz.prog k_nums_Width [.int .i64 lo2, .int .i64 hi3] [.sc (.int .i64)] fun (x_3 : Int) =>
  callW Tryz.prog k_bits_Writer_Put [.pointer w0, .int .u64 (IntKind.wrap .u64 ((IntKind.wrap .u64 n1) - (IntKind.wrap .u64 lo2))), .int .i64 x_3] [.sc (.int .i64)] fun (x_4 : Int) =>
  retW x_4)))
def H_nums_PutIn : Hints := { reg := [(5, [(16, .sc .bool)])] }
theorem E_nums_PutIn (w0 : Option Addr) (n1 : Int) (lo2 : Int) (hi3 : Int) : denF Tryz.prog H_nums_PutIn Tryz.f91 [.sc (.int .i64)] [.pointer w0, .int .i64 n1, .int .i64 lo2, .int .i64 hi3] = F_nums_PutIn w0 n1 lo2 hi3 := by kernel_rfl
theorem C_nums_PutIn {R : Type} (w0 : Option Addr) (n1 : Int) (lo2 : Int) (hi3 : Int) (K : Res [.sc (.int .i64)] → W R) (Q : R → World → Prop) (w : World) (h : F_nums_PutIn w0 n1 lo2 hi3 (fun r w => K r Q w) w) : callW Tryz.prog k_nums_PutIn [.pointer w0, .int .i64 n1, .int .i64 lo2, .int .i64 hi3] [.sc (.int .i64)] K Q w :=
  den_calls mix Tryz.func91 H_nums_PutIn (ts := [.sc (.int .i64)]) trivial (by rw [Tryz.ntmps91]; simp) (by rw [E_nums_PutIn]; exact h)
def F_nums_PutVar (w0 : Option Addr) (v1 : Int) : W (Int) :=
  callW Tryz.prog k_nums_groups [.int .u64 v1] [.sc (.int .i64)] fun (x_1 : Int) =>
  cond (Option.isNone w0)
    (retW 10)
    (callW Tryz.prog k_bits_Writer_Len [.pointer w0] [.sc (.int .i64)] fun (x_2 : Int) =>
    cond (decide ((IntKind.wrap .i64 (x_2 + (IntKind.wrap .i64 (x_1 * 5)))) > 1048576))
      (retW 3)
      (loopW (σ := Int) (fun K_3 s_4 =>
    cond (decide (s_4 < x_1))
      (chkW (0 ≤ (IntKind.wrap .i64 (4 * s_4))) <|
    joinW (σ := Int) (fun J_5 =>
      cond (decide (s_4 < (IntKind.wrap .i64 (x_1 - 1))))
        (J_5 (bOr .u64 (bAnd .u64 (shR .u64 v1 (IntKind.wrap .i64 (4 * s_4))) 15) 16))
        (J_5 (bAnd .u64 (shR .u64 v1 (IntKind.wrap .i64 (4 * s_4))) 15)))
    <| fun s_6 =>
    callW Tryz.prog k_bits_Writer_Put [.pointer w0, .int .u64 s_6, .int .i64 5] [.sc (.int .i64)] fun (x_7 : Int) =>
    K_3 (IntKind.wrap .i64 (s_4 + 1)))
      (retW 0))
    0))
def H_nums_PutVar : Hints := { con := [(12032, [(7, .sc (.int .u64))])], lop := [(1, [(21, .sc (.int .i64))])] }
theorem E_nums_PutVar (w0 : Option Addr) (v1 : Int) : denF Tryz.prog H_nums_PutVar Tryz.f92 [.sc (.int .i64)] [.pointer w0, .int .u64 v1] = F_nums_PutVar w0 v1 := by kernel_rfl
theorem C_nums_PutVar {R : Type} (w0 : Option Addr) (v1 : Int) (K : Res [.sc (.int .i64)] → W R) (Q : R → World → Prop) (w : World) (h : F_nums_PutVar w0 v1 (fun r w => K r Q w) w) : callW Tryz.prog k_nums_PutVar [.pointer w0, .int .u64 v1] [.sc (.int .i64)] K Q w :=
  den_calls mix Tryz.func92 H_nums_PutVar (ts := [.sc (.int .i64)]) trivial (by rw [Tryz.ntmps92]; simp) (by rw [E_nums_PutVar]; exact h)
def F_packet_writer_plain (w0 : Option Addr) (v1 : Int) (n2 : Int) : W (Unit) :=
  ptrW w0 fun x_1 =>
  ld (.sc .ptr) (Addr.add x_1 0) fun (x_2 : Option Addr) =>
  callW Tryz.prog k_bits_Writer_Put [.pointer x_2, .int .u64 v1, .int .i64 n2] [.sc (.int .i64)] fun (x_3 : Int) =>
  callW Tryz.prog k_packet_writer_keep [.pointer w0, .int .i64 x_3] [] fun (x_4 : Unit) =>
  retW ()
def H_packet_writer_plain : Hints := {}
theorem E_packet_writer_plain (w0 : Option Addr) (v1 : Int) (n2 : Int) : denF Tryz.prog H_packet_writer_plain Tryz.f93 [] [.pointer w0, .int .u64 v1, .int .i64 n2] = F_packet_writer_plain w0 v1 n2 := by kernel_rfl
theorem C_packet_writer_plain {R : Type} (w0 : Option Addr) (v1 : Int) (n2 : Int) (K : Res [] → W R) (Q : R → World → Prop) (w : World) (h : F_packet_writer_plain w0 v1 n2 (fun r w => K r Q w) w) : callW Tryz.prog k_packet_writer_plain [.pointer w0, .int .u64 v1, .int .i64 n2] [] K Q w :=
  den_calls mix Tryz.func93 H_packet_writer_plain (ts := []) trivial (by rw [Tryz.ntmps93]; simp) (by rw [E_packet_writer_plain]; exact h)
def F_packet_writer_count (w0 : Option Addr) (n1 : Int) : W (Unit) :=
  ptrW w0 fun x_1 =>
  ld (.sc .ptr) (Addr.add x_1 0) fun (x_2 : Option Addr) =>
  callW Tryz.prog k_nums_PutVar [.pointer x_2, .int .u64 (IntKind.wrap .u64 n1)] [.sc (.int .i64)] fun (x_3 : Int) =>
  callW Tryz.prog k_packet_writer_keep [.pointer w0, .int .i64 x_3] [] fun (x_4 : Unit) =>
  retW ()
def H_packet_writer_count : Hints := {}
theorem E_packet_writer_count (w0 : Option Addr) (n1 : Int) : denF Tryz.prog H_packet_writer_count Tryz.f94 [] [.pointer w0, .int .i64 n1] = F_packet_writer_count w0 n1 := by kernel_rfl
theorem C_packet_writer_count {R : Type} (w0 : Option Addr) (n1 : Int) (K : Res [] → W R) (Q : R → World → Prop) (w : World) (h : F_packet_writer_count w0 n1 (fun r w => K r Q w) w) : callW Tryz.prog k_packet_writer_count [.pointer w0, .int .i64 n1] [] K Q w :=
  den_calls mix Tryz.func94 H_packet_writer_count (ts := []) trivial (by rw [Tryz.ntmps94]; simp) (by rw [E_packet_writer_count]; exact h)
def F_packet_writer_id (w0 : Option Addr) (last1 : Option Addr) (id2 : Int) : W (Unit) :=
  drawW <|
  ptrW w0 fun x_1 =>
  ld (.sc .ptr) (Addr.add x_1 0) fun (x_2 : Option Addr) =>
  ptrW last1 fun x_3 =>
  ld (.sc (.int .u32)) x_3 fun (x_4 : Int) =>
  callW Tryz.prog k_nums_PutVar [.pointer x_2, .int .u64 (IntKind.wrap .u64 (IntKind.wrap .u32 ((IntKind.wrap .u32 (id2 - x_4)) - 1)))] [.sc (.int .i64)] fun (x_5 : Int) =>
  callW Tryz.prog k_packet_writer_keep [.pointer w0, .int .i64 x_5] [] fun (x_6 : Unit) =>
  ptrW last1 fun x_7 =>
  stoL x_7 [.int .u32 id2] 0 <|
  retW ()
def H_packet_writer_id : Hints := { dr := [(0, ([], [[(0, []), (1, []), (2, []), (3, []), (4, []), (5, []), (6, []), (7, []), (8, []), (9, []), (10, []), (11, []), (12, []), (13, [])]]))] }
theorem E_packet_writer_id (w0 : Option Addr) (last1 : Option Addr) (id2 : Int) : denF Tryz.prog H_packet_writer_id Tryz.f95 [] [.pointer w0, .pointer last1, .int .u32 id2] = F_packet_writer_id w0 last1 id2 := by kernel_rfl
theorem C_packet_writer_id {R : Type} (w0 : Option Addr) (last1 : Option Addr) (id2 : Int) (K : Res [] → W R) (Q : R → World → Prop) (w : World) (h : F_packet_writer_id w0 last1 id2 (fun r w => K r Q w) w) : callW Tryz.prog k_packet_writer_id [.pointer w0, .pointer last1, .int .u32 id2] [] K Q w :=
  den_calls mix Tryz.func95 H_packet_writer_id (ts := []) trivial (by rw [Tryz.ntmps95]; simp) (by rw [E_packet_writer_id]; exact h)
def F_packet_writer_comps (w0 : Option Addr) (l1 : Sl) : W (Unit) :=
  loopW (σ := Int) (fun K_1 s_2 =>
    cond (decide (s_2 < (l1.n : Int)))
      (idxW l1.a l1.n 4 s_2 fun x_3 =>
    ld (.agg [.int .u8, .int .i32, .int .i32, .int .i32]) x_3 fun (x_4 : (Int × Int × Int × Int)) =>
    newW 92 [.int .u8 0, .int .i32 0, .int .i32 0, .int .i32 0] fun c_5 =>
    stoL c_5 [.int .u8 x_4.1, .int .i32 x_4.2.1, .int .i32 x_4.2.2.1, .int .i32 x_4.2.2.2] 0 <|
    drawW <|
    ptrW w0 fun x_6 =>
    ld (.sc .ptr) (Addr.add x_6 0) fun (x_7 : Option Addr) =>
    ld (.agg [.int .u8, .int .i32, .int .i32, .int .i32]) c_5 fun (x_8 : (Int × Int × Int × Int)) =>
    callW Tryz.prog k_comp_Put [.pointer x_7, .agg ⟨[.int .u8 x_8.1, .int .i32 x_8.2.1, .int .i32 x_8.2.2.1, .int .i32 x_8.2.2.2]⟩] [.sc (.int .i64)] fun (x_9 : Int) =>
    callW Tryz.prog k_packet_writer_keep [.pointer w0, .int .i64 x_9] [] fun (x_10 : Unit) =>
    K_1 (IntKind.wrap .i64 (s_2 + 1)))
      (retW ()))
    0
def H_packet_writer_comps : Hints := { lop := [(0, [(8, .sc (.int .i64))])], dr := [(3, ([], [[(0, []), (1, []), (2, []), (3, []), (4, []), (5, []), (6, []), (7, [])]]))] }
theorem E_packet_writer_comps (w0 : Option Addr) (l1 : Sl) : denF Tryz.prog H_packet_writer_comps Tryz.f97 [] [.pointer w0, .slice l1.a l1.n l1.c] = F_packet_writer_comps w0 l1 := by kernel_rfl
theorem C_packet_writer_comps {R : Type} (w0 : Option Addr) (l1 : Sl) (K : Res [] → W R) (Q : R → World → Prop) (w : World) (h : F_packet_writer_comps w0 l1 (fun r w => K r Q w) w) : callW Tryz.prog k_packet_writer_comps [.pointer w0, .slice l1.a l1.n l1.c] [] K Q w :=
  den_calls mix Tryz.func97 H_packet_writer_comps (ts := []) trivial (by rw [Tryz.ntmps97]; simp) (by rw [E_packet_writer_comps]; exact h)
def F_diff_change (was0 : (Int × Sl)) (now1 : (Int × Sl)) : W ((Int × Int × Sl × Sl)) :=
  newW 57 [.int .u32 was0.1, .slice was0.2.a was0.2.n was0.2.c] fun was_1 =>
  newW 57 [.int .u32 now1.1, .slice now1.2.a now1.2.n now1.2.c] fun now_2 =>
  newW 86 [.int .u32 0, .int .u8 0, .slice none 0 0, .slice none 0 0] fun x_3 =>
  joinW (σ := (Option Addr)) (fun J_4 =>
    drawW <|
    bothW
      (ld (.sc (.int .u32)) (Addr.add now_2 0) fun (x_5 : Int) =>
      ld (.sc .sl) (Addr.add was_1 1) fun (x_6 : Sl) =>
      ld (.sc .sl) (Addr.add now_2 1) fun (x_7 : Sl) =>
      callW Tryz.prog k_schema_Mask [.slice x_6.a x_6.n x_6.c] [.sc (.int .u8)] fun (x_8 : Int) =>
      andW (fun w => Rd w (Addr.add now_2 1) (.sc .sl) x_7) <|
      andW (fun w => Rd w (Addr.add now_2 0) (.sc (.int .u32)) x_5) <|
      callW Tryz.prog k_schema_Mask [.slice x_7.a x_7.n x_7.c] [.sc (.int .u8)] fun (x_9 : Int) =>
      andW (fun w => Rd w (Addr.add now_2 0) (.sc (.int .u32)) x_5) <|
      newW 86 [.int .u32 0, .int .u8 0, .slice none 0 0, .slice none 0 0] fun d_10 =>
      stoL d_10 [.int .u32 x_5, .int .u8 (bNot .u8 x_8 x_9), .slice none 0 0, .slice none 0 0] 0 <|
      J_4 (some d_10))
      (bothW
      (ld (.sc (.int .u32)) (Addr.add now_2 0) fun (x_11 : Int) =>
      ld (.sc .sl) (Addr.add was_1 1) fun (x_12 : Sl) =>
      ld (.sc .sl) (Addr.add now_2 1) fun (x_13 : Sl) =>
      callW Tryz.prog k_schema_Mask [.slice x_12.a x_12.n x_12.c] [.sc (.int .u8)] fun (x_14 : Int) =>
      andW (fun w => Rd w (Addr.add now_2 1) (.sc .sl) x_13) <|
      andW (fun w => Rd w (Addr.add now_2 0) (.sc (.int .u32)) x_11) <|
      newW 86 [.int .u32 0, .int .u8 0, .slice none 0 0, .slice none 0 0] fun d_15 =>
      callW Tryz.prog k_schema_Mask [.slice x_13.a x_13.n x_13.c] [.sc (.int .u8)] fun (x_16 : Int) =>
      andW (fun w => Rd w (Addr.add now_2 0) (.sc (.int .u32)) x_11) <|
      stoL d_15 [.int .u32 x_11, .int .u8 (bNot .u8 x_14 x_16), .slice none 0 0, .slice none 0 0] 0 <|
      J_4 (some d_15))
      (ld (.sc (.int .u32)) (Addr.add now_2 0) fun (x_17 : Int) =>
      ld (.sc .sl) (Addr.add was_1 1) fun (x_18 : Sl) =>
      ld (.sc .sl) (Addr.add now_2 1) fun (x_19 : Sl) =>
      newW 86 [.int .u32 0, .int .u8 0, .slice none 0 0, .slice none 0 0] fun d_20 =>
      callW Tryz.prog k_schema_Mask [.slice x_18.a x_18.n x_18.c] [.sc (.int .u8)] fun (x_21 : Int) =>
      andW (fun w => Rd w (Addr.add now_2 1) (.sc .sl) x_19) <|
      andW (fun w => Rd w (Addr.add now_2 0) (.sc (.int .u32)) x_17) <|
      callW Tryz.prog k_schema_Mask [.slice x_19.a x_19.n x_19.c] [.sc (.int .u8)] fun (x_22 : Int) =>
      andW (fun w => Rd w (Addr.add now_2 0) (.sc (.int .u32)) x_17) <|
      stoL d_20 [.int .u32 x_17, .int .u8 (bNot .u8 x_21 x_22), .slice none 0 0, .slice none 0 0] 0 <|
      J_4 (some d_20))))
  <| fun s_23 =>
  ld (.sc .sl) (Addr.add now_2 1) fun (x_24 : Sl) =>
  loopW (σ := Int) (fun K_25 s_26 =>
    cond (decide (s_26 < (x_24.n : Int)))
      (idxW x_24.a x_24.n 4 s_26 fun x_27 =>
    ld (.agg [.int .u8, .int .i32, .int .i32, .int .i32]) x_27 fun (x_28 : (Int × Int × Int × Int)) =>
    newW 92 [.int .u8 0, .int .i32 0, .int .i32 0, .int .i32 0] fun c_29 =>
    stoL c_29 [.int .u8 x_28.1, .int .i32 x_28.2.1, .int .i32 x_28.2.2.1, .int .i32 x_28.2.2.2] 0 <|
    ld (.sc .sl) (Addr.add was_1 1) fun (x_30 : Sl) =>
    ld (.sc (.int .u8)) (Addr.add c_29 0) fun (x_31 : Int) =>
    callW Tryz.prog k_diff_find [.slice x_30.a x_30.n x_30.c, .int .u8 x_31] [.agg [.int .u8, .int .i32, .int .i32, .int .i32], .sc .bool] fun (x_32 : (Int × Int × Int × Int) × Bool) =>
    newW 92 [.int .u8 0, .int .i32 0, .int .i32 0, .int .i32 0] fun x_33 =>
    stoL x_33 [.int .u8 x_32.1.1, .int .i32 x_32.1.2.1, .int .i32 x_32.1.2.2.1, .int .i32 x_32.1.2.2.2] 0 <|
    joinW (σ := Unit) (fun J_34 =>
      cond (!x_32.2)
        (ptrW s_23 fun x_35 =>
        ld (.sc .sl) (Addr.add x_35 2) fun (x_36 : Sl) =>
        ld (.agg [.int .u8, .int .i32, .int .i32, .int .i32]) c_29 fun (x_37 : (Int × Int × Int × Int)) =>
        newW 92 [.int .u8 x_37.1, .int .i32 x_37.2.1, .int .i32 x_37.2.2.1, .int .i32 x_37.2.2.2] fun x_38 =>
        rawW Tryz.prog (Builtin.append_ #[55, 55] 55 #[.slice x_36.a x_36.n x_36.c, .slice (some x_38) 1 1]) [.sc .sl] fun (x_39 : Sl) =>
        ptrW s_23 fun x_40 =>
        stoL (Addr.add x_40 2) [.slice x_39.a x_39.n x_39.c] 0 <|
        J_34 ())
        (ld (.agg [.int .u8, .int .i32, .int .i32, .int .i32]) x_33 fun (x_41 : (Int × Int × Int × Int)) =>
        ld (.agg [.int .u8, .int .i32, .int .i32, .int .i32]) c_29 fun (x_42 : (Int × Int × Int × Int)) =>
        rawQ Tryz.prog (do Go.eqGuard .neq 92 (.tmp 45) (.tmp 46) (.agg ⟨[.int .u8 x_41.1, .int .i32 x_41.2.1, .int .i32 x_41.2.2.1, .int .i32 x_41.2.2.2]⟩) (.agg ⟨[.int .u8 x_42.1, .int .i32 x_42.2.1, .int .i32 x_42.2.2.1, .int .i32 x_42.2.2.2]⟩); Go.binOp .neq 92 (.agg ⟨[.int .u8 x_41.1, .int .i32 x_41.2.1, .int .i32 x_41.2.2.1, .int .i32 x_41.2.2.2]⟩) (.agg ⟨[.int .u8 x_42.1, .int .i32 x_42.2.1, .int .i32 x_42.2.2.1, .int .i32 x_42.2.2.2]⟩)) [.sc .bool] fun (x_43 : Bool) =>
        joinW (σ := Unit) (fun J_44 =>
          cond x_43
            (ptrW s_23 fun x_45 =>
            ld (.sc .sl) (Addr.add x_45 3) fun (x_46 : Sl) =>
            ld (.agg [.int .u8, .int .i32, .int .i32, .int .i32]) c_29 fun (x_47 : (Int × Int × Int × Int)) =>
            newW 92 [.int .u8 x_47.1, .int .i32 x_47.2.1, .int .i32 x_47.2.2.1, .int .i32 x_47.2.2.2] fun x_48 =>
            rawW Tryz.prog (Builtin.append_ #[55, 55] 55 #[.slice x_46.a x_46.n x_46.c, .slice (some x_48) 1 1]) [.sc .sl] fun (x_49 : Sl) =>
            ptrW s_23 fun x_50 =>
            stoL (Addr.add x_50 3) [.slice x_49.a x_49.n x_49.c] 0 <|
            J_44 ())
            (J_44 ()))
        <| fun s_51 =>
        J_34 ()))
    <| fun s_52 =>
    K_25 (IntKind.wrap .i64 (s_26 + 1)))
      (ptrW s_23 fun x_53 =>
  ld (.agg [.int .u32, .int .u8, .sl, .sl]) x_53 fun (x_54 : (Int × Int × Sl × Sl)) =>
  stoL x_3 [.int .u32 x_54.1, .int .u8 x_54.2.1, .slice x_54.2.2.1.a x_54.2.2.1.n x_54.2.2.1.c, .slice x_54.2.2.2.a x_54.2.2.2.n x_54.2.2.2.c] 0 <|
  ld (.agg [.int .u32, .int .u8, .sl, .sl]) x_3 fun (x_55 : (Int × Int × Sl × Sl)) =>
  retW x_55))
    0
def H_diff_change : Hints := { reg := [(1, [(5, .sc .ptr)])], con := [(10044, []), (8035, [])], lop := [(0, [(23, .sc (.int .i64))])], dr := [(1, ([(4, 10), (7, 10)], [[(0, []), (1, []), (2, []), (3, []), (5, []), (6, []), (4, [1, 6]), (7, [1]), (8, []), (9, []), (10, []), (11, [])], [(0, []), (1, []), (2, []), (3, []), (5, []), (6, []), (4, [1, 6]), (10, []), (7, [1]), (8, []), (9, []), (11, [])], [(0, []), (1, []), (2, []), (3, []), (5, []), (6, []), (10, []), (4, [1, 6]), (7, [1]), (8, []), (9, []), (11, [])]]))] }
set_option maxRecDepth 100000 in
theorem E_diff_change (was0 : (Int × Sl)) (now1 : (Int × Sl)) : denF Tryz.prog H_diff_change Tryz.f99 [.agg [.int .u32, .int .u8, .sl, .sl]] [.agg ⟨[.int .u32 was0.1, .slice was0.2.a was0.2.n was0.2.c]⟩, .agg ⟨[.int .u32 now1.1, .slice now1.2.a now1.2.n now1.2.c]⟩] = F_diff_change was0 now1 := by kernel_rfl
theorem C_diff_change {R : Type} (was0 : (Int × Sl)) (now1 : (Int × Sl)) (K : Res [.agg [.int .u32, .int .u8, .sl, .sl]] → W R) (Q : R → World → Prop) (w : World) (h : F_diff_change was0 now1 (fun r w => K r Q w) w) : callW Tryz.prog k_diff_change [.agg ⟨[.int .u32 was0.1, .slice was0.2.a was0.2.n was0.2.c]⟩, .agg ⟨[.int .u32 now1.1, .slice now1.2.a now1.2.n now1.2.c]⟩] [.agg [.int .u32, .int .u8, .sl, .sl]] K Q w :=
  den_calls mix Tryz.func99 H_diff_change (ts := [.agg [.int .u32, .int .u8, .sl, .sl]]) ⟨by kernel_rfl, trivial⟩ (by rw [Tryz.ntmps99]; simp) (by rw [E_diff_change]; exact h)
def F_diff_nothing (d0 : (Int × Int × Sl × Sl)) : W (Bool) :=
  newW 86 [.int .u32 d0.1, .int .u8 d0.2.1, .slice d0.2.2.1.a d0.2.2.1.n d0.2.2.1.c, .slice d0.2.2.2.a d0.2.2.2.n d0.2.2.2.c] fun d_1 =>
  joinW (σ := Bool) (fun J_2 =>
    ld (.sc (.int .u8)) (Addr.add d_1 1) fun (x_3 : Int) =>
    cond (x_3 == 0)
      (ld (.sc .sl) (Addr.add d_1 2) fun (x_4 : Sl) =>
        cond ((x_4.n : Int) == 0)
              (ld (.sc .sl) (Addr.add d_1 3) fun (x_5 : Sl) =>
                J_2 ((x_5.n : Int) == 0))
              (J_2 false))
      (J_2 false))
  <| fun s_6 =>
  retW s_6
def H_diff_nothing : Hints := { reg := [(1, [(2, .sc .bool)])] }
theorem E_diff_nothing (d0 : (Int × Int × Sl × Sl)) : denF Tryz.prog H_diff_nothing Tryz.f100 [.sc .bool] [.agg ⟨[.int .u32 d0.1, .int .u8 d0.2.1, .slice d0.2.2.1.a d0.2.2.1.n d0.2.2.1.c, .slice d0.2.2.2.a d0.2.2.2.n d0.2.2.2.c]⟩] = F_diff_nothing d0 := by kernel_rfl
theorem C_diff_nothing {R : Type} (d0 : (Int × Int × Sl × Sl)) (K : Res [.sc .bool] → W R) (Q : R → World → Prop) (w : World) (h : F_diff_nothing d0 (fun r w => K r Q w) w) : callW Tryz.prog k_diff_nothing [.agg ⟨[.int .u32 d0.1, .int .u8 d0.2.1, .slice d0.2.2.1.a d0.2.2.1.n d0.2.2.1.c, .slice d0.2.2.2.a d0.2.2.2.n d0.2.2.2.c]⟩] [.sc .bool] K Q w :=
  den_calls mix Tryz.func100 H_diff_nothing (ts := [.sc .bool]) trivial (by rw [Tryz.ntmps100]; simp) (by rw [E_diff_nothing]; exact h)
def F_comp_PutStep (w0 : Option Addr) (was1 : (Int × Int × Int × Int)) (c2 : (Int × Int × Int × Int)) : W (Int) :=
  newW 92 [.int .u8 was1.1, .int .i32 was1.2.1, .int .i32 was1.2.2.1, .int .i32 was1.2.2.2] fun was_1 =>
  newW 92 [.int .u8 c2.1, .int .i32 c2.2.1, .int .i32 c2.2.2.1, .int .i32 c2.2.2.2] fun c_2 =>
  cond (Option.isNone w0)
    (retW 10)
    (ld (.agg [.int .u8, .int .i32, .int .i32, .int .i32]) was_1 fun (x_3 : (Int × Int × Int × Int)) =>
  ld (.agg [.int .u8, .int .i32, .int .i32, .int .i32]) c_2 fun (x_4 : (Int × Int × Int × Int)) =>
  callW Tryz.prog k_comp_pair [.agg ⟨[.int .u8 x_3.1, .int .i32 x_3.2.1, .int .i32 x_3.2.2.1, .int .i32 x_3.2.2.2]⟩, .agg ⟨[.int .u8 x_4.1, .int .i32 x_4.2.1, .int .i32 x_4.2.2.1, .int .i32 x_4.2.2.2]⟩] [.sc (.int .i64)] fun (x_5 : Int) =>
  cond (x_5 != 0)
    (retW x_5)
    (ld (.agg [.int .u8, .int .i32, .int .i32, .int .i32]) was_1 fun (x_6 : (Int × Int × Int × Int)) =>
  ld (.agg [.int .u8, .int .i32, .int .i32, .int .i32]) c_2 fun (x_7 : (Int × Int × Int × Int)) =>
  callW Tryz.prog k_comp_step [.agg ⟨[.int .u8 x_6.1, .int .i32 x_6.2.1, .int .i32 x_6.2.2.1, .int .i32 x_6.2.2.2]⟩, .agg ⟨[.int .u8 x_7.1, .int .i32 x_7.2.1, .int .i32 x_7.2.2.1, .int .i32 x_7.2.2.2]⟩] [.sc .sl] fun (x_8 : Sl) =>
  callW Tryz.prog k_comp_put [.pointer w0, .slice x_8.a x_8.n x_8.c] [.sc (.int .i64)] fun (x_9 : Int) =>
  retW x_9))
def H_comp_PutStep : Hints := {}
theorem E_comp_PutStep (w0 : Option Addr) (was1 : (Int × Int × Int × Int)) (c2 : (Int × Int × Int × Int)) : denF Tryz.prog H_comp_PutStep Tryz.f101 [.sc (.int .i64)] [.pointer w0, .agg ⟨[.int .u8 was1.1, .int .i32 was1.2.1, .int .i32 was1.2.2.1, .int .i32 was1.2.2.2]⟩, .agg ⟨[.int .u8 c2.1, .int .i32 c2.2.1, .int .i32 c2.2.2.1, .int .i32 c2.2.2.2]⟩] = F_comp_PutStep w0 was1 c2 := by kernel_rfl
theorem C_comp_PutStep {R : Type} (w0 : Option Addr) (was1 : (Int × Int × Int × Int)) (c2 : (Int × Int × Int × Int)) (K : Res [.sc (.int .i64)] → W R) (Q : R → World → Prop) (w : World) (h : F_comp_PutStep w0 was1 c2 (fun r w => K r Q w) w) : callW Tryz.prog k_comp_PutStep [.pointer w0, .agg ⟨[.int .u8 was1.1, .int .i32 was1.2.1, .int .i32 was1.2.2.1, .int .i32 was1.2.2.2]⟩, .agg ⟨[.int .u8 c2.1, .int .i32 c2.2.1, .int .i32 c2.2.2.1, .int .i32 c2.2.2.2]⟩] [.sc (.int .i64)] K Q w :=
  den_calls mix Tryz.func101 H_comp_PutStep (ts := [.sc (.int .i64)]) trivial (by rw [Tryz.ntmps101]; simp) (by rw [E_comp_PutStep]; exact h)
def F_packet_old (was0 : Sl) (id1 : Int) (kind2 : Int) : W ((Int × Int × Int × Int)) :=
  newW 92 [.int .u8 0, .int .i32 0, .int .i32 0, .int .i32 0] fun x_1 =>
  callW Tryz.prog k_snap_Find [.slice was0.a was0.n was0.c, .int .u32 id1] [.sc (.int .i64)] fun (x_2 : Int) =>
  cond (decide (x_2 < 0))
    (stoL x_1 [.int .u8 0, .int .i32 0, .int .i32 0, .int .i32 0] 0 <|
    ld (.agg [.int .u8, .int .i32, .int .i32, .int .i32]) x_1 fun (x_3 : (Int × Int × Int × Int)) =>
    retW x_3)
    (idxW was0.a was0.n 2 x_2 fun x_4 =>
  ld (.sc .sl) (Addr.add x_4 1) fun (x_5 : Sl) =>
  loopW (σ := Int) (fun K_6 s_7 =>
    cond (decide (s_7 < (x_5.n : Int)))
      (idxW x_5.a x_5.n 4 s_7 fun x_8 =>
    ld (.agg [.int .u8, .int .i32, .int .i32, .int .i32]) x_8 fun (x_9 : (Int × Int × Int × Int)) =>
    newW 92 [.int .u8 0, .int .i32 0, .int .i32 0, .int .i32 0] fun c_10 =>
    stoL c_10 [.int .u8 x_9.1, .int .i32 x_9.2.1, .int .i32 x_9.2.2.1, .int .i32 x_9.2.2.2] 0 <|
    ld (.sc (.int .u8)) (Addr.add c_10 0) fun (x_11 : Int) =>
    cond (x_11 == kind2)
      (ld (.agg [.int .u8, .int .i32, .int .i32, .int .i32]) c_10 fun (x_12 : (Int × Int × Int × Int)) =>
      stoL x_1 [.int .u8 x_12.1, .int .i32 x_12.2.1, .int .i32 x_12.2.2.1, .int .i32 x_12.2.2.2] 0 <|
      ld (.agg [.int .u8, .int .i32, .int .i32, .int .i32]) x_1 fun (x_13 : (Int × Int × Int × Int)) =>
      retW x_13)
      (K_6 (IntKind.wrap .i64 (s_7 + 1))))
      (stoL x_1 [.int .u8 0, .int .i32 0, .int .i32 0, .int .i32 0] 0 <|
  ld (.agg [.int .u8, .int .i32, .int .i32, .int .i32]) x_1 fun (x_14 : (Int × Int × Int × Int)) =>
  retW x_14))
    0)
def H_packet_old : Hints := { lop := [(0, [(22, .sc (.int .i64))])] }
theorem E_packet_old (was0 : Sl) (id1 : Int) (kind2 : Int) : denF Tryz.prog H_packet_old Tryz.f102 [.agg [.int .u8, .int .i32, .int .i32, .int .i32]] [.slice was0.a was0.n was0.c, .int .u32 id1, .int .u8 kind2] = F_packet_old was0 id1 kind2 := by kernel_rfl
theorem C_packet_old {R : Type} (was0 : Sl) (id1 : Int) (kind2 : Int) (K : Res [.agg [.int .u8, .int .i32, .int .i32, .int .i32]] → W R) (Q : R → World → Prop) (w : World) (h : F_packet_old was0 id1 kind2 (fun r w => K r Q w) w) : callW Tryz.prog k_packet_old [.slice was0.a was0.n was0.c, .int .u32 id1, .int .u8 kind2] [.agg [.int .u8, .int .i32, .int .i32, .int .i32]] K Q w :=
  den_calls mix Tryz.func102 H_packet_old (ts := [.agg [.int .u8, .int .i32, .int .i32, .int .i32]]) ⟨by kernel_rfl, trivial⟩ (by rw [Tryz.ntmps102]; simp) (by rw [E_packet_old]; exact h)
def F_pinnaceref02_In (n0 : Int) (lo1 : Int) (hi2 : Int) : W (Sl × Int) :=
  cond (decide (hi2 < lo1))
    (retW ((⟨none, 0, 0⟩ : Sl), 1))
    (joinW (σ := Bool) (fun J_1 =>
    cond (decide (n0 < lo1))
      (J_1 true)
      (J_1 (decide (n0 > hi2))))
  <| fun s_2 =>
  cond s_2
    (retW ((⟨none, 0, 0⟩ : Sl), 5))
    (callW Tryz.prog k_pinnaceref02_Width [.int .i64 lo1, .int .i64 hi2] [.sc (.int .i64)] fun (x_3 : Int) =>
  callW Tryz.prog k_pinnaceref01_Put [.slice none 0 0, .int .u64 (IntKind.wrap .u64 ((IntKind.wrap .u64 n0) - (IntKind.wrap .u64 lo1))), .int .i64 x_3] [.sc .sl, .sc (.int .i64)] fun (x_4 : Sl × Int) =>
  retW (x_4.1, 0)))
def H_pinnaceref02_In : Hints := { reg := [(3, [(20, .sc .bool)])] }
theorem E_pinnaceref02_In (n0 : Int) (lo1 : Int) (hi2 : Int) : denF Tryz.prog H_pinnaceref02_In Tryz.f103 [.sc .sl, .sc (.int .i64)] [.int .i64 n0, .int .i64 lo1, .int .i64 hi2] = F_pinnaceref02_In n0 lo1 hi2 := by kernel_rfl
theorem C_pinnaceref02_In {R : Type} (n0 : Int) (lo1 : Int) (hi2 : Int) (K : Res [.sc .sl, .sc (.int .i64)] → W R) (Q : R → World → Prop) (w : World) (h : F_pinnaceref02_In n0 lo1 hi2 (fun r w => K r Q w) w) : callW Tryz.prog k_pinnaceref02_In [.int .i64 n0, .int .i64 lo1, .int .i64 hi2] [.sc .sl, .sc (.int .i64)] K Q w :=
  den_calls mix Tryz.func103 H_pinnaceref02_In (ts := [.sc .sl, .sc (.int .i64)]) trivial (by rw [Tryz.ntmps103]; simp) (by rw [E_pinnaceref02_In]; exact h)
def F_pinnaceref06_Put (c0 : (Int × Int × Int × Int)) : W (Sl × Int) :=
  newW 92 [.int .u8 c0.1, .int .i32 c0.2.1, .int .i32 c0.2.2.1, .int .i32 c0.2.2.2] fun c_1 =>
  ld (.agg [.int .u8, .int .i32, .int .i32, .int .i32]) c_1 fun (x_2 : (Int × Int × Int × Int)) =>
  callW Tryz.prog k_pinnaceref05_Check [.agg ⟨[.int .u8 x_2.1, .int .i32 x_2.2.1, .int .i32 x_2.2.2.1, .int .i32 x_2.2.2.2]⟩] [.sc (.int .i64)] fun (x_3 : Int) =>
  cond (x_3 != 0)
    (retW ((⟨none, 0, 0⟩ : Sl), x_3))
    (ld (.sc (.int .u8)) (Addr.add c_1 0) fun (x_4 : Int) =>
  callW Tryz.prog k_pinnaceref05_Count [.int .u8 x_4] [.sc (.int .i64)] fun (x_5 : Int) =>
  loopW (σ := Sl × Int) (fun K_6 s_7 =>
    cond (decide (s_7.2 < x_5))
      (ld (.sc (.int .u8)) (Addr.add c_1 0) fun (x_8 : Int) =>
    callW Tryz.prog k_pinnaceref05_Range [.int .u8 x_8, .int .i64 s_7.2] [.sc (.int .i32), .sc (.int .i32), .sc (.int .i64)] fun (x_9 : Int × Int × Int) =>
    idxW (some (Addr.add c_1 1)) 3 1 s_7.2 fun x_10 =>
    ld (.sc (.int .i32)) x_10 fun (x_11 : Int) =>
    callW Tryz.prog k_pinnaceref02_In [.int .i64 (IntKind.wrap .i64 x_11), .int .i64 (IntKind.wrap .i64 x_9.1), .int .i64 (IntKind.wrap .i64 x_9.2.1)] [.sc .sl, .sc (.int .i64)] fun (x_12 : Sl × Int) =>
    rawW Tryz.prog (Builtin.append_ #[70, 70] 70 #[.slice s_7.1.a s_7.1.n s_7.1.c, .slice x_12.1.a x_12.1.n x_12.1.c]) [.sc .sl] fun (x_13 : Sl) =>
    K_6 (x_13, IntKind.wrap .i64 (s_7.2 + 1)))
      (retW (s_7.1, 0)))
    ((⟨none, 0, 0⟩ : Sl), 0))
def H_pinnaceref06_Put : Hints := { lop := [(0, [(5, .sc .sl), (20, .sc (.int .i64))])] }
theorem E_pinnaceref06_Put (c0 : (Int × Int × Int × Int)) : denF Tryz.prog H_pinnaceref06_Put Tryz.f104 [.sc .sl, .sc (.int .i64)] [.agg ⟨[.int .u8 c0.1, .int .i32 c0.2.1, .int .i32 c0.2.2.1, .int .i32 c0.2.2.2]⟩] = F_pinnaceref06_Put c0 := by kernel_rfl
theorem C_pinnaceref06_Put {R : Type} (c0 : (Int × Int × Int × Int)) (K : Res [.sc .sl, .sc (.int .i64)] → W R) (Q : R → World → Prop) (w : World) (h : F_pinnaceref06_Put c0 (fun r w => K r Q w) w) : callW Tryz.prog k_pinnaceref06_Put [.agg ⟨[.int .u8 c0.1, .int .i32 c0.2.1, .int .i32 c0.2.2.1, .int .i32 c0.2.2.2]⟩] [.sc .sl, .sc (.int .i64)] K Q w :=
  den_calls mix Tryz.func104 H_pinnaceref06_Put (ts := [.sc .sl, .sc (.int .i64)]) trivial (by rw [Tryz.ntmps104]; simp) (by rw [E_pinnaceref06_Put]; exact h)
def F_frame_step (c0 : Int) : W (Int) :=
  cond ((bAnd .u32 c0 1) != 0)
    (retW (bXor .u32 (shR .u32 c0 1) 3988292384))
    (retW (shR .u32 c0 1))
def H_frame_step : Hints := {}
theorem E_frame_step (c0 : Int) : denF Tryz.prog H_frame_step Tryz.f105 [.sc (.int .u32)] [.int .u32 c0] = F_frame_step c0 := by kernel_rfl
theorem C_frame_step {R : Type} (c0 : Int) (K : Res [.sc (.int .u32)] → W R) (Q : R → World → Prop) (w : World) (h : F_frame_step c0 (fun r w => K r Q w) w) : callW Tryz.prog k_frame_step [.int .u32 c0] [.sc (.int .u32)] K Q w :=
  den_calls mix Tryz.func105 H_frame_step (ts := [.sc (.int .u32)]) trivial (by rw [Tryz.ntmps105]; simp) (by rw [E_frame_step]; exact h)
def F_packet_must_int64 (v0 : Int) (e1 : Int) : W ((Int) ⊕ List PanicEntry) :=
  joinW (σ := Unit) (fun J_1 =>
    cond (e1 != 0)
      (panW (.iface 171 (.agg ⟨[]⟩)))
      (J_1 ()))
  <| fun s_2 =>
  retW (.inl v0)
def H_packet_must_int64 : Hints := { con := [(3006, [])] }
theorem E_packet_must_int64 (v0 : Int) (e1 : Int) : denFP Tryz.prog H_packet_must_int64 Tryz.f106 [.sc (.int .i64)] [.int .i64 v0, .int .i64 e1] = F_packet_must_int64 v0 e1 := by kernel_rfl
theorem C_packet_must_int64 {R : Type} [Pan R] (v0 : Int) (e1 : Int) (K : Res [.sc (.int .i64)] → W R) (Q : R → World → Prop) (w : World) (h : F_packet_must_int64 v0 e1 (kP K Q) w) : callP Tryz.prog k_packet_must_int64 [.int .i64 v0, .int .i64 e1] [.sc (.int .i64)] K Q w :=
  den_callsP mix Tryz.func106 H_packet_must_int64 (ts := [.sc (.int .i64)]) (post := kP K Q) trivial (by rw [Tryz.ntmps106]; simp) (by rw [E_packet_must_int64]; exact h)
def F_nums_GetIn (r0 : Option Addr) (lo1 : Int) (hi2 : Int) : W (Int × Int) :=
  newW 2 [.int .i64 lo1] fun lo_1 =>
  newW 2 [.int .i64 hi2] fun hi_2 =>
  joinW (σ := Bool) (fun J_3 =>
    ld (.sc (.int .i64)) hi_2 fun (x_4 : Int) =>
    ld (.sc (.int .i64)) lo_1 fun (x_5 : Int) =>
    cond (decide (x_4 < x_5))
      (J_3 (!Option.isNone r0))
      (J_3 false))
  <| fun s_6 =>
  cond s_6
    (retW (0, 1))
    (callW Tryz.prog k_nums_try_int64 [.pointer r0, .func (.func 141) #[] #[.pointer (some lo_1), .pointer (some hi_2)]] [.sc (.int .i64), .sc (.int .i64)] fun (x_7 : Int × Int) =>
  retW (x_7.1, x_7.2))
def H_nums_GetIn : Hints := { reg := [(1, [(14, .sc .bool)])] }
theorem E_nums_GetIn (r0 : Option Addr) (lo1 : Int) (hi2 : Int) : denF Tryz.prog H_nums_GetIn Tryz.f107 [.sc (.int .i64), .sc (.int .i64)] [.pointer r0, .int .i64 lo1, .int .i64 hi2] = F_nums_GetIn r0 lo1 hi2 := by kernel_rfl
theorem C_nums_GetIn {R : Type} (r0 : Option Addr) (lo1 : Int) (hi2 : Int) (K : Res [.sc (.int .i64), .sc (.int .i64)] → W R) (Q : R → World → Prop) (w : World) (h : F_nums_GetIn r0 lo1 hi2 (fun r w => K r Q w) w) : callW Tryz.prog k_nums_GetIn [.pointer r0, .int .i64 lo1, .int .i64 hi2] [.sc (.int .i64), .sc (.int .i64)] K Q w :=
  den_calls mix Tryz.func107 H_nums_GetIn (ts := [.sc (.int .i64), .sc (.int .i64)]) trivial (by rw [Tryz.ntmps107]; simp) (by rw [E_nums_GetIn]; exact h)
def F_packet_reader_count (r0 : (Option Addr)) : W ((Int) ⊕ List PanicEntry) :=
  newW 62 [.pointer r0] fun r_1 =>
  ld (.sc .ptr) (Addr.add r_1 0) fun (x_2 : Option Addr) =>
  callW Tryz.prog k_nums_GetVar [.pointer x_2] [.sc (.int .u64), .sc (.int .i64)] fun (x_3 : Int × Int) =>
  callP Tryz.prog k_packet_must_uint64 [.int .u64 x_3.1, .int .i64 x_3.2] [.sc (.int .u64)] fun (x_4 : Int) =>
  retW (.inl x_4)
def H_packet_reader_count : Hints := { mp := [143] }
theorem E_packet_reader_count (r0 : (Option Addr)) : denFP Tryz.prog H_packet_reader_count Tryz.f108 [.sc (.int .u64)] [.agg ⟨[.pointer r0]⟩] = F_packet_reader_count r0 := by kernel_rfl
theorem C_packet_reader_count {R : Type} [Pan R] (r0 : (Option Addr)) (K : Res [.sc (.int .u64)] → W R) (Q : R → World → Prop) (w : World) (h : F_packet_reader_count r0 (kP K Q) w) : callP Tryz.prog k_packet_reader_count [.agg ⟨[.pointer r0]⟩] [.sc (.int .u64)] K Q w :=
  den_callsP mix Tryz.func108 H_packet_reader_count (ts := [.sc (.int .u64)]) (post := kP K Q) trivial (by rw [Tryz.ntmps108]; simp) (by rw [E_packet_reader_count]; exact h)
def F_packet_reader_plain (r0 : (Option Addr)) (n1 : Int) : W ((Int) ⊕ List PanicEntry) :=
  newW 62 [.pointer r0] fun r_1 =>
  ld (.sc .ptr) (Addr.add r_1 0) fun (x_2 : Option Addr) =>
  callW Tryz.prog k_bits_Reader_Get [.pointer x_2, .int .i64 n1] [.sc (.int .u64), .sc (.int .i64)] fun (x_3 : Int × Int) =>
  callP Tryz.prog k_packet_must_uint64 [.int .u64 x_3.1, .int .i64 x_3.2] [.sc (.int .u64)] fun (x_4 : Int) =>
  retW (.inl x_4)
def H_packet_reader_plain : Hints := { mp := [143] }
theorem E_packet_reader_plain (r0 : (Option Addr)) (n1 : Int) : denFP Tryz.prog H_packet_reader_plain Tryz.f109 [.sc (.int .u64)] [.agg ⟨[.pointer r0]⟩, .int .i64 n1] = F_packet_reader_plain r0 n1 := by kernel_rfl
theorem C_packet_reader_plain {R : Type} [Pan R] (r0 : (Option Addr)) (n1 : Int) (K : Res [.sc (.int .u64)] → W R) (Q : R → World → Prop) (w : World) (h : F_packet_reader_plain r0 n1 (kP K Q) w) : callP Tryz.prog k_packet_reader_plain [.agg ⟨[.pointer r0]⟩, .int .i64 n1] [.sc (.int .u64)] K Q w :=
  den_callsP mix Tryz.func109 H_packet_reader_plain (ts := [.sc (.int .u64)]) (post := kP K Q) trivial (by rw [Tryz.ntmps109]; simp) (by rw [E_packet_reader_plain]; exact h)
def F_slices_IndexFunc_Comp__diff_find_c1 (s0 : Sl) (f1c0 : Option Addr) : W (Int) :=
  loopW (σ := Int) (fun K_1 s_2 =>
    cond (decide (s_2 < (s0.n : Int)))
      (idxW s0.a s0.n 4 s_2 fun x_3 =>
    ld (.agg [.int .u8, .int .i32, .int .i32, .int .i32]) x_3 fun (x_4 : (Int × Int × Int × Int)) =>
    callW Tryz.prog k_diff_find_c1 [.agg ⟨[.int .u8 x_4.1, .int .i32 x_4.2.1, .int .i32 x_4.2.2.1, .int .i32 x_4.2.2.2]⟩, .pointer f1c0] [.sc .bool] fun (x_5 : Bool) =>
    cond x_5
      (retW s_2)
      (K_1 (IntKind.wrap .i64 (s_2 + 1))))
      (retW (-1)))
    0
def H_slices_IndexFunc_Comp__diff_find_c1 : Hints := { lop := [(0, [(8, .sc (.int .i64))])] }
theorem E_slices_IndexFunc_Comp__diff_find_c1 (s0 : Sl) (f1c0 : Option Addr) : denF Tryz.prog H_slices_IndexFunc_Comp__diff_find_c1 Tryz.f112 [.sc (.int .i64)] [.slice s0.a s0.n s0.c, .func (.func 165) #[] #[.pointer f1c0]] = F_slices_IndexFunc_Comp__diff_find_c1 s0 f1c0 := by kernel_rfl
theorem C_slices_IndexFunc_Comp__diff_find_c1 {R : Type} (s0 : Sl) (f1c0 : Option Addr) (K : Res [.sc (.int .i64)] → W R) (Q : R → World → Prop) (w : World) (h : F_slices_IndexFunc_Comp__diff_find_c1 s0 f1c0 (fun r w => K r Q w) w) : callW Tryz.prog k_slices_IndexFunc_Comp [.slice s0.a s0.n s0.c, .func (.func 165) #[] #[.pointer f1c0]] [.sc (.int .i64)] K Q w :=
  den_calls mix Tryz.func112 H_slices_IndexFunc_Comp__diff_find_c1 (ts := [.sc (.int .i64)]) trivial (by rw [Tryz.ntmps112]; simp) (by rw [E_slices_IndexFunc_Comp__diff_find_c1]; exact h)
def F_slices_IndexFunc_Comp__snap_secret (s0 : Sl) : W (Int) :=
  loopW (σ := Int) (fun K_1 s_2 =>
    cond (decide (s_2 < (s0.n : Int)))
      (idxW s0.a s0.n 4 s_2 fun x_3 =>
    ld (.agg [.int .u8, .int .i32, .int .i32, .int .i32]) x_3 fun (x_4 : (Int × Int × Int × Int)) =>
    callW Tryz.prog k_snap_secret [.agg ⟨[.int .u8 x_4.1, .int .i32 x_4.2.1, .int .i32 x_4.2.2.1, .int .i32 x_4.2.2.2]⟩] [.sc .bool] fun (x_5 : Bool) =>
    cond x_5
      (retW s_2)
      (K_1 (IntKind.wrap .i64 (s_2 + 1))))
      (retW (-1)))
    0
def H_slices_IndexFunc_Comp__snap_secret : Hints := { lop := [(0, [(8, .sc (.int .i64))])] }
theorem E_slices_IndexFunc_Comp__snap_secret (s0 : Sl) : denF Tryz.prog H_slices_IndexFunc_Comp__snap_secret Tryz.f112 [.sc (.int .i64)] [.slice s0.a s0.n s0.c, .func (.func 71) #[] #[]] = F_slices_IndexFunc_Comp__snap_secret s0 := by kernel_rfl
theorem C_slices_IndexFunc_Comp__snap_secret {R : Type} (s0 : Sl) (K : Res [.sc (.int .i64)] → W R) (Q : R → World → Prop) (w : World) (h : F_slices_IndexFunc_Comp__snap_secret s0 (fun r w => K r Q w) w) : callW Tryz.prog k_slices_IndexFunc_Comp [.slice s0.a s0.n s0.c, .func (.func 71) #[] #[]] [.sc (.int .i64)] K Q w :=
  den_calls mix Tryz.func112 H_slices_IndexFunc_Comp__snap_secret (ts := [.sc (.int .i64)]) trivial (by rw [Tryz.ntmps112]; simp) (by rw [E_slices_IndexFunc_Comp__snap_secret]; exact h)
def F_packet_reader_id (r0 : (Option Addr)) (last1 : Option Addr) : W ((Int) ⊕ List PanicEntry) :=
  newW 62 [.pointer r0] fun r_1 =>
  ld (.agg [.ptr]) r_1 fun (x_2 : (Option Addr)) =>
  callP Tryz.prog k_packet_reader_count [.agg ⟨[.pointer x_2]⟩] [.sc (.int .u64)] fun (x_3 : Int) =>
  joinW (σ := Unit) (fun J_4 =>
    cond (decide (x_3 ≥ 4294967296))
      (panW (.iface 171 (.agg ⟨[]⟩)))
      (J_4 ()))
  <| fun s_5 =>
  ptrW last1 fun x_6 =>
  ld (.sc (.int .u32)) x_6 fun (x_7 : Int) =>
  ptrW last1 fun x_8 =>
  stoL x_8 [.int .u32 (IntKind.wrap .u32 (x_7 + (IntKind.wrap .u32 ((IntKind.wrap .u32 x_3) + 1))))] 0 <|
  ptrW last1 fun x_9 =>
  ld (.sc (.int .u32)) x_9 fun (x_10 : Int) =>
  retW (.inl x_10)
def H_packet_reader_id : Hints := { con := [(4009, [])], mp := [108] }
theorem E_packet_reader_id (r0 : (Option Addr)) (last1 : Option Addr) : denFP Tryz.prog H_packet_reader_id Tryz.f114 [.sc (.int .u32)] [.agg ⟨[.pointer r0]⟩, .pointer last1] = F_packet_reader_id r0 last1 := by kernel_rfl
theorem C_packet_reader_id {R : Type} [Pan R] (r0 : (Option Addr)) (last1 : Option Addr) (K : Res [.sc (.int .u32)] → W R) (Q : R → World → Prop) (w : World) (h : F_packet_reader_id r0 last1 (kP K Q) w) : callP Tryz.prog k_packet_reader_id [.agg ⟨[.pointer r0]⟩, .pointer last1] [.sc (.int .u32)] K Q w :=
  den_callsP mix Tryz.func114 H_packet_reader_id (ts := [.sc (.int .u32)]) (post := kP K Q) trivial (by rw [Tryz.ntmps114]; simp) (by rw [E_packet_reader_id]; exact h)
def F_packet_reader_comps (r0 : (Option Addr)) (mask1 : Int) : W ((Sl) ⊕ List PanicEntry) :=
  newW 62 [.pointer r0] fun r_1 =>
  callW Tryz.prog k_packet_kinds [.int .u64 mask1] [.sc .sl] fun (x_2 : Sl) =>
  loopW (σ := Sl × Int) (fun K_3 s_4 =>
    cond (decide (s_4.2 < (x_2.n : Int)))
      (idxW x_2.a x_2.n 1 s_4.2 fun x_5 =>
    ld (.sc (.int .u8)) x_5 fun (x_6 : Int) =>
    ld (.sc .ptr) (Addr.add r_1 0) fun (x_7 : Option Addr) =>
    callW Tryz.prog k_comp_Get [.pointer x_7, .int .u8 x_6] [.agg [.int .u8, .int .i32, .int .i32, .int .i32], .sc (.int .i64)] fun (x_8 : (Int × Int × Int × Int) × Int) =>
    callP Tryz.prog k_packet_must_Comp [.agg ⟨[.int .u8 x_8.1.1, .int .i32 x_8.1.2.1, .int .i32 x_8.1.2.2.1, .int .i32 x_8.1.2.2.2]⟩, .int .i64 x_8.2] [.agg [.int .u8, .int .i32, .int .i32, .int .i32]] fun (x_9 : (Int × Int × Int × Int)) =>
    newW 92 [.int .u8 x_9.1, .int .i32 x_9.2.1, .int .i32 x_9.2.2.1, .int .i32 x_9.2.2.2] fun x_10 =>
    rawW Tryz.prog (Builtin.append_ #[55, 55] 55 #[.slice s_4.1.a s_4.1.n s_4.1.c, .slice (some x_10) 1 1]) [.sc .sl] fun (x_11 : Sl) =>
    K_3 (x_11, IntKind.wrap .i64 (s_4.2 + 1)))
      (retW (.inl s_4.1)))
    ((⟨none, 0, 0⟩ : Sl), 0)
def H_packet_reader_comps : Hints := { lop := [(0, [(5, .sc .sl), (11, .sc (.int .i64))])], mp := [126] }
theorem E_packet_reader_comps (r0 : (Option Addr)) (mask1 : Int) : denFP Tryz.prog H_packet_reader_comps Tryz.f115 [.sc .sl] [.agg ⟨[.pointer r0]⟩, .int .u64 mask1] = F_packet_reader_comps r0 mask1 := by kernel_rfl
theorem C_packet_reader_comps {R : Type} [Pan R] (r0 : (Option Addr)) (mask1 : Int) (K : Res [.sc .sl] → W R) (Q : R → World → Prop) (w : World) (h : F_packet_reader_comps r0 mask1 (kP K Q) w) : callP Tryz.prog k_packet_reader_comps [.agg ⟨[.pointer r0]⟩, .int .u64 mask1] [.sc .sl] K Q w :=
  den_callsP mix Tryz.func115 H_packet_reader_comps (ts := [.sc .sl]) (post := kP K Q) trivial (by rw [Tryz.ntmps115]; simp) (by rw [E_packet_reader_comps]; exact h)
def F_slices_IndexFunc_Change__diff_Patch_c1 (s0 : Sl) (f1c0 : Option Addr) : W (Int) :=
  loopW (σ := Int) (fun K_1 s_2 =>
    cond (decide (s_2 < (s0.n : Int)))
      (idxW s0.a s0.n 4 s_2 fun x_3 =>
    ld (.agg [.int .u32, .int .u8, .sl, .sl]) x_3 fun (x_4 : (Int × Int × Sl × Sl)) =>
    callW Tryz.prog k_diff_Patch_c1 [.agg ⟨[.int .u32 x_4.1, .int .u8 x_4.2.1, .slice x_4.2.2.1.a x_4.2.2.1.n x_4.2.2.1.c, .slice x_4.2.2.2.a x_4.2.2.2.n x_4.2.2.2.c]⟩, .pointer f1c0] [.sc .bool] fun (x_5 : Bool) =>
    cond x_5
      (retW s_2)
      (K_1 (IntKind.wrap .i64 (s_2 + 1))))
      (retW (-1)))
    0
def H_slices_IndexFunc_Change__diff_Patch_c1 : Hints := { lop := [(0, [(8, .sc (.int .i64))])] }
theorem E_slices_IndexFunc_Change__diff_Patch_c1 (s0 : Sl) (f1c0 : Option Addr) : denF Tryz.prog H_slices_IndexFunc_Change__diff_Patch_c1 Tryz.f117 [.sc (.int .i64)] [.slice s0.a s0.n s0.c, .func (.func 118) #[] #[.pointer f1c0]] = F_slices_IndexFunc_Change__diff_Patch_c1 s0 f1c0 := by kernel_rfl
theorem C_slices_IndexFunc_Change__diff_Patch_c1 {R : Type} (s0 : Sl) (f1c0 : Option Addr) (K : Res [.sc (.int .i64)] → W R) (Q : R → World → Prop) (w : World) (h : F_slices_IndexFunc_Change__diff_Patch_c1 s0 f1c0 (fun r w => K r Q w) w) : callW Tryz.prog k_slices_IndexFunc_Change [.slice s0.a s0.n s0.c, .func (.func 118) #[] #[.pointer f1c0]] [.sc (.int .i64)] K Q w :=
  den_calls mix Tryz.func117 H_slices_IndexFunc_Change__diff_Patch_c1 (ts := [.sc (.int .i64)]) trivial (by rw [Tryz.ntmps117]; simp) (by rw [E_slices_IndexFunc_Change__diff_Patch_c1]; exact h)
def F_diff_Patch_c1 (c0 : (Int × Int × Sl × Sl)) (c1 : Option Addr) : W (Bool) :=
  newW 86 [.int .u32 c0.1, .int .u8 c0.2.1, .slice c0.2.2.1.a c0.2.2.1.n c0.2.2.1.c, .slice c0.2.2.2.a c0.2.2.2.n c0.2.2.2.c] fun c_1 =>
  ld (.sc (.int .u32)) (Addr.add c_1 0) fun (x_2 : Int) =>
  ptrW c1 fun x_3 =>
  ld (.sc (.int .u32)) (Addr.add x_3 0) fun (x_4 : Int) =>
  retW (x_2 == x_4)
def H_diff_Patch_c1 : Hints := {}
theorem E_diff_Patch_c1 (c0 : (Int × Int × Sl × Sl)) (c1 : Option Addr) : denF Tryz.prog H_diff_Patch_c1 Tryz.f118 [.sc .bool] [.agg ⟨[.int .u32 c0.1, .int .u8 c0.2.1, .slice c0.2.2.1.a c0.2.2.1.n c0.2.2.1.c, .slice c0.2.2.2.a c0.2.2.2.n c0.2.2.2.c]⟩, .pointer c1] = F_diff_Patch_c1 c0 c1 := by kernel_rfl
theorem C_diff_Patch_c1 {R : Type} (c0 : (Int × Int × Sl × Sl)) (c1 : Option Addr) (K : Res [.sc .bool] → W R) (Q : R → World → Prop) (w : World) (h : F_diff_Patch_c1 c0 c1 (fun r w => K r Q w) w) : callW Tryz.prog k_diff_Patch_c1 [.agg ⟨[.int .u32 c0.1, .int .u8 c0.2.1, .slice c0.2.2.1.a c0.2.2.1.n c0.2.2.1.c, .slice c0.2.2.2.a c0.2.2.2.n c0.2.2.2.c]⟩, .pointer c1] [.sc .bool] K Q w :=
  den_calls mix Tryz.func118 H_diff_Patch_c1 (ts := [.sc .bool]) trivial (by rw [Tryz.ntmps118]; simp) (by rw [E_diff_Patch_c1]; exact h)
def F_diff_turn (e0 : (Int × Sl)) (c1 : (Int × Int × Sl × Sl)) : W ((Int × Sl)) :=
  newW 57 [.int .u32 e0.1, .slice e0.2.a e0.2.n e0.2.c] fun e_1 =>
  newW 86 [.int .u32 c1.1, .int .u8 c1.2.1, .slice c1.2.2.1.a c1.2.2.1.n c1.2.2.1.c, .slice c1.2.2.2.a c1.2.2.2.n c1.2.2.2.c] fun c_2 =>
  newW 57 [.int .u32 0, .slice none 0 0] fun x_3 =>
  ld (.sc .sl) (Addr.add e_1 1) fun (x_4 : Sl) =>
  loopW (σ := Sl × Int) (fun K_5 s_6 =>
    cond (decide (s_6.2 < (x_4.n : Int)))
      (joinW (σ := Sl) (fun J_7 =>
      idxW x_4.a x_4.n 4 s_6.2 fun x_8 =>
      ld (.agg [.int .u8, .int .i32, .int .i32, .int .i32]) x_8 fun (x_9 : (Int × Int × Int × Int)) =>
      newW 92 [.int .u8 0, .int .i32 0, .int .i32 0, .int .i32 0] fun x_10 =>
      stoL x_10 [.int .u8 x_9.1, .int .i32 x_9.2.1, .int .i32 x_9.2.2.1, .int .i32 x_9.2.2.2] 0 <|
      joinW (σ := Bool) (fun J_11 =>
        ld (.sc (.int .u8)) (Addr.add x_10 0) fun (x_12 : Int) =>
        cond (decide (x_12 < 6))
          (ld (.sc (.int .u8)) (Addr.add c_2 1) fun (x_13 : Int) =>
            ld (.sc (.int .u8)) (Addr.add x_10 0) fun (x_14 : Int) =>
                chkW (0 ≤ x_14) <|
                  J_11 ((bAnd .u8 (shR .u8 x_13 x_14) 1) == 1))
          (J_11 false))
      <| fun s_15 =>
      cond s_15
        (J_7 s_6.1)
        (ld (.sc .sl) (Addr.add c_2 3) fun (x_16 : Sl) =>
      ld (.sc (.int .u8)) (Addr.add x_10 0) fun (x_17 : Int) =>
      callW Tryz.prog k_diff_find [.slice x_16.a x_16.n x_16.c, .int .u8 x_17] [.agg [.int .u8, .int .i32, .int .i32, .int .i32], .sc .bool] fun (x_18 : (Int × Int × Int × Int) × Bool) =>
      newW 92 [.int .u8 0, .int .i32 0, .int .i32 0, .int .i32 0] fun y_19 =>
      stoL y_19 [.int .u8 x_18.1.1, .int .i32 x_18.1.2.1, .int .i32 x_18.1.2.2.1, .int .i32 x_18.1.2.2.2] 0 <|
      joinW (σ := Unit) (fun J_20 =>
        cond x_18.2
          (ld (.agg [.int .u8, .int .i32, .int .i32, .int .i32]) y_19 fun (x_21 : (Int × Int × Int × Int)) =>
          stoL x_10 [.int .u8 x_21.1, .int .i32 x_21.2.1, .int .i32 x_21.2.2.1, .int .i32 x_21.2.2.2] 0 <|
          J_20 ())
          (J_20 ()))
      <| fun s_22 =>
      ld (.agg [.int .u8, .int .i32, .int .i32, .int .i32]) x_10 fun (x_23 : (Int × Int × Int × Int)) =>
      newW 92 [.int .u8 x_23.1, .int .i32 x_23.2.1, .int .i32 x_23.2.2.1, .int .i32 x_23.2.2.2] fun x_24 =>
      rawW Tryz.prog (Builtin.append_ #[55, 55] 55 #[.slice s_6.1.a s_6.1.n s_6.1.c, .slice (some x_24) 1 1]) [.sc .sl] fun (x_25 : Sl) =>
      J_7 x_25))
    <| fun s_26 =>
    K_5 (s_26, IntKind.wrap .i64 (s_6.2 + 1)))
      (ld (.sc .sl) (Addr.add c_2 2) fun (x_27 : Sl) =>
  rawW Tryz.prog (Builtin.append_ #[55, 55] 55 #[.slice s_6.1.a s_6.1.n s_6.1.c, .slice x_27.a x_27.n x_27.c]) [.sc .sl] fun (x_28 : Sl) =>
  callW Tryz.prog k_slices_SortStableFunc_Comp [.slice x_28.a x_28.n x_28.c, .func (.func 150) #[] #[]] [] fun (x_29 : Unit) =>
  ld (.sc (.int .u32)) (Addr.add e_1 0) fun (x_30 : Int) =>
  stoL x_3 [.int .u32 x_30, .slice x_28.a x_28.n x_28.c] 0 <|
  ld (.agg [.int .u32, .sl]) x_3 fun (x_31 : (Int × Sl)) =>
  retW x_31))
    ((⟨none, 0, 0⟩ : Sl), 0)
def H_diff_turn : Hints := { reg := [(5, [(28, .sc .bool)])], con := [(9037, [])], blk := [(1, [(5, .sc .sl)])], lop := [(0, [(5, .sc .sl), (13, .sc (.int .i64))])] }
theorem E_diff_turn (e0 : (Int × Sl)) (c1 : (Int × Int × Sl × Sl)) : denF Tryz.prog H_diff_turn Tryz.f119 [.agg [.int .u32, .sl]] [.agg ⟨[.int .u32 e0.1, .slice e0.2.a e0.2.n e0.2.c]⟩, .agg ⟨[.int .u32 c1.1, .int .u8 c1.2.1, .slice c1.2.2.1.a c1.2.2.1.n c1.2.2.1.c, .slice c1.2.2.2.a c1.2.2.2.n c1.2.2.2.c]⟩] = F_diff_turn e0 c1 := by kernel_rfl
theorem C_diff_turn {R : Type} (e0 : (Int × Sl)) (c1 : (Int × Int × Sl × Sl)) (K : Res [.agg [.int .u32, .sl]] → W R) (Q : R → World → Prop) (w : World) (h : F_diff_turn e0 c1 (fun r w => K r Q w) w) : callW Tryz.prog k_diff_turn [.agg ⟨[.int .u32 e0.1, .slice e0.2.a e0.2.n e0.2.c]⟩, .agg ⟨[.int .u32 c1.1, .int .u8 c1.2.1, .slice c1.2.2.1.a c1.2.2.1.n c1.2.2.1.c, .slice c1.2.2.2.a c1.2.2.2.n c1.2.2.2.c]⟩] [.agg [.int .u32, .sl]] K Q w :=
  den_calls mix Tryz.func119 H_diff_turn (ts := [.agg [.int .u32, .sl]]) ⟨by kernel_rfl, trivial⟩ (by rw [Tryz.ntmps119]; simp) (by rw [E_diff_turn]; exact h)
def F_slices_SortStableFunc_Ent__diff_Patch_c2 (x0 : Sl) : W (Unit) :=
  callW Tryz.prog k_slices_stableCmpFunc_Ent [.slice x0.a x0.n x0.c, .int .i64 (x0.n : Int), .func (.func 121) #[] #[]] [] fun (x_1 : Unit) =>
  retW ()
def H_slices_SortStableFunc_Ent__diff_Patch_c2 : Hints := {}
theorem E_slices_SortStableFunc_Ent__diff_Patch_c2 (x0 : Sl) : denF Tryz.prog H_slices_SortStableFunc_Ent__diff_Patch_c2 Tryz.f120 [] [.slice x0.a x0.n x0.c, .func (.func 121) #[] #[]] = F_slices_SortStableFunc_Ent__diff_Patch_c2 x0 := by kernel_rfl
theorem C_slices_SortStableFunc_Ent__diff_Patch_c2 {R : Type} (x0 : Sl) (K : Res [] → W R) (Q : R → World → Prop) (w : World) (h : F_slices_SortStableFunc_Ent__diff_Patch_c2 x0 (fun r w => K r Q w) w) : callW Tryz.prog k_slices_SortStableFunc_Ent [.slice x0.a x0.n x0.c, .func (.func 121) #[] #[]] [] K Q w :=
  den_calls mix Tryz.func120 H_slices_SortStableFunc_Ent__diff_Patch_c2 (ts := []) trivial (by rw [Tryz.ntmps120]; simp) (by rw [E_slices_SortStableFunc_Ent__diff_Patch_c2]; exact h)
def F_diff_Patch_c2 (a0 : (Int × Sl)) (b1 : (Int × Sl)) : W (Int) :=
  newW 57 [.int .u32 a0.1, .slice a0.2.a a0.2.n a0.2.c] fun a_1 =>
  newW 57 [.int .u32 b1.1, .slice b1.2.a b1.2.n b1.2.c] fun b_2 =>
  ld (.sc (.int .u32)) (Addr.add a_1 0) fun (x_3 : Int) =>
  ld (.sc (.int .u32)) (Addr.add b_2 0) fun (x_4 : Int) =>
  callW Tryz.prog k_cmp_Compare_ID [.int .u32 x_3, .int .u32 x_4] [.sc (.int .i64)] fun (x_5 : Int) =>
  retW x_5
def H_diff_Patch_c2 : Hints := {}
theorem E_diff_Patch_c2 (a0 : (Int × Sl)) (b1 : (Int × Sl)) : denF Tryz.prog H_diff_Patch_c2 Tryz.f121 [.sc (.int .i64)] [.agg ⟨[.int .u32 a0.1, .slice a0.2.a a0.2.n a0.2.c]⟩, .agg ⟨[.int .u32 b1.1, .slice b1.2.a b1.2.n b1.2.c]⟩] = F_diff_Patch_c2 a0 b1 := by kernel_rfl
theorem C_diff_Patch_c2 {R : Type} (a0 : (Int × Sl)) (b1 : (Int × Sl)) (K : Res [.sc (.int .i64)] → W R) (Q : R → World → Prop) (w : World) (h : F_diff_Patch_c2 a0 b1 (fun r w => K r Q w) w) : callW Tryz.prog k_diff_Patch_c2 [.agg ⟨[.int .u32 a0.1, .slice a0.2.a a0.2.n a0.2.c]⟩, .agg ⟨[.int .u32 b1.1, .slice b1.2.a b1.2.n b1.2.c]⟩] [.sc (.int .i64)] K Q w :=
  den_calls mix Tryz.func121 H_diff_Patch_c2 (ts := [.sc (.int .i64)]) trivial (by rw [Tryz.ntmps121]; simp) (by rw [E_diff_Patch_c2]; exact h)
def F_diff_same (a0 : (Sl × Sl × Sl)) (b1 : (Sl × Sl × Sl)) : W (Bool) :=
  newW 80 [.slice a0.1.a a0.1.n a0.1.c, .slice a0.2.1.a a0.2.1.n a0.2.1.c, .slice a0.2.2.a a0.2.2.n a0.2.2.c] fun a_1 =>
  newW 80 [.slice b1.1.a b1.1.n b1.1.c, .slice b1.2.1.a b1.2.1.n b1.2.1.c, .slice b1.2.2.a b1.2.2.n b1.2.2.c] fun b_2 =>
  joinW (σ := Bool) (fun J_3 =>
    ld (.sc .sl) (Addr.add a_1 0) fun (x_4 : Sl) =>
    ld (.sc .sl) (Addr.add b_2 0) fun (x_5 : Sl) =>
    callW Tryz.prog k_slices_Equal_ID [.slice x_4.a x_4.n x_4.c, .slice x_5.a x_5.n x_5.c] [.sc .bool] fun (x_6 : Bool) =>
    cond x_6
      (ld (.sc .sl) (Addr.add a_1 1) fun (x_7 : Sl) =>
        ld (.sc .sl) (Addr.add b_2 1) fun (x_8 : Sl) =>
            callW Tryz.prog k_snap_Same [.slice x_7.a x_7.n x_7.c, .slice x_8.a x_8.n x_8.c] [.sc .bool] fun (x_9 : Bool) =>
              cond x_9
                (ld (.sc .sl) (Addr.add a_1 2) fun (x_10 : Sl) =>
                  ld (.sc .sl) (Addr.add b_2 2) fun (x_11 : Sl) =>
                      callW Tryz.prog k_slices_EqualFunc_Change [.slice x_10.a x_10.n x_10.c, .slice x_11.a x_11.n x_11.c, .func (.func 157) #[] #[]] [.sc .bool] fun (x_12 : Bool) =>
                        J_3 x_12)
                (J_3 false))
      (J_3 false))
  <| fun s_13 =>
  retW s_13
def H_diff_same : Hints := { reg := [(1, [(4, .sc .bool)])] }
theorem E_diff_same (a0 : (Sl × Sl × Sl)) (b1 : (Sl × Sl × Sl)) : denF Tryz.prog H_diff_same Tryz.f123 [.sc .bool] [.agg ⟨[.slice a0.1.a a0.1.n a0.1.c, .slice a0.2.1.a a0.2.1.n a0.2.1.c, .slice a0.2.2.a a0.2.2.n a0.2.2.c]⟩, .agg ⟨[.slice b1.1.a b1.1.n b1.1.c, .slice b1.2.1.a b1.2.1.n b1.2.1.c, .slice b1.2.2.a b1.2.2.n b1.2.2.c]⟩] = F_diff_same a0 b1 := by kernel_rfl
theorem C_diff_same {R : Type} (a0 : (Sl × Sl × Sl)) (b1 : (Sl × Sl × Sl)) (K : Res [.sc .bool] → W R) (Q : R → World → Prop) (w : World) (h : F_diff_same a0 b1 (fun r w => K r Q w) w) : callW Tryz.prog k_diff_same [.agg ⟨[.slice a0.1.a a0.1.n a0.1.c, .slice a0.2.1.a a0.2.1.n a0.2.1.c, .slice a0.2.2.a a0.2.2.n a0.2.2.c]⟩, .agg ⟨[.slice b1.1.a b1.1.n b1.1.c, .slice b1.2.1.a b1.2.1.n b1.2.1.c, .slice b1.2.2.a b1.2.2.n b1.2.2.c]⟩] [.sc .bool] K Q w :=
  den_calls mix Tryz.func123 H_diff_same (ts := [.sc .bool]) trivial (by rw [Tryz.ntmps123]; simp) (by rw [E_diff_same]; exact h)
def F_snap_Copy (l0 : Sl) : W (Sl) :=
  callW Tryz.prog k_slices_Clone_Ent [.slice l0.a l0.n l0.c] [.sc .sl] fun (x_1 : Sl) =>
  loopW (σ := Int) (fun K_2 s_3 =>
    cond (decide (s_3 < (x_1.n : Int)))
      (idxW x_1.a x_1.n 2 s_3 fun x_4 =>
    ld (.agg [.int .u32, .sl]) x_4 fun (x_5 : (Int × Sl)) =>
    newW 57 [.int .u32 0, .slice none 0 0] fun e_6 =>
    stoL e_6 [.int .u32 x_5.1, .slice x_5.2.a x_5.2.n x_5.2.c] 0 <|
    ld (.sc .sl) (Addr.add e_6 1) fun (x_7 : Sl) =>
    callW Tryz.prog k_slices_Clone_Comp [.slice x_7.a x_7.n x_7.c] [.sc .sl] fun (x_8 : Sl) =>
    idxW x_1.a x_1.n 2 s_3 fun x_9 =>
    stoL (Addr.add x_9 1) [.slice x_8.a x_8.n x_8.c] 0 <|
    K_2 (IntKind.wrap .i64 (s_3 + 1)))
      (retW x_1))
    0
def H_snap_Copy : Hints := { lop := [(0, [(10, .sc (.int .i64))])] }
theorem E_snap_Copy (l0 : Sl) : denF Tryz.prog H_snap_Copy Tryz.f124 [.sc .sl] [.slice l0.a l0.n l0.c] = F_snap_Copy l0 := by kernel_rfl
theorem C_snap_Copy {R : Type} (l0 : Sl) (K : Res [.sc .sl] → W R) (Q : R → World → Prop) (w : World) (h : F_snap_Copy l0 (fun r w => K r Q w) w) : callW Tryz.prog k_snap_Copy [.slice l0.a l0.n l0.c] [.sc .sl] K Q w :=
  den_calls mix Tryz.func124 H_snap_Copy (ts := [.sc .sl]) trivial (by rw [Tryz.ntmps124]; simp) (by rw [E_snap_Copy]; exact h)
def F_packet_kinds (mask0 : Int) : W (Sl) :=
  loopW (σ := Sl × Int) (fun K_1 s_2 =>
    cond (decide (s_2.2 < 5))
      (chkW (0 ≤ s_2.2) <|
    joinW (σ := Sl) (fun J_3 =>
      cond ((bAnd .u64 (shR .u64 mask0 s_2.2) 1) == 1)
        (newW 5 [.int .u8 s_2.2] fun x_4 =>
        rawW Tryz.prog (Builtin.append_ #[22, 22] 22 #[.slice s_2.1.a s_2.1.n s_2.1.c, .slice (some x_4) 1 1]) [.sc .sl] fun (x_5 : Sl) =>
        J_3 x_5)
        (J_3 s_2.1))
    <| fun s_6 =>
    K_1 (s_6, IntKind.wrap .u8 (s_2.2 + 1)))
      (retW s_2.1))
    ((⟨none, 0, 0⟩ : Sl), 0)
def H_packet_kinds : Hints := { con := [(7012, [(3, .sc .sl)])], lop := [(0, [(3, .sc .sl), (5, .sc (.int .u8))])] }
theorem E_packet_kinds (mask0 : Int) : denF Tryz.prog H_packet_kinds Tryz.f125 [.sc .sl] [.int .u64 mask0] = F_packet_kinds mask0 := by kernel_rfl
theorem C_packet_kinds {R : Type} (mask0 : Int) (K : Res [.sc .sl] → W R) (Q : R → World → Prop) (w : World) (h : F_packet_kinds mask0 (fun r w => K r Q w) w) : callW Tryz.prog k_packet_kinds [.int .u64 mask0] [.sc .sl] K Q w :=
  den_calls mix Tryz.func125 H_packet_kinds (ts := [.sc .sl]) trivial (by rw [Tryz.ntmps125]; simp) (by rw [E_packet_kinds]; exact h)
def F_packet_must_Comp (v0 : (Int × Int × Int × Int)) (e1 : Int) : W (((Int × Int × Int × Int)) ⊕ List PanicEntry) :=
  newW 92 [.int .u8 v0.1, .int .i32 v0.2.1, .int .i32 v0.2.2.1, .int .i32 v0.2.2.2] fun v_1 =>
  newW 92 [.int .u8 0, .int .i32 0, .int .i32 0, .int .i32 0] fun x_2 =>
  joinW (σ := Unit) (fun J_3 =>
    cond (e1 != 0)
      (panW (.iface 171 (.agg ⟨[]⟩)))
      (J_3 ()))
  <| fun s_4 =>
  ld (.agg [.int .u8, .int .i32, .int .i32, .int .i32]) v_1 fun (x_5 : (Int × Int × Int × Int)) =>
  stoL x_2 [.int .u8 x_5.1, .int .i32 x_5.2.1, .int .i32 x_5.2.2.1, .int .i32 x_5.2.2.2] 0 <|
  ld (.agg [.int .u8, .int .i32, .int .i32, .int .i32]) x_2 fun (x_6 : (Int × Int × Int × Int)) =>
  retW (.inl x_6)
def H_packet_must_Comp : Hints := { con := [(3006, [])] }
theorem E_packet_must_Comp (v0 : (Int × Int × Int × Int)) (e1 : Int) : denFP Tryz.prog H_packet_must_Comp Tryz.f126 [.agg [.int .u8, .int .i32, .int .i32, .int .i32]] [.agg ⟨[.int .u8 v0.1, .int .i32 v0.2.1, .int .i32 v0.2.2.1, .int .i32 v0.2.2.2]⟩, .int .i64 e1] = F_packet_must_Comp v0 e1 := by kernel_rfl
theorem C_packet_must_Comp {R : Type} [Pan R] (v0 : (Int × Int × Int × Int)) (e1 : Int) (K : Res [.agg [.int .u8, .int .i32, .int .i32, .int .i32]] → W R) (Q : R → World → Prop) (w : World) (h : F_packet_must_Comp v0 e1 (kP K Q) w) : callP Tryz.prog k_packet_must_Comp [.agg ⟨[.int .u8 v0.1, .int .i32 v0.2.1, .int .i32 v0.2.2.1, .int .i32 v0.2.2.2]⟩, .int .i64 e1] [.agg [.int .u8, .int .i32, .int .i32, .int .i32]] K Q w :=
  den_callsP mix Tryz.func126 H_packet_must_Comp (ts := [.agg [.int .u8, .int .i32, .int .i32, .int .i32]]) (post := kP K Q) ⟨by kernel_rfl, trivial⟩ (by rw [Tryz.ntmps126]; simp) (by rw [E_packet_must_Comp]; exact h)
def F_comp_GetStep (r0 : Option Addr) (was1 : (Int × Int × Int × Int)) : W ((Int × Int × Int × Int) × Int) :=
  newW 60 [.pointer r0] fun r_1 =>
  newW 92 [.int .u8 was1.1, .int .i32 was1.2.1, .int .i32 was1.2.2.1, .int .i32 was1.2.2.2] fun was_2 =>
  newW 92 [.int .u8 0, .int .i32 0, .int .i32 0, .int .i32 0] fun x_3 =>
  ld (.sc .ptr) r_1 fun (x_4 : Option Addr) =>
  cond (Option.isNone x_4)
    (stoL x_3 [.int .u8 0, .int .i32 0, .int .i32 0, .int .i32 0] 0 <|
    ld (.agg [.int .u8, .int .i32, .int .i32, .int .i32]) x_3 fun (x_5 : (Int × Int × Int × Int)) =>
    retW (x_5, 10))
    (ld (.agg [.int .u8, .int .i32, .int .i32, .int .i32]) was_2 fun (x_6 : (Int × Int × Int × Int)) =>
  callW Tryz.prog k_schema_Check [.agg ⟨[.int .u8 x_6.1, .int .i32 x_6.2.1, .int .i32 x_6.2.2.1, .int .i32 x_6.2.2.2]⟩] [.sc (.int .i64)] fun (x_7 : Int) =>
  cond (x_7 != 0)
    (stoL x_3 [.int .u8 0, .int .i32 0, .int .i32 0, .int .i32 0] 0 <|
    ld (.agg [.int .u8, .int .i32, .int .i32, .int .i32]) x_3 fun (x_8 : (Int × Int × Int × Int)) =>
    retW (x_8, x_7))
    (ld (.sc .ptr) r_1 fun (x_9 : Option Addr) =>
  ld (.agg [.int .u8, .int .i32, .int .i32, .int .i32]) was_2 fun (x_10 : (Int × Int × Int × Int)) =>
  callW Tryz.prog k_comp_back [.pointer x_9, .agg ⟨[.int .u8 x_10.1, .int .i32 x_10.2.1, .int .i32 x_10.2.2.1, .int .i32 x_10.2.2.2]⟩, .func (.func 161) #[] #[.pointer (some r_1), .pointer (some was_2)]] [.agg [.int .u8, .int .i32, .int .i32, .int .i32], .sc (.int .i64)] fun (x_11 : (Int × Int × Int × Int) × Int) =>
  stoL x_3 [.int .u8 x_11.1.1, .int .i32 x_11.1.2.1, .int .i32 x_11.1.2.2.1, .int .i32 x_11.1.2.2.2] 0 <|
  ld (.agg [.int .u8, .int .i32, .int .i32, .int .i32]) x_3 fun (x_12 : (Int × Int × Int × Int)) =>
  retW (x_12, x_11.2)))
def H_comp_GetStep : Hints := {}
theorem E_comp_GetStep (r0 : Option Addr) (was1 : (Int × Int × Int × Int)) : denF Tryz.prog H_comp_GetStep Tryz.f127 [.agg [.int .u8, .int .i32, .int .i32, .int .i32], .sc (.int .i64)] [.pointer r0, .agg ⟨[.int .u8 was1.1, .int .i32 was1.2.1, .int .i32 was1.2.2.1, .int .i32 was1.2.2.2]⟩] = F_comp_GetStep r0 was1 := by kernel_rfl
theorem C_comp_GetStep {R : Type} (r0 : Option Addr) (was1 : (Int × Int × Int × Int)) (K : Res [.agg [.int .u8, .int .i32, .int .i32, .int .i32], .sc (.int .i64)] → W R) (Q : R → World → Prop) (w : World) (h : F_comp_GetStep r0 was1 (fun r w => K r Q w) w) : callW Tryz.prog k_comp_GetStep [.pointer r0, .agg ⟨[.int .u8 was1.1, .int .i32 was1.2.1, .int .i32 was1.2.2.1, .int .i32 was1.2.2.2]⟩] [.agg [.int .u8, .int .i32, .int .i32, .int .i32], .sc (.int .i64)] K Q w :=
  den_calls mix Tryz.func127 H_comp_GetStep (ts := [.agg [.int .u8, .int .i32, .int .i32, .int .i32], .sc (.int .i64)]) ⟨by kernel_rfl, trivial⟩ (by rw [Tryz.ntmps127]; simp) (by rw [E_comp_GetStep]; exact h)
def F_pinnaceref02_Width (lo0 : Int) (hi1 : Int) : W (Int) :=
  joinW (σ := Int) (fun J_1 =>
    cond (decide (hi1 ≥ lo0))
      (loopW (σ := Int × Int) (fun K_2 s_3 =>
        cond (decide (s_3.2 > 0))
          (K_2 (IntKind.wrap .i64 (s_3.1 + 1), IntKind.wrap .u64 (Int.tdiv s_3.2 2)))
          (J_1 s_3.1))
        (0, IntKind.wrap .u64 ((IntKind.wrap .u64 hi1) - (IntKind.wrap .u64 lo0))))
      (J_1 0))
  <| fun s_4 =>
  retW s_4
def H_pinnaceref02_Width : Hints := { con := [(4009, [(5, .sc (.int .i64))])], lop := [(0, [(5, .sc (.int .i64)), (6, .sc (.int .u64))])] }
theorem E_pinnaceref02_Width (lo0 : Int) (hi1 : Int) : denF Tryz.prog H_pinnaceref02_Width Tryz.f128 [.sc (.int .i64)] [.int .i64 lo0, .int .i64 hi1] = F_pinnaceref02_Width lo0 hi1 := by kernel_rfl
theorem C_pinnaceref02_Width {R : Type} (lo0 : Int) (hi1 : Int) (K : Res [.sc (.int .i64)] → W R) (Q : R → World → Prop) (w : World) (h : F_pinnaceref02_Width lo0 hi1 (fun r w => K r Q w) w) : callW Tryz.prog k_pinnaceref02_Width [.int .i64 lo0, .int .i64 hi1] [.sc (.int .i64)] K Q w :=
  den_calls mix Tryz.func128 H_pinnaceref02_Width (ts := [.sc (.int .i64)]) trivial (by rw [Tryz.ntmps128]; simp) (by rw [E_pinnaceref02_Width]; exact h)
def F_bits_Writer_Put (d0 : Option Addr) (o1 : Int) (p2 : Int) : W (Int) :=
  cond (Option.isNone d0)
    (retW 10)
    (joinW (σ := Bool) (fun J_1 =>
      cond (decide (p2 < 0))
        (J_1 true)
        (J_1 (decide (p2 > 64))))
    <| fun s_2 =>
    cond s_2
      (retW 1)
      (joinW (σ := Bool) (fun J_3 =>
        cond (decide (p2 < 64))
          (chkW (0 ≤ p2) <|
              J_3 ((shR .u64 o1 p2) != 0))
          (J_3 false))
      <| fun s_4 =>
      cond s_4
        (retW 5)
        (ptrW d0 fun x_5 =>
        ld (.sc (.int .i64)) (Addr.add x_5 1) fun (x_6 : Int) =>
        cond (decide ((IntKind.wrap .i64 (x_6 + p2)) > 1048576))
          (retW 3)
          (loopW (σ := Int) (fun K_7 s_8 =>
    cond (decide (s_8 < p2))
      (ptrW d0 fun x_9 =>
    ld (.sc (.int .i64)) (Addr.add x_9 1) fun (x_10 : Int) =>
    joinW (σ := Unit) (fun J_11 =>
      cond ((Int.tmod x_10 8) == 0)
        (ptrW d0 fun x_12 =>
        ld (.sc .sl) (Addr.add x_12 0) fun (x_13 : Sl) =>
        newW 5 [.int .u8 0] fun x_14 =>
        rawW Tryz.prog (Builtin.append_ #[22, 22] 22 #[.slice x_13.a x_13.n x_13.c, .slice (some x_14) 1 1]) [.sc .sl] fun (x_15 : Sl) =>
        ptrW d0 fun x_16 =>
        stoL (Addr.add x_16 0) [.slice x_15.a x_15.n x_15.c] 0 <|
        J_11 ())
        (J_11 ()))
    <| fun s_17 =>
    drawW <|
    ptrW d0 fun x_18 =>
    ld (.sc .sl) (Addr.add x_18 0) fun (x_19 : Sl) =>
    ptrW d0 fun x_20 =>
    ld (.sc (.int .i64)) (Addr.add x_20 1) fun (x_21 : Int) =>
    idxW x_19.a x_19.n 1 (IntKind.wrap .i64 (Int.tdiv x_21 8)) fun x_22 =>
    ld (.sc (.int .u8)) x_22 fun (x_23 : Int) =>
    chkW (0 ≤ s_8) <|
    ptrW d0 fun x_24 =>
    ld (.sc (.int .i64)) (Addr.add x_24 1) fun (x_25 : Int) =>
    chkW (0 ≤ (Int.tmod x_25 8)) <|
    idxW x_19.a x_19.n 1 (IntKind.wrap .i64 (Int.tdiv x_21 8)) fun x_26 =>
    stoL x_26 [.int .u8 (bOr .u8 x_23 (shL .u8 (IntKind.wrap .u8 (bAnd .u64 (shR .u64 o1 s_8) 1)) (Int.tmod x_25 8)))] 0 <|
    ptrW d0 fun x_27 =>
    ld (.sc (.int .i64)) (Addr.add x_27 1) fun (x_28 : Int) =>
    ptrW d0 fun x_29 =>
    stoL (Addr.add x_29 1) [.int .i64 (IntKind.wrap .i64 (x_28 + 1))] 0 <|
    K_7 (IntKind.wrap .i64 (s_8 + 1)))
      (retW 0))
    0))))
def H_bits_Writer_Put : Hints := { reg := [(3, [(11, .sc .bool)]), (5, [(18, .sc .bool)])], con := [(14044, [])], lop := [(1, [(36, .sc (.int .i64))])], dr := [(14, ([], [[(0, []), (1, []), (2, []), (3, []), (4, []), (5, []), (6, []), (7, []), (8, []), (9, []), (10, []), (11, []), (12, []), (13, []), (14, []), (15, []), (16, []), (17, []), (18, []), (19, []), (20, []), (21, []), (22, []), (23, []), (24, [])]]))] }
theorem E_bits_Writer_Put (d0 : Option Addr) (o1 : Int) (p2 : Int) : denF Tryz.prog H_bits_Writer_Put Tryz.f130 [.sc (.int .i64)] [.pointer d0, .int .u64 o1, .int .i64 p2] = F_bits_Writer_Put d0 o1 p2 := by kernel_rfl
theorem C_bits_Writer_Put {R : Type} (d0 : Option Addr) (o1 : Int) (p2 : Int) (K : Res [.sc (.int .i64)] → W R) (Q : R → World → Prop) (w : World) (h : F_bits_Writer_Put d0 o1 p2 (fun r w => K r Q w) w) : callW Tryz.prog k_bits_Writer_Put [.pointer d0, .int .u64 o1, .int .i64 p2] [.sc (.int .i64)] K Q w :=
  den_calls mix Tryz.func130 H_bits_Writer_Put (ts := [.sc (.int .i64)]) trivial (by rw [Tryz.ntmps130]; simp) (by rw [E_bits_Writer_Put]; exact h)
def F_nums_Width (lo0 : Int) (hi1 : Int) : W (Int) :=
  cond (decide (hi1 < lo0))
    (retW 0)
    (callW Tryz.prog k_math_bits_Len64 [.int .u64 (IntKind.wrap .u64 ((IntKind.wrap .u64 hi1) - (IntKind.wrap .u64 lo0)))] [.sc (.int .i64)] fun (x_1 : Int) =>
  retW x_1)
def H_nums_Width : Hints := {}
theorem E_nums_Width (lo0 : Int) (hi1 : Int) : denF Tryz.prog H_nums_Width Tryz.f131 [.sc (.int .i64)] [.int .i64 lo0, .int .i64 hi1] = F_nums_Width lo0 hi1 := by kernel_rfl
theorem C_nums_Width {R : Type} (lo0 : Int) (hi1 : Int) (K : Res [.sc (.int .i64)] → W R) (Q : R → World → Prop) (w : World) (h : F_nums_Width lo0 hi1 (fun r w => K r Q w) w) : callW Tryz.prog k_nums_Width [.int .i64 lo0, .int .i64 hi1] [.sc (.int .i64)] K Q w :=
  den_calls mix Tryz.func131 H_nums_Width (ts := [.sc (.int .i64)]) trivial (by rw [Tryz.ntmps131]; simp) (by rw [E_nums_Width]; exact h)
def F_nums_groups (v0 : Int) : W (Int) :=
  callW Tryz.prog k_math_bits_Len64 [.int .u64 v0] [.sc (.int .i64)] fun (x_1 : Int) =>
  retW (if (IntKind.wrap .i64 (Int.tdiv (IntKind.wrap .i64 ((IntKind.wrap .i64 (x_1 + 4)) - 1)) 4)) > 1 then (IntKind.wrap .i64 (Int.tdiv (IntKind.wrap .i64 ((IntKind.wrap .i64 (x_1 + 4)) - 1)) 4)) else 1)
def H_nums_groups : Hints := {}
theorem E_nums_groups (v0 : Int) : denF Tryz.prog H_nums_groups Tryz.f132 [.sc (.int .i64)] [.int .u64 v0] = F_nums_groups v0 := by kernel_rfl
theorem C_nums_groups {R : Type} (v0 : Int) (K : Res [.sc (.int .i64)] → W R) (Q : R → World → Prop) (w : World) (h : F_nums_groups v0 (fun r w => K r Q w) w) : callW Tryz.prog k_nums_groups [.int .u64 v0] [.sc (.int .i64)] K Q w :=
  den_calls mix Tryz.func132 H_nums_groups (ts := [.sc (.int .i64)]) trivial (by rw [Tryz.ntmps132]; simp) (by rw [E_nums_groups]; exact h)
def F_bits_Writer_Len (w0 : Option Addr) : W (Int) :=
  cond (Option.isNone w0)
    (retW 0)
    (ptrW w0 fun x_1 =>
  ld (.sc (.int .i64)) (Addr.add x_1 1) fun (x_2 : Int) =>
  retW x_2)
def H_bits_Writer_Len : Hints := {}
theorem E_bits_Writer_Len (w0 : Option Addr) : denF Tryz.prog H_bits_Writer_Len Tryz.f133 [.sc (.int .i64)] [.pointer w0] = F_bits_Writer_Len w0 := by kernel_rfl
theorem C_bits_Writer_Len {R : Type} (w0 : Option Addr) (K : Res [.sc (.int .i64)] → W R) (Q : R → World → Prop) (w : World) (h : F_bits_Writer_Len w0 (fun r w => K r Q w) w) : callW Tryz.prog k_bits_Writer_Len [.pointer w0] [.sc (.int .i64)] K Q w :=
  den_calls mix Tryz.func133 H_bits_Writer_Len (ts := [.sc (.int .i64)]) trivial (by rw [Tryz.ntmps133]; simp) (by rw [E_bits_Writer_Len]; exact h)
def F_comp_Put (w0 : Option Addr) (c1 : (Int × Int × Int × Int)) : W (Int) :=
  newW 92 [.int .u8 c1.1, .int .i32 c1.2.1, .int .i32 c1.2.2.1, .int .i32 c1.2.2.2] fun c_1 =>
  cond (Option.isNone w0)
    (retW 10)
    (ld (.agg [.int .u8, .int .i32, .int .i32, .int .i32]) c_1 fun (x_2 : (Int × Int × Int × Int)) =>
  callW Tryz.prog k_schema_Check [.agg ⟨[.int .u8 x_2.1, .int .i32 x_2.2.1, .int .i32 x_2.2.2.1, .int .i32 x_2.2.2.2]⟩] [.sc (.int .i64)] fun (x_3 : Int) =>
  cond (x_3 != 0)
    (retW x_3)
    (ld (.agg [.int .u8, .int .i32, .int .i32, .int .i32]) c_1 fun (x_4 : (Int × Int × Int × Int)) =>
  callW Tryz.prog k_comp_whole [.agg ⟨[.int .u8 x_4.1, .int .i32 x_4.2.1, .int .i32 x_4.2.2.1, .int .i32 x_4.2.2.2]⟩] [.sc .sl] fun (x_5 : Sl) =>
  callW Tryz.prog k_comp_put [.pointer w0, .slice x_5.a x_5.n x_5.c] [.sc (.int .i64)] fun (x_6 : Int) =>
  retW x_6))
def H_comp_Put : Hints := {}
theorem E_comp_Put (w0 : Option Addr) (c1 : (Int × Int × Int × Int)) : denF Tryz.prog H_comp_Put Tryz.f134 [.sc (.int .i64)] [.pointer w0, .agg ⟨[.int .u8 c1.1, .int .i32 c1.2.1, .int .i32 c1.2.2.1, .int .i32 c1.2.2.2]⟩] = F_comp_Put w0 c1 := by kernel_rfl
theorem C_comp_Put {R : Type} (w0 : Option Addr) (c1 : (Int × Int × Int × Int)) (K : Res [.sc (.int .i64)] → W R) (Q : R → World → Prop) (w : World) (h : F_comp_Put w0 c1 (fun r w => K r Q w) w) : callW Tryz.prog k_comp_Put [.pointer w0, .agg ⟨[.int .u8 c1.1, .int .i32 c1.2.1, .int .i32 c1.2.2.1, .int .i32 c1.2.2.2]⟩] [.sc (.int .i64)] K Q w :=
  den_calls mix Tryz.func134 H_comp_Put (ts := [.sc (.int .i64)]) trivial (by rw [Tryz.ntmps134]; simp) (by rw [E_comp_Put]; exact h)
def F_diff_find (l0 : Sl) (kind1 : Int) : W ((Int × Int × Int × Int) × Bool) :=
  newW 5 [.int .u8 kind1] fun kind_1 =>
  newW 92 [.int .u8 0, .int .i32 0, .int .i32 0, .int .i32 0] fun x_2 =>
  callW Tryz.prog k_slices_IndexFunc_Comp [.slice l0.a l0.n l0.c, .func (.func 165) #[] #[.pointer (some kind_1)]] [.sc (.int .i64)] fun (x_3 : Int) =>
  cond (decide (x_3 < 0))
    (stoL x_2 [.int .u8 0, .int .i32 0, .int .i32 0, .int .i32 0] 0 <|
    ld (.agg [.int .u8, .int .i32, .int .i32, .int .i32]) x_2 fun (x_4 : (Int × Int × Int × Int)) =>
    retW (x_4, false))
    (idxW l0.a l0.n 4 x_3 fun x_5 =>
  ld (.agg [.int .u8, .int .i32, .int .i32, .int .i32]) x_5 fun (x_6 : (Int × Int × Int × Int)) =>
  stoL x_2 [.int .u8 x_6.1, .int .i32 x_6.2.1, .int .i32 x_6.2.2.1, .int .i32 x_6.2.2.2] 0 <|
  ld (.agg [.int .u8, .int .i32, .int .i32, .int .i32]) x_2 fun (x_7 : (Int × Int × Int × Int)) =>
  retW (x_7, true))
def H_diff_find : Hints := {}
theorem E_diff_find (l0 : Sl) (kind1 : Int) : denF Tryz.prog H_diff_find Tryz.f135 [.agg [.int .u8, .int .i32, .int .i32, .int .i32], .sc .bool] [.slice l0.a l0.n l0.c, .int .u8 kind1] = F_diff_find l0 kind1 := by kernel_rfl
theorem C_diff_find {R : Type} (l0 : Sl) (kind1 : Int) (K : Res [.agg [.int .u8, .int .i32, .int .i32, .int .i32], .sc .bool] → W R) (Q : R → World → Prop) (w : World) (h : F_diff_find l0 kind1 (fun r w => K r Q w) w) : callW Tryz.prog k_diff_find [.slice l0.a l0.n l0.c, .int .u8 kind1] [.agg [.int .u8, .int .i32, .int .i32, .int .i32], .sc .bool] K Q w :=
  den_calls mix Tryz.func135 H_diff_find (ts := [.agg [.int .u8, .int .i32, .int .i32, .int .i32], .sc .bool]) ⟨by kernel_rfl, trivial⟩ (by rw [Tryz.ntmps135]; simp) (by rw [E_diff_find]; exact h)
def F_comp_pair (was0 : (Int × Int × Int × Int)) (c1 : (Int × Int × Int × Int)) : W (Int) :=
  newW 92 [.int .u8 was0.1, .int .i32 was0.2.1, .int .i32 was0.2.2.1, .int .i32 was0.2.2.2] fun was_1 =>
  newW 92 [.int .u8 c1.1, .int .i32 c1.2.1, .int .i32 c1.2.2.1, .int .i32 c1.2.2.2] fun c_2 =>
  ld (.agg [.int .u8, .int .i32, .int .i32, .int .i32]) was_1 fun (x_3 : (Int × Int × Int × Int)) =>
  callW Tryz.prog k_schema_Check [.agg ⟨[.int .u8 x_3.1, .int .i32 x_3.2.1, .int .i32 x_3.2.2.1, .int .i32 x_3.2.2.2]⟩] [.sc (.int .i64)] fun (x_4 : Int) =>
  cond (x_4 != 0)
    (retW x_4)
    (ld (.agg [.int .u8, .int .i32, .int .i32, .int .i32]) c_2 fun (x_5 : (Int × Int × Int × Int)) =>
  callW Tryz.prog k_schema_Check [.agg ⟨[.int .u8 x_5.1, .int .i32 x_5.2.1, .int .i32 x_5.2.2.1, .int .i32 x_5.2.2.2]⟩] [.sc (.int .i64)] fun (x_6 : Int) =>
  cond (x_6 != 0)
    (retW x_6)
    (ld (.sc (.int .u8)) (Addr.add was_1 0) fun (x_7 : Int) =>
  ld (.sc (.int .u8)) (Addr.add c_2 0) fun (x_8 : Int) =>
  cond (x_7 != x_8)
    (retW 4)
    (retW 0)))
def H_comp_pair : Hints := {}
theorem E_comp_pair (was0 : (Int × Int × Int × Int)) (c1 : (Int × Int × Int × Int)) : denF Tryz.prog H_comp_pair Tryz.f136 [.sc (.int .i64)] [.agg ⟨[.int .u8 was0.1, .int .i32 was0.2.1, .int .i32 was0.2.2.1, .int .i32 was0.2.2.2]⟩, .agg ⟨[.int .u8 c1.1, .int .i32 c1.2.1, .int .i32 c1.2.2.1, .int .i32 c1.2.2.2]⟩] = F_comp_pair was0 c1 := by kernel_rfl
theorem C_comp_pair {R : Type} (was0 : (Int × Int × Int × Int)) (c1 : (Int × Int × Int × Int)) (K : Res [.sc (.int .i64)] → W R) (Q : R → World → Prop) (w : World) (h : F_comp_pair was0 c1 (fun r w => K r Q w) w) : callW Tryz.prog k_comp_pair [.agg ⟨[.int .u8 was0.1, .int .i32 was0.2.1, .int .i32 was0.2.2.1, .int .i32 was0.2.2.2]⟩, .agg ⟨[.int .u8 c1.1, .int .i32 c1.2.1, .int .i32 c1.2.2.1, .int .i32 c1.2.2.2]⟩] [.sc (.int .i64)] K Q w :=
  den_calls mix Tryz.func136 H_comp_pair (ts := [.sc (.int .i64)]) trivial (by rw [Tryz.ntmps136]; simp) (by rw [E_comp_pair]; exact h)
def F_comp_put (w0 : Option Addr) (l1 : Sl) : W (Int) :=
  callW Tryz.prog k_bits_Writer_Len [.pointer w0] [.sc (.int .i64)] fun (x_1 : Int) =>
  callW Tryz.prog k_comp_size [.slice l1.a l1.n l1.c] [.sc (.int .i64)] fun (x_2 : Int) =>
  cond (decide ((IntKind.wrap .i64 (x_1 + x_2)) > 1048576))
    (retW 3)
    (loopW (σ := Int) (fun K_3 s_4 =>
    cond (decide (s_4 < (l1.n : Int)))
      (idxW l1.a l1.n 2 s_4 fun x_5 =>
    ld (.agg [.int .u64, .int .i64]) x_5 fun (x_6 : (Int × Int)) =>
    newW 231 [.int .u64 0, .int .i64 0] fun p_7 =>
    stoL p_7 [.int .u64 x_6.1, .int .i64 x_6.2] 0 <|
    ld (.sc (.int .u64)) (Addr.add p_7 0) fun (x_8 : Int) =>
    ld (.sc (.int .i64)) (Addr.add p_7 1) fun (x_9 : Int) =>
    callW Tryz.prog k_bits_Writer_Put [.pointer w0, .int .u64 x_8, .int .i64 x_9] [.sc (.int .i64)] fun (x_10 : Int) =>
    K_3 (IntKind.wrap .i64 (s_4 + 1)))
      (retW 0))
    0)
def H_comp_put : Hints := { lop := [(0, [(15, .sc (.int .i64))])] }
theorem E_comp_put (w0 : Option Addr) (l1 : Sl) : denF Tryz.prog H_comp_put Tryz.f137 [.sc (.int .i64)] [.pointer w0, .slice l1.a l1.n l1.c] = F_comp_put w0 l1 := by kernel_rfl
theorem C_comp_put {R : Type} (w0 : Option Addr) (l1 : Sl) (K : Res [.sc (.int .i64)] → W R) (Q : R → World → Prop) (w : World) (h : F_comp_put w0 l1 (fun r w => K r Q w) w) : callW Tryz.prog k_comp_put [.pointer w0, .slice l1.a l1.n l1.c] [.sc (.int .i64)] K Q w :=
  den_calls mix Tryz.func137 H_comp_put (ts := [.sc (.int .i64)]) trivial (by rw [Tryz.ntmps137]; simp) (by rw [E_comp_put]; exact h)
def F_comp_step (was0 : (Int × Int × Int × Int)) (c1 : (Int × Int × Int × Int)) : W (Sl) :=
  newW 92 [.int .u8 was0.1, .int .i32 was0.2.1, .int .i32 was0.2.2.1, .int .i32 was0.2.2.2] fun was_1 =>
  newW 92 [.int .u8 c1.1, .int .i32 c1.2.1, .int .i32 c1.2.2.1, .int .i32 c1.2.2.2] fun c_2 =>
  ld (.sc (.int .u8)) (Addr.add c_2 0) fun (x_3 : Int) =>
  callW Tryz.prog k_schema_Count [.int .u8 x_3] [.sc (.int .i64)] fun (x_4 : Int) =>
  loopW (σ := Sl × Int) (fun K_5 s_6 =>
    cond (decide (s_6.2 < x_4))
      (ld (.agg [.int .u8, .int .i32, .int .i32, .int .i32]) was_1 fun (x_7 : (Int × Int × Int × Int)) =>
    ld (.agg [.int .u8, .int .i32, .int .i32, .int .i32]) c_2 fun (x_8 : (Int × Int × Int × Int)) =>
    callW Tryz.prog k_comp_more [.agg ⟨[.int .u8 x_7.1, .int .i32 x_7.2.1, .int .i32 x_7.2.2.1, .int .i32 x_7.2.2.2]⟩, .agg ⟨[.int .u8 x_8.1, .int .i32 x_8.2.1, .int .i32 x_8.2.2.1, .int .i32 x_8.2.2.2]⟩, .int .i64 s_6.2] [.sc (.int .u64)] fun (x_9 : Int) =>
    joinW (σ := Sl) (fun J_10 =>
      cond (x_9 == 0)
        (newW 231 [.int .u64 0, .int .i64 1] fun x_11 =>
        rawW Tryz.prog (Builtin.append_ #[202, 202] 202 #[.slice s_6.1.a s_6.1.n s_6.1.c, .slice (some x_11) 1 1]) [.sc .sl] fun (x_12 : Sl) =>
        J_10 x_12)
        (joinW (σ := Sl) (fun J_13 =>
          cond (decide (x_9 ≤ 16))
            (newW 231 [.int .u64 1, .int .i64 1, .int .u64 1, .int .i64 1, .int .u64 (IntKind.wrap .u64 (x_9 - 1)), .int .i64 4] fun x_14 =>
            rawW Tryz.prog (Builtin.append_ #[202, 202] 202 #[.slice s_6.1.a s_6.1.n s_6.1.c, .slice (some x_14) 3 3]) [.sc .sl] fun (x_15 : Sl) =>
            J_13 x_15)
            (ld (.agg [.int .u8, .int .i32, .int .i32, .int .i32]) c_2 fun (x_16 : (Int × Int × Int × Int)) =>
            callW Tryz.prog k_comp_field [.agg ⟨[.int .u8 x_16.1, .int .i32 x_16.2.1, .int .i32 x_16.2.2.1, .int .i32 x_16.2.2.2]⟩, .int .i64 s_6.2] [.agg [.int .u64, .int .i64]] fun (x_17 : (Int × Int)) =>
            newW 231 [.int .u64 1, .int .i64 1, .int .u64 0, .int .i64 1, .int .u64 x_17.1, .int .i64 x_17.2] fun x_18 =>
            rawW Tryz.prog (Builtin.append_ #[202, 202] 202 #[.slice s_6.1.a s_6.1.n s_6.1.c, .slice (some x_18) 3 3]) [.sc .sl] fun (x_19 : Sl) =>
            J_13 x_19))
        <| fun s_20 =>
        J_10 s_20))
    <| fun s_21 =>
    K_5 (s_21, IntKind.wrap .i64 (s_6.2 + 1)))
      (retW s_6.1))
    ((⟨none, 0, 0⟩ : Sl), 0)
def H_comp_step : Hints := { con := [(11033, [(5, .sc .sl)]), (9026, [(5, .sc .sl)])], lop := [(0, [(5, .sc .sl), (11, .sc (.int .i64))])] }
theorem E_comp_step (was0 : (Int × Int × Int × Int)) (c1 : (Int × Int × Int × Int)) : denF Tryz.prog H_comp_step Tryz.f138 [.sc .sl] [.agg ⟨[.int .u8 was0.1, .int .i32 was0.2.1, .int .i32 was0.2.2.1, .int .i32 was0.2.2.2]⟩, .agg ⟨[.int .u8 c1.1, .int .i32 c1.2.1, .int .i32 c1.2.2.1, .int .i32 c1.2.2.2]⟩] = F_comp_step was0 c1 := by kernel_rfl
theorem C_comp_step {R : Type} (was0 : (Int × Int × Int × Int)) (c1 : (Int × Int × Int × Int)) (K : Res [.sc .sl] → W R) (Q : R → World → Prop) (w : World) (h : F_comp_step was0 c1 (fun r w => K r Q w) w) : callW Tryz.prog k_comp_step [.agg ⟨[.int .u8 was0.1, .int .i32 was0.2.1, .int .i32 was0.2.2.1, .int .i32 was0.2.2.2]⟩, .agg ⟨[.int .u8 c1.1, .int .i32 c1.2.1, .int .i32 c1.2.2.1, .int .i32 c1.2.2.2]⟩] [.sc .sl] K Q w :=
  den_calls mix Tryz.func138 H_comp_step (ts := [.sc .sl]) trivial (by rw [Tryz.ntmps138]; simp) (by rw [E_comp_step]; exact h)
def F_snap_Find (l0 : Sl) (id1 : Int) : W (Int) :=
  callW Tryz.prog k_slices_BinarySearchFunc_Ent [.slice l0.a l0.n l0.c, .int .u32 id1, .func (.func 171) #[] #[]] [.sc (.int .i64), .sc .bool] fun (x_1 : Int × Bool) =>
  cond (!x_1.2)
    (retW (-1))
    (retW x_1.1)
def H_snap_Find : Hints := {}
theorem E_snap_Find (l0 : Sl) (id1 : Int) : denF Tryz.prog H_snap_Find Tryz.f139 [.sc (.int .i64)] [.slice l0.a l0.n l0.c, .int .u32 id1] = F_snap_Find l0 id1 := by kernel_rfl
theorem C_snap_Find {R : Type} (l0 : Sl) (id1 : Int) (K : Res [.sc (.int .i64)] → W R) (Q : R → World → Prop) (w : World) (h : F_snap_Find l0 id1 (fun r w => K r Q w) w) : callW Tryz.prog k_snap_Find [.slice l0.a l0.n l0.c, .int .u32 id1] [.sc (.int .i64)] K Q w :=
  den_calls mix Tryz.func139 H_snap_Find (ts := [.sc (.int .i64)]) trivial (by rw [Tryz.ntmps139]; simp) (by rw [E_snap_Find]; exact h)
def F_nums_try_int64__nums_GetIn_c1 (r0 : Option Addr) (read1c0 : Option Addr) (read1c1 : Option Addr) : W (Int × Int) :=
  cond (Option.isNone r0)
    (retW (0, 10))
    (ptrW r0 fun x_1 =>
  ld (.agg [.sl, .int .i64]) x_1 fun (x_2 : (Sl × Int)) =>
  newW 173 [.slice none 0 0, .int .i64 0] fun was_3 =>
  stoL was_3 [.slice x_2.1.a x_2.1.n x_2.1.c, .int .i64 x_2.2] 0 <|
  callW Tryz.prog k_nums_GetIn_c1 [.pointer r0, .pointer read1c0, .pointer read1c1] [.sc (.int .i64), .sc (.int .i64)] fun (x_4 : Int × Int) =>
  cond (x_4.2 != 0)
    (ld (.agg [.sl, .int .i64]) was_3 fun (x_5 : (Sl × Int)) =>
    ptrW r0 fun x_6 =>
    stoL x_6 [.slice x_5.1.a x_5.1.n x_5.1.c, .int .i64 x_5.2] 0 <|
    retW (0, x_4.2))
    (retW (x_4.1, 0)))
def H_nums_try_int64__nums_GetIn_c1 : Hints := {}
theorem E_nums_try_int64__nums_GetIn_c1 (r0 : Option Addr) (read1c0 : Option Addr) (read1c1 : Option Addr) : denF Tryz.prog H_nums_try_int64__nums_GetIn_c1 Tryz.f140 [.sc (.int .i64), .sc (.int .i64)] [.pointer r0, .func (.func 141) #[] #[.pointer read1c0, .pointer read1c1]] = F_nums_try_int64__nums_GetIn_c1 r0 read1c0 read1c1 := by kernel_rfl
theorem C_nums_try_int64__nums_GetIn_c1 {R : Type} (r0 : Option Addr) (read1c0 : Option Addr) (read1c1 : Option Addr) (K : Res [.sc (.int .i64), .sc (.int .i64)] → W R) (Q : R → World → Prop) (w : World) (h : F_nums_try_int64__nums_GetIn_c1 r0 read1c0 read1c1 (fun r w => K r Q w) w) : callW Tryz.prog k_nums_try_int64 [.pointer r0, .func (.func 141) #[] #[.pointer read1c0, .pointer read1c1]] [.sc (.int .i64), .sc (.int .i64)] K Q w :=
  den_calls mix Tryz.func140 H_nums_try_int64__nums_GetIn_c1 (ts := [.sc (.int .i64), .sc (.int .i64)]) trivial (by rw [Tryz.ntmps140]; simp) (by rw [E_nums_try_int64__nums_GetIn_c1]; exact h)
def F_nums_GetIn_c1 (r0 : Option Addr) (c1 : Option Addr) (c2 : Option Addr) : W (Int × Int) :=
  ptrW c1 fun x_1 =>
  ld (.sc (.int .i64)) x_1 fun (x_2 : Int) =>
  ptrW c2 fun x_3 =>
  ld (.sc (.int .i64)) x_3 fun (x_4 : Int) =>
  callW Tryz.prog k_nums_Width [.int .i64 x_2, .int .i64 x_4] [.sc (.int .i64)] fun (x_5 : Int) =>
  callW Tryz.prog k_bits_Reader_Get [.pointer r0, .int .i64 x_5] [.sc (.int .u64), .sc (.int .i64)] fun (x_6 : Int × Int) =>
  cond (x_6.2 != 0)
    (retW (0, x_6.2))
    (ptrW c2 fun x_7 =>
    ld (.sc (.int .i64)) x_7 fun (x_8 : Int) =>
    ptrW c1 fun x_9 =>
    ld (.sc (.int .i64)) x_9 fun (x_10 : Int) =>
    cond (decide (x_6.1 > (IntKind.wrap .u64 ((IntKind.wrap .u64 x_8) - (IntKind.wrap .u64 x_10)))))
      (retW (0, 5))
      (ptrW c1 fun x_11 =>
  ld (.sc (.int .i64)) x_11 fun (x_12 : Int) =>
  retW (IntKind.wrap .i64 (IntKind.wrap .u64 ((IntKind.wrap .u64 x_12) + x_6.1)), 0)))
def H_nums_GetIn_c1 : Hints := {}
theorem E_nums_GetIn_c1 (r0 : Option Addr) (c1 : Option Addr) (c2 : Option Addr) : denF Tryz.prog H_nums_GetIn_c1 Tryz.f141 [.sc (.int .i64), .sc (.int .i64)] [.pointer r0, .pointer c1, .pointer c2] = F_nums_GetIn_c1 r0 c1 c2 := by kernel_rfl
theorem C_nums_GetIn_c1 {R : Type} (r0 : Option Addr) (c1 : Option Addr) (c2 : Option Addr) (K : Res [.sc (.int .i64), .sc (.int .i64)] → W R) (Q : R → World → Prop) (w : World) (h : F_nums_GetIn_c1 r0 c1 c2 (fun r w => K r Q w) w) : callW Tryz.prog k_nums_GetIn_c1 [.pointer r0, .pointer c1, .pointer c2] [.sc (.int .i64), .sc (.int .i64)] K Q w :=
  den_calls mix Tryz.func141 H_nums_GetIn_c1 (ts := [.sc (.int .i64), .sc (.int .i64)]) trivial (by rw [Tryz.ntmps141]; simp) (by rw [E_nums_GetIn_c1]; exact h)
def F_bits_Reader_Get (r0 : Option Addr) (n1 : Int) : W (Int × Int) :=
  cond (Option.isNone r0)
    (retW (0, 10))
    (joinW (σ := Bool) (fun J_1 =>
      cond (decide (n1 < 0))
        (J_1 true)
        (J_1 (decide (n1 > 64))))
    <| fun s_2 =>
    cond s_2
      (retW (0, 1))
      (callW Tryz.prog k_bits_Reader_Left [.pointer r0] [.sc (.int .i64)] fun (x_3 : Int) =>
      cond (decide (n1 > x_3))
        (retW (0, 2))
        (loopW (σ := Int × Int) (fun K_4 s_5 =>
    cond (decide (s_5.2 < n1))
      (drawW <|
    ptrW r0 fun x_6 =>
    ld (.sc .sl) (Addr.add x_6 0) fun (x_7 : Sl) =>
    ptrW r0 fun x_8 =>
    ld (.sc (.int .i64)) (Addr.add x_8 1) fun (x_9 : Int) =>
    idxW x_7.a x_7.n 1 (IntKind.wrap .i64 (Int.tdiv x_9 8)) fun x_10 =>
    ld (.sc (.int .u8)) x_10 fun (x_11 : Int) =>
    ptrW r0 fun x_12 =>
    ld (.sc (.int .i64)) (Addr.add x_12 1) fun (x_13 : Int) =>
    chkW (0 ≤ (Int.tmod x_13 8)) <|
    chkW (0 ≤ s_5.2) <|
    ptrW r0 fun x_14 =>
    ld (.sc (.int .i64)) (Addr.add x_14 1) fun (x_15 : Int) =>
    ptrW r0 fun x_16 =>
    stoL (Addr.add x_16 1) [.int .i64 (IntKind.wrap .i64 (x_15 + 1))] 0 <|
    K_4 (bOr .u64 s_5.1 (shL .u64 (IntKind.wrap .u64 (bAnd .u8 (shR .u8 x_11 (Int.tmod x_13 8)) 1)) s_5.2), IntKind.wrap .i64 (s_5.2 + 1)))
      (retW (s_5.1, 0)))
    (0, 0))))
def H_bits_Reader_Get : Hints := { reg := [(3, [(11, .sc .bool)])], lop := [(1, [(6, .sc (.int .u64)), (24, .sc (.int .i64))])], dr := [(11, ([], [[(0, []), (1, []), (2, []), (3, []), (4, []), (5, []), (6, []), (7, []), (8, []), (9, []), (10, []), (11, []), (12, []), (13, []), (14, []), (15, []), (16, []), (17, []), (18, []), (19, []), (20, []), (21, []), (22, []), (23, [])]]))] }
theorem E_bits_Reader_Get (r0 : Option Addr) (n1 : Int) : denF Tryz.prog H_bits_Reader_Get Tryz.f142 [.sc (.int .u64), .sc (.int .i64)] [.pointer r0, .int .i64 n1] = F_bits_Reader_Get r0 n1 := by kernel_rfl
theorem C_bits_Reader_Get {R : Type} (r0 : Option Addr) (n1 : Int) (K : Res [.sc (.int .u64), .sc (.int .i64)] → W R) (Q : R → World → Prop) (w : World) (h : F_bits_Reader_Get r0 n1 (fun r w => K r Q w) w) : callW Tryz.prog k_bits_Reader_Get [.pointer r0, .int .i64 n1] [.sc (.int .u64), .sc (.int .i64)] K Q w :=
  den_calls mix Tryz.func142 H_bits_Reader_Get (ts := [.sc (.int .u64), .sc (.int .i64)]) trivial (by rw [Tryz.ntmps142]; simp) (by rw [E_bits_Reader_Get]; exact h)
def F_packet_must_uint64 (v0 : Int) (e1 : Int) : W ((Int) ⊕ List PanicEntry) :=
  joinW (σ := Unit) (fun J_1 =>
    cond (e1 != 0)
      (panW (.iface 171 (.agg ⟨[]⟩)))
      (J_1 ()))
  <| fun s_2 =>
  retW (.inl v0)
def H_packet_must_uint64 : Hints := { con := [(3006, [])] }
theorem E_packet_must_uint64 (v0 : Int) (e1 : Int) : denFP Tryz.prog H_packet_must_uint64 Tryz.f143 [.sc (.int .u64)] [.int .u64 v0, .int .i64 e1] = F_packet_must_uint64 v0 e1 := by kernel_rfl
theorem C_packet_must_uint64 {R : Type} [Pan R] (v0 : Int) (e1 : Int) (K : Res [.sc (.int .u64)] → W R) (Q : R → World → Prop) (w : World) (h : F_packet_must_uint64 v0 e1 (kP K Q) w) : callP Tryz.prog k_packet_must_uint64 [.int .u64 v0, .int .i64 e1] [.sc (.int .u64)] K Q w :=
  den_callsP mix Tryz.func143 H_packet_must_uint64 (ts := [.sc (.int .u64)]) (post := kP K Q) trivial (by rw [Tryz.ntmps143]; simp) (by rw [E_packet_must_uint64]; exact h)
def F_nums_GetVar (r0 : Option Addr) : W (Int × Int) :=
  callW Tryz.prog k_nums_try_uint64 [.pointer r0, .func (.func 174) #[] #[]] [.sc (.int .u64), .sc (.int .i64)] fun (x_1 : Int × Int) =>
  retW (x_1.1, x_1.2)
def H_nums_GetVar : Hints := {}
theorem E_nums_GetVar (r0 : Option Addr) : denF Tryz.prog H_nums_GetVar Tryz.f144 [.sc (.int .u64), .sc (.int .i64)] [.pointer r0] = F_nums_GetVar r0 := by kernel_rfl
theorem C_nums_GetVar {R : Type} (r0 : Option Addr) (K : Res [.sc (.int .u64), .sc (.int .i64)] → W R) (Q : R → World → Prop) (w : World) (h : F_nums_GetVar r0 (fun r w => K r Q w) w) : callW Tryz.prog k_nums_GetVar [.pointer r0] [.sc (.int .u64), .sc (.int .i64)] K Q w :=
  den_calls mix Tryz.func144 H_nums_GetVar (ts := [.sc (.int .u64), .sc (.int .i64)]) trivial (by rw [Tryz.ntmps144]; simp) (by rw [E_nums_GetVar]; exact h)
def F_comp_Get (r0 : Option Addr) (kind1 : Int) : W ((Int × Int × Int × Int) × Int) :=
  newW 60 [.pointer r0] fun r_1 =>
  newW 5 [.int .u8 kind1] fun kind_2 =>
  newW 92 [.int .u8 0, .int .i32 0, .int .i32 0, .int .i32 0] fun x_3 =>
  ld (.sc .ptr) r_1 fun (x_4 : Option Addr) =>
  cond (Option.isNone x_4)
    (stoL x_3 [.int .u8 0, .int .i32 0, .int .i32 0, .int .i32 0] 0 <|
    ld (.agg [.int .u8, .int .i32, .int .i32, .int .i32]) x_3 fun (x_5 : (Int × Int × Int × Int)) =>
    retW (x_5, 10))
    (ld (.sc (.int .u8)) kind_2 fun (x_6 : Int) =>
    callW Tryz.prog k_schema_Count [.int .u8 x_6] [.sc (.int .i64)] fun (x_7 : Int) =>
    cond (x_7 == 0)
      (stoL x_3 [.int .u8 0, .int .i32 0, .int .i32 0, .int .i32 0] 0 <|
      ld (.agg [.int .u8, .int .i32, .int .i32, .int .i32]) x_3 fun (x_8 : (Int × Int × Int × Int)) =>
      retW (x_8, 1))
      (ld (.sc .ptr) r_1 fun (x_9 : Option Addr) =>
  ld (.sc (.int .u8)) kind_2 fun (x_10 : Int) =>
  callW Tryz.prog k_comp_back [.pointer x_9, .agg ⟨[.int .u8 x_10, .int .i32 0, .int .i32 0, .int .i32 0]⟩, .func (.func 175) #[] #[.pointer (some r_1), .pointer (some kind_2)]] [.agg [.int .u8, .int .i32, .int .i32, .int .i32], .sc (.int .i64)] fun (x_11 : (Int × Int × Int × Int) × Int) =>
  stoL x_3 [.int .u8 x_11.1.1, .int .i32 x_11.1.2.1, .int .i32 x_11.1.2.2.1, .int .i32 x_11.1.2.2.2] 0 <|
  ld (.agg [.int .u8, .int .i32, .int .i32, .int .i32]) x_3 fun (x_12 : (Int × Int × Int × Int)) =>
  retW (x_12, x_11.2)))
def H_comp_Get : Hints := {}
theorem E_comp_Get (r0 : Option Addr) (kind1 : Int) : denF Tryz.prog H_comp_Get Tryz.f147 [.agg [.int .u8, .int .i32, .int .i32, .int .i32], .sc (.int .i64)] [.pointer r0, .int .u8 kind1] = F_comp_Get r0 kind1 := by kernel_rfl
theorem C_comp_Get {R : Type} (r0 : Option Addr) (kind1 : Int) (K : Res [.agg [.int .u8, .int .i32, .int .i32, .int .i32], .sc (.int .i64)] → W R) (Q : R → World → Prop) (w : World) (h : F_comp_Get r0 kind1 (fun r w => K r Q w) w) : callW Tryz.prog k_comp_Get [.pointer r0, .int .u8 kind1] [.agg [.int .u8, .int .i32, .int .i32, .int .i32], .sc (.int .i64)] K Q w :=
  den_calls mix Tryz.func147 H_comp_Get (ts := [.agg [.int .u8, .int .i32, .int .i32, .int .i32], .sc (.int .i64)]) ⟨by kernel_rfl, trivial⟩ (by rw [Tryz.ntmps147]; simp) (by rw [E_comp_Get]; exact h)
def F_slices_SortStableFunc_Comp__diff_turn_c1 (x0 : Sl) : W (Unit) :=
  callW Tryz.prog k_slices_stableCmpFunc_Comp [.slice x0.a x0.n x0.c, .int .i64 (x0.n : Int), .func (.func 150) #[] #[]] [] fun (x_1 : Unit) =>
  retW ()
def H_slices_SortStableFunc_Comp__diff_turn_c1 : Hints := {}
theorem E_slices_SortStableFunc_Comp__diff_turn_c1 (x0 : Sl) : denF Tryz.prog H_slices_SortStableFunc_Comp__diff_turn_c1 Tryz.f149 [] [.slice x0.a x0.n x0.c, .func (.func 150) #[] #[]] = F_slices_SortStableFunc_Comp__diff_turn_c1 x0 := by kernel_rfl
theorem C_slices_SortStableFunc_Comp__diff_turn_c1 {R : Type} (x0 : Sl) (K : Res [] → W R) (Q : R → World → Prop) (w : World) (h : F_slices_SortStableFunc_Comp__diff_turn_c1 x0 (fun r w => K r Q w) w) : callW Tryz.prog k_slices_SortStableFunc_Comp [.slice x0.a x0.n x0.c, .func (.func 150) #[] #[]] [] K Q w :=
  den_calls mix Tryz.func149 H_slices_SortStableFunc_Comp__diff_turn_c1 (ts := []) trivial (by rw [Tryz.ntmps149]; simp) (by rw [E_slices_SortStableFunc_Comp__diff_turn_c1]; exact h)
def F_diff_turn_c1 (a0 : (Int × Int × Int × Int)) (b1 : (Int × Int × Int × Int)) : W (Int) :=
  newW 92 [.int .u8 a0.1, .int .i32 a0.2.1, .int .i32 a0.2.2.1, .int .i32 a0.2.2.2] fun a_1 =>
  newW 92 [.int .u8 b1.1, .int .i32 b1.2.1, .int .i32 b1.2.2.1, .int .i32 b1.2.2.2] fun b_2 =>
  ld (.sc (.int .u8)) (Addr.add a_1 0) fun (x_3 : Int) =>
  ld (.sc (.int .u8)) (Addr.add b_2 0) fun (x_4 : Int) =>
  callW Tryz.prog k_cmp_Compare_byte [.int .u8 x_3, .int .u8 x_4] [.sc (.int .i64)] fun (x_5 : Int) =>
  retW x_5
def H_diff_turn_c1 : Hints := {}
theorem E_diff_turn_c1 (a0 : (Int × Int × Int × Int)) (b1 : (Int × Int × Int × Int)) : denF Tryz.prog H_diff_turn_c1 Tryz.f150 [.sc (.int .i64)] [.agg ⟨[.int .u8 a0.1, .int .i32 a0.2.1, .int .i32 a0.2.2.1, .int .i32 a0.2.2.2]⟩, .agg ⟨[.int .u8 b1.1, .int .i32 b1.2.1, .int .i32 b1.2.2.1, .int .i32 b1.2.2.2]⟩] = F_diff_turn_c1 a0 b1 := by kernel_rfl
theorem C_diff_turn_c1 {R : Type} (a0 : (Int × Int × Int × Int)) (b1 : (Int × Int × Int × Int)) (K : Res [.sc (.int .i64)] → W R) (Q : R → World → Prop) (w : World) (h : F_diff_turn_c1 a0 b1 (fun r w => K r Q w) w) : callW Tryz.prog k_diff_turn_c1 [.agg ⟨[.int .u8 a0.1, .int .i32 a0.2.1, .int .i32 a0.2.2.1, .int .i32 a0.2.2.2]⟩, .agg ⟨[.int .u8 b1.1, .int .i32 b1.2.1, .int .i32 b1.2.2.1, .int .i32 b1.2.2.2]⟩] [.sc (.int .i64)] K Q w :=
  den_calls mix Tryz.func150 H_diff_turn_c1 (ts := [.sc (.int .i64)]) trivial (by rw [Tryz.ntmps150]; simp) (by rw [E_diff_turn_c1]; exact h)
def F_slices_stableCmpFunc_Ent__diff_Patch_c2 (data0 : Sl) (n1 : Int) : W (Unit) :=
  loopW (σ := Int × Int) (fun K_1 s_2 =>
    cond (decide (s_2.2 ≤ n1))
      (callW Tryz.prog k_slices_insertionSortCmpFunc_Ent [.slice data0.a data0.n data0.c, .int .i64 s_2.1, .int .i64 s_2.2, .func (.func 121) #[] #[]] [] fun (x_3 : Unit) =>
    K_1 (s_2.2, IntKind.wrap .i64 (s_2.2 + 20)))
      (callW Tryz.prog k_slices_insertionSortCmpFunc_Ent [.slice data0.a data0.n data0.c, .int .i64 s_2.1, .int .i64 n1, .func (.func 121) #[] #[]] [] fun (x_4 : Unit) =>
  loopW (σ := Int) (fun K_5 s_6 =>
    cond (decide (s_6 < n1))
      (loopW (σ := Int × Int) (fun K_7 s_8 =>
      cond (decide (s_8.2 ≤ n1))
        (callW Tryz.prog k_slices_symMergeCmpFunc_Ent [.slice data0.a data0.n data0.c, .int .i64 s_8.1, .int .i64 (IntKind.wrap .i64 (s_8.1 + s_6)), .int .i64 s_8.2, .func (.func 121) #[] #[]] [] fun (x_9 : Unit) =>
      K_7 (s_8.2, IntKind.wrap .i64 (s_8.2 + (IntKind.wrap .i64 (2 * s_6)))))
        (joinW (σ := Unit) (fun J_10 =>
      cond (decide ((IntKind.wrap .i64 (s_8.1 + s_6)) < n1))
        (callW Tryz.prog k_slices_symMergeCmpFunc_Ent [.slice data0.a data0.n data0.c, .int .i64 s_8.1, .int .i64 (IntKind.wrap .i64 (s_8.1 + s_6)), .int .i64 n1, .func (.func 121) #[] #[]] [] fun (x_11 : Unit) =>
        J_10 ())
        (J_10 ()))
    <| fun s_12 =>
    K_5 (IntKind.wrap .i64 (s_6 * 2))))
      (0, IntKind.wrap .i64 (2 * s_6)))
      (retW ()))
    20))
    (0, 20)
def H_slices_stableCmpFunc_Ent__diff_Patch_c2 : Hints := { con := [(16054, [])], lop := [(0, [(7, .sc (.int .i64)), (8, .sc (.int .i64))]), (2, [(6, .sc (.int .i64))]), (4, [(7, .sc (.int .i64)), (8, .sc (.int .i64))])] }
theorem E_slices_stableCmpFunc_Ent__diff_Patch_c2 (data0 : Sl) (n1 : Int) : denF Tryz.prog H_slices_stableCmpFunc_Ent__diff_Patch_c2 Tryz.f152 [] [.slice data0.a data0.n data0.c, .int .i64 n1, .func (.func 121) #[] #[]] = F_slices_stableCmpFunc_Ent__diff_Patch_c2 data0 n1 := by kernel_rfl
theorem C_slices_stableCmpFunc_Ent__diff_Patch_c2 {R : Type} (data0 : Sl) (n1 : Int) (K : Res [] → W R) (Q : R → World → Prop) (w : World) (h : F_slices_stableCmpFunc_Ent__diff_Patch_c2 data0 n1 (fun r w => K r Q w) w) : callW Tryz.prog k_slices_stableCmpFunc_Ent [.slice data0.a data0.n data0.c, .int .i64 n1, .func (.func 121) #[] #[]] [] K Q w :=
  den_calls mix Tryz.func152 H_slices_stableCmpFunc_Ent__diff_Patch_c2 (ts := []) trivial (by rw [Tryz.ntmps152]; simp) (by rw [E_slices_stableCmpFunc_Ent__diff_Patch_c2]; exact h)
def F_snap_Same (a0 : Sl) (b1 : Sl) : W (Bool) :=
  callW Tryz.prog k_slices_EqualFunc_Ent [.slice a0.a a0.n a0.c, .slice b1.a b1.n b1.c, .func (.func 182) #[] #[]] [.sc .bool] fun (x_1 : Bool) =>
  retW x_1
def H_snap_Same : Hints := {}
theorem E_snap_Same (a0 : Sl) (b1 : Sl) : denF Tryz.prog H_snap_Same Tryz.f155 [.sc .bool] [.slice a0.a a0.n a0.c, .slice b1.a b1.n b1.c] = F_snap_Same a0 b1 := by kernel_rfl
theorem C_snap_Same {R : Type} (a0 : Sl) (b1 : Sl) (K : Res [.sc .bool] → W R) (Q : R → World → Prop) (w : World) (h : F_snap_Same a0 b1 (fun r w => K r Q w) w) : callW Tryz.prog k_snap_Same [.slice a0.a a0.n a0.c, .slice b1.a b1.n b1.c] [.sc .bool] K Q w :=
  den_calls mix Tryz.func155 H_snap_Same (ts := [.sc .bool]) trivial (by rw [Tryz.ntmps155]; simp) (by rw [E_snap_Same]; exact h)
def F_slices_EqualFunc_Change__diff_same_c1 (s10 : Sl) (s21 : Sl) : W (Bool) :=
  cond ((s10.n : Int) != (s21.n : Int))
    (retW false)
    (loopW (σ := Int) (fun K_1 s_2 =>
    cond (decide (s_2 < (s10.n : Int)))
      (idxW s10.a s10.n 4 s_2 fun x_3 =>
    ld (.agg [.int .u32, .int .u8, .sl, .sl]) x_3 fun (x_4 : (Int × Int × Sl × Sl)) =>
    newW 86 [.int .u32 0, .int .u8 0, .slice none 0 0, .slice none 0 0] fun v1_5 =>
    stoL v1_5 [.int .u32 x_4.1, .int .u8 x_4.2.1, .slice x_4.2.2.1.a x_4.2.2.1.n x_4.2.2.1.c, .slice x_4.2.2.2.a x_4.2.2.2.n x_4.2.2.2.c] 0 <|
    idxW s21.a s21.n 4 s_2 fun x_6 =>
    ld (.agg [.int .u32, .int .u8, .sl, .sl]) x_6 fun (x_7 : (Int × Int × Sl × Sl)) =>
    newW 86 [.int .u32 0, .int .u8 0, .slice none 0 0, .slice none 0 0] fun v2_8 =>
    stoL v2_8 [.int .u32 x_7.1, .int .u8 x_7.2.1, .slice x_7.2.2.1.a x_7.2.2.1.n x_7.2.2.1.c, .slice x_7.2.2.2.a x_7.2.2.2.n x_7.2.2.2.c] 0 <|
    ld (.agg [.int .u32, .int .u8, .sl, .sl]) v1_5 fun (x_9 : (Int × Int × Sl × Sl)) =>
    ld (.agg [.int .u32, .int .u8, .sl, .sl]) v2_8 fun (x_10 : (Int × Int × Sl × Sl)) =>
    callW Tryz.prog k_diff_same_c1 [.agg ⟨[.int .u32 x_9.1, .int .u8 x_9.2.1, .slice x_9.2.2.1.a x_9.2.2.1.n x_9.2.2.1.c, .slice x_9.2.2.2.a x_9.2.2.2.n x_9.2.2.2.c]⟩, .agg ⟨[.int .u32 x_10.1, .int .u8 x_10.2.1, .slice x_10.2.2.1.a x_10.2.2.1.n x_10.2.2.1.c, .slice x_10.2.2.2.a x_10.2.2.2.n x_10.2.2.2.c]⟩] [.sc .bool] fun (x_11 : Bool) =>
    cond (!x_11)
      (retW false)
      (K_1 (IntKind.wrap .i64 (s_2 + 1))))
      (retW true))
    0)
def H_slices_EqualFunc_Change__diff_same_c1 : Hints := { lop := [(0, [(17, .sc (.int .i64))])] }
theorem E_slices_EqualFunc_Change__diff_same_c1 (s10 : Sl) (s21 : Sl) : denF Tryz.prog H_slices_EqualFunc_Change__diff_same_c1 Tryz.f156 [.sc .bool] [.slice s10.a s10.n s10.c, .slice s21.a s21.n s21.c, .func (.func 157) #[] #[]] = F_slices_EqualFunc_Change__diff_same_c1 s10 s21 := by kernel_rfl
theorem C_slices_EqualFunc_Change__diff_same_c1 {R : Type} (s10 : Sl) (s21 : Sl) (K : Res [.sc .bool] → W R) (Q : R → World → Prop) (w : World) (h : F_slices_EqualFunc_Change__diff_same_c1 s10 s21 (fun r w => K r Q w) w) : callW Tryz.prog k_slices_EqualFunc_Change [.slice s10.a s10.n s10.c, .slice s21.a s21.n s21.c, .func (.func 157) #[] #[]] [.sc .bool] K Q w :=
  den_calls mix Tryz.func156 H_slices_EqualFunc_Change__diff_same_c1 (ts := [.sc .bool]) trivial (by rw [Tryz.ntmps156]; simp) (by rw [E_slices_EqualFunc_Change__diff_same_c1]; exact h)
def F_diff_same_c1 (x0 : (Int × Int × Sl × Sl)) (y1 : (Int × Int × Sl × Sl)) : W (Bool) :=
  newW 86 [.int .u32 x0.1, .int .u8 x0.2.1, .slice x0.2.2.1.a x0.2.2.1.n x0.2.2.1.c, .slice x0.2.2.2.a x0.2.2.2.n x0.2.2.2.c] fun x_1 =>
  newW 86 [.int .u32 y1.1, .int .u8 y1.2.1, .slice y1.2.2.1.a y1.2.2.1.n y1.2.2.1.c, .slice y1.2.2.2.a y1.2.2.2.n y1.2.2.2.c] fun y_2 =>
  joinW (σ := Bool) (fun J_3 =>
    ld (.sc (.int .u32)) (Addr.add x_1 0) fun (x_4 : Int) =>
    ld (.sc (.int .u32)) (Addr.add y_2 0) fun (x_5 : Int) =>
    cond (x_4 == x_5)
      (ld (.sc (.int .u8)) (Addr.add x_1 1) fun (x_6 : Int) =>
        ld (.sc (.int .u8)) (Addr.add y_2 1) fun (x_7 : Int) =>
            cond (x_6 == x_7)
                (ld (.sc .sl) (Addr.add x_1 2) fun (x_8 : Sl) =>
                  ld (.sc .sl) (Addr.add y_2 2) fun (x_9 : Sl) =>
                      callW Tryz.prog k_slices_Equal_Comp [.slice x_8.a x_8.n x_8.c, .slice x_9.a x_9.n x_9.c] [.sc .bool] fun (x_10 : Bool) =>
                        cond x_10
                          (ld (.sc .sl) (Addr.add x_1 3) fun (x_11 : Sl) =>
                            ld (.sc .sl) (Addr.add y_2 3) fun (x_12 : Sl) =>
                                callW Tryz.prog k_slices_Equal_Comp [.slice x_11.a x_11.n x_11.c, .slice x_12.a x_12.n x_12.c] [.sc .bool] fun (x_13 : Bool) =>
                                  J_3 x_13)
                          (J_3 false))
                (J_3 false))
      (J_3 false))
  <| fun s_14 =>
  retW s_14
def H_diff_same_c1 : Hints := { reg := [(1, [(4, .sc .bool)])] }
theorem E_diff_same_c1 (x0 : (Int × Int × Sl × Sl)) (y1 : (Int × Int × Sl × Sl)) : denF Tryz.prog H_diff_same_c1 Tryz.f157 [.sc .bool] [.agg ⟨[.int .u32 x0.1, .int .u8 x0.2.1, .slice x0.2.2.1.a x0.2.2.1.n x0.2.2.1.c, .slice x0.2.2.2.a x0.2.2.2.n x0.2.2.2.c]⟩, .agg ⟨[.int .u32 y1.1, .int .u8 y1.2.1, .slice y1.2.2.1.a y1.2.2.1.n y1.2.2.1.c, .slice y1.2.2.2.a y1.2.2.2.n y1.2.2.2.c]⟩] = F_diff_same_c1 x0 y1 := by kernel_rfl
theorem C_diff_same_c1 {R : Type} (x0 : (Int × Int × Sl × Sl)) (y1 : (Int × Int × Sl × Sl)) (K : Res [.sc .bool] → W R) (Q : R → World → Prop) (w : World) (h : F_diff_same_c1 x0 y1 (fun r w => K r Q w) w) : callW Tryz.prog k_diff_same_c1 [.agg ⟨[.int .u32 x0.1, .int .u8 x0.2.1, .slice x0.2.2.1.a x0.2.2.1.n x0.2.2.1.c, .slice x0.2.2.2.a x0.2.2.2.n x0.2.2.2.c]⟩, .agg ⟨[.int .u32 y1.1, .int .u8 y1.2.1, .slice y1.2.2.1.a y1.2.2.1.n y1.2.2.1.c, .slice y1.2.2.2.a y1.2.2.2.n y1.2.2.2.c]⟩] [.sc .bool] K Q w :=
  den_calls mix Tryz.func157 H_diff_same_c1 (ts := [.sc .bool]) trivial (by rw [Tryz.ntmps157]; simp) (by rw [E_diff_same_c1]; exact h)
def F_slices_Clone_Ent (s0 : Sl) : W (Sl) :=
  cond (Option.isNone s0.a)
    (retW (⟨none, 0, 0⟩ : Sl))
    (newW 57 [] fun x_1 =>
  rawW Tryz.prog (Builtin.append_ #[23, 23] 23 #[.slice (some x_1) 0 0, .slice s0.a s0.n s0.c]) [.sc .sl] fun (x_2 : Sl) =>
  retW x_2)
def H_slices_Clone_Ent : Hints := {}
theorem E_slices_Clone_Ent (s0 : Sl) : denF Tryz.prog H_slices_Clone_Ent Tryz.f159 [.sc .sl] [.slice s0.a s0.n s0.c] = F_slices_Clone_Ent s0 := by kernel_rfl
theorem C_slices_Clone_Ent {R : Type} (s0 : Sl) (K : Res [.sc .sl] → W R) (Q : R → World → Prop) (w : World) (h : F_slices_Clone_Ent s0 (fun r w => K r Q w) w) : callW Tryz.prog k_slices_Clone_Ent [.slice s0.a s0.n s0.c] [.sc .sl] K Q w :=
  den_calls mix Tryz.func159 H_slices_Clone_Ent (ts := [.sc .sl]) trivial (by rw [Tryz.ntmps159]; simp) (by rw [E_slices_Clone_Ent]; exact h)
def F_comp_back__comp_GetStep_c1 (r0 : Option Addr) (c1 : (Int × Int × Int × Int)) (one2c0 : Option Addr) (one2c1 : Option Addr) : W ((Int × Int × Int × Int) × Int) :=
  newW 92 [.int .u8 c1.1, .int .i32 c1.2.1, .int .i32 c1.2.2.1, .int .i32 c1.2.2.2] fun c_1 =>
  newW 92 [.int .u8 0, .int .i32 0, .int .i32 0, .int .i32 0] fun x_2 =>
  ptrW r0 fun x_3 =>
  ld (.agg [.sl, .int .i64]) x_3 fun (x_4 : (Sl × Int)) =>
  newW 173 [.slice none 0 0, .int .i64 0] fun was_5 =>
  stoL was_5 [.slice x_4.1.a x_4.1.n x_4.1.c, .int .i64 x_4.2] 0 <|
  ld (.sc (.int .u8)) (Addr.add c_1 0) fun (x_6 : Int) =>
  callW Tryz.prog k_schema_Count [.int .u8 x_6] [.sc (.int .i64)] fun (x_7 : Int) =>
  loopW (σ := Int) (fun K_8 s_9 =>
    cond (decide (s_9 < x_7))
      (callW Tryz.prog k_comp_GetStep_c1 [.int .i64 s_9, .pointer one2c0, .pointer one2c1] [.sc (.int .i32), .sc (.int .i64)] fun (x_10 : Int × Int) =>
    cond (x_10.2 != 0)
      (ld (.agg [.sl, .int .i64]) was_5 fun (x_11 : (Sl × Int)) =>
      ptrW r0 fun x_12 =>
      stoL x_12 [.slice x_11.1.a x_11.1.n x_11.1.c, .int .i64 x_11.2] 0 <|
      stoL x_2 [.int .u8 0, .int .i32 0, .int .i32 0, .int .i32 0] 0 <|
      ld (.agg [.int .u8, .int .i32, .int .i32, .int .i32]) x_2 fun (x_13 : (Int × Int × Int × Int)) =>
      retW (x_13, x_10.2))
      (idxW (some (Addr.add c_1 1)) 3 1 s_9 fun x_14 =>
    stoL x_14 [.int .i32 x_10.1] 0 <|
    K_8 (IntKind.wrap .i64 (s_9 + 1))))
      (ld (.agg [.int .u8, .int .i32, .int .i32, .int .i32]) c_1 fun (x_15 : (Int × Int × Int × Int)) =>
  stoL x_2 [.int .u8 x_15.1, .int .i32 x_15.2.1, .int .i32 x_15.2.2.1, .int .i32 x_15.2.2.2] 0 <|
  ld (.agg [.int .u8, .int .i32, .int .i32, .int .i32]) x_2 fun (x_16 : (Int × Int × Int × Int)) =>
  retW (x_16, 0)))
    0
def H_comp_back__comp_GetStep_c1 : Hints := { lop := [(0, [(18, .sc (.int .i64))])] }
theorem E_comp_back__comp_GetStep_c1 (r0 : Option Addr) (c1 : (Int × Int × Int × Int)) (one2c0 : Option Addr) (one2c1 : Option Addr) : denF Tryz.prog H_comp_back__comp_GetStep_c1 Tryz.f160 [.agg [.int .u8, .int .i32, .int .i32, .int .i32], .sc (.int .i64)] [.pointer r0, .agg ⟨[.int .u8 c1.1, .int .i32 c1.2.1, .int .i32 c1.2.2.1, .int .i32 c1.2.2.2]⟩, .func (.func 161) #[] #[.pointer one2c0, .pointer one2c1]] = F_comp_back__comp_GetStep_c1 r0 c1 one2c0 one2c1 := by kernel_rfl
theorem C_comp_back__comp_GetStep_c1 {R : Type} (r0 : Option Addr) (c1 : (Int × Int × Int × Int)) (one2c0 : Option Addr) (one2c1 : Option Addr) (K : Res [.agg [.int .u8, .int .i32, .int .i32, .int .i32], .sc (.int .i64)] → W R) (Q : R → World → Prop) (w : World) (h : F_comp_back__comp_GetStep_c1 r0 c1 one2c0 one2c1 (fun r w => K r Q w) w) : callW Tryz.prog k_comp_back [.pointer r0, .agg ⟨[.int .u8 c1.1, .int .i32 c1.2.1, .int .i32 c1.2.2.1, .int .i32 c1.2.2.2]⟩, .func (.func 161) #[] #[.pointer one2c0, .pointer one2c1]] [.agg [.int .u8, .int .i32, .int .i32, .int .i32], .sc (.int .i64)] K Q w :=
  den_calls mix Tryz.func160 H_comp_back__comp_GetStep_c1 (ts := [.agg [.int .u8, .int .i32, .int .i32, .int .i32], .sc (.int .i64)]) ⟨by kernel_rfl, trivial⟩ (by rw [Tryz.ntmps160]; simp) (by rw [E_comp_back__comp_GetStep_c1]; exact h)
def F_comp_back__comp_Get_c1 (r0 : Option Addr) (c1 : (Int × Int × Int × Int)) (one2c0 : Option Addr) (one2c1 : Option Addr) : W ((Int × Int × Int × Int) × Int) :=
  newW 92 [.int .u8 c1.1, .int .i32 c1.2.1, .int .i32 c1.2.2.1, .int .i32 c1.2.2.2] fun c_1 =>
  newW 92 [.int .u8 0, .int .i32 0, .int .i32 0, .int .i32 0] fun x_2 =>
  ptrW r0 fun x_3 =>
  ld (.agg [.sl, .int .i64]) x_3 fun (x_4 : (Sl × Int)) =>
  newW 173 [.slice none 0 0, .int .i64 0] fun was_5 =>
  stoL was_5 [.slice x_4.1.a x_4.1.n x_4.1.c, .int .i64 x_4.2] 0 <|
  ld (.sc (.int .u8)) (Addr.add c_1 0) fun (x_6 : Int) =>
  callW Tryz.prog k_schema_Count [.int .u8 x_6] [.sc (.int .i64)] fun (x_7 : Int) =>
  loopW (σ := Int) (fun K_8 s_9 =>
    cond (decide (s_9 < x_7))
      (callW Tryz.prog k_comp_Get_c1 [.int .i64 s_9, .pointer one2c0, .pointer one2c1] [.sc (.int .i32), .sc (.int .i64)] fun (x_10 : Int × Int) =>
    cond (x_10.2 != 0)
      (ld (.agg [.sl, .int .i64]) was_5 fun (x_11 : (Sl × Int)) =>
      ptrW r0 fun x_12 =>
      stoL x_12 [.slice x_11.1.a x_11.1.n x_11.1.c, .int .i64 x_11.2] 0 <|
      stoL x_2 [.int .u8 0, .int .i32 0, .int .i32 0, .int .i32 0] 0 <|
      ld (.agg [.int .u8, .int .i32, .int .i32, .int .i32]) x_2 fun (x_13 : (Int × Int × Int × Int)) =>
      retW (x_13, x_10.2))
      (idxW (some (Addr.add c_1 1)) 3 1 s_9 fun x_14 =>
    stoL x_14 [.int .i32 x_10.1] 0 <|
    K_8 (IntKind.wrap .i64 (s_9 + 1))))
      (ld (.agg [.int .u8, .int .i32, .int .i32, .int .i32]) c_1 fun (x_15 : (Int × Int × Int × Int)) =>
  stoL x_2 [.int .u8 x_15.1, .int .i32 x_15.2.1, .int .i32 x_15.2.2.1, .int .i32 x_15.2.2.2] 0 <|
  ld (.agg [.int .u8, .int .i32, .int .i32, .int .i32]) x_2 fun (x_16 : (Int × Int × Int × Int)) =>
  retW (x_16, 0)))
    0
def H_comp_back__comp_Get_c1 : Hints := { lop := [(0, [(18, .sc (.int .i64))])] }
theorem E_comp_back__comp_Get_c1 (r0 : Option Addr) (c1 : (Int × Int × Int × Int)) (one2c0 : Option Addr) (one2c1 : Option Addr) : denF Tryz.prog H_comp_back__comp_Get_c1 Tryz.f160 [.agg [.int .u8, .int .i32, .int .i32, .int .i32], .sc (.int .i64)] [.pointer r0, .agg ⟨[.int .u8 c1.1, .int .i32 c1.2.1, .int .i32 c1.2.2.1, .int .i32 c1.2.2.2]⟩, .func (.func 175) #[] #[.pointer one2c0, .pointer one2c1]] = F_comp_back__comp_Get_c1 r0 c1 one2c0 one2c1 := by kernel_rfl
theorem C_comp_back__comp_Get_c1 {R : Type} (r0 : Option Addr) (c1 : (Int × Int × Int × Int)) (one2c0 : Option Addr) (one2c1 : Option Addr) (K : Res [.agg [.int .u8, .int .i32, .int .i32, .int .i32], .sc (.int .i64)] → W R) (Q : R → World → Prop) (w : World) (h : F_comp_back__comp_Get_c1 r0 c1 one2c0 one2c1 (fun r w => K r Q w) w) : callW Tryz.prog k_comp_back [.pointer r0, .agg ⟨[.int .u8 c1.1, .int .i32 c1.2.1, .int .i32 c1.2.2.1, .int .i32 c1.2.2.2]⟩, .func (.func 175) #[] #[.pointer one2c0, .pointer one2c1]] [.agg [.int .u8, .int .i32, .int .i32, .int .i32], .sc (.int .i64)] K Q w :=
  den_calls mix Tryz.func160 H_comp_back__comp_Get_c1 (ts := [.agg [.int .u8, .int .i32, .int .i32, .int .i32], .sc (.int .i64)]) ⟨by kernel_rfl, trivial⟩ (by rw [Tryz.ntmps160]; simp) (by rw [E_comp_back__comp_Get_c1]; exact h)
def F_comp_GetStep_c1 (i0 : Int) (c1 : Option Addr) (c2 : Option Addr) : W (Int × Int) :=
  ptrW c1 fun x_1 =>
  ld (.sc .ptr) x_1 fun (x_2 : Option Addr) =>
  ptrW c2 fun x_3 =>
  ld (.agg [.int .u8, .int .i32, .int .i32, .int .i32]) x_3 fun (x_4 : (Int × Int × Int × Int)) =>
  callW Tryz.prog k_comp_moved [.pointer x_2, .agg ⟨[.int .u8 x_4.1, .int .i32 x_4.2.1, .int .i32 x_4.2.2.1, .int .i32 x_4.2.2.2]⟩, .int .i64 i0] [.sc (.int .i32), .sc (.int .i64)] fun (x_5 : Int × Int) =>
  retW (x_5.1, x_5.2)
def H_comp_GetStep_c1 : Hints := {}
theorem E_comp_GetStep_c1 (i0 : Int) (c1 : Option Addr) (c2 : Option Addr) : denF Tryz.prog H_comp_GetStep_c1 Tryz.f161 [.sc (.int .i32), .sc (.int .i64)] [.int .i64 i0, .pointer c1, .pointer c2] = F_comp_GetStep_c1 i0 c1 c2 := by kernel_rfl
theorem C_comp_GetStep_c1 {R : Type} (i0 : Int) (c1 : Option Addr) (c2 : Option Addr) (K : Res [.sc (.int .i32), .sc (.int .i64)] → W R) (Q : R → World → Prop) (w : World) (h : F_comp_GetStep_c1 i0 c1 c2 (fun r w => K r Q w) w) : callW Tryz.prog k_comp_GetStep_c1 [.int .i64 i0, .pointer c1, .pointer c2] [.sc (.int .i32), .sc (.int .i64)] K Q w :=
  den_calls mix Tryz.func161 H_comp_GetStep_c1 (ts := [.sc (.int .i32), .sc (.int .i64)]) trivial (by rw [Tryz.ntmps161]; simp) (by rw [E_comp_GetStep_c1]; exact h)
def F_comp_moved (d0 : Option Addr) (o1 : (Int × Int × Int × Int)) (p2 : Int) : W (Int × Int) :=
  newW 92 [.int .u8 o1.1, .int .i32 o1.2.1, .int .i32 o1.2.2.1, .int .i32 o1.2.2.2] fun x_1 =>
  callW Tryz.prog k_bits_Reader_Get [.pointer d0, .int .i64 1] [.sc (.int .u64), .sc (.int .i64)] fun (x_2 : Int × Int) =>
  joinW (σ := Bool) (fun J_3 =>
    cond (x_2.2 != 0)
      (J_3 true)
      (J_3 (x_2.1 == 0)))
  <| fun s_4 =>
  cond s_4
    (idxW (some (Addr.add x_1 1)) 3 1 p2 fun x_5 =>
    ld (.sc (.int .i32)) x_5 fun (x_6 : Int) =>
    retW (x_6, x_2.2))
    (callW Tryz.prog k_bits_Reader_Get [.pointer d0, .int .i64 1] [.sc (.int .u64), .sc (.int .i64)] fun (x_7 : Int × Int) =>
  cond (x_7.2 != 0)
    (retW (0, x_7.2))
    (cond (x_7.1 == 0)
    (ld (.sc (.int .u8)) (Addr.add x_1 0) fun (x_8 : Int) =>
    callW Tryz.prog k_comp_in [.pointer d0, .int .u8 x_8, .int .i64 p2] [.sc (.int .i32), .sc (.int .i64)] fun (x_9 : Int × Int) =>
    joinW (σ := Bool) (fun J_10 =>
      cond (x_9.2 == 0)
        (idxW (some (Addr.add x_1 1)) 3 1 p2 fun x_11 =>
                ld (.sc (.int .i32)) x_11 fun (x_12 : Int) =>
                  callW Tryz.prog k_nums_Zig [.int .i64 (IntKind.wrap .i64 ((IntKind.wrap .i64 x_9.1) - (IntKind.wrap .i64 x_12)))] [.sc (.int .u64)] fun (x_13 : Int) =>
                        J_10 (decide (x_13 ≤ 16)))
        (J_10 false))
    <| fun s_14 =>
    cond s_14
      (retW (0, 4))
      (retW (x_9.1, x_9.2)))
    (callW Tryz.prog k_bits_Reader_Get [.pointer d0, .int .i64 4] [.sc (.int .u64), .sc (.int .i64)] fun (x_15 : Int × Int) =>
  cond (x_15.2 != 0)
    (retW (0, x_15.2))
    (drawW <|
  idxW (some (Addr.add x_1 1)) 3 1 p2 fun x_16 =>
  ld (.sc (.int .i32)) x_16 fun (x_17 : Int) =>
  callW Tryz.prog k_nums_Zag [.int .u64 (IntKind.wrap .u64 (x_15.1 + 1))] [.sc (.int .i64)] fun (x_18 : Int) =>
  andW (fun w => Rd w x_16 (.sc (.int .i32)) x_17) <|
  ld (.sc (.int .u8)) (Addr.add x_1 0) fun (x_19 : Int) =>
  callW Tryz.prog k_schema_Range [.int .u8 x_19, .int .i64 p2] [.sc (.int .i32), .sc (.int .i32), .sc (.int .i64)] fun (x_20 : Int × Int × Int) =>
  joinW (σ := Bool) (fun J_21 =>
    cond (decide ((IntKind.wrap .i64 ((IntKind.wrap .i64 x_17) + x_18)) < (IntKind.wrap .i64 x_20.1)))
      (J_21 true)
      (J_21 (decide ((IntKind.wrap .i64 ((IntKind.wrap .i64 x_17) + x_18)) > (IntKind.wrap .i64 x_20.2.1)))))
  <| fun s_22 =>
  cond s_22
    (retW (0, 5))
    (retW (IntKind.wrap .i32 (IntKind.wrap .i64 ((IntKind.wrap .i64 x_17) + x_18)), 0))))))
def H_comp_moved : Hints := { reg := [(2, [(29, .sc .bool)]), (9, [(66, .sc .bool)]), (17, [(103, .sc .bool)])], dr := [(15, ([], [[(0, []), (1, []), (2, []), (3, []), (4, []), (5, []), (6, []), (7, [3]), (8, []), (9, [])]]))] }
theorem E_comp_moved (d0 : Option Addr) (o1 : (Int × Int × Int × Int)) (p2 : Int) : denF Tryz.prog H_comp_moved Tryz.f162 [.sc (.int .i32), .sc (.int .i64)] [.pointer d0, .agg ⟨[.int .u8 o1.1, .int .i32 o1.2.1, .int .i32 o1.2.2.1, .int .i32 o1.2.2.2]⟩, .int .i64 p2] = F_comp_moved d0 o1 p2 := by kernel_rfl
theorem C_comp_moved {R : Type} (d0 : Option Addr) (o1 : (Int × Int × Int × Int)) (p2 : Int) (K : Res [.sc (.int .i32), .sc (.int .i64)] → W R) (Q : R → World → Prop) (w : World) (h : F_comp_moved d0 o1 p2 (fun r w => K r Q w) w) : callW Tryz.prog k_comp_moved [.pointer d0, .agg ⟨[.int .u8 o1.1, .int .i32 o1.2.1, .int .i32 o1.2.2.1, .int .i32 o1.2.2.2]⟩, .int .i64 p2] [.sc (.int .i32), .sc (.int .i64)] K Q w :=
  den_calls mix Tryz.func162 H_comp_moved (ts := [.sc (.int .i32), .sc (.int .i64)]) trivial (by rw [Tryz.ntmps162]; simp) (by rw [E_comp_moved]; exact h)
def F_comp_whole (c0 : (Int × Int × Int × Int)) : W (Sl) :=
  newW 92 [.int .u8 c0.1, .int .i32 c0.2.1, .int .i32 c0.2.2.1, .int .i32 c0.2.2.2] fun c_1 =>
  ld (.sc (.int .u8)) (Addr.add c_1 0) fun (x_2 : Int) =>
  callW Tryz.prog k_schema_Count [.int .u8 x_2] [.sc (.int .i64)] fun (x_3 : Int) =>
  loopW (σ := Sl × Int) (fun K_4 s_5 =>
    cond (decide (s_5.2 < x_3))
      (ld (.agg [.int .u8, .int .i32, .int .i32, .int .i32]) c_1 fun (x_6 : (Int × Int × Int × Int)) =>
    callW Tryz.prog k_comp_field [.agg ⟨[.int .u8 x_6.1, .int .i32 x_6.2.1, .int .i32 x_6.2.2.1, .int .i32 x_6.2.2.2]⟩, .int .i64 s_5.2] [.agg [.int .u64, .int .i64]] fun (x_7 : (Int × Int)) =>
    newW 231 [.int .u64 x_7.1, .int .i64 x_7.2] fun x_8 =>
    rawW Tryz.prog (Builtin.append_ #[202, 202] 202 #[.slice s_5.1.a s_5.1.n s_5.1.c, .slice (some x_8) 1 1]) [.sc .sl] fun (x_9 : Sl) =>
    K_4 (x_9, IntKind.wrap .i64 (s_5.2 + 1)))
      (retW s_5.1))
    ((⟨none, 0, 0⟩ : Sl), 0)
def H_comp_whole : Hints := { lop := [(0, [(3, .sc .sl), (8, .sc (.int .i64))])] }
theorem E_comp_whole (c0 : (Int × Int × Int × Int)) : denF Tryz.prog H_comp_whole Tryz.f164 [.sc .sl] [.agg ⟨[.int .u8 c0.1, .int .i32 c0.2.1, .int .i32 c0.2.2.1, .int .i32 c0.2.2.2]⟩] = F_comp_whole c0 := by kernel_rfl
theorem C_comp_whole {R : Type} (c0 : (Int × Int × Int × Int)) (K : Res [.sc .sl] → W R) (Q : R → World → Prop) (w : World) (h : F_comp_whole c0 (fun r w => K r Q w) w) : callW Tryz.prog k_comp_whole [.agg ⟨[.int .u8 c0.1, .int .i32 c0.2.1, .int .i32 c0.2.2.1, .int .i32 c0.2.2.2]⟩] [.sc .sl] K Q w :=
  den_calls mix Tryz.func164 H_comp_whole (ts := [.sc .sl]) trivial (by rw [Tryz.ntmps164]; simp) (by rw [E_comp_whole]; exact h)
def F_diff_find_c1 (c0 : (Int × Int × Int × Int)) (c1 : Option Addr) : W (Bool) :=
  newW 92 [.int .u8 c0.1, .int .i32 c0.2.1, .int .i32 c0.2.2.1, .int .i32 c0.2.2.2] fun c_1 =>
  ld (.sc (.int .u8)) (Addr.add c_1 0) fun (x_2 : Int) =>
  ptrW c1 fun x_3 =>
  ld (.sc (.int .u8)) x_3 fun (x_4 : Int) =>
  retW (x_2 == x_4)
def H_diff_find_c1 : Hints := {}
theorem E_diff_find_c1 (c0 : (Int × Int × Int × Int)) (c1 : Option Addr) : denF Tryz.prog H_diff_find_c1 Tryz.f165 [.sc .bool] [.agg ⟨[.int .u8 c0.1, .int .i32 c0.2.1, .int .i32 c0.2.2.1, .int .i32 c0.2.2.2]⟩, .pointer c1] = F_diff_find_c1 c0 c1 := by kernel_rfl
theorem C_diff_find_c1 {R : Type} (c0 : (Int × Int × Int × Int)) (c1 : Option Addr) (K : Res [.sc .bool] → W R) (Q : R → World → Prop) (w : World) (h : F_diff_find_c1 c0 c1 (fun r w => K r Q w) w) : callW Tryz.prog k_diff_find_c1 [.agg ⟨[.int .u8 c0.1, .int .i32 c0.2.1, .int .i32 c0.2.2.1, .int .i32 c0.2.2.2]⟩, .pointer c1] [.sc .bool] K Q w :=
  den_calls mix Tryz.func165 H_diff_find_c1 (ts := [.sc .bool]) trivial (by rw [Tryz.ntmps165]; simp) (by rw [E_diff_find_c1]; exact h)
def F_comp_size (l0 : Sl) : W (Int) :=
  loopW (σ := Int × Int) (fun K_1 s_2 =>
    cond (decide (s_2.2 < (l0.n : Int)))
      (idxW l0.a l0.n 2 s_2.2 fun x_3 =>
    ld (.agg [.int .u64, .int .i64]) x_3 fun (x_4 : (Int × Int)) =>
    newW 231 [.int .u64 0, .int .i64 0] fun p_5 =>
    stoL p_5 [.int .u64 x_4.1, .int .i64 x_4.2] 0 <|
    ld (.sc (.int .i64)) (Addr.add p_5 1) fun (x_6 : Int) =>
    K_1 (IntKind.wrap .i64 (s_2.1 + x_6), IntKind.wrap .i64 (s_2.2 + 1)))
      (retW s_2.1))
    (0, 0)
def H_comp_size : Hints := { lop := [(0, [(3, .sc (.int .i64)), (8, .sc (.int .i64))])] }
theorem E_comp_size (l0 : Sl) : denF Tryz.prog H_comp_size Tryz.f166 [.sc (.int .i64)] [.slice l0.a l0.n l0.c] = F_comp_size l0 := by kernel_rfl
theorem C_comp_size {R : Type} (l0 : Sl) (K : Res [.sc (.int .i64)] → W R) (Q : R → World → Prop) (w : World) (h : F_comp_size l0 (fun r w => K r Q w) w) : callW Tryz.prog k_comp_size [.slice l0.a l0.n l0.c] [.sc (.int .i64)] K Q w :=
  den_calls mix Tryz.func166 H_comp_size (ts := [.sc (.int .i64)]) trivial (by rw [Tryz.ntmps166]; simp) (by rw [E_comp_size]; exact h)
def F_comp_more (was0 : (Int × Int × Int × Int)) (c1 : (Int × Int × Int × Int)) (i2 : Int) : W (Int) :=
  newW 92 [.int .u8 was0.1, .int .i32 was0.2.1, .int .i32 was0.2.2.1, .int .i32 was0.2.2.2] fun was_1 =>
  newW 92 [.int .u8 c1.1, .int .i32 c1.2.1, .int .i32 c1.2.2.1, .int .i32 c1.2.2.2] fun c_2 =>
  drawW <|
  idxW (some (Addr.add c_2 1)) 3 1 i2 fun x_3 =>
  ld (.sc (.int .i32)) x_3 fun (x_4 : Int) =>
  idxW (some (Addr.add was_1 1)) 3 1 i2 fun x_5 =>
  ld (.sc (.int .i32)) x_5 fun (x_6 : Int) =>
  callW Tryz.prog k_nums_Zig [.int .i64 (IntKind.wrap .i64 ((IntKind.wrap .i64 x_4) - (IntKind.wrap .i64 x_6)))] [.sc (.int .u64)] fun (x_7 : Int) =>
  retW x_7
def H_comp_more : Hints := { dr := [(1, ([], [[(0, []), (1, []), (2, []), (3, []), (4, []), (5, []), (6, []), (7, []), (8, []), (9, []), (10, []), (11, []), (12, [])]]))] }
theorem E_comp_more (was0 : (Int × Int × Int × Int)) (c1 : (Int × Int × Int × Int)) (i2 : Int) : denF Tryz.prog H_comp_more Tryz.f168 [.sc (.int .u64)] [.agg ⟨[.int .u8 was0.1, .int .i32 was0.2.1, .int .i32 was0.2.2.1, .int .i32 was0.2.2.2]⟩, .agg ⟨[.int .u8 c1.1, .int .i32 c1.2.1, .int .i32 c1.2.2.1, .int .i32 c1.2.2.2]⟩, .int .i64 i2] = F_comp_more was0 c1 i2 := by kernel_rfl
theorem C_comp_more {R : Type} (was0 : (Int × Int × Int × Int)) (c1 : (Int × Int × Int × Int)) (i2 : Int) (K : Res [.sc (.int .u64)] → W R) (Q : R → World → Prop) (w : World) (h : F_comp_more was0 c1 i2 (fun r w => K r Q w) w) : callW Tryz.prog k_comp_more [.agg ⟨[.int .u8 was0.1, .int .i32 was0.2.1, .int .i32 was0.2.2.1, .int .i32 was0.2.2.2]⟩, .agg ⟨[.int .u8 c1.1, .int .i32 c1.2.1, .int .i32 c1.2.2.1, .int .i32 c1.2.2.2]⟩, .int .i64 i2] [.sc (.int .u64)] K Q w :=
  den_calls mix Tryz.func168 H_comp_more (ts := [.sc (.int .u64)]) trivial (by rw [Tryz.ntmps168]; simp) (by rw [E_comp_more]; exact h)
def F_comp_field (c0 : (Int × Int × Int × Int)) (i1 : Int) : W ((Int × Int)) :=
  newW 92 [.int .u8 c0.1, .int .i32 c0.2.1, .int .i32 c0.2.2.1, .int .i32 c0.2.2.2] fun c_1 =>
  newW 231 [.int .u64 0, .int .i64 0] fun x_2 =>
  ld (.sc (.int .u8)) (Addr.add c_1 0) fun (x_3 : Int) =>
  callW Tryz.prog k_schema_Range [.int .u8 x_3, .int .i64 i1] [.sc (.int .i32), .sc (.int .i32), .sc (.int .i64)] fun (x_4 : Int × Int × Int) =>
  drawW <|
  idxW (some (Addr.add c_1 1)) 3 1 i1 fun x_5 =>
  ld (.sc (.int .i32)) x_5 fun (x_6 : Int) =>
  callW Tryz.prog k_nums_Width [.int .i64 (IntKind.wrap .i64 x_4.1), .int .i64 (IntKind.wrap .i64 x_4.2.1)] [.sc (.int .i64)] fun (x_7 : Int) =>
  andW (fun w => Rd w x_5 (.sc (.int .i32)) x_6) <|
  stoL x_2 [.int .u64 (IntKind.wrap .u64 (IntKind.wrap .i64 ((IntKind.wrap .i64 x_6) - (IntKind.wrap .i64 x_4.1)))), .int .i64 x_7] 0 <|
  ld (.agg [.int .u64, .int .i64]) x_2 fun (x_8 : (Int × Int)) =>
  retW x_8
def H_comp_field : Hints := { dr := [(2, ([], [[(0, []), (1, []), (2, []), (3, []), (4, []), (5, []), (6, []), (7, []), (8, []), (9, []), (10, []), (11, []), (12, []), (13, [3]), (14, []), (15, [])]]))] }
theorem E_comp_field (c0 : (Int × Int × Int × Int)) (i1 : Int) : denF Tryz.prog H_comp_field Tryz.f169 [.agg [.int .u64, .int .i64]] [.agg ⟨[.int .u8 c0.1, .int .i32 c0.2.1, .int .i32 c0.2.2.1, .int .i32 c0.2.2.2]⟩, .int .i64 i1] = F_comp_field c0 i1 := by kernel_rfl
theorem C_comp_field {R : Type} (c0 : (Int × Int × Int × Int)) (i1 : Int) (K : Res [.agg [.int .u64, .int .i64]] → W R) (Q : R → World → Prop) (w : World) (h : F_comp_field c0 i1 (fun r w => K r Q w) w) : callW Tryz.prog k_comp_field [.agg ⟨[.int .u8 c0.1, .int .i32 c0.2.1, .int .i32 c0.2.2.1, .int .i32 c0.2.2.2]⟩, .int .i64 i1] [.agg [.int .u64, .int .i64]] K Q w :=
  den_calls mix Tryz.func169 H_comp_field (ts := [.agg [.int .u64, .int .i64]]) ⟨by kernel_rfl, trivial⟩ (by rw [Tryz.ntmps169]; simp) (by rw [E_comp_field]; exact h)
def F_slices_BinarySearchFunc_Ent__snap_Find_c1 (x0 : Sl) (target1 : Int) : W (Int × Bool) :=
  loopW (σ := Int × Int) (fun K_1 s_2 =>
    cond (decide (s_2.1 < s_2.2))
      (idxW x0.a x0.n 2 (IntKind.wrap .i64 (shR .u64 (IntKind.wrap .u64 (IntKind.wrap .i64 (s_2.1 + s_2.2))) 1)) fun x_3 =>
    ld (.agg [.int .u32, .sl]) x_3 fun (x_4 : (Int × Sl)) =>
    callW Tryz.prog k_snap_Find_c1 [.agg ⟨[.int .u32 x_4.1, .slice x_4.2.a x_4.2.n x_4.2.c]⟩, .int .u32 target1] [.sc (.int .i64)] fun (x_5 : Int) =>
    joinW (σ := Int × Int) (fun J_6 =>
      cond (decide (x_5 < 0))
        (J_6 (IntKind.wrap .i64 ((IntKind.wrap .i64 (shR .u64 (IntKind.wrap .u64 (IntKind.wrap .i64 (s_2.1 + s_2.2))) 1)) + 1), s_2.2))
        (J_6 (s_2.1, IntKind.wrap .i64 (shR .u64 (IntKind.wrap .u64 (IntKind.wrap .i64 (s_2.1 + s_2.2))) 1))))
    <| fun s_7 =>
    K_1 (s_7.1, s_7.2))
      (joinW (σ := Int × Bool) (fun J_8 =>
    cond (decide (s_2.1 < (x0.n : Int)))
      (idxW x0.a x0.n 2 s_2.1 fun x_9 =>
            ld (.agg [.int .u32, .sl]) x_9 fun (x_10 : (Int × Sl)) =>
              callW Tryz.prog k_snap_Find_c1 [.agg ⟨[.int .u32 x_10.1, .slice x_10.2.a x_10.2.n x_10.2.c]⟩, .int .u32 target1] [.sc (.int .i64)] fun (x_11 : Int) =>
                  J_8 (s_2.1, (x_11 == 0)))
      (J_8 (s_2.1, false)))
  <| fun s_12 =>
  retW (s_12.1, s_12.2)))
    (0, (x0.n : Int))
def H_slices_BinarySearchFunc_Ent__snap_Find_c1 : Hints := { reg := [(8, [(6, .sc (.int .i64)), (7, .sc .bool)])], con := [(7031, [(9, .sc (.int .i64)), (10, .sc (.int .i64))])], lop := [(0, [(9, .sc (.int .i64)), (10, .sc (.int .i64))])] }
theorem E_slices_BinarySearchFunc_Ent__snap_Find_c1 (x0 : Sl) (target1 : Int) : denF Tryz.prog H_slices_BinarySearchFunc_Ent__snap_Find_c1 Tryz.f170 [.sc (.int .i64), .sc .bool] [.slice x0.a x0.n x0.c, .int .u32 target1, .func (.func 171) #[] #[]] = F_slices_BinarySearchFunc_Ent__snap_Find_c1 x0 target1 := by kernel_rfl
theorem C_slices_BinarySearchFunc_Ent__snap_Find_c1 {R : Type} (x0 : Sl) (target1 : Int) (K : Res [.sc (.int .i64), .sc .bool] → W R) (Q : R → World → Prop) (w : World) (h : F_slices_BinarySearchFunc_Ent__snap_Find_c1 x0 target1 (fun r w => K r Q w) w) : callW Tryz.prog k_slices_BinarySearchFunc_Ent [.slice x0.a x0.n x0.c, .int .u32 target1, .func (.func 171) #[] #[]] [.sc (.int .i64), .sc .bool] K Q w :=
  den_calls mix Tryz.func170 H_slices_BinarySearchFunc_Ent__snap_Find_c1 (ts := [.sc (.int .i64), .sc .bool]) trivial (by rw [Tryz.ntmps170]; simp) (by rw [E_slices_BinarySearchFunc_Ent__snap_Find_c1]; exact h)
def F_snap_Find_c1 (e0 : (Int × Sl)) (id1 : Int) : W (Int) :=
  newW 57 [.int .u32 e0.1, .slice e0.2.a e0.2.n e0.2.c] fun e_1 =>
  ld (.sc (.int .u32)) (Addr.add e_1 0) fun (x_2 : Int) =>
  callW Tryz.prog k_cmp_Compare_ID [.int .u32 x_2, .int .u32 id1] [.sc (.int .i64)] fun (x_3 : Int) =>
  retW x_3
def H_snap_Find_c1 : Hints := {}
theorem E_snap_Find_c1 (e0 : (Int × Sl)) (id1 : Int) : denF Tryz.prog H_snap_Find_c1 Tryz.f171 [.sc (.int .i64)] [.agg ⟨[.int .u32 e0.1, .slice e0.2.a e0.2.n e0.2.c]⟩, .int .u32 id1] = F_snap_Find_c1 e0 id1 := by kernel_rfl
theorem C_snap_Find_c1 {R : Type} (e0 : (Int × Sl)) (id1 : Int) (K : Res [.sc (.int .i64)] → W R) (Q : R → World → Prop) (w : World) (h : F_snap_Find_c1 e0 id1 (fun r w => K r Q w) w) : callW Tryz.prog k_snap_Find_c1 [.agg ⟨[.int .u32 e0.1, .slice e0.2.a e0.2.n e0.2.c]⟩, .int .u32 id1] [.sc (.int .i64)] K Q w :=
  den_calls mix Tryz.func171 H_snap_Find_c1 (ts := [.sc (.int .i64)]) trivial (by rw [Tryz.ntmps171]; simp) (by rw [E_snap_Find_c1]; exact h)
def F_bits_Reader_Left (r0 : Option Addr) : W (Int) :=
  cond (Option.isNone r0)
    (retW 0)
    (drawW <|
  ptrW r0 fun x_1 =>
  ld (.sc .sl) (Addr.add x_1 0) fun (x_2 : Sl) =>
  ptrW r0 fun x_3 =>
  ld (.sc (.int .i64)) (Addr.add x_3 1) fun (x_4 : Int) =>
  retW (IntKind.wrap .i64 ((IntKind.wrap .i64 (8 * (x_2.n : Int))) - x_4)))
def H_bits_Reader_Left : Hints := { dr := [(3, ([], [[(0, []), (1, []), (2, []), (3, []), (4, []), (5, []), (6, []), (7, []), (8, []), (9, []), (10, []), (11, [])]]))] }
theorem E_bits_Reader_Left (r0 : Option Addr) : denF Tryz.prog H_bits_Reader_Left Tryz.f172 [.sc (.int .i64)] [.pointer r0] = F_bits_Reader_Left r0 := by kernel_rfl
theorem C_bits_Reader_Left {R : Type} (r0 : Option Addr) (K : Res [.sc (.int .i64)] → W R) (Q : R → World → Prop) (w : World) (h : F_bits_Reader_Left r0 (fun r w => K r Q w) w) : callW Tryz.prog k_bits_Reader_Left [.pointer r0] [.sc (.int .i64)] K Q w :=
  den_calls mix Tryz.func172 H_bits_Reader_Left (ts := [.sc (.int .i64)]) trivial (by rw [Tryz.ntmps172]; simp) (by rw [E_bits_Reader_Left]; exact h)
def F_nums_try_uint64__nums_number (r0 : Option Addr) : W (Int × Int) :=
  cond (Option.isNone r0)
    (retW (0, 10))
    (ptrW r0 fun x_1 =>
  ld (.agg [.sl, .int .i64]) x_1 fun (x_2 : (Sl × Int)) =>
  newW 173 [.slice none 0 0, .int .i64 0] fun was_3 =>
  stoL was_3 [.slice x_2.1.a x_2.1.n x_2.1.c, .int .i64 x_2.2] 0 <|
  callW Tryz.prog k_nums_number [.pointer r0] [.sc (.int .u64), .sc (.int .i64)] fun (x_4 : Int × Int) =>
  cond (x_4.2 != 0)
    (ld (.agg [.sl, .int .i64]) was_3 fun (x_5 : (Sl × Int)) =>
    ptrW r0 fun x_6 =>
    stoL x_6 [.slice x_5.1.a x_5.1.n x_5.1.c, .int .i64 x_5.2] 0 <|
    retW (0, x_4.2))
    (retW (x_4.1, 0)))
def H_nums_try_uint64__nums_number : Hints := {}
theorem E_nums_try_uint64__nums_number (r0 : Option Addr) : denF Tryz.prog H_nums_try_uint64__nums_number Tryz.f173 [.sc (.int .u64), .sc (.int .i64)] [.pointer r0, .func (.func 174) #[] #[]] = F_nums_try_uint64__nums_number r0 := by kernel_rfl
theorem C_nums_try_uint64__nums_number {R : Type} (r0 : Option Addr) (K : Res [.sc (.int .u64), .sc (.int .i64)] → W R) (Q : R → World → Prop) (w : World) (h : F_nums_try_uint64__nums_number r0 (fun r w => K r Q w) w) : callW Tryz.prog k_nums_try_uint64 [.pointer r0, .func (.func 174) #[] #[]] [.sc (.int .u64), .sc (.int .i64)] K Q w :=
  den_calls mix Tryz.func173 H_nums_try_uint64__nums_number (ts := [.sc (.int .u64), .sc (.int .i64)]) trivial (by rw [Tryz.ntmps173]; simp) (by rw [E_nums_try_uint64__nums_number]; exact h)
def F_nums_number (r0 : Option Addr) : W (Int × Int) :=
  loopW (σ := Int × Int) (fun K_1 s_2 =>
    cond (decide (s_2.2 < 16))
      (callW Tryz.prog k_bits_Reader_Get [.pointer r0, .int .i64 5] [.sc (.int .u64), .sc (.int .i64)] fun (x_3 : Int × Int) =>
    cond (x_3.2 != 0)
      (retW (0, x_3.2))
      (chkW (0 ≤ (IntKind.wrap .i64 (4 * s_2.2))) <|
    cond ((shR .u64 x_3.1 4) == 0)
      (callW Tryz.prog k_nums_groups [.int .u64 (bOr .u64 s_2.1 (shL .u64 (bAnd .u64 x_3.1 15) (IntKind.wrap .i64 (4 * s_2.2))))] [.sc (.int .i64)] fun (x_4 : Int) =>
      cond (x_4 != (IntKind.wrap .i64 (s_2.2 + 1)))
        (retW (0, 4))
        (retW (bOr .u64 s_2.1 (shL .u64 (bAnd .u64 x_3.1 15) (IntKind.wrap .i64 (4 * s_2.2))), 0)))
      (K_1 (bOr .u64 s_2.1 (shL .u64 (bAnd .u64 x_3.1 15) (IntKind.wrap .i64 (4 * s_2.2))), IntKind.wrap .i64 (s_2.2 + 1)))))
      (retW (0, 4)))
    (0, 0)
def H_nums_number : Hints := { lop := [(0, [(4, .sc (.int .u64)), (8, .sc (.int .i64))])] }
theorem E_nums_number (r0 : Option Addr) : denF Tryz.prog H_nums_number Tryz.f174 [.sc (.int .u64), .sc (.int .i64)] [.pointer r0] = F_nums_number r0 := by kernel_rfl
theorem C_nums_number {R : Type} (r0 : Option Addr) (K : Res [.sc (.int .u64), .sc (.int .i64)] → W R) (Q : R → World → Prop) (w : World) (h : F_nums_number r0 (fun r w => K r Q w) w) : callW Tryz.prog k_nums_number [.pointer r0] [.sc (.int .u64), .sc (.int .i64)] K Q w :=
  den_calls mix Tryz.func174 H_nums_number (ts := [.sc (.int .u64), .sc (.int .i64)]) trivial (by rw [Tryz.ntmps174]; simp) (by rw [E_nums_number]; exact h)
def F_comp_Get_c1 (i0 : Int) (c1 : Option Addr) (c2 : Option Addr) : W (Int × Int) :=
  ptrW c1 fun x_1 =>
  ld (.sc .ptr) x_1 fun (x_2 : Option Addr) =>
  ptrW c2 fun x_3 =>
  ld (.sc (.int .u8)) x_3 fun (x_4 : Int) =>
  callW Tryz.prog k_comp_in [.pointer x_2, .int .u8 x_4, .int .i64 i0] [.sc (.int .i32), .sc (.int .i64)] fun (x_5 : Int × Int) =>
  retW (x_5.1, x_5.2)
def H_comp_Get_c1 : Hints := {}
theorem E_comp_Get_c1 (i0 : Int) (c1 : Option Addr) (c2 : Option Addr) : denF Tryz.prog H_comp_Get_c1 Tryz.f175 [.sc (.int .i32), .sc (.int .i64)] [.int .i64 i0, .pointer c1, .pointer c2] = F_comp_Get_c1 i0 c1 c2 := by kernel_rfl
theorem C_comp_Get_c1 {R : Type} (i0 : Int) (c1 : Option Addr) (c2 : Option Addr) (K : Res [.sc (.int .i32), .sc (.int .i64)] → W R) (Q : R → World → Prop) (w : World) (h : F_comp_Get_c1 i0 c1 c2 (fun r w => K r Q w) w) : callW Tryz.prog k_comp_Get_c1 [.int .i64 i0, .pointer c1, .pointer c2] [.sc (.int .i32), .sc (.int .i64)] K Q w :=
  den_calls mix Tryz.func175 H_comp_Get_c1 (ts := [.sc (.int .i32), .sc (.int .i64)]) trivial (by rw [Tryz.ntmps175]; simp) (by rw [E_comp_Get_c1]; exact h)
def F_comp_in (r0 : Option Addr) (kind1 : Int) (i2 : Int) : W (Int × Int) :=
  callW Tryz.prog k_schema_Range [.int .u8 kind1, .int .i64 i2] [.sc (.int .i32), .sc (.int .i32), .sc (.int .i64)] fun (x_1 : Int × Int × Int) =>
  callW Tryz.prog k_nums_GetIn [.pointer r0, .int .i64 (IntKind.wrap .i64 x_1.1), .int .i64 (IntKind.wrap .i64 x_1.2.1)] [.sc (.int .i64), .sc (.int .i64)] fun (x_2 : Int × Int) =>
  retW (IntKind.wrap .i32 x_2.1, x_2.2)
def H_comp_in : Hints := {}
theorem E_comp_in (r0 : Option Addr) (kind1 : Int) (i2 : Int) : denF Tryz.prog H_comp_in Tryz.f176 [.sc (.int .i32), .sc (.int .i64)] [.pointer r0, .int .u8 kind1, .int .i64 i2] = F_comp_in r0 kind1 i2 := by kernel_rfl
theorem C_comp_in {R : Type} (r0 : Option Addr) (kind1 : Int) (i2 : Int) (K : Res [.sc (.int .i32), .sc (.int .i64)] → W R) (Q : R → World → Prop) (w : World) (h : F_comp_in r0 kind1 i2 (fun r w => K r Q w) w) : callW Tryz.prog k_comp_in [.pointer r0, .int .u8 kind1, .int .i64 i2] [.sc (.int .i32), .sc (.int .i64)] K Q w :=
  den_calls mix Tryz.func176 H_comp_in (ts := [.sc (.int .i32), .sc (.int .i64)]) trivial (by rw [Tryz.ntmps176]; simp) (by rw [E_comp_in]; exact h)
def F_slices_stableCmpFunc_Comp__diff_turn_c1 (data0 : Sl) (n1 : Int) : W (Unit) :=
  loopW (σ := Int × Int) (fun K_1 s_2 =>
    cond (decide (s_2.2 ≤ n1))
      (callW Tryz.prog k_slices_insertionSortCmpFunc_Comp [.slice data0.a data0.n data0.c, .int .i64 s_2.1, .int .i64 s_2.2, .func (.func 150) #[] #[]] [] fun (x_3 : Unit) =>
    K_1 (s_2.2, IntKind.wrap .i64 (s_2.2 + 20)))
      (callW Tryz.prog k_slices_insertionSortCmpFunc_Comp [.slice data0.a data0.n data0.c, .int .i64 s_2.1, .int .i64 n1, .func (.func 150) #[] #[]] [] fun (x_4 : Unit) =>
  loopW (σ := Int) (fun K_5 s_6 =>
    cond (decide (s_6 < n1))
      (loopW (σ := Int × Int) (fun K_7 s_8 =>
      cond (decide (s_8.2 ≤ n1))
        (callW Tryz.prog k_slices_symMergeCmpFunc_Comp [.slice data0.a data0.n data0.c, .int .i64 s_8.1, .int .i64 (IntKind.wrap .i64 (s_8.1 + s_6)), .int .i64 s_8.2, .func (.func 150) #[] #[]] [] fun (x_9 : Unit) =>
      K_7 (s_8.2, IntKind.wrap .i64 (s_8.2 + (IntKind.wrap .i64 (2 * s_6)))))
        (joinW (σ := Unit) (fun J_10 =>
      cond (decide ((IntKind.wrap .i64 (s_8.1 + s_6)) < n1))
        (callW Tryz.prog k_slices_symMergeCmpFunc_Comp [.slice data0.a data0.n data0.c, .int .i64 s_8.1, .int .i64 (IntKind.wrap .i64 (s_8.1 + s_6)), .int .i64 n1, .func (.func 150) #[] #[]] [] fun (x_11 : Unit) =>
        J_10 ())
        (J_10 ()))
    <| fun s_12 =>
    K_5 (IntKind.wrap .i64 (s_6 * 2))))
      (0, IntKind.wrap .i64 (2 * s_6)))
      (retW ()))
    20))
    (0, 20)
def H_slices_stableCmpFunc_Comp__diff_turn_c1 : Hints := { con := [(16054, [])], lop := [(0, [(7, .sc (.int .i64)), (8, .sc (.int .i64))]), (2, [(6, .sc (.int .i64))]), (4, [(7, .sc (.int .i64)), (8, .sc (.int .i64))])] }
theorem E_slices_stableCmpFunc_Comp__diff_turn_c1 (data0 : Sl) (n1 : Int) : denF Tryz.prog H_slices_stableCmpFunc_Comp__diff_turn_c1 Tryz.f177 [] [.slice data0.a data0.n data0.c, .int .i64 n1, .func (.func 150) #[] #[]] = F_slices_stableCmpFunc_Comp__diff_turn_c1 data0 n1 := by kernel_rfl
theorem C_slices_stableCmpFunc_Comp__diff_turn_c1 {R : Type} (data0 : Sl) (n1 : Int) (K : Res [] → W R) (Q : R → World → Prop) (w : World) (h : F_slices_stableCmpFunc_Comp__diff_turn_c1 data0 n1 (fun r w => K r Q w) w) : callW Tryz.prog k_slices_stableCmpFunc_Comp [.slice data0.a data0.n data0.c, .int .i64 n1, .func (.func 150) #[] #[]] [] K Q w :=
  den_calls mix Tryz.func177 H_slices_stableCmpFunc_Comp__diff_turn_c1 (ts := []) trivial (by rw [Tryz.ntmps177]; simp) (by rw [E_slices_stableCmpFunc_Comp__diff_turn_c1]; exact h)
def F_slices_insertionSortCmpFunc_Ent__diff_Patch_c2 (data0 : Sl) (a1 : Int) (b2 : Int) : W (Unit) :=
  loopW (σ := Int) (fun K_1 s_2 =>
    cond (decide (s_2 < b2))
      (loopW (σ := Int) (fun K_3 s_4 =>
      joinW (σ := Bool) (fun J_5 =>
        drawW <|
        cond (decide (s_4 > a1))
          (idxW data0.a data0.n 2 s_4 fun x_6 =>
                ld (.agg [.int .u32, .sl]) x_6 fun (x_7 : (Int × Sl)) =>
                  idxW data0.a data0.n 2 (IntKind.wrap .i64 (s_4 - 1)) fun x_8 =>
                          ld (.agg [.int .u32, .sl]) x_8 fun (x_9 : (Int × Sl)) =>
                            callW Tryz.prog k_diff_Patch_c2 [.agg ⟨[.int .u32 x_7.1, .slice x_7.2.a x_7.2.n x_7.2.c]⟩, .agg ⟨[.int .u32 x_9.1, .slice x_9.2.a x_9.2.n x_9.2.c]⟩] [.sc (.int .i64)] fun (x_10 : Int) =>
                              J_5 (decide (x_10 < 0)))
          (J_5 false))
      <| fun s_11 =>
      cond s_11
        (drawW <|
      idxW data0.a data0.n 2 (IntKind.wrap .i64 (s_4 - 1)) fun x_12 =>
      ld (.agg [.int .u32, .sl]) x_12 fun (x_13 : (Int × Sl)) =>
      idxW data0.a data0.n 2 s_4 fun x_14 =>
      ld (.agg [.int .u32, .sl]) x_14 fun (x_15 : (Int × Sl)) =>
      idxW data0.a data0.n 2 s_4 fun x_16 =>
      stoL x_16 [.int .u32 x_13.1, .slice x_13.2.a x_13.2.n x_13.2.c] 0 <|
      idxW data0.a data0.n 2 (IntKind.wrap .i64 (s_4 - 1)) fun x_17 =>
      stoL x_17 [.int .u32 x_15.1, .slice x_15.2.a x_15.2.n x_15.2.c] 0 <|
      K_3 (IntKind.wrap .i64 (s_4 - 1)))
        (K_1 (IntKind.wrap .i64 (s_2 + 1))))
      s_2)
      (retW ()))
    (IntKind.wrap .i64 (a1 + 1))
def H_slices_insertionSortCmpFunc_Ent__diff_Patch_c2 : Hints := { reg := [(4, [(34, .sc .bool)])], lop := [(0, [(8, .sc (.int .i64))]), (2, [(9, .sc (.int .i64))])], dr := [(4, ([], [[(0, []), (1, []), (2, []), (3, []), (4, []), (5, []), (6, []), (7, []), (8, []), (9, []), (10, []), (11, []), (12, []), (13, []), (14, []), (15, []), (16, [])]])), (6, ([], [[(0, []), (1, []), (2, []), (3, []), (4, []), (5, []), (6, []), (7, []), (8, []), (9, []), (10, []), (11, []), (12, []), (13, []), (14, []), (15, []), (16, []), (17, [])]]))] }
theorem E_slices_insertionSortCmpFunc_Ent__diff_Patch_c2 (data0 : Sl) (a1 : Int) (b2 : Int) : denF Tryz.prog H_slices_insertionSortCmpFunc_Ent__diff_Patch_c2 Tryz.f179 [] [.slice data0.a data0.n data0.c, .int .i64 a1, .int .i64 b2, .func (.func 121) #[] #[]] = F_slices_insertionSortCmpFunc_Ent__diff_Patch_c2 data0 a1 b2 := by kernel_rfl
theorem C_slices_insertionSortCmpFunc_Ent__diff_Patch_c2 {R : Type} (data0 : Sl) (a1 : Int) (b2 : Int) (K : Res [] → W R) (Q : R → World → Prop) (w : World) (h : F_slices_insertionSortCmpFunc_Ent__diff_Patch_c2 data0 a1 b2 (fun r w => K r Q w) w) : callW Tryz.prog k_slices_insertionSortCmpFunc_Ent [.slice data0.a data0.n data0.c, .int .i64 a1, .int .i64 b2, .func (.func 121) #[] #[]] [] K Q w :=
  den_calls mix Tryz.func179 H_slices_insertionSortCmpFunc_Ent__diff_Patch_c2 (ts := []) trivial (by rw [Tryz.ntmps179]; simp) (by rw [E_slices_insertionSortCmpFunc_Ent__diff_Patch_c2]; exact h)
def F_slices_symMergeCmpFunc_Ent__diff_Patch_c2 (d0 : Sl) (o1 : Int) (p2 : Int) (p3 : Int) : W (Unit) :=
  cond ((IntKind.wrap .i64 (p2 - o1)) == 1)
    (loopW (σ := Int × Int) (fun K_1 s_2 =>
      cond (decide (s_2.1 < s_2.2))
        (drawW <|
      idxW d0.a d0.n 2 (IntKind.wrap .i64 (shR .u64 (IntKind.wrap .u64 (IntKind.wrap .i64 (s_2.1 + s_2.2))) 1)) fun x_3 =>
      ld (.agg [.int .u32, .sl]) x_3 fun (x_4 : (Int × Sl)) =>
      idxW d0.a d0.n 2 o1 fun x_5 =>
      ld (.agg [.int .u32, .sl]) x_5 fun (x_6 : (Int × Sl)) =>
      callW Tryz.prog k_diff_Patch_c2 [.agg ⟨[.int .u32 x_4.1, .slice x_4.2.a x_4.2.n x_4.2.c]⟩, .agg ⟨[.int .u32 x_6.1, .slice x_6.2.a x_6.2.n x_6.2.c]⟩] [.sc (.int .i64)] fun (x_7 : Int) =>
      joinW (σ := Int × Int) (fun J_8 =>
        cond (decide (x_7 < 0))
          (J_8 (IntKind.wrap .i64 ((IntKind.wrap .i64 (shR .u64 (IntKind.wrap .u64 (IntKind.wrap .i64 (s_2.1 + s_2.2))) 1)) + 1), s_2.2))
          (J_8 (s_2.1, IntKind.wrap .i64 (shR .u64 (IntKind.wrap .u64 (IntKind.wrap .i64 (s_2.1 + s_2.2))) 1))))
      <| fun s_9 =>
      K_1 (s_9.1, s_9.2))
        (loopW (σ := Int) (fun K_10 s_11 =>
      cond (decide (s_11 < (IntKind.wrap .i64 (s_2.1 - 1))))
        (drawW <|
      idxW d0.a d0.n 2 (IntKind.wrap .i64 (s_11 + 1)) fun x_12 =>
      ld (.agg [.int .u32, .sl]) x_12 fun (x_13 : (Int × Sl)) =>
      idxW d0.a d0.n 2 s_11 fun x_14 =>
      ld (.agg [.int .u32, .sl]) x_14 fun (x_15 : (Int × Sl)) =>
      idxW d0.a d0.n 2 s_11 fun x_16 =>
      stoL x_16 [.int .u32 x_13.1, .slice x_13.2.a x_13.2.n x_13.2.c] 0 <|
      idxW d0.a d0.n 2 (IntKind.wrap .i64 (s_11 + 1)) fun x_17 =>
      stoL x_17 [.int .u32 x_15.1, .slice x_15.2.a x_15.2.n x_15.2.c] 0 <|
      K_10 (IntKind.wrap .i64 (s_11 + 1)))
        (retW ()))
      o1))
      (p2, p3))
    (cond ((IntKind.wrap .i64 (p3 - p2)) == 1)
    (loopW (σ := Int × Int) (fun K_18 s_19 =>
      cond (decide (s_19.1 < s_19.2))
        (drawW <|
      idxW d0.a d0.n 2 p2 fun x_20 =>
      ld (.agg [.int .u32, .sl]) x_20 fun (x_21 : (Int × Sl)) =>
      idxW d0.a d0.n 2 (IntKind.wrap .i64 (shR .u64 (IntKind.wrap .u64 (IntKind.wrap .i64 (s_19.1 + s_19.2))) 1)) fun x_22 =>
      ld (.agg [.int .u32, .sl]) x_22 fun (x_23 : (Int × Sl)) =>
      callW Tryz.prog k_diff_Patch_c2 [.agg ⟨[.int .u32 x_21.1, .slice x_21.2.a x_21.2.n x_21.2.c]⟩, .agg ⟨[.int .u32 x_23.1, .slice x_23.2.a x_23.2.n x_23.2.c]⟩] [.sc (.int .i64)] fun (x_24 : Int) =>
      joinW (σ := Int × Int) (fun J_25 =>
        cond (!(decide (x_24 < 0)))
          (J_25 (IntKind.wrap .i64 ((IntKind.wrap .i64 (shR .u64 (IntKind.wrap .u64 (IntKind.wrap .i64 (s_19.1 + s_19.2))) 1)) + 1), s_19.2))
          (J_25 (s_19.1, IntKind.wrap .i64 (shR .u64 (IntKind.wrap .u64 (IntKind.wrap .i64 (s_19.1 + s_19.2))) 1))))
      <| fun s_26 =>
      K_18 (s_26.1, s_26.2))
        (loopW (σ := Int) (fun K_27 s_28 =>
      cond (decide (s_28 > s_19.1))
        (drawW <|
      idxW d0.a d0.n 2 (IntKind.wrap .i64 (s_28 - 1)) fun x_29 =>
      ld (.agg [.int .u32, .sl]) x_29 fun (x_30 : (Int × Sl)) =>
      idxW d0.a d0.n 2 s_28 fun x_31 =>
      ld (.agg [.int .u32, .sl]) x_31 fun (x_32 : (Int × Sl)) =>
      idxW d0.a d0.n 2 s_28 fun x_33 =>
      stoL x_33 [.int .u32 x_30.1, .slice x_30.2.a x_30.2.n x_30.2.c] 0 <|
      idxW d0.a d0.n 2 (IntKind.wrap .i64 (s_28 - 1)) fun x_34 =>
      stoL x_34 [.int .u32 x_32.1, .slice x_32.2.a x_32.2.n x_32.2.c] 0 <|
      K_27 (IntKind.wrap .i64 (s_28 - 1)))
        (retW ()))
      p2))
      (o1, p2))
    (joinW (σ := Int × Int) (fun J_35 =>
    cond (decide (p2 > (IntKind.wrap .i64 (shR .u64 (IntKind.wrap .u64 (IntKind.wrap .i64 (o1 + p3))) 1))))
      (J_35 (IntKind.wrap .i64 ((IntKind.wrap .i64 ((IntKind.wrap .i64 (shR .u64 (IntKind.wrap .u64 (IntKind.wrap .i64 (o1 + p3))) 1)) + p2)) - p3), IntKind.wrap .i64 (shR .u64 (IntKind.wrap .u64 (IntKind.wrap .i64 (o1 + p3))) 1)))
      (J_35 (o1, p2)))
  <| fun s_36 =>
  loopW (σ := Int × Int) (fun K_37 s_38 =>
    cond (decide (s_38.1 < s_38.2))
      (drawW <|
    idxW d0.a d0.n 2 (IntKind.wrap .i64 ((IntKind.wrap .i64 ((IntKind.wrap .i64 ((IntKind.wrap .i64 (shR .u64 (IntKind.wrap .u64 (IntKind.wrap .i64 (o1 + p3))) 1)) + p2)) - 1)) - (IntKind.wrap .i64 (shR .u64 (IntKind.wrap .u64 (IntKind.wrap .i64 (s_38.1 + s_38.2))) 1)))) fun x_39 =>
    ld (.agg [.int .u32, .sl]) x_39 fun (x_40 : (Int × Sl)) =>
    idxW d0.a d0.n 2 (IntKind.wrap .i64 (shR .u64 (IntKind.wrap .u64 (IntKind.wrap .i64 (s_38.1 + s_38.2))) 1)) fun x_41 =>
    ld (.agg [.int .u32, .sl]) x_41 fun (x_42 : (Int × Sl)) =>
    callW Tryz.prog k_diff_Patch_c2 [.agg ⟨[.int .u32 x_40.1, .slice x_40.2.a x_40.2.n x_40.2.c]⟩, .agg ⟨[.int .u32 x_42.1, .slice x_42.2.a x_42.2.n x_42.2.c]⟩] [.sc (.int .i64)] fun (x_43 : Int) =>
    joinW (σ := Int × Int) (fun J_44 =>
      cond (!(decide (x_43 < 0)))
        (J_44 (IntKind.wrap .i64 ((IntKind.wrap .i64 (shR .u64 (IntKind.wrap .u64 (IntKind.wrap .i64 (s_38.1 + s_38.2))) 1)) + 1), s_38.2))
        (J_44 (s_38.1, IntKind.wrap .i64 (shR .u64 (IntKind.wrap .u64 (IntKind.wrap .i64 (s_38.1 + s_38.2))) 1))))
    <| fun s_45 =>
    K_37 (s_45.1, s_45.2))
      (joinW (σ := Bool) (fun J_46 =>
    cond (decide (s_38.1 < p2))
      (J_46 (decide (p2 < (IntKind.wrap .i64 ((IntKind.wrap .i64 ((IntKind.wrap .i64 (shR .u64 (IntKind.wrap .u64 (IntKind.wrap .i64 (o1 + p3))) 1)) + p2)) - s_38.1)))))
      (J_46 false))
  <| fun s_47 =>
  joinW (σ := Unit) (fun J_48 =>
    cond s_47
      (callW Tryz.prog k_slices_rotateCmpFunc_Ent [.slice d0.a d0.n d0.c, .int .i64 s_38.1, .int .i64 p2, .int .i64 (IntKind.wrap .i64 ((IntKind.wrap .i64 ((IntKind.wrap .i64 (shR .u64 (IntKind.wrap .u64 (IntKind.wrap .i64 (o1 + p3))) 1)) + p2)) - s_38.1)), .func (.func 121) #[] #[]] [] fun (x_49 : Unit) =>
      J_48 ())
      (J_48 ()))
  <| fun s_50 =>
  joinW (σ := Bool) (fun J_51 =>
    cond (decide (o1 < s_38.1))
      (J_51 (decide (s_38.1 < (IntKind.wrap .i64 (shR .u64 (IntKind.wrap .u64 (IntKind.wrap .i64 (o1 + p3))) 1)))))
      (J_51 false))
  <| fun s_52 =>
  joinW (σ := Unit) (fun J_53 =>
    cond s_52
      (callW Tryz.prog k_slices_symMergeCmpFunc_Ent [.slice d0.a d0.n d0.c, .int .i64 o1, .int .i64 s_38.1, .int .i64 (IntKind.wrap .i64 (shR .u64 (IntKind.wrap .u64 (IntKind.wrap .i64 (o1 + p3))) 1)), .func (.func 121) #[] #[]] [] fun (x_54 : Unit) =>
      J_53 ())
      (J_53 ()))
  <| fun s_55 =>
  joinW (σ := Bool) (fun J_56 =>
    cond (decide ((IntKind.wrap .i64 (shR .u64 (IntKind.wrap .u64 (IntKind.wrap .i64 (o1 + p3))) 1)) < (IntKind.wrap .i64 ((IntKind.wrap .i64 ((IntKind.wrap .i64 (shR .u64 (IntKind.wrap .u64 (IntKind.wrap .i64 (o1 + p3))) 1)) + p2)) - s_38.1))))
      (J_56 (decide ((IntKind.wrap .i64 ((IntKind.wrap .i64 ((IntKind.wrap .i64 (shR .u64 (IntKind.wrap .u64 (IntKind.wrap .i64 (o1 + p3))) 1)) + p2)) - s_38.1)) < p3)))
      (J_56 false))
  <| fun s_57 =>
  joinW (σ := Unit) (fun J_58 =>
    cond s_57
      (callW Tryz.prog k_slices_symMergeCmpFunc_Ent [.slice d0.a d0.n d0.c, .int .i64 (IntKind.wrap .i64 (shR .u64 (IntKind.wrap .u64 (IntKind.wrap .i64 (o1 + p3))) 1)), .int .i64 (IntKind.wrap .i64 ((IntKind.wrap .i64 ((IntKind.wrap .i64 (shR .u64 (IntKind.wrap .u64 (IntKind.wrap .i64 (o1 + p3))) 1)) + p2)) - s_38.1)), .int .i64 p3, .func (.func 121) #[] #[]] [] fun (x_59 : Unit) =>
      J_58 ())
      (J_58 ()))
  <| fun s_60 =>
  retW ()))
    (s_36.1, s_36.2)))
def H_slices_symMergeCmpFunc_Ent__diff_Patch_c2 : Hints := { reg := [(39, [(185, .sc .bool)]), (41, [(199, .sc .bool)]), (43, [(213, .sc .bool)])], con := [(7050, [(10, .sc (.int .i64)), (11, .sc (.int .i64))]), (19103, [(14, .sc (.int .i64)), (15, .sc (.int .i64))]), (29140, [(20, .sc (.int .i64)), (21, .sc (.int .i64))]), (37171, [(20, .sc (.int .i64)), (21, .sc (.int .i64))]), (41185, []), (43199, []), (45213, [])], lop := [(0, [(10, .sc (.int .i64)), (11, .sc (.int .i64))]), (2, [(13, .sc (.int .i64))]), (4, [(14, .sc (.int .i64)), (15, .sc (.int .i64))]), (6, [(17, .sc (.int .i64))]), (8, [(20, .sc (.int .i64)), (21, .sc (.int .i64))])], dr := [(5, ([], [[(0, []), (1, []), (2, []), (3, []), (4, []), (5, []), (6, []), (7, []), (8, []), (9, []), (10, [])]])), (11, ([], [[(0, []), (1, []), (2, []), (3, []), (4, []), (5, []), (6, []), (7, []), (8, []), (9, []), (10, []), (11, []), (12, []), (13, []), (14, []), (15, []), (16, []), (17, [])]])), (17, ([], [[(0, []), (1, []), (2, []), (3, []), (4, []), (5, []), (6, []), (7, []), (8, []), (9, []), (10, []), (11, [])]])), (23, ([], [[(0, []), (1, []), (2, []), (3, []), (4, []), (5, []), (6, []), (7, []), (8, []), (9, []), (10, []), (11, []), (12, []), (13, []), (14, []), (15, []), (16, []), (17, [])]])), (35, ([], [[(0, []), (1, []), (2, []), (3, []), (4, []), (5, []), (6, []), (7, []), (8, []), (9, []), (10, []), (11, []), (12, []), (13, [])]]))] }
set_option maxRecDepth 100000 in
theorem E_slices_symMergeCmpFunc_Ent__diff_Patch_c2 (d0 : Sl) (o1 : Int) (p2 : Int) (p3 : Int) : denF Tryz.prog H_slices_symMergeCmpFunc_Ent__diff_Patch_c2 Tryz.f180 [] [.slice d0.a d0.n d0.c, .int .i64 o1, .int .i64 p2, .int .i64 p3, .func (.func 121) #[] #[]] = F_slices_symMergeCmpFunc_Ent__diff_Patch_c2 d0 o1 p2 p3 := by kernel_rfl
theorem C_slices_symMergeCmpFunc_Ent__diff_Patch_c2 {R : Type} (d0 : Sl) (o1 : Int) (p2 : Int) (p3 : Int) (K : Res [] → W R) (Q : R → World → Prop) (w : World) (h : F_slices_symMergeCmpFunc_Ent__diff_Patch_c2 d0 o1 p2 p3 (fun r w => K r Q w) w) : callW Tryz.prog k_slices_symMergeCmpFunc_Ent [.slice d0.a d0.n d0.c, .int .i64 o1, .int .i64 p2, .int .i64 p3, .func (.func 121) #[] #[]] [] K Q w :=
  den_calls mix Tryz.func180 H_slices_symMergeCmpFunc_Ent__diff_Patch_c2 (ts := []) trivial (by rw [Tryz.ntmps180]; simp) (by rw [E_slices_symMergeCmpFunc_Ent__diff_Patch_c2]; exact h)
def F_slices_EqualFunc_Ent__snap_Same_c1 (s10 : Sl) (s21 : Sl) : W (Bool) :=
  cond ((s10.n : Int) != (s21.n : Int))
    (retW false)
    (loopW (σ := Int) (fun K_1 s_2 =>
    cond (decide (s_2 < (s10.n : Int)))
      (idxW s10.a s10.n 2 s_2 fun x_3 =>
    ld (.agg [.int .u32, .sl]) x_3 fun (x_4 : (Int × Sl)) =>
    newW 57 [.int .u32 0, .slice none 0 0] fun v1_5 =>
    stoL v1_5 [.int .u32 x_4.1, .slice x_4.2.a x_4.2.n x_4.2.c] 0 <|
    idxW s21.a s21.n 2 s_2 fun x_6 =>
    ld (.agg [.int .u32, .sl]) x_6 fun (x_7 : (Int × Sl)) =>
    newW 57 [.int .u32 0, .slice none 0 0] fun v2_8 =>
    stoL v2_8 [.int .u32 x_7.1, .slice x_7.2.a x_7.2.n x_7.2.c] 0 <|
    ld (.agg [.int .u32, .sl]) v1_5 fun (x_9 : (Int × Sl)) =>
    ld (.agg [.int .u32, .sl]) v2_8 fun (x_10 : (Int × Sl)) =>
    callW Tryz.prog k_snap_Same_c1 [.agg ⟨[.int .u32 x_9.1, .slice x_9.2.a x_9.2.n x_9.2.c]⟩, .agg ⟨[.int .u32 x_10.1, .slice x_10.2.a x_10.2.n x_10.2.c]⟩] [.sc .bool] fun (x_11 : Bool) =>
    cond (!x_11)
      (retW false)
      (K_1 (IntKind.wrap .i64 (s_2 + 1))))
      (retW true))
    0)
def H_slices_EqualFunc_Ent__snap_Same_c1 : Hints := { lop := [(0, [(17, .sc (.int .i64))])] }
theorem E_slices_EqualFunc_Ent__snap_Same_c1 (s10 : Sl) (s21 : Sl) : denF Tryz.prog H_slices_EqualFunc_Ent__snap_Same_c1 Tryz.f181 [.sc .bool] [.slice s10.a s10.n s10.c, .slice s21.a s21.n s21.c, .func (.func 182) #[] #[]] = F_slices_EqualFunc_Ent__snap_Same_c1 s10 s21 := by kernel_rfl
theorem C_slices_EqualFunc_Ent__snap_Same_c1 {R : Type} (s10 : Sl) (s21 : Sl) (K : Res [.sc .bool] → W R) (Q : R → World → Prop) (w : World) (h : F_slices_EqualFunc_Ent__snap_Same_c1 s10 s21 (fun r w => K r Q w) w) : callW Tryz.prog k_slices_EqualFunc_Ent [.slice s10.a s10.n s10.c, .slice s21.a s21.n s21.c, .func (.func 182) #[] #[]] [.sc .bool] K Q w :=
  den_calls mix Tryz.func181 H_slices_EqualFunc_Ent__snap_Same_c1 (ts := [.sc .bool]) trivial (by rw [Tryz.ntmps181]; simp) (by rw [E_slices_EqualFunc_Ent__snap_Same_c1]; exact h)
def F_snap_Same_c1 (x0 : (Int × Sl)) (y1 : (Int × Sl)) : W (Bool) :=
  newW 57 [.int .u32 x0.1, .slice x0.2.a x0.2.n x0.2.c] fun x_1 =>
  newW 57 [.int .u32 y1.1, .slice y1.2.a y1.2.n y1.2.c] fun y_2 =>
  joinW (σ := Bool) (fun J_3 =>
    ld (.sc (.int .u32)) (Addr.add x_1 0) fun (x_4 : Int) =>
    ld (.sc (.int .u32)) (Addr.add y_2 0) fun (x_5 : Int) =>
    cond (x_4 == x_5)
      (ld (.sc .sl) (Addr.add x_1 1) fun (x_6 : Sl) =>
        ld (.sc .sl) (Addr.add y_2 1) fun (x_7 : Sl) =>
            callW Tryz.prog k_slices_Equal_Comp [.slice x_6.a x_6.n x_6.c, .slice x_7.a x_7.n x_7.c] [.sc .bool] fun (x_8 : Bool) =>
              J_3 x_8)
      (J_3 false))
  <| fun s_9 =>
  retW s_9
def H_snap_Same_c1 : Hints := { reg := [(1, [(4, .sc .bool)])] }
theorem E_snap_Same_c1 (x0 : (Int × Sl)) (y1 : (Int × Sl)) : denF Tryz.prog H_snap_Same_c1 Tryz.f182 [.sc .bool] [.agg ⟨[.int .u32 x0.1, .slice x0.2.a x0.2.n x0.2.c]⟩, .agg ⟨[.int .u32 y1.1, .slice y1.2.a y1.2.n y1.2.c]⟩] = F_snap_Same_c1 x0 y1 := by kernel_rfl
theorem C_snap_Same_c1 {R : Type} (x0 : (Int × Sl)) (y1 : (Int × Sl)) (K : Res [.sc .bool] → W R) (Q : R → World → Prop) (w : World) (h : F_snap_Same_c1 x0 y1 (fun r w => K r Q w) w) : callW Tryz.prog k_snap_Same_c1 [.agg ⟨[.int .u32 x0.1, .slice x0.2.a x0.2.n x0.2.c]⟩, .agg ⟨[.int .u32 y1.1, .slice y1.2.a y1.2.n y1.2.c]⟩] [.sc .bool] K Q w :=
  den_calls mix Tryz.func182 H_snap_Same_c1 (ts := [.sc .bool]) trivial (by rw [Tryz.ntmps182]; simp) (by rw [E_snap_Same_c1]; exact h)
def F_nums_Zig (n0 : Int) : W (Int) :=
  retW (bXor .u64 (IntKind.wrap .u64 (shL .i64 n0 1)) (IntKind.wrap .u64 (shR .i64 n0 63)))
def H_nums_Zig : Hints := {}
theorem E_nums_Zig (n0 : Int) : denF Tryz.prog H_nums_Zig Tryz.f183 [.sc (.int .u64)] [.int .i64 n0] = F_nums_Zig n0 := by kernel_rfl
theorem C_nums_Zig {R : Type} (n0 : Int) (K : Res [.sc (.int .u64)] → W R) (Q : R → World → Prop) (w : World) (h : F_nums_Zig n0 (fun r w => K r Q w) w) : callW Tryz.prog k_nums_Zig [.int .i64 n0] [.sc (.int .u64)] K Q w :=
  den_calls mix Tryz.func183 H_nums_Zig (ts := [.sc (.int .u64)]) trivial (by rw [Tryz.ntmps183]; simp) (by rw [E_nums_Zig]; exact h)
def F_nums_Zag (v0 : Int) : W (Int) :=
  retW (bXor .i64 (IntKind.wrap .i64 (shR .u64 v0 1)) (IntKind.wrap .i64 (0 - (IntKind.wrap .i64 (bAnd .u64 v0 1)))))
def H_nums_Zag : Hints := {}
theorem E_nums_Zag (v0 : Int) : denF Tryz.prog H_nums_Zag Tryz.f184 [.sc (.int .i64)] [.int .u64 v0] = F_nums_Zag v0 := by kernel_rfl
theorem C_nums_Zag {R : Type} (v0 : Int) (K : Res [.sc (.int .i64)] → W R) (Q : R → World → Prop) (w : World) (h : F_nums_Zag v0 (fun r w => K r Q w) w) : callW Tryz.prog k_nums_Zag [.int .u64 v0] [.sc (.int .i64)] K Q w :=
  den_calls mix Tryz.func184 H_nums_Zag (ts := [.sc (.int .i64)]) trivial (by rw [Tryz.ntmps184]; simp) (by rw [E_nums_Zag]; exact h)
def F_slices_insertionSortCmpFunc_Comp__diff_turn_c1 (data0 : Sl) (a1 : Int) (b2 : Int) : W (Unit) :=
  loopW (σ := Int) (fun K_1 s_2 =>
    cond (decide (s_2 < b2))
      (loopW (σ := Int) (fun K_3 s_4 =>
      joinW (σ := Bool) (fun J_5 =>
        drawW <|
        cond (decide (s_4 > a1))
          (idxW data0.a data0.n 4 s_4 fun x_6 =>
                ld (.agg [.int .u8, .int .i32, .int .i32, .int .i32]) x_6 fun (x_7 : (Int × Int × Int × Int)) =>
                  idxW data0.a data0.n 4 (IntKind.wrap .i64 (s_4 - 1)) fun x_8 =>
                          ld (.agg [.int .u8, .int .i32, .int .i32, .int .i32]) x_8 fun (x_9 : (Int × Int × Int × Int)) =>
                            callW Tryz.prog k_diff_turn_c1 [.agg ⟨[.int .u8 x_7.1, .int .i32 x_7.2.1, .int .i32 x_7.2.2.1, .int .i32 x_7.2.2.2]⟩, .agg ⟨[.int .u8 x_9.1, .int .i32 x_9.2.1, .int .i32 x_9.2.2.1, .int .i32 x_9.2.2.2]⟩] [.sc (.int .i64)] fun (x_10 : Int) =>
                              J_5 (decide (x_10 < 0)))
          (J_5 false))
      <| fun s_11 =>
      cond s_11
        (drawW <|
      idxW data0.a data0.n 4 (IntKind.wrap .i64 (s_4 - 1)) fun x_12 =>
      ld (.agg [.int .u8, .int .i32, .int .i32, .int .i32]) x_12 fun (x_13 : (Int × Int × Int × Int)) =>
      idxW data0.a data0.n 4 s_4 fun x_14 =>
      ld (.agg [.int .u8, .int .i32, .int .i32, .int .i32]) x_14 fun (x_15 : (Int × Int × Int × Int)) =>
      idxW data0.a data0.n 4 s_4 fun x_16 =>
      stoL x_16 [.int .u8 x_13.1, .int .i32 x_13.2.1, .int .i32 x_13.2.2.1, .int .i32 x_13.2.2.2] 0 <|
      idxW data0.a data0.n 4 (IntKind.wrap .i64 (s_4 - 1)) fun x_17 =>
      stoL x_17 [.int .u8 x_15.1, .int .i32 x_15.2.1, .int .i32 x_15.2.2.1, .int .i32 x_15.2.2.2] 0 <|
      K_3 (IntKind.wrap .i64 (s_4 - 1)))
        (K_1 (IntKind.wrap .i64 (s_2 + 1))))
      s_2)
      (retW ()))
    (IntKind.wrap .i64 (a1 + 1))
def H_slices_insertionSortCmpFunc_Comp__diff_turn_c1 : Hints := { reg := [(4, [(34, .sc .bool)])], lop := [(0, [(8, .sc (.int .i64))]), (2, [(9, .sc (.int .i64))])], dr := [(4, ([], [[(0, []), (1, []), (2, []), (3, []), (4, []), (5, []), (6, []), (7, []), (8, []), (9, []), (10, []), (11, []), (12, []), (13, []), (14, []), (15, []), (16, [])]])), (6, ([], [[(0, []), (1, []), (2, []), (3, []), (4, []), (5, []), (6, []), (7, []), (8, []), (9, []), (10, []), (11, []), (12, []), (13, []), (14, []), (15, []), (16, []), (17, [])]]))] }
theorem E_slices_insertionSortCmpFunc_Comp__diff_turn_c1 (data0 : Sl) (a1 : Int) (b2 : Int) : denF Tryz.prog H_slices_insertionSortCmpFunc_Comp__diff_turn_c1 Tryz.f186 [] [.slice data0.a data0.n data0.c, .int .i64 a1, .int .i64 b2, .func (.func 150) #[] #[]] = F_slices_insertionSortCmpFunc_Comp__diff_turn_c1 data0 a1 b2 := by kernel_rfl
theorem C_slices_insertionSortCmpFunc_Comp__diff_turn_c1 {R : Type} (data0 : Sl) (a1 : Int) (b2 : Int) (K : Res [] → W R) (Q : R → World → Prop) (w : World) (h : F_slices_insertionSortCmpFunc_Comp__diff_turn_c1 data0 a1 b2 (fun r w => K r Q w) w) : callW Tryz.prog k_slices_insertionSortCmpFunc_Comp [.slice data0.a data0.n data0.c, .int .i64 a1, .int .i64 b2, .func (.func 150) #[] #[]] [] K Q w :=
  den_calls mix Tryz.func186 H_slices_insertionSortCmpFunc_Comp__diff_turn_c1 (ts := []) trivial (by rw [Tryz.ntmps186]; simp) (by rw [E_slices_insertionSortCmpFunc_Comp__diff_turn_c1]; exact h)
def F_slices_rotateCmpFunc_Ent__diff_Patch_c2 (data0 : Sl) (a1 : Int) (m2 : Int) (b3 : Int) : W (Unit) :=
  loopW (σ := Int × Int) (fun K_1 s_2 =>
    cond (s_2.1 != s_2.2)
      (joinW (σ := Int × Int) (fun J_3 =>
      cond (decide (s_2.1 > s_2.2))
        (callW Tryz.prog k_slices_swapRangeCmpFunc_Ent [.slice data0.a data0.n data0.c, .int .i64 (IntKind.wrap .i64 (m2 - s_2.1)), .int .i64 m2, .int .i64 s_2.2, .func (.func 121) #[] #[]] [] fun (x_4 : Unit) =>
        J_3 (IntKind.wrap .i64 (s_2.1 - s_2.2), s_2.2))
        (callW Tryz.prog k_slices_swapRangeCmpFunc_Ent [.slice data0.a data0.n data0.c, .int .i64 (IntKind.wrap .i64 (m2 - s_2.1)), .int .i64 (IntKind.wrap .i64 ((IntKind.wrap .i64 (m2 + s_2.2)) - s_2.1)), .int .i64 s_2.1, .func (.func 121) #[] #[]] [] fun (x_5 : Unit) =>
        J_3 (s_2.1, IntKind.wrap .i64 (s_2.2 - s_2.1))))
    <| fun s_6 =>
    K_1 (s_6.1, s_6.2))
      (callW Tryz.prog k_slices_swapRangeCmpFunc_Ent [.slice data0.a data0.n data0.c, .int .i64 (IntKind.wrap .i64 (m2 - s_2.1)), .int .i64 m2, .int .i64 s_2.1, .func (.func 121) #[] #[]] [] fun (x_7 : Unit) =>
  retW ()))
    (IntKind.wrap .i64 (m2 - a1), IntKind.wrap .i64 (b3 - m2))
def H_slices_rotateCmpFunc_Ent__diff_Patch_c2 : Hints := { con := [(5023, [(10, .sc (.int .i64)), (11, .sc (.int .i64))])], lop := [(0, [(10, .sc (.int .i64)), (11, .sc (.int .i64))])] }
theorem E_slices_rotateCmpFunc_Ent__diff_Patch_c2 (data0 : Sl) (a1 : Int) (m2 : Int) (b3 : Int) : denF Tryz.prog H_slices_rotateCmpFunc_Ent__diff_Patch_c2 Tryz.f188 [] [.slice data0.a data0.n data0.c, .int .i64 a1, .int .i64 m2, .int .i64 b3, .func (.func 121) #[] #[]] = F_slices_rotateCmpFunc_Ent__diff_Patch_c2 data0 a1 m2 b3 := by kernel_rfl
theorem C_slices_rotateCmpFunc_Ent__diff_Patch_c2 {R : Type} (data0 : Sl) (a1 : Int) (m2 : Int) (b3 : Int) (K : Res [] → W R) (Q : R → World → Prop) (w : World) (h : F_slices_rotateCmpFunc_Ent__diff_Patch_c2 data0 a1 m2 b3 (fun r w => K r Q w) w) : callW Tryz.prog k_slices_rotateCmpFunc_Ent [.slice data0.a data0.n data0.c, .int .i64 a1, .int .i64 m2, .int .i64 b3, .func (.func 121) #[] #[]] [] K Q w :=
  den_calls mix Tryz.func188 H_slices_rotateCmpFunc_Ent__diff_Patch_c2 (ts := []) trivial (by rw [Tryz.ntmps188]; simp) (by rw [E_slices_rotateCmpFunc_Ent__diff_Patch_c2]; exact h)
def F_slices_swapRangeCmpFunc_Ent__diff_Patch_c2 (data0 : Sl) (a1 : Int) (b2 : Int) (n3 : Int) : W (Unit) :=
  loopW (σ := Int) (fun K_1 s_2 =>
    cond (decide (s_2 < n3))
      (drawW <|
    idxW data0.a data0.n 2 (IntKind.wrap .i64 (b2 + s_2)) fun x_3 =>
    ld (.agg [.int .u32, .sl]) x_3 fun (x_4 : (Int × Sl)) =>
    idxW data0.a data0.n 2 (IntKind.wrap .i64 (a1 + s_2)) fun x_5 =>
    ld (.agg [.int .u32, .sl]) x_5 fun (x_6 : (Int × Sl)) =>
    idxW data0.a data0.n 2 (IntKind.wrap .i64 (a1 + s_2)) fun x_7 =>
    stoL x_7 [.int .u32 x_4.1, .slice x_4.2.a x_4.2.n x_4.2.c] 0 <|
    idxW data0.a data0.n 2 (IntKind.wrap .i64 (b2 + s_2)) fun x_8 =>
    stoL x_8 [.int .u32 x_6.1, .slice x_6.2.a x_6.2.n x_6.2.c] 0 <|
    K_1 (IntKind.wrap .i64 (s_2 + 1)))
      (retW ()))
    0
def H_slices_swapRangeCmpFunc_Ent__diff_Patch_c2 : Hints := { lop := [(0, [(10, .sc (.int .i64))])], dr := [(3, ([], [[(0, []), (1, []), (2, []), (3, []), (4, []), (5, []), (6, []), (7, []), (8, []), (9, []), (10, []), (11, []), (12, []), (13, []), (14, []), (15, []), (16, []), (17, []), (18, []), (19, []), (20, []), (21, []), (22, []), (23, [])]]))] }
theorem E_slices_swapRangeCmpFunc_Ent__diff_Patch_c2 (data0 : Sl) (a1 : Int) (b2 : Int) (n3 : Int) : denF Tryz.prog H_slices_swapRangeCmpFunc_Ent__diff_Patch_c2 Tryz.f191 [] [.slice data0.a data0.n data0.c, .int .i64 a1, .int .i64 b2, .int .i64 n3, .func (.func 121) #[] #[]] = F_slices_swapRangeCmpFunc_Ent__diff_Patch_c2 data0 a1 b2 n3 := by kernel_rfl
theorem C_slices_swapRangeCmpFunc_Ent__diff_Patch_c2 {R : Type} (data0 : Sl) (a1 : Int) (b2 : Int) (n3 : Int) (K : Res [] → W R) (Q : R → World → Prop) (w : World) (h : F_slices_swapRangeCmpFunc_Ent__diff_Patch_c2 data0 a1 b2 n3 (fun r w => K r Q w) w) : callW Tryz.prog k_slices_swapRangeCmpFunc_Ent [.slice data0.a data0.n data0.c, .int .i64 a1, .int .i64 b2, .int .i64 n3, .func (.func 121) #[] #[]] [] K Q w :=
  den_calls mix Tryz.func191 H_slices_swapRangeCmpFunc_Ent__diff_Patch_c2 (ts := []) trivial (by rw [Tryz.ntmps191]; simp) (by rw [E_slices_swapRangeCmpFunc_Ent__diff_Patch_c2]; exact h)
end Go.Proofs.YtchhhjlpnecjkaaGreat
set_option linter.unusedVariables false
namespace Go.Proofs.YtchhhjlpnecjkaaGreat
open Go Go.Proofs.YtchhhjlpnecjkaaGreat.Den
def F_cmp_Compare_ID (x0 : Int) (y1 : Int) : W (Int) :=
  callW Tryz.prog k_cmp_isNaN_ID [.int .u32 x0] [.sc .bool] fun (x_1 : Bool) =>
  callW Tryz.prog k_cmp_isNaN_ID [.int .u32 y1] [.sc .bool] fun (x_2 : Bool) =>
  cond x_1
    (cond x_2
      (retW 0)
      (retW (-1)))
    (cond x_2
    (retW 1)
    (cond (decide (x0 < y1))
    (retW (-1))
    (cond (decide (x0 > y1))
    (retW 1)
    (retW 0))))
def H_cmp_Compare_ID : Hints := {}
theorem E_cmp_Compare_ID (x0 : Int) (y1 : Int) : denF Tryz.prog H_cmp_Compare_ID Tryz.f122 [.sc (.int .i64)] [.int .u32 x0, .int .u32 y1] = F_cmp_Compare_ID x0 y1 := by kernel_rfl
theorem C_cmp_Compare_ID {R : Type} (x0 : Int) (y1 : Int) (K : Res [.sc (.int .i64)] → W R) (Q : R → World → Prop) (w : World) (h : F_cmp_Compare_ID x0 y1 (fun r w => K r Q w) w) : callW Tryz.prog k_cmp_Compare_ID [.int .u32 x0, .int .u32 y1] [.sc (.int .i64)] K Q w :=
  den_calls mix Tryz.func122 H_cmp_Compare_ID (ts := [.sc (.int .i64)]) trivial (by rw [Tryz.ntmps122]; simp) (by rw [E_cmp_Compare_ID]; exact h)
def F_cmp_Compare_byte (x0 : Int) (y1 : Int) : W (Int) :=
  callW Tryz.prog k_cmp_isNaN_byte [.int .u8 x0] [.sc .bool] fun (x_1 : Bool) =>
  callW Tryz.prog k_cmp_isNaN_byte [.int .u8 y1] [.sc .bool] fun (x_2 : Bool) =>
  cond x_1
    (cond x_2
      (retW 0)
      (retW (-1)))
    (cond x_2
    (retW 1)
    (cond (decide (x0 < y1))
    (retW (-1))
    (cond (decide (x0 > y1))
    (retW 1)
    (retW 0))))
def H_cmp_Compare_byte : Hints := {}
theorem E_cmp_Compare_byte (x0 : Int) (y1 : Int) : denF Tryz.prog H_cmp_Compare_byte Tryz.f151 [.sc (.int .i64)] [.int .u8 x0, .int .u8 y1] = F_cmp_Compare_byte x0 y1 := by kernel_rfl
theorem C_cmp_Compare_byte {R : Type} (x0 : Int) (y1 : Int) (K : Res [.sc (.int .i64)] → W R) (Q : R → World → Prop) (w : World) (h : F_cmp_Compare_byte x0 y1 (fun r w => K r Q w) w) : callW Tryz.prog k_cmp_Compare_byte [.int .u8 x0, .int .u8 y1] [.sc (.int .i64)] K Q w :=
  den_calls mix Tryz.func151 H_cmp_Compare_byte (ts := [.sc (.int .i64)]) trivial (by rw [Tryz.ntmps151]; simp) (by rw [E_cmp_Compare_byte]; exact h)
def F_cmp_isNaN_ID (x0 : Int) : W (Bool) :=
  retW (x0 != x0)
def H_cmp_isNaN_ID : Hints := {}
theorem E_cmp_isNaN_ID (x0 : Int) : denF Tryz.prog H_cmp_isNaN_ID Tryz.f153 [.sc .bool] [.int .u32 x0] = F_cmp_isNaN_ID x0 := by kernel_rfl
theorem C_cmp_isNaN_ID {R : Type} (x0 : Int) (K : Res [.sc .bool] → W R) (Q : R → World → Prop) (w : World) (h : F_cmp_isNaN_ID x0 (fun r w => K r Q w) w) : callW Tryz.prog k_cmp_isNaN_ID [.int .u32 x0] [.sc .bool] K Q w :=
  den_calls mix Tryz.func153 H_cmp_isNaN_ID (ts := [.sc .bool]) trivial (by rw [Tryz.ntmps153]; simp) (by rw [E_cmp_isNaN_ID]; exact h)
end Go.Proofs.YtchhhjlpnecjkaaGreat
namespace Go.Proofs.YtchhhjlpnecjkaaGreat.Den
open Go Go.RowKit
variable {R : Type} {Q : R → World → Prop} {w : World}
theorem joinK {σ : Type} {A : (σ → W R) → W R} {K : σ → W R} (h : A (fun s _ w' => K s Q w') Q w) : joinW A K Q w := ⟨fun s w' => K s Q w', fun _ _ h => h, h⟩
theorem joinI {σ : Type} {A : (σ → W R) → W R} {K : σ → W R} (J : σ → World → Prop) (h : A (fun s _ w' => J s w') Q w) (hk : ∀ s w', J s w' → K s Q w') : joinW A K Q w := ⟨J, hk, h⟩
theorem condI {b : Bool} {X Y : W R} (h1 : b = true → X Q w) (h2 : b = false → Y Q w) : (cond b X Y : W R) Q w := by
  cases b
  · exact h2 rfl
  · exact h1 rfl
theorem condD {p : Prop} [Decidable p] {X Y : W R} (h1 : p → X Q w) (h2 : ¬p → Y Q w) : (cond (decide p) X Y : W R) Q w := by
  by_cases h : p
  · simp only [h, decide_true, cond_true]; exact h1 h
  · simp only [h, decide_false, cond_false]; exact h2 h
theorem condT {b : Bool} {X Y : W R} (h : b = true) (hx : X Q w) : (cond b X Y : W R) Q w := by subst h; exact hx
theorem condF {b : Bool} {X Y : W R} (h : b = false) (hx : Y Q w) : (cond b X Y : W R) Q w := by subst h; exact hx
theorem condE {a b : Int} {X Y : W R} (h1 : a = b → X Q w) (h2 : a ≠ b → Y Q w) : (cond (a == b) X Y : W R) Q w :=
  condI (fun h => h1 (by simpa using h)) (fun h => h2 (by simpa using h))
theorem condN {a b : Int} {X Y : W R} (h1 : a ≠ b → X Q w) (h2 : a = b → Y Q w) : (cond (a != b) X Y : W R) Q w :=
  condI (fun h => h1 (by simpa using h)) (fun h => h2 (by simpa using h))
theorem loopI {σ : Type} {body : (σ → W R) → σ → W R} {s0 : σ} (I : σ → World → Prop) (μ : σ → World → Nat) (h0 : I s0 w) (hs : ∀ s w', I s w' → body (fun s' _ w'' => I s' w'' ∧ μ s' w'' < μ s w') s Q w') : loopW body s0 Q w := ⟨I, μ, h0, hs⟩
theorem ldI {t : Ty} {a : Addr} {K : t.T → W R} (x : t.T) (h : Rd w a t x) (hk : K x Q w) : ld t a K Q w := ⟨x, h, hk⟩
structure Fr (S : Nat → Prop) (w w' : World) : Prop where
  os : w'.os = w.os
  tape : w'.tape = w.tape
  output : w'.output = w.output
  size : w.heap.size ≤ w'.heap.size
  block : ∀ k, k < w.heap.size → ¬ S k → w'.heap[k]? = w.heap[k]?
abbrev None : Nat → Prop := fun _ => False
theorem Fr.refl (S : Nat → Prop) (w : World) : Fr S w w := ⟨rfl, rfl, rfl, Nat.le_refl _, fun _ _ _ => rfl⟩
theorem Fr.trans {S T U : Nat → Prop} {a b c : World} (h : Fr S a b) (k : Fr T b c) (hs : ∀ x, S x → U x) (ht : ∀ x, x < a.heap.size → T x → U x) : Fr U a c :=
  ⟨k.os.trans h.os, k.tape.trans h.tape, k.output.trans h.output, Nat.le_trans h.size k.size,
    fun i hi hu => (k.block i (Nat.lt_of_lt_of_le hi h.size) (fun x => hu (ht i hi x))).trans (h.block i hi (fun x => hu (hs i x)))⟩
theorem Fr.mono {S T : Nat → Prop} {a b : World} (h : Fr S a b) (hs : ∀ x, x < a.heap.size → S x → T x) : Fr T a b := ⟨h.os, h.tape, h.output, h.size, fun k hk hn => h.block k hk (fun x => hn (hs k hk x))⟩
theorem Fr.then0 {S : Nat → Prop} {a b c : World} (h : Fr S a b) (k : Fr None b c) : Fr S a c := h.trans k (fun _ h => h) (fun _ _ h => h.elim)
theorem Fr.then {S : Nat → Prop} {a b c : World} (h : Fr S a b) (k : Fr S b c) : Fr S a c := h.trans k (fun _ h => h) (fun _ _ h => h)
theorem Fr.thenNew {S T : Nat → Prop} {a b c : World} (h : Fr S a b) (k : Fr T b c) (ht : ∀ x, T x → a.heap.size ≤ x) : Fr S a c := h.trans k (fun _ h => h) (fun x hx h => absurd (ht x h) (by omega))
theorem Fr.alloc {S : Nat → Prop} {a b : World} (h : Fr S a b) (o : Obj) : Fr S a (b.alloc o) :=
  h.then0 ⟨rfl, rfl, rfl, by simp, fun k hk _ => heap_alloc_old b o hk⟩
theorem Fr.drew {S : Nat → Prop} {a b : World} (h : Fr S a b) : Fr S a b.drew := ⟨h.os, h.tape, h.output, h.size, h.block⟩
theorem Fr.setCell {S : Nat → Prop} {a b : World} (h : Fr S a b) {p : Addr} (hp : S p.block ∨ a.heap.size ≤ p.block) (v : Value) : Fr S a (b.setCell p v) :=
  h.trans (T := fun k => k = p.block) ⟨rfl, rfl, rfl, by simp, fun k _ hn => heap_setCell_other b p k v (fun e => hn e)⟩ (fun _ h => h) (fun x hx e => by
    subst e
    rcases hp with hp | hp
    · exact hp
    · omega)
theorem Fr.grown {S : Nat → Prop} {a b c : World} {row : Option Nat} (h : Fr S a b) (k : b.grownBy c row) (hr : ∀ x, row = some x → S x ∨ a.heap.size ≤ x) : Fr S a c :=
  h.trans (T := fun x => row = some x) ⟨k.os, k.tape, k.output, k.size, fun i hi hn => k.block i hi (fun e => hn e.symm)⟩ (fun _ h => h) (fun x hx e => by
    rcases hr x e with h | h
    · exact h
    · omega)
theorem Fr.below {a b : World} (h : Fr None a b) : Below a.heap.size a b := ⟨h.os, h.tape, h.output, h.size, fun k hk => h.block k hk (fun x => x)⟩
def Blk (w : World) (b : Nat) (T : TypeId) (cs : List Value) : Prop := w.heap[b]? = some (.cells ⟨cs⟩ T (0, 0))
theorem Blk.lt {b : Nat} {T : TypeId} {cs : List Value} (h : Blk w b T cs) : b < w.heap.size := (Array.getElem?_eq_some_iff.1 h).1
theorem Blk.cell {b : Nat} {T : TypeId} {cs : List Value} (h : Blk w b T cs) (o : Nat) : w.cell? ⟨b, o, none⟩ = cs[o]? := by
  unfold Blk at h
  simp [World.cell?, h]
theorem Blk.frozen {b : Nat} {T : TypeId} {cs : List Value} (h : Blk w b T cs) (o : Nat) : w.frozen? ⟨b, o, none⟩ = false := by
  unfold Blk at h
  simp [World.frozen?, h]
theorem Blk.fr {S : Nat → Prop} {w' : World} {b : Nat} {T : TypeId} {cs : List Value} (h : Blk w b T cs) (f : Fr S w w') (hn : ¬ S b) : Blk w' b T cs := (f.block b h.lt hn).trans h
theorem Blk.new (w : World) (T : TypeId) (cs : List Value) : Blk (w.alloc (.cells ⟨cs⟩ T)) w.heap.size T cs := heap_alloc_new w _
theorem Blk.alloc {b : Nat} {T : TypeId} {cs : List Value} (h : Blk w b T cs) (o : Obj) : Blk (w.alloc o) b T cs := (heap_alloc_old w o h.lt).trans h
theorem Blk.drew {b : Nat} {T : TypeId} {cs : List Value} (h : Blk w b T cs) : Blk w.drew b T cs := h
theorem Blk.set {b : Nat} {T : TypeId} {cs : List Value} (h : Blk w b T cs) (o : Nat) (v : Value) : Blk (w.setCell ⟨b, o, none⟩ v) b T (cs.set o v) := by
  have := heap_setCell_same w b o ⟨cs⟩ T v h
  simpa [Blk] using this
theorem add_lit (b o n : Nat) : Addr.add ⟨b, o, none⟩ n = ⟨b, o + n, none⟩ := by
  unfold Addr.add
  split
  · rename_i h; subst h; rfl
  · rfl
theorem Blk.cells {b : Nat} {T : TypeId} {cs : List Value} (h : Blk w b T cs) (o : Nat) (vs : List Value) (hv : ∀ j u, vs[j]? = some u → cs[o + j]? = some u) : CellsAt w ⟨b, o, none⟩ vs := by
  intro j u hj
  rw [add_lit, h.cell]
  exact hv j u hj
def putAt (cs : List Value) (o : Nat) : List Value → List Value
  | [] => cs
  | v :: vs => putAt (cs.set o v) (o + 1) vs
theorem putAt_length : ∀ (vs cs : List Value) (o : Nat), (putAt cs o vs).length = cs.length
  | [], _, _ => rfl
  | v :: vs, cs, o => by simp [putAt, putAt_length vs]
theorem stoBlk {b : Nat} {T : TypeId} {K : W R} : ∀ (vs : List Value) (i : Nat) {cs : List Value} {o : Nat} {w : World}, Blk w b T cs → o + i + vs.length ≤ cs.length → (∀ v ∈ vs, v.oneCell' = true) →
    (∀ w', Blk w' b T (putAt cs (o + i) vs) → Fr (fun k => k = b) w w' → w'.heap.size = w.heap.size → K Q w') → stoL ⟨b, o, none⟩ vs i K Q w
  | [], i, cs, o, w, h, _, _, hk => hk w h (Fr.refl _ _) rfl
  | v :: vs, i, cs, o, w, h, hl, hv, hk => by
    simp only [List.length_cons] at hl
    refine ⟨hv v List.mem_cons_self, ⟨cs[o + i], ?_⟩, ?_, ?_⟩
    · rw [add_lit, h.cell]; simp
    · rw [add_lit, h.frozen]
    · rw [add_lit]
      refine stoBlk vs (i + 1) (h.set (o + i) v) (by simp; omega) (fun v hv' => hv v (List.mem_cons_of_mem _ hv')) ?_
      intro w' h1 h2 h3
      refine hk w' ?_ ?_ ?_
      · rw [show o + (i + 1) = o + i + 1 by omega] at h1; exact h1
      · exact (Fr.setCell (S := fun k => k = b) (Fr.refl _ _) (p := ⟨b, o + i, none⟩) (.inl rfl) v).then h2
      · rw [h3]; simp
def Sl.v (s : Sl) : Value := .slice s.a s.n s.c
def Ty.size : Ty → Nat
  | .sc _ => 1
  | .agg l => l.length
theorem Tup_len {l : List Sc} : ∀ (x : Tup Sc.T l), (Tup.e Sc.e l x).length = l.length := by
  induction l with
  | nil => intro x; rfl
  | cons t r ih =>
    intro x
    cases r with
    | nil => rfl
    | cons u r => simp only [Tup.e, List.length_cons]; rw [ih x.2]; rfl
def Ty.cells : (t : Ty) → t.T → List Value
  | .sc s, x => [s.e x]
  | .agg l, x => Tup.e Sc.e l x
theorem Ty.cells_len : ∀ (t : Ty) (x : t.T), (t.cells x).length = t.size
  | .sc _, _ => rfl
  | .agg _, x => Tup_len x
structure SlT (ok : Nat → Prop) (w : World) (t : Ty) (s : Sl) (l : List t.T) : Prop where
  len : s.n = l.length
  cap : s.n ≤ s.c
  at_ : l = [] ∨ ∃ b o, s.a = some ⟨b, o, none⟩ ∧ ok b ∧ b < w.heap.size ∧ ∀ i x, l[i]? = some x → Rd w ⟨b, o + i * t.size, none⟩ t x
theorem Rd.keep {w' : World} {b o : Nat} (hb : w'.heap[b]? = w.heap[b]?) : ∀ {t : Ty} {x : t.T}, Rd w ⟨b, o, none⟩ t x → Rd w' ⟨b, o, none⟩ t x
  | .sc _, _, h => (World.cell?_of_block (w := w) (a := ⟨b, o, none⟩) hb).trans h
  | .agg _, _, h => fun j u hj => by
    have := h j u hj
    rw [add_lit] at this ⊢
    exact (World.cell?_of_block (w := w) (a := ⟨b, o + j, none⟩) hb).trans this
theorem SlT.fr {ok S : Nat → Prop} {w' : World} {t : Ty} {s : Sl} {l : List t.T} (h : SlT ok w t s l) (f : Fr S w w') (hn : ∀ k, ok k → ¬ S k) : SlT ok w' t s l := by
  refine ⟨h.len, h.cap, h.at_.imp id ?_⟩
  rintro ⟨b, o, h1, h2, h3, h4⟩
  exact ⟨b, o, h1, h2, Nat.lt_of_lt_of_le h3 f.size, fun i x hx => (h4 i x hx).keep (f.block b h3 (hn b h2))⟩
theorem SlT.fr0 {ok : Nat → Prop} {w' : World} {t : Ty} {s : Sl} {l : List t.T} (h : SlT ok w t s l) (f : Fr None w w') : SlT ok w' t s l := h.fr f (fun _ _ h => h)
theorem SlT.mono {ok ok' : Nat → Prop} {t : Ty} {s : Sl} {l : List t.T} (h : SlT ok w t s l) (hk : ∀ k, k < w.heap.size → ok k → ok' k) : SlT ok' w t s l := by
  refine ⟨h.len, h.cap, h.at_.imp id ?_⟩
  rintro ⟨b, o, h1, h2, h3, h4⟩
  exact ⟨b, o, h1, hk b h3 h2, h3, h4⟩
theorem SlT.nil {ok : Nat → Prop} (t : Ty) {a : Option Addr} {c : Nat} : SlT ok w t ⟨a, 0, c⟩ [] := ⟨rfl, Nat.zero_le _, .inl rfl⟩
theorem SlT.idx {ok : Nat → Prop} {t : Ty} {s : Sl} {l : List t.T} (h : SlT ok w t s l) {sz : Nat} (hsz : sz = t.size) {i : Int} (h0 : 0 ≤ i) (h1 : i < l.length) {K : Addr → W R}
    (hk : ∀ a x, l[i.toNat]? = some x → Rd w a t x → K a Q w) : idxW s.a s.n sz i K Q w := by
  subst hsz
  have hi : i.toNat < l.length := by omega
  rcases h.at_ with rfl | ⟨b, o, ha, _, _, hr⟩
  · simp at hi
  · refine ⟨⟨b, o, none⟩, ha, h0, by rw [h.len]; exact h1, ?_⟩
    rw [add_lit]
    exact hk _ _ (List.getElem?_eq_getElem hi) (hr _ _ (List.getElem?_eq_getElem hi))
end Go.Proofs.YtchhhjlpnecjkaaGreat.Den
