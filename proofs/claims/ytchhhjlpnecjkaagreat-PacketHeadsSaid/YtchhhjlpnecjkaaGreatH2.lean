/-
  What the proof of packetHeads_holds leans on, laid together by a program of this session (wip/pack.py) out of its own texts; the last of these texts holds packetHeads_holds.
-/
import Derived.Test.YtchhhjlpnecjkaaGreatH1
set_option linter.unusedVariables false
set_option linter.unusedVariables false
namespace Go.Proofs.YtchhhjlpnecjkaaGreat
open Go Go.Proofs.YtchhhjlpnecjkaaGreat.Den
def F_packet_reader_delta (d0 : (Option Addr)) (o1 : Sl) : W (((Sl × Sl × Sl)) ⊕ List PanicEntry) :=
  newW 62 [.pointer d0] fun x_1 =>
  newW 80 [.slice none 0 0, .slice none 0 0, .slice none 0 0] fun x_2 =>
  newW 80 [.slice none 0 0, .slice none 0 0, .slice none 0 0] fun x_3 =>
  newW 54 [.int .u32 0] fun x_4 =>
  stoL x_4 [.int .u32 0] 0 <|
  ld (.agg [.ptr]) x_1 fun (x_5 : (Option Addr)) =>
  callP Tryz.prog k_packet_reader_count [.agg ⟨[.pointer x_5]⟩] [.sc (.int .u64)] fun (x_6 : Int) =>
  loopW (σ := Int) (fun K_7 s_8 =>
    cond (decide (s_8 > 0))
      (drawW <|
    ld (.sc .sl) (Addr.add x_3 0) fun (x_9 : Sl) =>
    ld (.agg [.ptr]) x_1 fun (x_10 : (Option Addr)) =>
    callP Tryz.prog k_packet_reader_id [.agg ⟨[.pointer x_10]⟩, .pointer (some x_4)] [.sc (.int .u32)] fun (x_11 : Int) =>
    andW (fun w => Rd w (Addr.add x_3 0) (.sc .sl) x_9) <|
    newW 54 [.int .u32 x_11] fun x_12 =>
    rawW Tryz.prog (Builtin.append_ #[77, 77] 77 #[.slice x_9.a x_9.n x_9.c, .slice (some x_12) 1 1]) [.sc .sl] fun (x_13 : Sl) =>
    stoL (Addr.add x_3 0) [.slice x_13.a x_13.n x_13.c] 0 <|
    K_7 (IntKind.wrap .u64 (s_8 - 1)))
      (ld (.agg [.ptr]) x_1 fun (x_14 : (Option Addr)) =>
  callP Tryz.prog k_packet_reader_ents [.agg ⟨[.pointer x_14]⟩] [.sc .sl] fun (x_15 : Sl) =>
  stoL (Addr.add x_3 1) [.slice x_15.a x_15.n x_15.c] 0 <|
  stoL x_4 [.int .u32 0] 0 <|
  ld (.agg [.ptr]) x_1 fun (x_16 : (Option Addr)) =>
  callP Tryz.prog k_packet_reader_count [.agg ⟨[.pointer x_16]⟩] [.sc (.int .u64)] fun (x_17 : Int) =>
  loopW (σ := Int) (fun K_18 s_19 =>
    cond (decide (s_19 > 0))
      (ld (.agg [.ptr]) x_1 fun (x_20 : (Option Addr)) =>
    callP Tryz.prog k_packet_reader_id [.agg ⟨[.pointer x_20]⟩, .pointer (some x_4)] [.sc (.int .u32)] fun (x_21 : Int) =>
    newW 86 [.int .u32 0, .int .u8 0, .slice none 0 0, .slice none 0 0] fun x_22 =>
    stoL x_22 [.int .u32 x_21, .int .u8 0, .slice none 0 0, .slice none 0 0] 0 <|
    ld (.agg [.ptr]) x_1 fun (x_23 : (Option Addr)) =>
    callP Tryz.prog k_packet_reader_plain [.agg ⟨[.pointer x_23]⟩, .int .i64 5] [.sc (.int .u64)] fun (x_24 : Int) =>
    stoL (Addr.add x_22 1) [.int .u8 (IntKind.wrap .u8 x_24)] 0 <|
    drawW <|
    ld (.agg [.ptr]) x_1 fun (x_25 : (Option Addr)) =>
    ld (.agg [.ptr]) x_1 fun (x_26 : (Option Addr)) =>
    callP Tryz.prog k_packet_reader_plain [.agg ⟨[.pointer x_25]⟩, .int .i64 5] [.sc (.int .u64)] fun (x_27 : Int) =>
    andW (fun w => Rd w x_1 (.agg [.ptr]) x_26) <|
    callP Tryz.prog k_packet_reader_plain [.agg ⟨[.pointer x_26]⟩, .int .i64 5] [.sc (.int .u64)] fun (x_28 : Int) =>
    ld (.agg [.ptr]) x_1 fun (x_29 : (Option Addr)) =>
    callP Tryz.prog k_packet_reader_comps [.agg ⟨[.pointer x_29]⟩, .int .u64 x_27] [.sc .sl] fun (x_30 : Sl) =>
    stoL (Addr.add x_22 2) [.slice x_30.a x_30.n x_30.c] 0 <|
    callW Tryz.prog k_packet_kinds [.int .u64 x_28] [.sc .sl] fun (x_31 : Sl) =>
    loopW (σ := Int) (fun K_32 s_33 =>
      cond (decide (s_33 < (x_31.n : Int)))
        (idxW x_31.a x_31.n 1 s_33 fun x_34 =>
      ld (.sc (.int .u8)) x_34 fun (x_35 : Int) =>
      ld (.sc (.int .u32)) (Addr.add x_22 0) fun (x_36 : Int) =>
      callW Tryz.prog k_packet_old [.slice o1.a o1.n o1.c, .int .u32 x_36, .int .u8 x_35] [.agg [.int .u8, .int .i32, .int .i32, .int .i32]] fun (x_37 : (Int × Int × Int × Int)) =>
      newW 92 [.int .u8 0, .int .i32 0, .int .i32 0, .int .i32 0] fun x_38 =>
      stoL x_38 [.int .u8 x_37.1, .int .i32 x_37.2.1, .int .i32 x_37.2.2.1, .int .i32 x_37.2.2.2] 0 <|
      ld (.sc (.int .u8)) (Addr.add x_38 0) fun (x_39 : Int) =>
      joinW (σ := Unit) (fun J_40 =>
        cond (x_39 != x_35)
          (panW (.iface 171 (.agg ⟨[]⟩)))
          (J_40 ()))
      <| fun s_41 =>
      drawW <|
      ld (.sc .sl) (Addr.add x_22 3) fun (x_42 : Sl) =>
      ld (.sc .ptr) (Addr.add x_1 0) fun (x_43 : Option Addr) =>
      ld (.agg [.int .u8, .int .i32, .int .i32, .int .i32]) x_38 fun (x_44 : (Int × Int × Int × Int)) =>
      callW Tryz.prog k_comp_GetStep [.pointer x_43, .agg ⟨[.int .u8 x_44.1, .int .i32 x_44.2.1, .int .i32 x_44.2.2.1, .int .i32 x_44.2.2.2]⟩] [.agg [.int .u8, .int .i32, .int .i32, .int .i32], .sc (.int .i64)] fun (x_45 : (Int × Int × Int × Int) × Int) =>
      andW (fun w => Rd w (Addr.add x_22 3) (.sc .sl) x_42) <|
      callP Tryz.prog k_packet_must_Comp [.agg ⟨[.int .u8 x_45.1.1, .int .i32 x_45.1.2.1, .int .i32 x_45.1.2.2.1, .int .i32 x_45.1.2.2.2]⟩, .int .i64 x_45.2] [.agg [.int .u8, .int .i32, .int .i32, .int .i32]] fun (x_46 : (Int × Int × Int × Int)) =>
      andW (fun w => Rd w (Addr.add x_22 3) (.sc .sl) x_42) <|
      newW 92 [.int .u8 x_46.1, .int .i32 x_46.2.1, .int .i32 x_46.2.2.1, .int .i32 x_46.2.2.2] fun x_47 =>
      rawW Tryz.prog (Builtin.append_ #[55, 55] 55 #[.slice x_42.a x_42.n x_42.c, .slice (some x_47) 1 1]) [.sc .sl] fun (x_48 : Sl) =>
      stoL (Addr.add x_22 3) [.slice x_48.a x_48.n x_48.c] 0 <|
      K_32 (IntKind.wrap .i64 (s_33 + 1)))
        (ld (.sc .sl) (Addr.add x_3 2) fun (x_49 : Sl) =>
    ld (.agg [.int .u32, .int .u8, .sl, .sl]) x_22 fun (x_50 : (Int × Int × Sl × Sl)) =>
    newW 86 [.int .u32 x_50.1, .int .u8 x_50.2.1, .slice x_50.2.2.1.a x_50.2.2.1.n x_50.2.2.1.c, .slice x_50.2.2.2.a x_50.2.2.2.n x_50.2.2.2.c] fun x_51 =>
    rawW Tryz.prog (Builtin.append_ #[78, 78] 78 #[.slice x_49.a x_49.n x_49.c, .slice (some x_51) 1 1]) [.sc .sl] fun (x_52 : Sl) =>
    stoL (Addr.add x_3 2) [.slice x_52.a x_52.n x_52.c] 0 <|
    K_18 (IntKind.wrap .u64 (s_19 - 1))))
      0)
      (ld (.agg [.sl, .sl, .sl]) x_3 fun (x_53 : (Sl × Sl × Sl)) =>
  stoL x_2 [.slice x_53.1.a x_53.1.n x_53.1.c, .slice x_53.2.1.a x_53.2.1.n x_53.2.1.c, .slice x_53.2.2.a x_53.2.2.n x_53.2.2.c] 0 <|
  ld (.agg [.sl, .sl, .sl]) x_2 fun (x_54 : (Sl × Sl × Sl)) =>
  retW (.inl x_54)))
    x_17))
    x_6
def H_packet_reader_delta : Hints := { con := [(22067, [])], lop := [(0, [(7, .sc (.int .u64))]), (2, [(8, .sc (.int .u64))]), (4, [(55, .sc (.int .i64))])], dr := [(6, ([], [[(0, []), (1, []), (2, []), (3, [1]), (4, []), (5, []), (6, []), (7, [])]])), (14, ([], [[(0, []), (2, []), (1, [2]), (3, []), (4, []), (5, [])]])), (22, ([], [[(0, []), (1, []), (2, []), (3, []), (4, []), (5, [1]), (6, []), (7, []), (8, [1]), (9, []), (10, []), (11, []), (12, [])]]))], mp := [72, 108, 109, 114, 115, 126] }
set_option maxRecDepth 100000 in
theorem E_packet_reader_delta (d0 : (Option Addr)) (o1 : Sl) : denFP Tryz.prog H_packet_reader_delta Tryz.f74 [.agg [.sl, .sl, .sl]] [.agg ⟨[.pointer d0]⟩, .slice o1.a o1.n o1.c] = F_packet_reader_delta d0 o1 := by kernel_rfl
theorem C_packet_reader_delta {R : Type} [Pan R] (d0 : (Option Addr)) (o1 : Sl) (K : Res [.agg [.sl, .sl, .sl]] → W R) (Q : R → World → Prop) (w : World) (h : F_packet_reader_delta d0 o1 (kP K Q) w) : callP Tryz.prog k_packet_reader_delta [.agg ⟨[.pointer d0]⟩, .slice o1.a o1.n o1.c] [.agg [.sl, .sl, .sl]] K Q w :=
  den_callsP mix Tryz.func74 H_packet_reader_delta (ts := [.agg [.sl, .sl, .sl]]) (post := kP K Q) ⟨by kernel_rfl, trivial⟩ (by rw [Tryz.ntmps74]; simp) (by rw [E_packet_reader_delta]; exact h)
def F_nums_PutIn (w0 : Option Addr) (n1 : Int) (lo2 : Int) (hi3 : Int) : W (Int) :=
  cond (Option.isNone w0)
    (retW 10)
    (cond (decide (hi3 < lo2))
      (retW 1)
      (joinW (σ := Bool) (fun J_1 =>
        cond (decide (n1 < lo2))
          (J_1 true)
          (J_1 (decide (n1 > hi3))))
      <| fun s_2 =>
      cond s_2
        (retW 5)
        (callW Tryz.prog k_nums_Width [.int .i64 lo2, .int .i64 hi3] [.sc (.int .i64)] fun (x_3 : Int) =>
  callW Tryz.prog k_bits_Writer_Put [.pointer w0, .int .u64 (IntKind.wrap .u64 ((IntKind.wrap .u64 n1) - (IntKind.wrap .u64 lo2))), .int .i64 x_3] [.sc (.int .i64)] fun (x_4 : Int) =>
  retW x_4)))
def H_nums_PutIn : Hints := { reg := [(5, [(16, .sc .bool)])] }
theorem E_nums_PutIn (w0 : Option Addr) (n1 : Int) (lo2 : Int) (hi3 : Int) : denF Tryz.prog H_nums_PutIn Tryz.f91 [.sc (.int .i64)] [.pointer w0, .int .i64 n1, .int .i64 lo2, .int .i64 hi3] = F_nums_PutIn w0 n1 lo2 hi3 := by kernel_rfl
theorem C_nums_PutIn {R : Type} (w0 : Option Addr) (n1 : Int) (lo2 : Int) (hi3 : Int) (K : Res [.sc (.int .i64)] → W R) (Q : R → World → Prop) (w : World) (h : F_nums_PutIn w0 n1 lo2 hi3 (fun r w => K r Q w) w) : callW Tryz.prog k_nums_PutIn [.pointer w0, .int .i64 n1, .int .i64 lo2, .int .i64 hi3] [.sc (.int .i64)] K Q w :=
  den_calls mix Tryz.func91 H_nums_PutIn (ts := [.sc (.int .i64)]) trivial (by rw [Tryz.ntmps91]; simp) (by rw [E_nums_PutIn]; exact h)
def F_nums_PutVar (w0 : Option Addr) (v1 : Int) : W (Int) :=
  callW Tryz.prog k_nums_groups [.int .u64 v1] [.sc (.int .i64)] fun (x_1 : Int) =>
  cond (Option.isNone w0)
    (retW 10)
    (callW Tryz.prog k_bits_Writer_Len [.pointer w0] [.sc (.int .i64)] fun (x_2 : Int) =>
    cond (decide ((IntKind.wrap .i64 (x_2 + (IntKind.wrap .i64 (x_1 * 5)))) > 1048576))
      (retW 3)
      (loopW (σ := Int) (fun K_3 s_4 =>
    cond (decide (s_4 < x_1))
      (chkW (0 ≤ (IntKind.wrap .i64 (4 * s_4))) <|
    joinW (σ := Int) (fun J_5 =>
      cond (decide (s_4 < (IntKind.wrap .i64 (x_1 - 1))))
        (J_5 (bOr .u64 (bAnd .u64 (shR .u64 v1 (IntKind.wrap .i64 (4 * s_4))) 15) 16))
        (J_5 (bAnd .u64 (shR .u64 v1 (IntKind.wrap .i64 (4 * s_4))) 15)))
    <| fun s_6 =>
    callW Tryz.prog k_bits_Writer_Put [.pointer w0, .int .u64 s_6, .int .i64 5] [.sc (.int .i64)] fun (x_7 : Int) =>
    K_3 (IntKind.wrap .i64 (s_4 + 1)))
      (retW 0))
    0))
def H_nums_PutVar : Hints := { con := [(12032, [(7, .sc (.int .u64))])], lop := [(1, [(21, .sc (.int .i64))])] }
theorem E_nums_PutVar (w0 : Option Addr) (v1 : Int) : denF Tryz.prog H_nums_PutVar Tryz.f92 [.sc (.int .i64)] [.pointer w0, .int .u64 v1] = F_nums_PutVar w0 v1 := by kernel_rfl
theorem C_nums_PutVar {R : Type} (w0 : Option Addr) (v1 : Int) (K : Res [.sc (.int .i64)] → W R) (Q : R → World → Prop) (w : World) (h : F_nums_PutVar w0 v1 (fun r w => K r Q w) w) : callW Tryz.prog k_nums_PutVar [.pointer w0, .int .u64 v1] [.sc (.int .i64)] K Q w :=
  den_calls mix Tryz.func92 H_nums_PutVar (ts := [.sc (.int .i64)]) trivial (by rw [Tryz.ntmps92]; simp) (by rw [E_nums_PutVar]; exact h)
def F_packet_writer_plain (w0 : Option Addr) (v1 : Int) (n2 : Int) : W (Unit) :=
  ptrW w0 fun x_1 =>
  ld (.sc .ptr) (Addr.add x_1 0) fun (x_2 : Option Addr) =>
  callW Tryz.prog k_bits_Writer_Put [.pointer x_2, .int .u64 v1, .int .i64 n2] [.sc (.int .i64)] fun (x_3 : Int) =>
  callW Tryz.prog k_packet_writer_keep [.pointer w0, .int .i64 x_3] [] fun (x_4 : Unit) =>
  retW ()
def H_packet_writer_plain : Hints := {}
theorem E_packet_writer_plain (w0 : Option Addr) (v1 : Int) (n2 : Int) : denF Tryz.prog H_packet_writer_plain Tryz.f93 [] [.pointer w0, .int .u64 v1, .int .i64 n2] = F_packet_writer_plain w0 v1 n2 := by kernel_rfl
theorem C_packet_writer_plain {R : Type} (w0 : Option Addr) (v1 : Int) (n2 : Int) (K : Res [] → W R) (Q : R → World → Prop) (w : World) (h : F_packet_writer_plain w0 v1 n2 (fun r w => K r Q w) w) : callW Tryz.prog k_packet_writer_plain [.pointer w0, .int .u64 v1, .int .i64 n2] [] K Q w :=
  den_calls mix Tryz.func93 H_packet_writer_plain (ts := []) trivial (by rw [Tryz.ntmps93]; simp) (by rw [E_packet_writer_plain]; exact h)
def F_packet_writer_count (w0 : Option Addr) (n1 : Int) : W (Unit) :=
  ptrW w0 fun x_1 =>
  ld (.sc .ptr) (Addr.add x_1 0) fun (x_2 : Option Addr) =>
  callW Tryz.prog k_nums_PutVar [.pointer x_2, .int .u64 (IntKind.wrap .u64 n1)] [.sc (.int .i64)] fun (x_3 : Int) =>
  callW Tryz.prog k_packet_writer_keep [.pointer w0, .int .i64 x_3] [] fun (x_4 : Unit) =>
  retW ()
def H_packet_writer_count : Hints := {}
theorem E_packet_writer_count (w0 : Option Addr) (n1 : Int) : denF Tryz.prog H_packet_writer_count Tryz.f94 [] [.pointer w0, .int .i64 n1] = F_packet_writer_count w0 n1 := by kernel_rfl
theorem C_packet_writer_count {R : Type} (w0 : Option Addr) (n1 : Int) (K : Res [] → W R) (Q : R → World → Prop) (w : World) (h : F_packet_writer_count w0 n1 (fun r w => K r Q w) w) : callW Tryz.prog k_packet_writer_count [.pointer w0, .int .i64 n1] [] K Q w :=
  den_calls mix Tryz.func94 H_packet_writer_count (ts := []) trivial (by rw [Tryz.ntmps94]; simp) (by rw [E_packet_writer_count]; exact h)
def F_packet_writer_id (w0 : Option Addr) (last1 : Option Addr) (id2 : Int) : W (Unit) :=
  drawW <|
  ptrW w0 fun x_1 =>
  ld (.sc .ptr) (Addr.add x_1 0) fun (x_2 : Option Addr) =>
  ptrW last1 fun x_3 =>
  ld (.sc (.int .u32)) x_3 fun (x_4 : Int) =>
  callW Tryz.prog k_nums_PutVar [.pointer x_2, .int .u64 (IntKind.wrap .u64 (IntKind.wrap .u32 ((IntKind.wrap .u32 (id2 - x_4)) - 1)))] [.sc (.int .i64)] fun (x_5 : Int) =>
  callW Tryz.prog k_packet_writer_keep [.pointer w0, .int .i64 x_5] [] fun (x_6 : Unit) =>
  ptrW last1 fun x_7 =>
  stoL x_7 [.int .u32 id2] 0 <|
  retW ()
def H_packet_writer_id : Hints := { dr := [(0, ([], [[(0, []), (1, []), (2, []), (3, []), (4, []), (5, []), (6, []), (7, []), (8, []), (9, []), (10, []), (11, []), (12, []), (13, [])]]))] }
theorem E_packet_writer_id (w0 : Option Addr) (last1 : Option Addr) (id2 : Int) : denF Tryz.prog H_packet_writer_id Tryz.f95 [] [.pointer w0, .pointer last1, .int .u32 id2] = F_packet_writer_id w0 last1 id2 := by kernel_rfl
theorem C_packet_writer_id {R : Type} (w0 : Option Addr) (last1 : Option Addr) (id2 : Int) (K : Res [] → W R) (Q : R → World → Prop) (w : World) (h : F_packet_writer_id w0 last1 id2 (fun r w => K r Q w) w) : callW Tryz.prog k_packet_writer_id [.pointer w0, .pointer last1, .int .u32 id2] [] K Q w :=
  den_calls mix Tryz.func95 H_packet_writer_id (ts := []) trivial (by rw [Tryz.ntmps95]; simp) (by rw [E_packet_writer_id]; exact h)
def F_packet_writer_comps (w0 : Option Addr) (l1 : Sl) : W (Unit) :=
  loopW (σ := Int) (fun K_1 s_2 =>
    cond (decide (s_2 < (l1.n : Int)))
      (idxW l1.a l1.n 4 s_2 fun x_3 =>
    ld (.agg [.int .u8, .int .i32, .int .i32, .int .i32]) x_3 fun (x_4 : (Int × Int × Int × Int)) =>
    newW 92 [.int .u8 0, .int .i32 0, .int .i32 0, .int .i32 0] fun c_5 =>
    stoL c_5 [.int .u8 x_4.1, .int .i32 x_4.2.1, .int .i32 x_4.2.2.1, .int .i32 x_4.2.2.2] 0 <|
    drawW <|
    ptrW w0 fun x_6 =>
    ld (.sc .ptr) (Addr.add x_6 0) fun (x_7 : Option Addr) =>
    ld (.agg [.int .u8, .int .i32, .int .i32, .int .i32]) c_5 fun (x_8 : (Int × Int × Int × Int)) =>
    callW Tryz.prog k_comp_Put [.pointer x_7, .agg ⟨[.int .u8 x_8.1, .int .i32 x_8.2.1, .int .i32 x_8.2.2.1, .int .i32 x_8.2.2.2]⟩] [.sc (.int .i64)] fun (x_9 : Int) =>
    callW Tryz.prog k_packet_writer_keep [.pointer w0, .int .i64 x_9] [] fun (x_10 : Unit) =>
    K_1 (IntKind.wrap .i64 (s_2 + 1)))
      (retW ()))
    0
def H_packet_writer_comps : Hints := { lop := [(0, [(8, .sc (.int .i64))])], dr := [(3, ([], [[(0, []), (1, []), (2, []), (3, []), (4, []), (5, []), (6, []), (7, [])]]))] }
theorem E_packet_writer_comps (w0 : Option Addr) (l1 : Sl) : denF Tryz.prog H_packet_writer_comps Tryz.f97 [] [.pointer w0, .slice l1.a l1.n l1.c] = F_packet_writer_comps w0 l1 := by kernel_rfl
theorem C_packet_writer_comps {R : Type} (w0 : Option Addr) (l1 : Sl) (K : Res [] → W R) (Q : R → World → Prop) (w : World) (h : F_packet_writer_comps w0 l1 (fun r w => K r Q w) w) : callW Tryz.prog k_packet_writer_comps [.pointer w0, .slice l1.a l1.n l1.c] [] K Q w :=
  den_calls mix Tryz.func97 H_packet_writer_comps (ts := []) trivial (by rw [Tryz.ntmps97]; simp) (by rw [E_packet_writer_comps]; exact h)
def F_diff_change (was0 : (Int × Sl)) (now1 : (Int × Sl)) : W ((Int × Int × Sl × Sl)) :=
  newW 57 [.int .u32 was0.1, .slice was0.2.a was0.2.n was0.2.c] fun was_1 =>
  newW 57 [.int .u32 now1.1, .slice now1.2.a now1.2.n now1.2.c] fun now_2 =>
  newW 86 [.int .u32 0, .int .u8 0, .slice none 0 0, .slice none 0 0] fun x_3 =>
  joinW (σ := (Option Addr)) (fun J_4 =>
    drawW <|
    bothW
      (ld (.sc (.int .u32)) (Addr.add now_2 0) fun (x_5 : Int) =>
      ld (.sc .sl) (Addr.add was_1 1) fun (x_6 : Sl) =>
      ld (.sc .sl) (Addr.add now_2 1) fun (x_7 : Sl) =>
      callW Tryz.prog k_schema_Mask [.slice x_6.a x_6.n x_6.c] [.sc (.int .u8)] fun (x_8 : Int) =>
      andW (fun w => Rd w (Addr.add now_2 1) (.sc .sl) x_7) <|
      andW (fun w => Rd w (Addr.add now_2 0) (.sc (.int .u32)) x_5) <|
      callW Tryz.prog k_schema_Mask [.slice x_7.a x_7.n x_7.c] [.sc (.int .u8)] fun (x_9 : Int) =>
      andW (fun w => Rd w (Addr.add now_2 0) (.sc (.int .u32)) x_5) <|
      newW 86 [.int .u32 0, .int .u8 0, .slice none 0 0, .slice none 0 0] fun d_10 =>
      stoL d_10 [.int .u32 x_5, .int .u8 (bNot .u8 x_8 x_9), .slice none 0 0, .slice none 0 0] 0 <|
      J_4 (some d_10))
      (bothW
      (ld (.sc (.int .u32)) (Addr.add now_2 0) fun (x_11 : Int) =>
      ld (.sc .sl) (Addr.add was_1 1) fun (x_12 : Sl) =>
      ld (.sc .sl) (Addr.add now_2 1) fun (x_13 : Sl) =>
      callW Tryz.prog k_schema_Mask [.slice x_12.a x_12.n x_12.c] [.sc (.int .u8)] fun (x_14 : Int) =>
      andW (fun w => Rd w (Addr.add now_2 1) (.sc .sl) x_13) <|
      andW (fun w => Rd w (Addr.add now_2 0) (.sc (.int .u32)) x_11) <|
      newW 86 [.int .u32 0, .int .u8 0, .slice none 0 0, .slice none 0 0] fun d_15 =>
      callW Tryz.prog k_schema_Mask [.slice x_13.a x_13.n x_13.c] [.sc (.int .u8)] fun (x_16 : Int) =>
      andW (fun w => Rd w (Addr.add now_2 0) (.sc (.int .u32)) x_11) <|
      stoL d_15 [.int .u32 x_11, .int .u8 (bNot .u8 x_14 x_16), .slice none 0 0, .slice none 0 0] 0 <|
      J_4 (some d_15))
      (ld (.sc (.int .u32)) (Addr.add now_2 0) fun (x_17 : Int) =>
      ld (.sc .sl) (Addr.add was_1 1) fun (x_18 : Sl) =>
      ld (.sc .sl) (Addr.add now_2 1) fun (x_19 : Sl) =>
      newW 86 [.int .u32 0, .int .u8 0, .slice none 0 0, .slice none 0 0] fun d_20 =>
      callW Tryz.prog k_schema_Mask [.slice x_18.a x_18.n x_18.c] [.sc (.int .u8)] fun (x_21 : Int) =>
      andW (fun w => Rd w (Addr.add now_2 1) (.sc .sl) x_19) <|
      andW (fun w => Rd w (Addr.add now_2 0) (.sc (.int .u32)) x_17) <|
      callW Tryz.prog k_schema_Mask [.slice x_19.a x_19.n x_19.c] [.sc (.int .u8)] fun (x_22 : Int) =>
      andW (fun w => Rd w (Addr.add now_2 0) (.sc (.int .u32)) x_17) <|
      stoL d_20 [.int .u32 x_17, .int .u8 (bNot .u8 x_21 x_22), .slice none 0 0, .slice none 0 0] 0 <|
      J_4 (some d_20))))
  <| fun s_23 =>
  ld (.sc .sl) (Addr.add now_2 1) fun (x_24 : Sl) =>
  loopW (σ := Int) (fun K_25 s_26 =>
    cond (decide (s_26 < (x_24.n : Int)))
      (idxW x_24.a x_24.n 4 s_26 fun x_27 =>
    ld (.agg [.int .u8, .int .i32, .int .i32, .int .i32]) x_27 fun (x_28 : (Int × Int × Int × Int)) =>
    newW 92 [.int .u8 0, .int .i32 0, .int .i32 0, .int .i32 0] fun c_29 =>
    stoL c_29 [.int .u8 x_28.1, .int .i32 x_28.2.1, .int .i32 x_28.2.2.1, .int .i32 x_28.2.2.2] 0 <|
    ld (.sc .sl) (Addr.add was_1 1) fun (x_30 : Sl) =>
    ld (.sc (.int .u8)) (Addr.add c_29 0) fun (x_31 : Int) =>
    callW Tryz.prog k_diff_find [.slice x_30.a x_30.n x_30.c, .int .u8 x_31] [.agg [.int .u8, .int .i32, .int .i32, .int .i32], .sc .bool] fun (x_32 : (Int × Int × Int × Int) × Bool) =>
    newW 92 [.int .u8 0, .int .i32 0, .int .i32 0, .int .i32 0] fun x_33 =>
    stoL x_33 [.int .u8 x_32.1.1, .int .i32 x_32.1.2.1, .int .i32 x_32.1.2.2.1, .int .i32 x_32.1.2.2.2] 0 <|
    joinW (σ := Unit) (fun J_34 =>
      cond (!x_32.2)
        (ptrW s_23 fun x_35 =>
        ld (.sc .sl) (Addr.add x_35 2) fun (x_36 : Sl) =>
        ld (.agg [.int .u8, .int .i32, .int .i32, .int .i32]) c_29 fun (x_37 : (Int × Int × Int × Int)) =>
        newW 92 [.int .u8 x_37.1, .int .i32 x_37.2.1, .int .i32 x_37.2.2.1, .int .i32 x_37.2.2.2] fun x_38 =>
        rawW Tryz.prog (Builtin.append_ #[55, 55] 55 #[.slice x_36.a x_36.n x_36.c, .slice (some x_38) 1 1]) [.sc .sl] fun (x_39 : Sl) =>
        ptrW s_23 fun x_40 =>
        stoL (Addr.add x_40 2) [.slice x_39.a x_39.n x_39.c] 0 <|
        J_34 ())
        (ld (.agg [.int .u8, .int .i32, .int .i32, .int .i32]) x_33 fun (x_41 : (Int × Int × Int × Int)) =>
        ld (.agg [.int .u8, .int .i32, .int .i32, .int .i32]) c_29 fun (x_42 : (Int × Int × Int × Int)) =>
        rawQ Tryz.prog (do Go.eqGuard .neq 92 (.tmp 45) (.tmp 46) (.agg ⟨[.int .u8 x_41.1, .int .i32 x_41.2.1, .int .i32 x_41.2.2.1, .int .i32 x_41.2.2.2]⟩) (.agg ⟨[.int .u8 x_42.1, .int .i32 x_42.2.1, .int .i32 x_42.2.2.1, .int .i32 x_42.2.2.2]⟩); Go.binOp .neq 92 (.agg ⟨[.int .u8 x_41.1, .int .i32 x_41.2.1, .int .i32 x_41.2.2.1, .int .i32 x_41.2.2.2]⟩) (.agg ⟨[.int .u8 x_42.1, .int .i32 x_42.2.1, .int .i32 x_42.2.2.1, .int .i32 x_42.2.2.2]⟩)) [.sc .bool] fun (x_43 : Bool) =>
        joinW (σ := Unit) (fun J_44 =>
          cond x_43
            (ptrW s_23 fun x_45 =>
            ld (.sc .sl) (Addr.add x_45 3) fun (x_46 : Sl) =>
            ld (.agg [.int .u8, .int .i32, .int .i32, .int .i32]) c_29 fun (x_47 : (Int × Int × Int × Int)) =>
            newW 92 [.int .u8 x_47.1, .int .i32 x_47.2.1, .int .i32 x_47.2.2.1, .int .i32 x_47.2.2.2] fun x_48 =>
            rawW Tryz.prog (Builtin.append_ #[55, 55] 55 #[.slice x_46.a x_46.n x_46.c, .slice (some x_48) 1 1]) [.sc .sl] fun (x_49 : Sl) =>
            ptrW s_23 fun x_50 =>
            stoL (Addr.add x_50 3) [.slice x_49.a x_49.n x_49.c] 0 <|
            J_44 ())
            (J_44 ()))
        <| fun s_51 =>
        J_34 ()))
    <| fun s_52 =>
    K_25 (IntKind.wrap .i64 (s_26 + 1)))
      (ptrW s_23 fun x_53 =>
  ld (.agg [.int .u32, .int .u8, .sl, .sl]) x_53 fun (x_54 : (Int × Int × Sl × Sl)) =>
  stoL x_3 [.int .u32 x_54.1, .int .u8 x_54.2.1, .slice x_54.2.2.1.a x_54.2.2.1.n x_54.2.2.1.c, .slice x_54.2.2.2.a x_54.2.2.2.n x_54.2.2.2.c] 0 <|
  ld (.agg [.int .u32, .int .u8, .sl, .sl]) x_3 fun (x_55 : (Int × Int × Sl × Sl)) =>
  retW x_55))
    0
def H_diff_change : Hints := { reg := [(1, [(5, .sc .ptr)])], con := [(10044, []), (8035, [])], lop := [(0, [(23, .sc (.int .i64))])], dr := [(1, ([(4, 10), (7, 10)], [[(0, []), (1, []), (2, []), (3, []), (5, []), (6, []), (4, [1, 6]), (7, [1]), (8, []), (9, []), (10, []), (11, [])], [(0, []), (1, []), (2, []), (3, []), (5, []), (6, []), (4, [1, 6]), (10, []), (7, [1]), (8, []), (9, []), (11, [])], [(0, []), (1, []), (2, []), (3, []), (5, []), (6, []), (10, []), (4, [1, 6]), (7, [1]), (8, []), (9, []), (11, [])]]))] }
set_option maxRecDepth 100000 in
theorem E_diff_change (was0 : (Int × Sl)) (now1 : (Int × Sl)) : denF Tryz.prog H_diff_change Tryz.f99 [.agg [.int .u32, .int .u8, .sl, .sl]] [.agg ⟨[.int .u32 was0.1, .slice was0.2.a was0.2.n was0.2.c]⟩, .agg ⟨[.int .u32 now1.1, .slice now1.2.a now1.2.n now1.2.c]⟩] = F_diff_change was0 now1 := by kernel_rfl
theorem C_diff_change {R : Type} (was0 : (Int × Sl)) (now1 : (Int × Sl)) (K : Res [.agg [.int .u32, .int .u8, .sl, .sl]] → W R) (Q : R → World → Prop) (w : World) (h : F_diff_change was0 now1 (fun r w => K r Q w) w) : callW Tryz.prog k_diff_change [.agg ⟨[.int .u32 was0.1, .slice was0.2.a was0.2.n was0.2.c]⟩, .agg ⟨[.int .u32 now1.1, .slice now1.2.a now1.2.n now1.2.c]⟩] [.agg [.int .u32, .int .u8, .sl, .sl]] K Q w :=
  den_calls mix Tryz.func99 H_diff_change (ts := [.agg [.int .u32, .int .u8, .sl, .sl]]) ⟨by kernel_rfl, trivial⟩ (by rw [Tryz.ntmps99]; simp) (by rw [E_diff_change]; exact h)
def F_diff_nothing (d0 : (Int × Int × Sl × Sl)) : W (Bool) :=
  newW 86 [.int .u32 d0.1, .int .u8 d0.2.1, .slice d0.2.2.1.a d0.2.2.1.n d0.2.2.1.c, .slice d0.2.2.2.a d0.2.2.2.n d0.2.2.2.c] fun d_1 =>
  joinW (σ := Bool) (fun J_2 =>
    ld (.sc (.int .u8)) (Addr.add d_1 1) fun (x_3 : Int) =>
    cond (x_3 == 0)
      (ld (.sc .sl) (Addr.add d_1 2) fun (x_4 : Sl) =>
        cond ((x_4.n : Int) == 0)
              (ld (.sc .sl) (Addr.add d_1 3) fun (x_5 : Sl) =>
                J_2 ((x_5.n : Int) == 0))
              (J_2 false))
      (J_2 false))
  <| fun s_6 =>
  retW s_6
def H_diff_nothing : Hints := { reg := [(1, [(2, .sc .bool)])] }
theorem E_diff_nothing (d0 : (Int × Int × Sl × Sl)) : denF Tryz.prog H_diff_nothing Tryz.f100 [.sc .bool] [.agg ⟨[.int .u32 d0.1, .int .u8 d0.2.1, .slice d0.2.2.1.a d0.2.2.1.n d0.2.2.1.c, .slice d0.2.2.2.a d0.2.2.2.n d0.2.2.2.c]⟩] = F_diff_nothing d0 := by kernel_rfl
theorem C_diff_nothing {R : Type} (d0 : (Int × Int × Sl × Sl)) (K : Res [.sc .bool] → W R) (Q : R → World → Prop) (w : World) (h : F_diff_nothing d0 (fun r w => K r Q w) w) : callW Tryz.prog k_diff_nothing [.agg ⟨[.int .u32 d0.1, .int .u8 d0.2.1, .slice d0.2.2.1.a d0.2.2.1.n d0.2.2.1.c, .slice d0.2.2.2.a d0.2.2.2.n d0.2.2.2.c]⟩] [.sc .bool] K Q w :=
  den_calls mix Tryz.func100 H_diff_nothing (ts := [.sc .bool]) trivial (by rw [Tryz.ntmps100]; simp) (by rw [E_diff_nothing]; exact h)
def F_comp_PutStep (w0 : Option Addr) (was1 : (Int × Int × Int × Int)) (c2 : (Int × Int × Int × Int)) : W (Int) :=
  newW 92 [.int .u8 was1.1, .int .i32 was1.2.1, .int .i32 was1.2.2.1, .int .i32 was1.2.2.2] fun was_1 =>
  newW 92 [.int .u8 c2.1, .int .i32 c2.2.1, .int .i32 c2.2.2.1, .int .i32 c2.2.2.2] fun c_2 =>
  cond (Option.isNone w0)
    (retW 10)
    (ld (.agg [.int .u8, .int .i32, .int .i32, .int .i32]) was_1 fun (x_3 : (Int × Int × Int × Int)) =>
  ld (.agg [.int .u8, .int .i32, .int .i32, .int .i32]) c_2 fun (x_4 : (Int × Int × Int × Int)) =>
  callW Tryz.prog k_comp_pair [.agg ⟨[.int .u8 x_3.1, .int .i32 x_3.2.1, .int .i32 x_3.2.2.1, .int .i32 x_3.2.2.2]⟩, .agg ⟨[.int .u8 x_4.1, .int .i32 x_4.2.1, .int .i32 x_4.2.2.1, .int .i32 x_4.2.2.2]⟩] [.sc (.int .i64)] fun (x_5 : Int) =>
  cond (x_5 != 0)
    (retW x_5)
    (ld (.agg [.int .u8, .int .i32, .int .i32, .int .i32]) was_1 fun (x_6 : (Int × Int × Int × Int)) =>
  ld (.agg [.int .u8, .int .i32, .int .i32, .int .i32]) c_2 fun (x_7 : (Int × Int × Int × Int)) =>
  callW Tryz.prog k_comp_step [.agg ⟨[.int .u8 x_6.1, .int .i32 x_6.2.1, .int .i32 x_6.2.2.1, .int .i32 x_6.2.2.2]⟩, .agg ⟨[.int .u8 x_7.1, .int .i32 x_7.2.1, .int .i32 x_7.2.2.1, .int .i32 x_7.2.2.2]⟩] [.sc .sl] fun (x_8 : Sl) =>
  callW Tryz.prog k_comp_put [.pointer w0, .slice x_8.a x_8.n x_8.c] [.sc (.int .i64)] fun (x_9 : Int) =>
  retW x_9))
def H_comp_PutStep : Hints := {}
theorem E_comp_PutStep (w0 : Option Addr) (was1 : (Int × Int × Int × Int)) (c2 : (Int × Int × Int × Int)) : denF Tryz.prog H_comp_PutStep Tryz.f101 [.sc (.int .i64)] [.pointer w0, .agg ⟨[.int .u8 was1.1, .int .i32 was1.2.1, .int .i32 was1.2.2.1, .int .i32 was1.2.2.2]⟩, .agg ⟨[.int .u8 c2.1, .int .i32 c2.2.1, .int .i32 c2.2.2.1, .int .i32 c2.2.2.2]⟩] = F_comp_PutStep w0 was1 c2 := by kernel_rfl
theorem C_comp_PutStep {R : Type} (w0 : Option Addr) (was1 : (Int × Int × Int × Int)) (c2 : (Int × Int × Int × Int)) (K : Res [.sc (.int .i64)] → W R) (Q : R → World → Prop) (w : World) (h : F_comp_PutStep w0 was1 c2 (fun r w => K r Q w) w) : callW Tryz.prog k_comp_PutStep [.pointer w0, .agg ⟨[.int .u8 was1.1, .int .i32 was1.2.1, .int .i32 was1.2.2.1, .int .i32 was1.2.2.2]⟩, .agg ⟨[.int .u8 c2.1, .int .i32 c2.2.1, .int .i32 c2.2.2.1, .int .i32 c2.2.2.2]⟩] [.sc (.int .i64)] K Q w :=
  den_calls mix Tryz.func101 H_comp_PutStep (ts := [.sc (.int .i64)]) trivial (by rw [Tryz.ntmps101]; simp) (by rw [E_comp_PutStep]; exact h)
def F_packet_old (was0 : Sl) (id1 : Int) (kind2 : Int) : W ((Int × Int × Int × Int)) :=
  newW 92 [.int .u8 0, .int .i32 0, .int .i32 0, .int .i32 0] fun x_1 =>
  callW Tryz.prog k_snap_Find [.slice was0.a was0.n was0.c, .int .u32 id1] [.sc (.int .i64)] fun (x_2 : Int) =>
  cond (decide (x_2 < 0))
    (stoL x_1 [.int .u8 0, .int .i32 0, .int .i32 0, .int .i32 0] 0 <|
    ld (.agg [.int .u8, .int .i32, .int .i32, .int .i32]) x_1 fun (x_3 : (Int × Int × Int × Int)) =>
    retW x_3)
    (idxW was0.a was0.n 2 x_2 fun x_4 =>
  ld (.sc .sl) (Addr.add x_4 1) fun (x_5 : Sl) =>
  loopW (σ := Int) (fun K_6 s_7 =>
    cond (decide (s_7 < (x_5.n : Int)))
      (idxW x_5.a x_5.n 4 s_7 fun x_8 =>
    ld (.agg [.int .u8, .int .i32, .int .i32, .int .i32]) x_8 fun (x_9 : (Int × Int × Int × Int)) =>
    newW 92 [.int .u8 0, .int .i32 0, .int .i32 0, .int .i32 0] fun c_10 =>
    stoL c_10 [.int .u8 x_9.1, .int .i32 x_9.2.1, .int .i32 x_9.2.2.1, .int .i32 x_9.2.2.2] 0 <|
    ld (.sc (.int .u8)) (Addr.add c_10 0) fun (x_11 : Int) =>
    cond (x_11 == kind2)
      (ld (.agg [.int .u8, .int .i32, .int .i32, .int .i32]) c_10 fun (x_12 : (Int × Int × Int × Int)) =>
      stoL x_1 [.int .u8 x_12.1, .int .i32 x_12.2.1, .int .i32 x_12.2.2.1, .int .i32 x_12.2.2.2] 0 <|
      ld (.agg [.int .u8, .int .i32, .int .i32, .int .i32]) x_1 fun (x_13 : (Int × Int × Int × Int)) =>
      retW x_13)
      (K_6 (IntKind.wrap .i64 (s_7 + 1))))
      (stoL x_1 [.int .u8 0, .int .i32 0, .int .i32 0, .int .i32 0] 0 <|
  ld (.agg [.int .u8, .int .i32, .int .i32, .int .i32]) x_1 fun (x_14 : (Int × Int × Int × Int)) =>
  retW x_14))
    0)
def H_packet_old : Hints := { lop := [(0, [(22, .sc (.int .i64))])] }
theorem E_packet_old (was0 : Sl) (id1 : Int) (kind2 : Int) : denF Tryz.prog H_packet_old Tryz.f102 [.agg [.int .u8, .int .i32, .int .i32, .int .i32]] [.slice was0.a was0.n was0.c, .int .u32 id1, .int .u8 kind2] = F_packet_old was0 id1 kind2 := by kernel_rfl
theorem C_packet_old {R : Type} (was0 : Sl) (id1 : Int) (kind2 : Int) (K : Res [.agg [.int .u8, .int .i32, .int .i32, .int .i32]] → W R) (Q : R → World → Prop) (w : World) (h : F_packet_old was0 id1 kind2 (fun r w => K r Q w) w) : callW Tryz.prog k_packet_old [.slice was0.a was0.n was0.c, .int .u32 id1, .int .u8 kind2] [.agg [.int .u8, .int .i32, .int .i32, .int .i32]] K Q w :=
  den_calls mix Tryz.func102 H_packet_old (ts := [.agg [.int .u8, .int .i32, .int .i32, .int .i32]]) ⟨by kernel_rfl, trivial⟩ (by rw [Tryz.ntmps102]; simp) (by rw [E_packet_old]; exact h)
def F_frame_step (c0 : Int) : W (Int) :=
  cond ((bAnd .u32 c0 1) != 0)
    (retW (bXor .u32 (shR .u32 c0 1) 3988292384))
    (retW (shR .u32 c0 1))
def H_frame_step : Hints := {}
theorem E_frame_step (c0 : Int) : denF Tryz.prog H_frame_step Tryz.f105 [.sc (.int .u32)] [.int .u32 c0] = F_frame_step c0 := by kernel_rfl
theorem C_frame_step {R : Type} (c0 : Int) (K : Res [.sc (.int .u32)] → W R) (Q : R → World → Prop) (w : World) (h : F_frame_step c0 (fun r w => K r Q w) w) : callW Tryz.prog k_frame_step [.int .u32 c0] [.sc (.int .u32)] K Q w :=
  den_calls mix Tryz.func105 H_frame_step (ts := [.sc (.int .u32)]) trivial (by rw [Tryz.ntmps105]; simp) (by rw [E_frame_step]; exact h)
def F_packet_must_int64 (v0 : Int) (e1 : Int) : W ((Int) ⊕ List PanicEntry) :=
  joinW (σ := Unit) (fun J_1 =>
    cond (e1 != 0)
      (panW (.iface 171 (.agg ⟨[]⟩)))
      (J_1 ()))
  <| fun s_2 =>
  retW (.inl v0)
def H_packet_must_int64 : Hints := { con := [(3006, [])] }
theorem E_packet_must_int64 (v0 : Int) (e1 : Int) : denFP Tryz.prog H_packet_must_int64 Tryz.f106 [.sc (.int .i64)] [.int .i64 v0, .int .i64 e1] = F_packet_must_int64 v0 e1 := by kernel_rfl
theorem C_packet_must_int64 {R : Type} [Pan R] (v0 : Int) (e1 : Int) (K : Res [.sc (.int .i64)] → W R) (Q : R → World → Prop) (w : World) (h : F_packet_must_int64 v0 e1 (kP K Q) w) : callP Tryz.prog k_packet_must_int64 [.int .i64 v0, .int .i64 e1] [.sc (.int .i64)] K Q w :=
  den_callsP mix Tryz.func106 H_packet_must_int64 (ts := [.sc (.int .i64)]) (post := kP K Q) trivial (by rw [Tryz.ntmps106]; simp) (by rw [E_packet_must_int64]; exact h)
def F_nums_GetIn (r0 : Option Addr) (lo1 : Int) (hi2 : Int) : W (Int × Int) :=
  newW 2 [.int .i64 lo1] fun lo_1 =>
  newW 2 [.int .i64 hi2] fun hi_2 =>
  joinW (σ := Bool) (fun J_3 =>
    ld (.sc (.int .i64)) hi_2 fun (x_4 : Int) =>
    ld (.sc (.int .i64)) lo_1 fun (x_5 : Int) =>
    cond (decide (x_4 < x_5))
      (J_3 (!Option.isNone r0))
      (J_3 false))
  <| fun s_6 =>
  cond s_6
    (retW (0, 1))
    (callW Tryz.prog k_nums_try_int64 [.pointer r0, .func (.func 141) #[] #[.pointer (some lo_1), .pointer (some hi_2)]] [.sc (.int .i64), .sc (.int .i64)] fun (x_7 : Int × Int) =>
  retW (x_7.1, x_7.2))
def H_nums_GetIn : Hints := { reg := [(1, [(14, .sc .bool)])] }
theorem E_nums_GetIn (r0 : Option Addr) (lo1 : Int) (hi2 : Int) : denF Tryz.prog H_nums_GetIn Tryz.f107 [.sc (.int .i64), .sc (.int .i64)] [.pointer r0, .int .i64 lo1, .int .i64 hi2] = F_nums_GetIn r0 lo1 hi2 := by kernel_rfl
theorem C_nums_GetIn {R : Type} (r0 : Option Addr) (lo1 : Int) (hi2 : Int) (K : Res [.sc (.int .i64), .sc (.int .i64)] → W R) (Q : R → World → Prop) (w : World) (h : F_nums_GetIn r0 lo1 hi2 (fun r w => K r Q w) w) : callW Tryz.prog k_nums_GetIn [.pointer r0, .int .i64 lo1, .int .i64 hi2] [.sc (.int .i64), .sc (.int .i64)] K Q w :=
  den_calls mix Tryz.func107 H_nums_GetIn (ts := [.sc (.int .i64), .sc (.int .i64)]) trivial (by rw [Tryz.ntmps107]; simp) (by rw [E_nums_GetIn]; exact h)
def F_packet_reader_count (r0 : (Option Addr)) : W ((Int) ⊕ List PanicEntry) :=
  newW 62 [.pointer r0] fun r_1 =>
  ld (.sc .ptr) (Addr.add r_1 0) fun (x_2 : Option Addr) =>
  callW Tryz.prog k_nums_GetVar [.pointer x_2] [.sc (.int .u64), .sc (.int .i64)] fun (x_3 : Int × Int) =>
  callP Tryz.prog k_packet_must_uint64 [.int .u64 x_3.1, .int .i64 x_3.2] [.sc (.int .u64)] fun (x_4 : Int) =>
  retW (.inl x_4)
def H_packet_reader_count : Hints := { mp := [143] }
theorem E_packet_reader_count (r0 : (Option Addr)) : denFP Tryz.prog H_packet_reader_count Tryz.f108 [.sc (.int .u64)] [.agg ⟨[.pointer r0]⟩] = F_packet_reader_count r0 := by kernel_rfl
theorem C_packet_reader_count {R : Type} [Pan R] (r0 : (Option Addr)) (K : Res [.sc (.int .u64)] → W R) (Q : R → World → Prop) (w : World) (h : F_packet_reader_count r0 (kP K Q) w) : callP Tryz.prog k_packet_reader_count [.agg ⟨[.pointer r0]⟩] [.sc (.int .u64)] K Q w :=
  den_callsP mix Tryz.func108 H_packet_reader_count (ts := [.sc (.int .u64)]) (post := kP K Q) trivial (by rw [Tryz.ntmps108]; simp) (by rw [E_packet_reader_count]; exact h)
def F_packet_reader_plain (r0 : (Option Addr)) (n1 : Int) : W ((Int) ⊕ List PanicEntry) :=
  newW 62 [.pointer r0] fun r_1 =>
  ld (.sc .ptr) (Addr.add r_1 0) fun (x_2 : Option Addr) =>
  callW Tryz.prog k_bits_Reader_Get [.pointer x_2, .int .i64 n1] [.sc (.int .u64), .sc (.int .i64)] fun (x_3 : Int × Int) =>
  callP Tryz.prog k_packet_must_uint64 [.int .u64 x_3.1, .int .i64 x_3.2] [.sc (.int .u64)] fun (x_4 : Int) =>
  retW (.inl x_4)
def H_packet_reader_plain : Hints := { mp := [143] }
theorem E_packet_reader_plain (r0 : (Option Addr)) (n1 : Int) : denFP Tryz.prog H_packet_reader_plain Tryz.f109 [.sc (.int .u64)] [.agg ⟨[.pointer r0]⟩, .int .i64 n1] = F_packet_reader_plain r0 n1 := by kernel_rfl
theorem C_packet_reader_plain {R : Type} [Pan R] (r0 : (Option Addr)) (n1 : Int) (K : Res [.sc (.int .u64)] → W R) (Q : R → World → Prop) (w : World) (h : F_packet_reader_plain r0 n1 (kP K Q) w) : callP Tryz.prog k_packet_reader_plain [.agg ⟨[.pointer r0]⟩, .int .i64 n1] [.sc (.int .u64)] K Q w :=
  den_callsP mix Tryz.func109 H_packet_reader_plain (ts := [.sc (.int .u64)]) (post := kP K Q) trivial (by rw [Tryz.ntmps109]; simp) (by rw [E_packet_reader_plain]; exact h)
def F_slices_IndexFunc_Comp__diff_find_c1 (s0 : Sl) (f1c0 : Option Addr) : W (Int) :=
  loopW (σ := Int) (fun K_1 s_2 =>
    cond (decide (s_2 < (s0.n : Int)))
      (idxW s0.a s0.n 4 s_2 fun x_3 =>
    ld (.agg [.int .u8, .int .i32, .int .i32, .int .i32]) x_3 fun (x_4 : (Int × Int × Int × Int)) =>
    callW Tryz.prog k_diff_find_c1 [.agg ⟨[.int .u8 x_4.1, .int .i32 x_4.2.1, .int .i32 x_4.2.2.1, .int .i32 x_4.2.2.2]⟩, .pointer f1c0] [.sc .bool] fun (x_5 : Bool) =>
    cond x_5
      (retW s_2)
      (K_1 (IntKind.wrap .i64 (s_2 + 1))))
      (retW (-1)))
    0
def H_slices_IndexFunc_Comp__diff_find_c1 : Hints := { lop := [(0, [(8, .sc (.int .i64))])] }
theorem E_slices_IndexFunc_Comp__diff_find_c1 (s0 : Sl) (f1c0 : Option Addr) : denF Tryz.prog H_slices_IndexFunc_Comp__diff_find_c1 Tryz.f112 [.sc (.int .i64)] [.slice s0.a s0.n s0.c, .func (.func 165) #[] #[.pointer f1c0]] = F_slices_IndexFunc_Comp__diff_find_c1 s0 f1c0 := by kernel_rfl
theorem C_slices_IndexFunc_Comp__diff_find_c1 {R : Type} (s0 : Sl) (f1c0 : Option Addr) (K : Res [.sc (.int .i64)] → W R) (Q : R → World → Prop) (w : World) (h : F_slices_IndexFunc_Comp__diff_find_c1 s0 f1c0 (fun r w => K r Q w) w) : callW Tryz.prog k_slices_IndexFunc_Comp [.slice s0.a s0.n s0.c, .func (.func 165) #[] #[.pointer f1c0]] [.sc (.int .i64)] K Q w :=
  den_calls mix Tryz.func112 H_slices_IndexFunc_Comp__diff_find_c1 (ts := [.sc (.int .i64)]) trivial (by rw [Tryz.ntmps112]; simp) (by rw [E_slices_IndexFunc_Comp__diff_find_c1]; exact h)
def F_slices_IndexFunc_Comp__snap_secret (s0 : Sl) : W (Int) :=
  loopW (σ := Int) (fun K_1 s_2 =>
    cond (decide (s_2 < (s0.n : Int)))
      (idxW s0.a s0.n 4 s_2 fun x_3 =>
    ld (.agg [.int .u8, .int .i32, .int .i32, .int .i32]) x_3 fun (x_4 : (Int × Int × Int × Int)) =>
    callW Tryz.prog k_snap_secret [.agg ⟨[.int .u8 x_4.1, .int .i32 x_4.2.1, .int .i32 x_4.2.2.1, .int .i32 x_4.2.2.2]⟩] [.sc .bool] fun (x_5 : Bool) =>
    cond x_5
      (retW s_2)
      (K_1 (IntKind.wrap .i64 (s_2 + 1))))
      (retW (-1)))
    0
def H_slices_IndexFunc_Comp__snap_secret : Hints := { lop := [(0, [(8, .sc (.int .i64))])] }
theorem E_slices_IndexFunc_Comp__snap_secret (s0 : Sl) : denF Tryz.prog H_slices_IndexFunc_Comp__snap_secret Tryz.f112 [.sc (.int .i64)] [.slice s0.a s0.n s0.c, .func (.func 71) #[] #[]] = F_slices_IndexFunc_Comp__snap_secret s0 := by kernel_rfl
theorem C_slices_IndexFunc_Comp__snap_secret {R : Type} (s0 : Sl) (K : Res [.sc (.int .i64)] → W R) (Q : R → World → Prop) (w : World) (h : F_slices_IndexFunc_Comp__snap_secret s0 (fun r w => K r Q w) w) : callW Tryz.prog k_slices_IndexFunc_Comp [.slice s0.a s0.n s0.c, .func (.func 71) #[] #[]] [.sc (.int .i64)] K Q w :=
  den_calls mix Tryz.func112 H_slices_IndexFunc_Comp__snap_secret (ts := [.sc (.int .i64)]) trivial (by rw [Tryz.ntmps112]; simp) (by rw [E_slices_IndexFunc_Comp__snap_secret]; exact h)
def F_packet_reader_id (r0 : (Option Addr)) (last1 : Option Addr) : W ((Int) ⊕ List PanicEntry) :=
  newW 62 [.pointer r0] fun r_1 =>
  ld (.agg [.ptr]) r_1 fun (x_2 : (Option Addr)) =>
  callP Tryz.prog k_packet_reader_count [.agg ⟨[.pointer x_2]⟩] [.sc (.int .u64)] fun (x_3 : Int) =>
  joinW (σ := Unit) (fun J_4 =>
    cond (decide (x_3 ≥ 4294967296))
      (panW (.iface 171 (.agg ⟨[]⟩)))
      (J_4 ()))
  <| fun s_5 =>
  ptrW last1 fun x_6 =>
  ld (.sc (.int .u32)) x_6 fun (x_7 : Int) =>
  ptrW last1 fun x_8 =>
  stoL x_8 [.int .u32 (IntKind.wrap .u32 (x_7 + (IntKind.wrap .u32 ((IntKind.wrap .u32 x_3) + 1))))] 0 <|
  ptrW last1 fun x_9 =>
  ld (.sc (.int .u32)) x_9 fun (x_10 : Int) =>
  retW (.inl x_10)
def H_packet_reader_id : Hints := { con := [(4009, [])], mp := [108] }
theorem E_packet_reader_id (r0 : (Option Addr)) (last1 : Option Addr) : denFP Tryz.prog H_packet_reader_id Tryz.f114 [.sc (.int .u32)] [.agg ⟨[.pointer r0]⟩, .pointer last1] = F_packet_reader_id r0 last1 := by kernel_rfl
theorem C_packet_reader_id {R : Type} [Pan R] (r0 : (Option Addr)) (last1 : Option Addr) (K : Res [.sc (.int .u32)] → W R) (Q : R → World → Prop) (w : World) (h : F_packet_reader_id r0 last1 (kP K Q) w) : callP Tryz.prog k_packet_reader_id [.agg ⟨[.pointer r0]⟩, .pointer last1] [.sc (.int .u32)] K Q w :=
  den_callsP mix Tryz.func114 H_packet_reader_id (ts := [.sc (.int .u32)]) (post := kP K Q) trivial (by rw [Tryz.ntmps114]; simp) (by rw [E_packet_reader_id]; exact h)
def F_packet_reader_comps (r0 : (Option Addr)) (mask1 : Int) : W ((Sl) ⊕ List PanicEntry) :=
  newW 62 [.pointer r0] fun r_1 =>
  callW Tryz.prog k_packet_kinds [.int .u64 mask1] [.sc .sl] fun (x_2 : Sl) =>
  loopW (σ := Sl × Int) (fun K_3 s_4 =>
    cond (decide (s_4.2 < (x_2.n : Int)))
      (idxW x_2.a x_2.n 1 s_4.2 fun x_5 =>
    ld (.sc (.int .u8)) x_5 fun (x_6 : Int) =>
    ld (.sc .ptr) (Addr.add r_1 0) fun (x_7 : Option Addr) =>
    callW Tryz.prog k_comp_Get [.pointer x_7, .int .u8 x_6] [.agg [.int .u8, .int .i32, .int .i32, .int .i32], .sc (.int .i64)] fun (x_8 : (Int × Int × Int × Int) × Int) =>
    callP Tryz.prog k_packet_must_Comp [.agg ⟨[.int .u8 x_8.1.1, .int .i32 x_8.1.2.1, .int .i32 x_8.1.2.2.1, .int .i32 x_8.1.2.2.2]⟩, .int .i64 x_8.2] [.agg [.int .u8, .int .i32, .int .i32, .int .i32]] fun (x_9 : (Int × Int × Int × Int)) =>
    newW 92 [.int .u8 x_9.1, .int .i32 x_9.2.1, .int .i32 x_9.2.2.1, .int .i32 x_9.2.2.2] fun x_10 =>
    rawW Tryz.prog (Builtin.append_ #[55, 55] 55 #[.slice s_4.1.a s_4.1.n s_4.1.c, .slice (some x_10) 1 1]) [.sc .sl] fun (x_11 : Sl) =>
    K_3 (x_11, IntKind.wrap .i64 (s_4.2 + 1)))
      (retW (.inl s_4.1)))
    ((⟨none, 0, 0⟩ : Sl), 0)
def H_packet_reader_comps : Hints := { lop := [(0, [(5, .sc .sl), (11, .sc (.int .i64))])], mp := [126] }
theorem E_packet_reader_comps (r0 : (Option Addr)) (mask1 : Int) : denFP Tryz.prog H_packet_reader_comps Tryz.f115 [.sc .sl] [.agg ⟨[.pointer r0]⟩, .int .u64 mask1] = F_packet_reader_comps r0 mask1 := by kernel_rfl
theorem C_packet_reader_comps {R : Type} [Pan R] (r0 : (Option Addr)) (mask1 : Int) (K : Res [.sc .sl] → W R) (Q : R → World → Prop) (w : World) (h : F_packet_reader_comps r0 mask1 (kP K Q) w) : callP Tryz.prog k_packet_reader_comps [.agg ⟨[.pointer r0]⟩, .int .u64 mask1] [.sc .sl] K Q w :=
  den_callsP mix Tryz.func115 H_packet_reader_comps (ts := [.sc .sl]) (post := kP K Q) trivial (by rw [Tryz.ntmps115]; simp) (by rw [E_packet_reader_comps]; exact h)
def F_slices_IndexFunc_Change__diff_Patch_c1 (s0 : Sl) (f1c0 : Option Addr) : W (Int) :=
  loopW (σ := Int) (fun K_1 s_2 =>
    cond (decide (s_2 < (s0.n : Int)))
      (idxW s0.a s0.n 4 s_2 fun x_3 =>
    ld (.agg [.int .u32, .int .u8, .sl, .sl]) x_3 fun (x_4 : (Int × Int × Sl × Sl)) =>
    callW Tryz.prog k_diff_Patch_c1 [.agg ⟨[.int .u32 x_4.1, .int .u8 x_4.2.1, .slice x_4.2.2.1.a x_4.2.2.1.n x_4.2.2.1.c, .slice x_4.2.2.2.a x_4.2.2.2.n x_4.2.2.2.c]⟩, .pointer f1c0] [.sc .bool] fun (x_5 : Bool) =>
    cond x_5
      (retW s_2)
      (K_1 (IntKind.wrap .i64 (s_2 + 1))))
      (retW (-1)))
    0
def H_slices_IndexFunc_Change__diff_Patch_c1 : Hints := { lop := [(0, [(8, .sc (.int .i64))])] }
theorem E_slices_IndexFunc_Change__diff_Patch_c1 (s0 : Sl) (f1c0 : Option Addr) : denF Tryz.prog H_slices_IndexFunc_Change__diff_Patch_c1 Tryz.f117 [.sc (.int .i64)] [.slice s0.a s0.n s0.c, .func (.func 118) #[] #[.pointer f1c0]] = F_slices_IndexFunc_Change__diff_Patch_c1 s0 f1c0 := by kernel_rfl
theorem C_slices_IndexFunc_Change__diff_Patch_c1 {R : Type} (s0 : Sl) (f1c0 : Option Addr) (K : Res [.sc (.int .i64)] → W R) (Q : R → World → Prop) (w : World) (h : F_slices_IndexFunc_Change__diff_Patch_c1 s0 f1c0 (fun r w => K r Q w) w) : callW Tryz.prog k_slices_IndexFunc_Change [.slice s0.a s0.n s0.c, .func (.func 118) #[] #[.pointer f1c0]] [.sc (.int .i64)] K Q w :=
  den_calls mix Tryz.func117 H_slices_IndexFunc_Change__diff_Patch_c1 (ts := [.sc (.int .i64)]) trivial (by rw [Tryz.ntmps117]; simp) (by rw [E_slices_IndexFunc_Change__diff_Patch_c1]; exact h)
def F_diff_Patch_c1 (c0 : (Int × Int × Sl × Sl)) (c1 : Option Addr) : W (Bool) :=
  newW 86 [.int .u32 c0.1, .int .u8 c0.2.1, .slice c0.2.2.1.a c0.2.2.1.n c0.2.2.1.c, .slice c0.2.2.2.a c0.2.2.2.n c0.2.2.2.c] fun c_1 =>
  ld (.sc (.int .u32)) (Addr.add c_1 0) fun (x_2 : Int) =>
  ptrW c1 fun x_3 =>
  ld (.sc (.int .u32)) (Addr.add x_3 0) fun (x_4 : Int) =>
  retW (x_2 == x_4)
def H_diff_Patch_c1 : Hints := {}
theorem E_diff_Patch_c1 (c0 : (Int × Int × Sl × Sl)) (c1 : Option Addr) : denF Tryz.prog H_diff_Patch_c1 Tryz.f118 [.sc .bool] [.agg ⟨[.int .u32 c0.1, .int .u8 c0.2.1, .slice c0.2.2.1.a c0.2.2.1.n c0.2.2.1.c, .slice c0.2.2.2.a c0.2.2.2.n c0.2.2.2.c]⟩, .pointer c1] = F_diff_Patch_c1 c0 c1 := by kernel_rfl
theorem C_diff_Patch_c1 {R : Type} (c0 : (Int × Int × Sl × Sl)) (c1 : Option Addr) (K : Res [.sc .bool] → W R) (Q : R → World → Prop) (w : World) (h : F_diff_Patch_c1 c0 c1 (fun r w => K r Q w) w) : callW Tryz.prog k_diff_Patch_c1 [.agg ⟨[.int .u32 c0.1, .int .u8 c0.2.1, .slice c0.2.2.1.a c0.2.2.1.n c0.2.2.1.c, .slice c0.2.2.2.a c0.2.2.2.n c0.2.2.2.c]⟩, .pointer c1] [.sc .bool] K Q w :=
  den_calls mix Tryz.func118 H_diff_Patch_c1 (ts := [.sc .bool]) trivial (by rw [Tryz.ntmps118]; simp) (by rw [E_diff_Patch_c1]; exact h)
def F_diff_turn (e0 : (Int × Sl)) (c1 : (Int × Int × Sl × Sl)) : W ((Int × Sl)) :=
  newW 57 [.int .u32 e0.1, .slice e0.2.a e0.2.n e0.2.c] fun e_1 =>
  newW 86 [.int .u32 c1.1, .int .u8 c1.2.1, .slice c1.2.2.1.a c1.2.2.1.n c1.2.2.1.c, .slice c1.2.2.2.a c1.2.2.2.n c1.2.2.2.c] fun c_2 =>
  newW 57 [.int .u32 0, .slice none 0 0] fun x_3 =>
  ld (.sc .sl) (Addr.add e_1 1) fun (x_4 : Sl) =>
  loopW (σ := Sl × Int) (fun K_5 s_6 =>
    cond (decide (s_6.2 < (x_4.n : Int)))
      (joinW (σ := Sl) (fun J_7 =>
      idxW x_4.a x_4.n 4 s_6.2 fun x_8 =>
      ld (.agg [.int .u8, .int .i32, .int .i32, .int .i32]) x_8 fun (x_9 : (Int × Int × Int × Int)) =>
      newW 92 [.int .u8 0, .int .i32 0, .int .i32 0, .int .i32 0] fun x_10 =>
      stoL x_10 [.int .u8 x_9.1, .int .i32 x_9.2.1, .int .i32 x_9.2.2.1, .int .i32 x_9.2.2.2] 0 <|
      joinW (σ := Bool) (fun J_11 =>
        ld (.sc (.int .u8)) (Addr.add x_10 0) fun (x_12 : Int) =>
        cond (decide (x_12 < 6))
          (ld (.sc (.int .u8)) (Addr.add c_2 1) fun (x_13 : Int) =>
            ld (.sc (.int .u8)) (Addr.add x_10 0) fun (x_14 : Int) =>
                chkW (0 ≤ x_14) <|
                  J_11 ((bAnd .u8 (shR .u8 x_13 x_14) 1) == 1))
          (J_11 false))
      <| fun s_15 =>
      cond s_15
        (J_7 s_6.1)
        (ld (.sc .sl) (Addr.add c_2 3) fun (x_16 : Sl) =>
      ld (.sc (.int .u8)) (Addr.add x_10 0) fun (x_17 : Int) =>
      callW Tryz.prog k_diff_find [.slice x_16.a x_16.n x_16.c, .int .u8 x_17] [.agg [.int .u8, .int .i32, .int .i32, .int .i32], .sc .bool] fun (x_18 : (Int × Int × Int × Int) × Bool) =>
      newW 92 [.int .u8 0, .int .i32 0, .int .i32 0, .int .i32 0] fun y_19 =>
      stoL y_19 [.int .u8 x_18.1.1, .int .i32 x_18.1.2.1, .int .i32 x_18.1.2.2.1, .int .i32 x_18.1.2.2.2] 0 <|
      joinW (σ := Unit) (fun J_20 =>
        cond x_18.2
          (ld (.agg [.int .u8, .int .i32, .int .i32, .int .i32]) y_19 fun (x_21 : (Int × Int × Int × Int)) =>
          stoL x_10 [.int .u8 x_21.1, .int .i32 x_21.2.1, .int .i32 x_21.2.2.1, .int .i32 x_21.2.2.2] 0 <|
          J_20 ())
          (J_20 ()))
      <| fun s_22 =>
      ld (.agg [.int .u8, .int .i32, .int .i32, .int .i32]) x_10 fun (x_23 : (Int × Int × Int × Int)) =>
      newW 92 [.int .u8 x_23.1, .int .i32 x_23.2.1, .int .i32 x_23.2.2.1, .int .i32 x_23.2.2.2] fun x_24 =>
      rawW Tryz.prog (Builtin.append_ #[55, 55] 55 #[.slice s_6.1.a s_6.1.n s_6.1.c, .slice (some x_24) 1 1]) [.sc .sl] fun (x_25 : Sl) =>
      J_7 x_25))
    <| fun s_26 =>
    K_5 (s_26, IntKind.wrap .i64 (s_6.2 + 1)))
      (ld (.sc .sl) (Addr.add c_2 2) fun (x_27 : Sl) =>
  rawW Tryz.prog (Builtin.append_ #[55, 55] 55 #[.slice s_6.1.a s_6.1.n s_6.1.c, .slice x_27.a x_27.n x_27.c]) [.sc .sl] fun (x_28 : Sl) =>
  callW Tryz.prog k_slices_SortStableFunc_Comp [.slice x_28.a x_28.n x_28.c, .func (.func 150) #[] #[]] [] fun (x_29 : Unit) =>
  ld (.sc (.int .u32)) (Addr.add e_1 0) fun (x_30 : Int) =>
  stoL x_3 [.int .u32 x_30, .slice x_28.a x_28.n x_28.c] 0 <|
  ld (.agg [.int .u32, .sl]) x_3 fun (x_31 : (Int × Sl)) =>
  retW x_31))
    ((⟨none, 0, 0⟩ : Sl), 0)
def H_diff_turn : Hints := { reg := [(5, [(28, .sc .bool)])], con := [(9037, [])], blk := [(1, [(5, .sc .sl)])], lop := [(0, [(5, .sc .sl), (13, .sc (.int .i64))])] }
theorem E_diff_turn (e0 : (Int × Sl)) (c1 : (Int × Int × Sl × Sl)) : denF Tryz.prog H_diff_turn Tryz.f119 [.agg [.int .u32, .sl]] [.agg ⟨[.int .u32 e0.1, .slice e0.2.a e0.2.n e0.2.c]⟩, .agg ⟨[.int .u32 c1.1, .int .u8 c1.2.1, .slice c1.2.2.1.a c1.2.2.1.n c1.2.2.1.c, .slice c1.2.2.2.a c1.2.2.2.n c1.2.2.2.c]⟩] = F_diff_turn e0 c1 := by kernel_rfl
theorem C_diff_turn {R : Type} (e0 : (Int × Sl)) (c1 : (Int × Int × Sl × Sl)) (K : Res [.agg [.int .u32, .sl]] → W R) (Q : R → World → Prop) (w : World) (h : F_diff_turn e0 c1 (fun r w => K r Q w) w) : callW Tryz.prog k_diff_turn [.agg ⟨[.int .u32 e0.1, .slice e0.2.a e0.2.n e0.2.c]⟩, .agg ⟨[.int .u32 c1.1, .int .u8 c1.2.1, .slice c1.2.2.1.a c1.2.2.1.n c1.2.2.1.c, .slice c1.2.2.2.a c1.2.2.2.n c1.2.2.2.c]⟩] [.agg [.int .u32, .sl]] K Q w :=
  den_calls mix Tryz.func119 H_diff_turn (ts := [.agg [.int .u32, .sl]]) ⟨by kernel_rfl, trivial⟩ (by rw [Tryz.ntmps119]; simp) (by rw [E_diff_turn]; exact h)
def F_slices_SortStableFunc_Ent__diff_Patch_c2 (x0 : Sl) : W (Unit) :=
  callW Tryz.prog k_slices_stableCmpFunc_Ent [.slice x0.a x0.n x0.c, .int .i64 (x0.n : Int), .func (.func 121) #[] #[]] [] fun (x_1 : Unit) =>
  retW ()
def H_slices_SortStableFunc_Ent__diff_Patch_c2 : Hints := {}
theorem E_slices_SortStableFunc_Ent__diff_Patch_c2 (x0 : Sl) : denF Tryz.prog H_slices_SortStableFunc_Ent__diff_Patch_c2 Tryz.f120 [] [.slice x0.a x0.n x0.c, .func (.func 121) #[] #[]] = F_slices_SortStableFunc_Ent__diff_Patch_c2 x0 := by kernel_rfl
theorem C_slices_SortStableFunc_Ent__diff_Patch_c2 {R : Type} (x0 : Sl) (K : Res [] → W R) (Q : R → World → Prop) (w : World) (h : F_slices_SortStableFunc_Ent__diff_Patch_c2 x0 (fun r w => K r Q w) w) : callW Tryz.prog k_slices_SortStableFunc_Ent [.slice x0.a x0.n x0.c, .func (.func 121) #[] #[]] [] K Q w :=
  den_calls mix Tryz.func120 H_slices_SortStableFunc_Ent__diff_Patch_c2 (ts := []) trivial (by rw [Tryz.ntmps120]; simp) (by rw [E_slices_SortStableFunc_Ent__diff_Patch_c2]; exact h)
def F_diff_Patch_c2 (a0 : (Int × Sl)) (b1 : (Int × Sl)) : W (Int) :=
  newW 57 [.int .u32 a0.1, .slice a0.2.a a0.2.n a0.2.c] fun a_1 =>
  newW 57 [.int .u32 b1.1, .slice b1.2.a b1.2.n b1.2.c] fun b_2 =>
  ld (.sc (.int .u32)) (Addr.add a_1 0) fun (x_3 : Int) =>
  ld (.sc (.int .u32)) (Addr.add b_2 0) fun (x_4 : Int) =>
  callW Tryz.prog k_cmp_Compare_ID [.int .u32 x_3, .int .u32 x_4] [.sc (.int .i64)] fun (x_5 : Int) =>
  retW x_5
def H_diff_Patch_c2 : Hints := {}
theorem E_diff_Patch_c2 (a0 : (Int × Sl)) (b1 : (Int × Sl)) : denF Tryz.prog H_diff_Patch_c2 Tryz.f121 [.sc (.int .i64)] [.agg ⟨[.int .u32 a0.1, .slice a0.2.a a0.2.n a0.2.c]⟩, .agg ⟨[.int .u32 b1.1, .slice b1.2.a b1.2.n b1.2.c]⟩] = F_diff_Patch_c2 a0 b1 := by kernel_rfl
theorem C_diff_Patch_c2 {R : Type} (a0 : (Int × Sl)) (b1 : (Int × Sl)) (K : Res [.sc (.int .i64)] → W R) (Q : R → World → Prop) (w : World) (h : F_diff_Patch_c2 a0 b1 (fun r w => K r Q w) w) : callW Tryz.prog k_diff_Patch_c2 [.agg ⟨[.int .u32 a0.1, .slice a0.2.a a0.2.n a0.2.c]⟩, .agg ⟨[.int .u32 b1.1, .slice b1.2.a b1.2.n b1.2.c]⟩] [.sc (.int .i64)] K Q w :=
  den_calls mix Tryz.func121 H_diff_Patch_c2 (ts := [.sc (.int .i64)]) trivial (by rw [Tryz.ntmps121]; simp) (by rw [E_diff_Patch_c2]; exact h)
def F_diff_same (a0 : (Sl × Sl × Sl)) (b1 : (Sl × Sl × Sl)) : W (Bool) :=
  newW 80 [.slice a0.1.a a0.1.n a0.1.c, .slice a0.2.1.a a0.2.1.n a0.2.1.c, .slice a0.2.2.a a0.2.2.n a0.2.2.c] fun a_1 =>
  newW 80 [.slice b1.1.a b1.1.n b1.1.c, .slice b1.2.1.a b1.2.1.n b1.2.1.c, .slice b1.2.2.a b1.2.2.n b1.2.2.c] fun b_2 =>
  joinW (σ := Bool) (fun J_3 =>
    ld (.sc .sl) (Addr.add a_1 0) fun (x_4 : Sl) =>
    ld (.sc .sl) (Addr.add b_2 0) fun (x_5 : Sl) =>
    callW Tryz.prog k_slices_Equal_ID [.slice x_4.a x_4.n x_4.c, .slice x_5.a x_5.n x_5.c] [.sc .bool] fun (x_6 : Bool) =>
    cond x_6
      (ld (.sc .sl) (Addr.add a_1 1) fun (x_7 : Sl) =>
        ld (.sc .sl) (Addr.add b_2 1) fun (x_8 : Sl) =>
            callW Tryz.prog k_snap_Same [.slice x_7.a x_7.n x_7.c, .slice x_8.a x_8.n x_8.c] [.sc .bool] fun (x_9 : Bool) =>
              cond x_9
                (ld (.sc .sl) (Addr.add a_1 2) fun (x_10 : Sl) =>
                  ld (.sc .sl) (Addr.add b_2 2) fun (x_11 : Sl) =>
                      callW Tryz.prog k_slices_EqualFunc_Change [.slice x_10.a x_10.n x_10.c, .slice x_11.a x_11.n x_11.c, .func (.func 157) #[] #[]] [.sc .bool] fun (x_12 : Bool) =>
                        J_3 x_12)
                (J_3 false))
      (J_3 false))
  <| fun s_13 =>
  retW s_13
def H_diff_same : Hints := { reg := [(1, [(4, .sc .bool)])] }
theorem E_diff_same (a0 : (Sl × Sl × Sl)) (b1 : (Sl × Sl × Sl)) : denF Tryz.prog H_diff_same Tryz.f123 [.sc .bool] [.agg ⟨[.slice a0.1.a a0.1.n a0.1.c, .slice a0.2.1.a a0.2.1.n a0.2.1.c, .slice a0.2.2.a a0.2.2.n a0.2.2.c]⟩, .agg ⟨[.slice b1.1.a b1.1.n b1.1.c, .slice b1.2.1.a b1.2.1.n b1.2.1.c, .slice b1.2.2.a b1.2.2.n b1.2.2.c]⟩] = F_diff_same a0 b1 := by kernel_rfl
theorem C_diff_same {R : Type} (a0 : (Sl × Sl × Sl)) (b1 : (Sl × Sl × Sl)) (K : Res [.sc .bool] → W R) (Q : R → World → Prop) (w : World) (h : F_diff_same a0 b1 (fun r w => K r Q w) w) : callW Tryz.prog k_diff_same [.agg ⟨[.slice a0.1.a a0.1.n a0.1.c, .slice a0.2.1.a a0.2.1.n a0.2.1.c, .slice a0.2.2.a a0.2.2.n a0.2.2.c]⟩, .agg ⟨[.slice b1.1.a b1.1.n b1.1.c, .slice b1.2.1.a b1.2.1.n b1.2.1.c, .slice b1.2.2.a b1.2.2.n b1.2.2.c]⟩] [.sc .bool] K Q w :=
  den_calls mix Tryz.func123 H_diff_same (ts := [.sc .bool]) trivial (by rw [Tryz.ntmps123]; simp) (by rw [E_diff_same]; exact h)
def F_snap_Copy (l0 : Sl) : W (Sl) :=
  callW Tryz.prog k_slices_Clone_Ent [.slice l0.a l0.n l0.c] [.sc .sl] fun (x_1 : Sl) =>
  loopW (σ := Int) (fun K_2 s_3 =>
    cond (decide (s_3 < (x_1.n : Int)))
      (idxW x_1.a x_1.n 2 s_3 fun x_4 =>
    ld (.agg [.int .u32, .sl]) x_4 fun (x_5 : (Int × Sl)) =>
    newW 57 [.int .u32 0, .slice none 0 0] fun e_6 =>
    stoL e_6 [.int .u32 x_5.1, .slice x_5.2.a x_5.2.n x_5.2.c] 0 <|
    ld (.sc .sl) (Addr.add e_6 1) fun (x_7 : Sl) =>
    callW Tryz.prog k_slices_Clone_Comp [.slice x_7.a x_7.n x_7.c] [.sc .sl] fun (x_8 : Sl) =>
    idxW x_1.a x_1.n 2 s_3 fun x_9 =>
    stoL (Addr.add x_9 1) [.slice x_8.a x_8.n x_8.c] 0 <|
    K_2 (IntKind.wrap .i64 (s_3 + 1)))
      (retW x_1))
    0
def H_snap_Copy : Hints := { lop := [(0, [(10, .sc (.int .i64))])] }
theorem E_snap_Copy (l0 : Sl) : denF Tryz.prog H_snap_Copy Tryz.f124 [.sc .sl] [.slice l0.a l0.n l0.c] = F_snap_Copy l0 := by kernel_rfl
theorem C_snap_Copy {R : Type} (l0 : Sl) (K : Res [.sc .sl] → W R) (Q : R → World → Prop) (w : World) (h : F_snap_Copy l0 (fun r w => K r Q w) w) : callW Tryz.prog k_snap_Copy [.slice l0.a l0.n l0.c] [.sc .sl] K Q w :=
  den_calls mix Tryz.func124 H_snap_Copy (ts := [.sc .sl]) trivial (by rw [Tryz.ntmps124]; simp) (by rw [E_snap_Copy]; exact h)
def F_packet_kinds (mask0 : Int) : W (Sl) :=
  loopW (σ := Sl × Int) (fun K_1 s_2 =>
    cond (decide (s_2.2 < 5))
      (chkW (0 ≤ s_2.2) <|
    joinW (σ := Sl) (fun J_3 =>
      cond ((bAnd .u64 (shR .u64 mask0 s_2.2) 1) == 1)
        (newW 5 [.int .u8 s_2.2] fun x_4 =>
        rawW Tryz.prog (Builtin.append_ #[22, 22] 22 #[.slice s_2.1.a s_2.1.n s_2.1.c, .slice (some x_4) 1 1]) [.sc .sl] fun (x_5 : Sl) =>
        J_3 x_5)
        (J_3 s_2.1))
    <| fun s_6 =>
    K_1 (s_6, IntKind.wrap .u8 (s_2.2 + 1)))
      (retW s_2.1))
    ((⟨none, 0, 0⟩ : Sl), 0)
def H_packet_kinds : Hints := { con := [(7012, [(3, .sc .sl)])], lop := [(0, [(3, .sc .sl), (5, .sc (.int .u8))])] }
theorem E_packet_kinds (mask0 : Int) : denF Tryz.prog H_packet_kinds Tryz.f125 [.sc .sl] [.int .u64 mask0] = F_packet_kinds mask0 := by kernel_rfl
theorem C_packet_kinds {R : Type} (mask0 : Int) (K : Res [.sc .sl] → W R) (Q : R → World → Prop) (w : World) (h : F_packet_kinds mask0 (fun r w => K r Q w) w) : callW Tryz.prog k_packet_kinds [.int .u64 mask0] [.sc .sl] K Q w :=
  den_calls mix Tryz.func125 H_packet_kinds (ts := [.sc .sl]) trivial (by rw [Tryz.ntmps125]; simp) (by rw [E_packet_kinds]; exact h)
def F_packet_must_Comp (v0 : (Int × Int × Int × Int)) (e1 : Int) : W (((Int × Int × Int × Int)) ⊕ List PanicEntry) :=
  newW 92 [.int .u8 v0.1, .int .i32 v0.2.1, .int .i32 v0.2.2.1, .int .i32 v0.2.2.2] fun v_1 =>
  newW 92 [.int .u8 0, .int .i32 0, .int .i32 0, .int .i32 0] fun x_2 =>
  joinW (σ := Unit) (fun J_3 =>
    cond (e1 != 0)
      (panW (.iface 171 (.agg ⟨[]⟩)))
      (J_3 ()))
  <| fun s_4 =>
  ld (.agg [.int .u8, .int .i32, .int .i32, .int .i32]) v_1 fun (x_5 : (Int × Int × Int × Int)) =>
  stoL x_2 [.int .u8 x_5.1, .int .i32 x_5.2.1, .int .i32 x_5.2.2.1, .int .i32 x_5.2.2.2] 0 <|
  ld (.agg [.int .u8, .int .i32, .int .i32, .int .i32]) x_2 fun (x_6 : (Int × Int × Int × Int)) =>
  retW (.inl x_6)
def H_packet_must_Comp : Hints := { con := [(3006, [])] }
theorem E_packet_must_Comp (v0 : (Int × Int × Int × Int)) (e1 : Int) : denFP Tryz.prog H_packet_must_Comp Tryz.f126 [.agg [.int .u8, .int .i32, .int .i32, .int .i32]] [.agg ⟨[.int .u8 v0.1, .int .i32 v0.2.1, .int .i32 v0.2.2.1, .int .i32 v0.2.2.2]⟩, .int .i64 e1] = F_packet_must_Comp v0 e1 := by kernel_rfl
theorem C_packet_must_Comp {R : Type} [Pan R] (v0 : (Int × Int × Int × Int)) (e1 : Int) (K : Res [.agg [.int .u8, .int .i32, .int .i32, .int .i32]] → W R) (Q : R → World → Prop) (w : World) (h : F_packet_must_Comp v0 e1 (kP K Q) w) : callP Tryz.prog k_packet_must_Comp [.agg ⟨[.int .u8 v0.1, .int .i32 v0.2.1, .int .i32 v0.2.2.1, .int .i32 v0.2.2.2]⟩, .int .i64 e1] [.agg [.int .u8, .int .i32, .int .i32, .int .i32]] K Q w :=
  den_callsP mix Tryz.func126 H_packet_must_Comp (ts := [.agg [.int .u8, .int .i32, .int .i32, .int .i32]]) (post := kP K Q) ⟨by kernel_rfl, trivial⟩ (by rw [Tryz.ntmps126]; simp) (by rw [E_packet_must_Comp]; exact h)
def F_comp_GetStep (r0 : Option Addr) (was1 : (Int × Int × Int × Int)) : W ((Int × Int × Int × Int) × Int) :=
  newW 60 [.pointer r0] fun r_1 =>
  newW 92 [.int .u8 was1.1, .int .i32 was1.2.1, .int .i32 was1.2.2.1, .int .i32 was1.2.2.2] fun was_2 =>
  newW 92 [.int .u8 0, .int .i32 0, .int .i32 0, .int .i32 0] fun x_3 =>
  ld (.sc .ptr) r_1 fun (x_4 : Option Addr) =>
  cond (Option.isNone x_4)
    (stoL x_3 [.int .u8 0, .int .i32 0, .int .i32 0, .int .i32 0] 0 <|
    ld (.agg [.int .u8, .int .i32, .int .i32, .int .i32]) x_3 fun (x_5 : (Int × Int × Int × Int)) =>
    retW (x_5, 10))
    (ld (.agg [.int .u8, .int .i32, .int .i32, .int .i32]) was_2 fun (x_6 : (Int × Int × Int × Int)) =>
  callW Tryz.prog k_schema_Check [.agg ⟨[.int .u8 x_6.1, .int .i32 x_6.2.1, .int .i32 x_6.2.2.1, .int .i32 x_6.2.2.2]⟩] [.sc (.int .i64)] fun (x_7 : Int) =>
  cond (x_7 != 0)
    (stoL x_3 [.int .u8 0, .int .i32 0, .int .i32 0, .int .i32 0] 0 <|
    ld (.agg [.int .u8, .int .i32, .int .i32, .int .i32]) x_3 fun (x_8 : (Int × Int × Int × Int)) =>
    retW (x_8, x_7))
    (ld (.sc .ptr) r_1 fun (x_9 : Option Addr) =>
  ld (.agg [.int .u8, .int .i32, .int .i32, .int .i32]) was_2 fun (x_10 : (Int × Int × Int × Int)) =>
  callW Tryz.prog k_comp_back [.pointer x_9, .agg ⟨[.int .u8 x_10.1, .int .i32 x_10.2.1, .int .i32 x_10.2.2.1, .int .i32 x_10.2.2.2]⟩, .func (.func 161) #[] #[.pointer (some r_1), .pointer (some was_2)]] [.agg [.int .u8, .int .i32, .int .i32, .int .i32], .sc (.int .i64)] fun (x_11 : (Int × Int × Int × Int) × Int) =>
  stoL x_3 [.int .u8 x_11.1.1, .int .i32 x_11.1.2.1, .int .i32 x_11.1.2.2.1, .int .i32 x_11.1.2.2.2] 0 <|
  ld (.agg [.int .u8, .int .i32, .int .i32, .int .i32]) x_3 fun (x_12 : (Int × Int × Int × Int)) =>
  retW (x_12, x_11.2)))
def H_comp_GetStep : Hints := {}
theorem E_comp_GetStep (r0 : Option Addr) (was1 : (Int × Int × Int × Int)) : denF Tryz.prog H_comp_GetStep Tryz.f127 [.agg [.int .u8, .int .i32, .int .i32, .int .i32], .sc (.int .i64)] [.pointer r0, .agg ⟨[.int .u8 was1.1, .int .i32 was1.2.1, .int .i32 was1.2.2.1, .int .i32 was1.2.2.2]⟩] = F_comp_GetStep r0 was1 := by kernel_rfl
theorem C_comp_GetStep {R : Type} (r0 : Option Addr) (was1 : (Int × Int × Int × Int)) (K : Res [.agg [.int .u8, .int .i32, .int .i32, .int .i32], .sc (.int .i64)] → W R) (Q : R → World → Prop) (w : World) (h : F_comp_GetStep r0 was1 (fun r w => K r Q w) w) : callW Tryz.prog k_comp_GetStep [.pointer r0, .agg ⟨[.int .u8 was1.1, .int .i32 was1.2.1, .int .i32 was1.2.2.1, .int .i32 was1.2.2.2]⟩] [.agg [.int .u8, .int .i32, .int .i32, .int .i32], .sc (.int .i64)] K Q w :=
  den_calls mix Tryz.func127 H_comp_GetStep (ts := [.agg [.int .u8, .int .i32, .int .i32, .int .i32], .sc (.int .i64)]) ⟨by kernel_rfl, trivial⟩ (by rw [Tryz.ntmps127]; simp) (by rw [E_comp_GetStep]; exact h)
def F_bits_Writer_Put (d0 : Option Addr) (o1 : Int) (p2 : Int) : W (Int) :=
  cond (Option.isNone d0)
    (retW 10)
    (joinW (σ := Bool) (fun J_1 =>
      cond (decide (p2 < 0))
        (J_1 true)
        (J_1 (decide (p2 > 64))))
    <| fun s_2 =>
    cond s_2
      (retW 1)
      (joinW (σ := Bool) (fun J_3 =>
        cond (decide (p2 < 64))
          (chkW (0 ≤ p2) <|
              J_3 ((shR .u64 o1 p2) != 0))
          (J_3 false))
      <| fun s_4 =>
      cond s_4
        (retW 5)
        (ptrW d0 fun x_5 =>
        ld (.sc (.int .i64)) (Addr.add x_5 1) fun (x_6 : Int) =>
        cond (decide ((IntKind.wrap .i64 (x_6 + p2)) > 1048576))
          (retW 3)
          (loopW (σ := Int) (fun K_7 s_8 =>
    cond (decide (s_8 < p2))
      (ptrW d0 fun x_9 =>
    ld (.sc (.int .i64)) (Addr.add x_9 1) fun (x_10 : Int) =>
    joinW (σ := Unit) (fun J_11 =>
      cond ((Int.tmod x_10 8) == 0)
        (ptrW d0 fun x_12 =>
        ld (.sc .sl) (Addr.add x_12 0) fun (x_13 : Sl) =>
        newW 5 [.int .u8 0] fun x_14 =>
        rawW Tryz.prog (Builtin.append_ #[22, 22] 22 #[.slice x_13.a x_13.n x_13.c, .slice (some x_14) 1 1]) [.sc .sl] fun (x_15 : Sl) =>
        ptrW d0 fun x_16 =>
        stoL (Addr.add x_16 0) [.slice x_15.a x_15.n x_15.c] 0 <|
        J_11 ())
        (J_11 ()))
    <| fun s_17 =>
    drawW <|
    ptrW d0 fun x_18 =>
    ld (.sc .sl) (Addr.add x_18 0) fun (x_19 : Sl) =>
    ptrW d0 fun x_20 =>
    ld (.sc (.int .i64)) (Addr.add x_20 1) fun (x_21 : Int) =>
    idxW x_19.a x_19.n 1 (IntKind.wrap .i64 (Int.tdiv x_21 8)) fun x_22 =>
    ld (.sc (.int .u8)) x_22 fun (x_23 : Int) =>
    chkW (0 ≤ s_8) <|
    ptrW d0 fun x_24 =>
    ld (.sc (.int .i64)) (Addr.add x_24 1) fun (x_25 : Int) =>
    chkW (0 ≤ (Int.tmod x_25 8)) <|
    idxW x_19.a x_19.n 1 (IntKind.wrap .i64 (Int.tdiv x_21 8)) fun x_26 =>
    stoL x_26 [.int .u8 (bOr .u8 x_23 (shL .u8 (IntKind.wrap .u8 (bAnd .u64 (shR .u64 o1 s_8) 1)) (Int.tmod x_25 8)))] 0 <|
    ptrW d0 fun x_27 =>
    ld (.sc (.int .i64)) (Addr.add x_27 1) fun (x_28 : Int) =>
    ptrW d0 fun x_29 =>
    stoL (Addr.add x_29 1) [.int .i64 (IntKind.wrap .i64 (x_28 + 1))] 0 <|
    K_7 (IntKind.wrap .i64 (s_8 + 1)))
      (retW 0))
    0))))
def H_bits_Writer_Put : Hints := { reg := [(3, [(11, .sc .bool)]), (5, [(18, .sc .bool)])], con := [(14044, [])], lop := [(1, [(36, .sc (.int .i64))])], dr := [(14, ([], [[(0, []), (1, []), (2, []), (3, []), (4, []), (5, []), (6, []), (7, []), (8, []), (9, []), (10, []), (11, []), (12, []), (13, []), (14, []), (15, []), (16, []), (17, []), (18, []), (19, []), (20, []), (21, []), (22, []), (23, []), (24, [])]]))] }
theorem E_bits_Writer_Put (d0 : Option Addr) (o1 : Int) (p2 : Int) : denF Tryz.prog H_bits_Writer_Put Tryz.f130 [.sc (.int .i64)] [.pointer d0, .int .u64 o1, .int .i64 p2] = F_bits_Writer_Put d0 o1 p2 := by kernel_rfl
theorem C_bits_Writer_Put {R : Type} (d0 : Option Addr) (o1 : Int) (p2 : Int) (K : Res [.sc (.int .i64)] → W R) (Q : R → World → Prop) (w : World) (h : F_bits_Writer_Put d0 o1 p2 (fun r w => K r Q w) w) : callW Tryz.prog k_bits_Writer_Put [.pointer d0, .int .u64 o1, .int .i64 p2] [.sc (.int .i64)] K Q w :=
  den_calls mix Tryz.func130 H_bits_Writer_Put (ts := [.sc (.int .i64)]) trivial (by rw [Tryz.ntmps130]; simp) (by rw [E_bits_Writer_Put]; exact h)
def F_nums_Width (lo0 : Int) (hi1 : Int) : W (Int) :=
  cond (decide (hi1 < lo0))
    (retW 0)
    (callW Tryz.prog k_math_bits_Len64 [.int .u64 (IntKind.wrap .u64 ((IntKind.wrap .u64 hi1) - (IntKind.wrap .u64 lo0)))] [.sc (.int .i64)] fun (x_1 : Int) =>
  retW x_1)
def H_nums_Width : Hints := {}
theorem E_nums_Width (lo0 : Int) (hi1 : Int) : denF Tryz.prog H_nums_Width Tryz.f131 [.sc (.int .i64)] [.int .i64 lo0, .int .i64 hi1] = F_nums_Width lo0 hi1 := by kernel_rfl
theorem C_nums_Width {R : Type} (lo0 : Int) (hi1 : Int) (K : Res [.sc (.int .i64)] → W R) (Q : R → World → Prop) (w : World) (h : F_nums_Width lo0 hi1 (fun r w => K r Q w) w) : callW Tryz.prog k_nums_Width [.int .i64 lo0, .int .i64 hi1] [.sc (.int .i64)] K Q w :=
  den_calls mix Tryz.func131 H_nums_Width (ts := [.sc (.int .i64)]) trivial (by rw [Tryz.ntmps131]; simp) (by rw [E_nums_Width]; exact h)
def F_nums_groups (v0 : Int) : W (Int) :=
  callW Tryz.prog k_math_bits_Len64 [.int .u64 v0] [.sc (.int .i64)] fun (x_1 : Int) =>
  retW (if (IntKind.wrap .i64 (Int.tdiv (IntKind.wrap .i64 ((IntKind.wrap .i64 (x_1 + 4)) - 1)) 4)) > 1 then (IntKind.wrap .i64 (Int.tdiv (IntKind.wrap .i64 ((IntKind.wrap .i64 (x_1 + 4)) - 1)) 4)) else 1)
def H_nums_groups : Hints := {}
theorem E_nums_groups (v0 : Int) : denF Tryz.prog H_nums_groups Tryz.f132 [.sc (.int .i64)] [.int .u64 v0] = F_nums_groups v0 := by kernel_rfl
theorem C_nums_groups {R : Type} (v0 : Int) (K : Res [.sc (.int .i64)] → W R) (Q : R → World → Prop) (w : World) (h : F_nums_groups v0 (fun r w => K r Q w) w) : callW Tryz.prog k_nums_groups [.int .u64 v0] [.sc (.int .i64)] K Q w :=
  den_calls mix Tryz.func132 H_nums_groups (ts := [.sc (.int .i64)]) trivial (by rw [Tryz.ntmps132]; simp) (by rw [E_nums_groups]; exact h)
def F_bits_Writer_Len (w0 : Option Addr) : W (Int) :=
  cond (Option.isNone w0)
    (retW 0)
    (ptrW w0 fun x_1 =>
  ld (.sc (.int .i64)) (Addr.add x_1 1) fun (x_2 : Int) =>
  retW x_2)
def H_bits_Writer_Len : Hints := {}
theorem E_bits_Writer_Len (w0 : Option Addr) : denF Tryz.prog H_bits_Writer_Len Tryz.f133 [.sc (.int .i64)] [.pointer w0] = F_bits_Writer_Len w0 := by kernel_rfl
theorem C_bits_Writer_Len {R : Type} (w0 : Option Addr) (K : Res [.sc (.int .i64)] → W R) (Q : R → World → Prop) (w : World) (h : F_bits_Writer_Len w0 (fun r w => K r Q w) w) : callW Tryz.prog k_bits_Writer_Len [.pointer w0] [.sc (.int .i64)] K Q w :=
  den_calls mix Tryz.func133 H_bits_Writer_Len (ts := [.sc (.int .i64)]) trivial (by rw [Tryz.ntmps133]; simp) (by rw [E_bits_Writer_Len]; exact h)
def F_comp_Put (w0 : Option Addr) (c1 : (Int × Int × Int × Int)) : W (Int) :=
  newW 92 [.int .u8 c1.1, .int .i32 c1.2.1, .int .i32 c1.2.2.1, .int .i32 c1.2.2.2] fun c_1 =>
  cond (Option.isNone w0)
    (retW 10)
    (ld (.agg [.int .u8, .int .i32, .int .i32, .int .i32]) c_1 fun (x_2 : (Int × Int × Int × Int)) =>
  callW Tryz.prog k_schema_Check [.agg ⟨[.int .u8 x_2.1, .int .i32 x_2.2.1, .int .i32 x_2.2.2.1, .int .i32 x_2.2.2.2]⟩] [.sc (.int .i64)] fun (x_3 : Int) =>
  cond (x_3 != 0)
    (retW x_3)
    (ld (.agg [.int .u8, .int .i32, .int .i32, .int .i32]) c_1 fun (x_4 : (Int × Int × Int × Int)) =>
  callW Tryz.prog k_comp_whole [.agg ⟨[.int .u8 x_4.1, .int .i32 x_4.2.1, .int .i32 x_4.2.2.1, .int .i32 x_4.2.2.2]⟩] [.sc .sl] fun (x_5 : Sl) =>
  callW Tryz.prog k_comp_put [.pointer w0, .slice x_5.a x_5.n x_5.c] [.sc (.int .i64)] fun (x_6 : Int) =>
  retW x_6))
def H_comp_Put : Hints := {}
theorem E_comp_Put (w0 : Option Addr) (c1 : (Int × Int × Int × Int)) : denF Tryz.prog H_comp_Put Tryz.f134 [.sc (.int .i64)] [.pointer w0, .agg ⟨[.int .u8 c1.1, .int .i32 c1.2.1, .int .i32 c1.2.2.1, .int .i32 c1.2.2.2]⟩] = F_comp_Put w0 c1 := by kernel_rfl
theorem C_comp_Put {R : Type} (w0 : Option Addr) (c1 : (Int × Int × Int × Int)) (K : Res [.sc (.int .i64)] → W R) (Q : R → World → Prop) (w : World) (h : F_comp_Put w0 c1 (fun r w => K r Q w) w) : callW Tryz.prog k_comp_Put [.pointer w0, .agg ⟨[.int .u8 c1.1, .int .i32 c1.2.1, .int .i32 c1.2.2.1, .int .i32 c1.2.2.2]⟩] [.sc (.int .i64)] K Q w :=
  den_calls mix Tryz.func134 H_comp_Put (ts := [.sc (.int .i64)]) trivial (by rw [Tryz.ntmps134]; simp) (by rw [E_comp_Put]; exact h)
def F_diff_find (l0 : Sl) (kind1 : Int) : W ((Int × Int × Int × Int) × Bool) :=
  newW 5 [.int .u8 kind1] fun kind_1 =>
  newW 92 [.int .u8 0, .int .i32 0, .int .i32 0, .int .i32 0] fun x_2 =>
  callW Tryz.prog k_slices_IndexFunc_Comp [.slice l0.a l0.n l0.c, .func (.func 165) #[] #[.pointer (some kind_1)]] [.sc (.int .i64)] fun (x_3 : Int) =>
  cond (decide (x_3 < 0))
    (stoL x_2 [.int .u8 0, .int .i32 0, .int .i32 0, .int .i32 0] 0 <|
    ld (.agg [.int .u8, .int .i32, .int .i32, .int .i32]) x_2 fun (x_4 : (Int × Int × Int × Int)) =>
    retW (x_4, false))
    (idxW l0.a l0.n 4 x_3 fun x_5 =>
  ld (.agg [.int .u8, .int .i32, .int .i32, .int .i32]) x_5 fun (x_6 : (Int × Int × Int × Int)) =>
  stoL x_2 [.int .u8 x_6.1, .int .i32 x_6.2.1, .int .i32 x_6.2.2.1, .int .i32 x_6.2.2.2] 0 <|
  ld (.agg [.int .u8, .int .i32, .int .i32, .int .i32]) x_2 fun (x_7 : (Int × Int × Int × Int)) =>
  retW (x_7, true))
def H_diff_find : Hints := {}
theorem E_diff_find (l0 : Sl) (kind1 : Int) : denF Tryz.prog H_diff_find Tryz.f135 [.agg [.int .u8, .int .i32, .int .i32, .int .i32], .sc .bool] [.slice l0.a l0.n l0.c, .int .u8 kind1] = F_diff_find l0 kind1 := by kernel_rfl
theorem C_diff_find {R : Type} (l0 : Sl) (kind1 : Int) (K : Res [.agg [.int .u8, .int .i32, .int .i32, .int .i32], .sc .bool] → W R) (Q : R → World → Prop) (w : World) (h : F_diff_find l0 kind1 (fun r w => K r Q w) w) : callW Tryz.prog k_diff_find [.slice l0.a l0.n l0.c, .int .u8 kind1] [.agg [.int .u8, .int .i32, .int .i32, .int .i32], .sc .bool] K Q w :=
  den_calls mix Tryz.func135 H_diff_find (ts := [.agg [.int .u8, .int .i32, .int .i32, .int .i32], .sc .bool]) ⟨by kernel_rfl, trivial⟩ (by rw [Tryz.ntmps135]; simp) (by rw [E_diff_find]; exact h)
def F_comp_pair (was0 : (Int × Int × Int × Int)) (c1 : (Int × Int × Int × Int)) : W (Int) :=
  newW 92 [.int .u8 was0.1, .int .i32 was0.2.1, .int .i32 was0.2.2.1, .int .i32 was0.2.2.2] fun was_1 =>
  newW 92 [.int .u8 c1.1, .int .i32 c1.2.1, .int .i32 c1.2.2.1, .int .i32 c1.2.2.2] fun c_2 =>
  ld (.agg [.int .u8, .int .i32, .int .i32, .int .i32]) was_1 fun (x_3 : (Int × Int × Int × Int)) =>
  callW Tryz.prog k_schema_Check [.agg ⟨[.int .u8 x_3.1, .int .i32 x_3.2.1, .int .i32 x_3.2.2.1, .int .i32 x_3.2.2.2]⟩] [.sc (.int .i64)] fun (x_4 : Int) =>
  cond (x_4 != 0)
    (retW x_4)
    (ld (.agg [.int .u8, .int .i32, .int .i32, .int .i32]) c_2 fun (x_5 : (Int × Int × Int × Int)) =>
  callW Tryz.prog k_schema_Check [.agg ⟨[.int .u8 x_5.1, .int .i32 x_5.2.1, .int .i32 x_5.2.2.1, .int .i32 x_5.2.2.2]⟩] [.sc (.int .i64)] fun (x_6 : Int) =>
  cond (x_6 != 0)
    (retW x_6)
    (ld (.sc (.int .u8)) (Addr.add was_1 0) fun (x_7 : Int) =>
  ld (.sc (.int .u8)) (Addr.add c_2 0) fun (x_8 : Int) =>
  cond (x_7 != x_8)
    (retW 4)
    (retW 0)))
def H_comp_pair : Hints := {}
theorem E_comp_pair (was0 : (Int × Int × Int × Int)) (c1 : (Int × Int × Int × Int)) : denF Tryz.prog H_comp_pair Tryz.f136 [.sc (.int .i64)] [.agg ⟨[.int .u8 was0.1, .int .i32 was0.2.1, .int .i32 was0.2.2.1, .int .i32 was0.2.2.2]⟩, .agg ⟨[.int .u8 c1.1, .int .i32 c1.2.1, .int .i32 c1.2.2.1, .int .i32 c1.2.2.2]⟩] = F_comp_pair was0 c1 := by kernel_rfl
theorem C_comp_pair {R : Type} (was0 : (Int × Int × Int × Int)) (c1 : (Int × Int × Int × Int)) (K : Res [.sc (.int .i64)] → W R) (Q : R → World → Prop) (w : World) (h : F_comp_pair was0 c1 (fun r w => K r Q w) w) : callW Tryz.prog k_comp_pair [.agg ⟨[.int .u8 was0.1, .int .i32 was0.2.1, .int .i32 was0.2.2.1, .int .i32 was0.2.2.2]⟩, .agg ⟨[.int .u8 c1.1, .int .i32 c1.2.1, .int .i32 c1.2.2.1, .int .i32 c1.2.2.2]⟩] [.sc (.int .i64)] K Q w :=
  den_calls mix Tryz.func136 H_comp_pair (ts := [.sc (.int .i64)]) trivial (by rw [Tryz.ntmps136]; simp) (by rw [E_comp_pair]; exact h)
def F_comp_put (w0 : Option Addr) (l1 : Sl) : W (Int) :=
  callW Tryz.prog k_bits_Writer_Len [.pointer w0] [.sc (.int .i64)] fun (x_1 : Int) =>
  callW Tryz.prog k_comp_size [.slice l1.a l1.n l1.c] [.sc (.int .i64)] fun (x_2 : Int) =>
  cond (decide ((IntKind.wrap .i64 (x_1 + x_2)) > 1048576))
    (retW 3)
    (loopW (σ := Int) (fun K_3 s_4 =>
    cond (decide (s_4 < (l1.n : Int)))
      (idxW l1.a l1.n 2 s_4 fun x_5 =>
    ld (.agg [.int .u64, .int .i64]) x_5 fun (x_6 : (Int × Int)) =>
    newW 231 [.int .u64 0, .int .i64 0] fun p_7 =>
    stoL p_7 [.int .u64 x_6.1, .int .i64 x_6.2] 0 <|
    ld (.sc (.int .u64)) (Addr.add p_7 0) fun (x_8 : Int) =>
    ld (.sc (.int .i64)) (Addr.add p_7 1) fun (x_9 : Int) =>
    callW Tryz.prog k_bits_Writer_Put [.pointer w0, .int .u64 x_8, .int .i64 x_9] [.sc (.int .i64)] fun (x_10 : Int) =>
    K_3 (IntKind.wrap .i64 (s_4 + 1)))
      (retW 0))
    0)
def H_comp_put : Hints := { lop := [(0, [(15, .sc (.int .i64))])] }
theorem E_comp_put (w0 : Option Addr) (l1 : Sl) : denF Tryz.prog H_comp_put Tryz.f137 [.sc (.int .i64)] [.pointer w0, .slice l1.a l1.n l1.c] = F_comp_put w0 l1 := by kernel_rfl
theorem C_comp_put {R : Type} (w0 : Option Addr) (l1 : Sl) (K : Res [.sc (.int .i64)] → W R) (Q : R → World → Prop) (w : World) (h : F_comp_put w0 l1 (fun r w => K r Q w) w) : callW Tryz.prog k_comp_put [.pointer w0, .slice l1.a l1.n l1.c] [.sc (.int .i64)] K Q w :=
  den_calls mix Tryz.func137 H_comp_put (ts := [.sc (.int .i64)]) trivial (by rw [Tryz.ntmps137]; simp) (by rw [E_comp_put]; exact h)
def F_comp_step (was0 : (Int × Int × Int × Int)) (c1 : (Int × Int × Int × Int)) : W (Sl) :=
  newW 92 [.int .u8 was0.1, .int .i32 was0.2.1, .int .i32 was0.2.2.1, .int .i32 was0.2.2.2] fun was_1 =>
  newW 92 [.int .u8 c1.1, .int .i32 c1.2.1, .int .i32 c1.2.2.1, .int .i32 c1.2.2.2] fun c_2 =>
  ld (.sc (.int .u8)) (Addr.add c_2 0) fun (x_3 : Int) =>
  callW Tryz.prog k_schema_Count [.int .u8 x_3] [.sc (.int .i64)] fun (x_4 : Int) =>
  loopW (σ := Sl × Int) (fun K_5 s_6 =>
    cond (decide (s_6.2 < x_4))
      (ld (.agg [.int .u8, .int .i32, .int .i32, .int .i32]) was_1 fun (x_7 : (Int × Int × Int × Int)) =>
    ld (.agg [.int .u8, .int .i32, .int .i32, .int .i32]) c_2 fun (x_8 : (Int × Int × Int × Int)) =>
    callW Tryz.prog k_comp_more [.agg ⟨[.int .u8 x_7.1, .int .i32 x_7.2.1, .int .i32 x_7.2.2.1, .int .i32 x_7.2.2.2]⟩, .agg ⟨[.int .u8 x_8.1, .int .i32 x_8.2.1, .int .i32 x_8.2.2.1, .int .i32 x_8.2.2.2]⟩, .int .i64 s_6.2] [.sc (.int .u64)] fun (x_9 : Int) =>
    joinW (σ := Sl) (fun J_10 =>
      cond (x_9 == 0)
        (newW 231 [.int .u64 0, .int .i64 1] fun x_11 =>
        rawW Tryz.prog (Builtin.append_ #[202, 202] 202 #[.slice s_6.1.a s_6.1.n s_6.1.c, .slice (some x_11) 1 1]) [.sc .sl] fun (x_12 : Sl) =>
        J_10 x_12)
        (joinW (σ := Sl) (fun J_13 =>
          cond (decide (x_9 ≤ 16))
            (newW 231 [.int .u64 1, .int .i64 1, .int .u64 1, .int .i64 1, .int .u64 (IntKind.wrap .u64 (x_9 - 1)), .int .i64 4] fun x_14 =>
            rawW Tryz.prog (Builtin.append_ #[202, 202] 202 #[.slice s_6.1.a s_6.1.n s_6.1.c, .slice (some x_14) 3 3]) [.sc .sl] fun (x_15 : Sl) =>
            J_13 x_15)
            (ld (.agg [.int .u8, .int .i32, .int .i32, .int .i32]) c_2 fun (x_16 : (Int × Int × Int × Int)) =>
            callW Tryz.prog k_comp_field [.agg ⟨[.int .u8 x_16.1, .int .i32 x_16.2.1, .int .i32 x_16.2.2.1, .int .i32 x_16.2.2.2]⟩, .int .i64 s_6.2] [.agg [.int .u64, .int .i64]] fun (x_17 : (Int × Int)) =>
            newW 231 [.int .u64 1, .int .i64 1, .int .u64 0, .int .i64 1, .int .u64 x_17.1, .int .i64 x_17.2] fun x_18 =>
            rawW Tryz.prog (Builtin.append_ #[202, 202] 202 #[.slice s_6.1.a s_6.1.n s_6.1.c, .slice (some x_18) 3 3]) [.sc .sl] fun (x_19 : Sl) =>
            J_13 x_19))
        <| fun s_20 =>
        J_10 s_20))
    <| fun s_21 =>
    K_5 (s_21, IntKind.wrap .i64 (s_6.2 + 1)))
      (retW s_6.1))
    ((⟨none, 0, 0⟩ : Sl), 0)
def H_comp_step : Hints := { con := [(11033, [(5, .sc .sl)]), (9026, [(5, .sc .sl)])], lop := [(0, [(5, .sc .sl), (11, .sc (.int .i64))])] }
theorem E_comp_step (was0 : (Int × Int × Int × Int)) (c1 : (Int × Int × Int × Int)) : denF Tryz.prog H_comp_step Tryz.f138 [.sc .sl] [.agg ⟨[.int .u8 was0.1, .int .i32 was0.2.1, .int .i32 was0.2.2.1, .int .i32 was0.2.2.2]⟩, .agg ⟨[.int .u8 c1.1, .int .i32 c1.2.1, .int .i32 c1.2.2.1, .int .i32 c1.2.2.2]⟩] = F_comp_step was0 c1 := by kernel_rfl
theorem C_comp_step {R : Type} (was0 : (Int × Int × Int × Int)) (c1 : (Int × Int × Int × Int)) (K : Res [.sc .sl] → W R) (Q : R → World → Prop) (w : World) (h : F_comp_step was0 c1 (fun r w => K r Q w) w) : callW Tryz.prog k_comp_step [.agg ⟨[.int .u8 was0.1, .int .i32 was0.2.1, .int .i32 was0.2.2.1, .int .i32 was0.2.2.2]⟩, .agg ⟨[.int .u8 c1.1, .int .i32 c1.2.1, .int .i32 c1.2.2.1, .int .i32 c1.2.2.2]⟩] [.sc .sl] K Q w :=
  den_calls mix Tryz.func138 H_comp_step (ts := [.sc .sl]) trivial (by rw [Tryz.ntmps138]; simp) (by rw [E_comp_step]; exact h)
def F_snap_Find (l0 : Sl) (id1 : Int) : W (Int) :=
  callW Tryz.prog k_slices_BinarySearchFunc_Ent [.slice l0.a l0.n l0.c, .int .u32 id1, .func (.func 171) #[] #[]] [.sc (.int .i64), .sc .bool] fun (x_1 : Int × Bool) =>
  cond (!x_1.2)
    (retW (-1))
    (retW x_1.1)
def H_snap_Find : Hints := {}
theorem E_snap_Find (l0 : Sl) (id1 : Int) : denF Tryz.prog H_snap_Find Tryz.f139 [.sc (.int .i64)] [.slice l0.a l0.n l0.c, .int .u32 id1] = F_snap_Find l0 id1 := by kernel_rfl
theorem C_snap_Find {R : Type} (l0 : Sl) (id1 : Int) (K : Res [.sc (.int .i64)] → W R) (Q : R → World → Prop) (w : World) (h : F_snap_Find l0 id1 (fun r w => K r Q w) w) : callW Tryz.prog k_snap_Find [.slice l0.a l0.n l0.c, .int .u32 id1] [.sc (.int .i64)] K Q w :=
  den_calls mix Tryz.func139 H_snap_Find (ts := [.sc (.int .i64)]) trivial (by rw [Tryz.ntmps139]; simp) (by rw [E_snap_Find]; exact h)
def F_nums_try_int64__nums_GetIn_c1 (r0 : Option Addr) (read1c0 : Option Addr) (read1c1 : Option Addr) : W (Int × Int) :=
  cond (Option.isNone r0)
    (retW (0, 10))
    (ptrW r0 fun x_1 =>
  ld (.agg [.sl, .int .i64]) x_1 fun (x_2 : (Sl × Int)) =>
  newW 173 [.slice none 0 0, .int .i64 0] fun was_3 =>
  stoL was_3 [.slice x_2.1.a x_2.1.n x_2.1.c, .int .i64 x_2.2] 0 <|
  callW Tryz.prog k_nums_GetIn_c1 [.pointer r0, .pointer read1c0, .pointer read1c1] [.sc (.int .i64), .sc (.int .i64)] fun (x_4 : Int × Int) =>
  cond (x_4.2 != 0)
    (ld (.agg [.sl, .int .i64]) was_3 fun (x_5 : (Sl × Int)) =>
    ptrW r0 fun x_6 =>
    stoL x_6 [.slice x_5.1.a x_5.1.n x_5.1.c, .int .i64 x_5.2] 0 <|
    retW (0, x_4.2))
    (retW (x_4.1, 0)))
def H_nums_try_int64__nums_GetIn_c1 : Hints := {}
theorem E_nums_try_int64__nums_GetIn_c1 (r0 : Option Addr) (read1c0 : Option Addr) (read1c1 : Option Addr) : denF Tryz.prog H_nums_try_int64__nums_GetIn_c1 Tryz.f140 [.sc (.int .i64), .sc (.int .i64)] [.pointer r0, .func (.func 141) #[] #[.pointer read1c0, .pointer read1c1]] = F_nums_try_int64__nums_GetIn_c1 r0 read1c0 read1c1 := by kernel_rfl
theorem C_nums_try_int64__nums_GetIn_c1 {R : Type} (r0 : Option Addr) (read1c0 : Option Addr) (read1c1 : Option Addr) (K : Res [.sc (.int .i64), .sc (.int .i64)] → W R) (Q : R → World → Prop) (w : World) (h : F_nums_try_int64__nums_GetIn_c1 r0 read1c0 read1c1 (fun r w => K r Q w) w) : callW Tryz.prog k_nums_try_int64 [.pointer r0, .func (.func 141) #[] #[.pointer read1c0, .pointer read1c1]] [.sc (.int .i64), .sc (.int .i64)] K Q w :=
  den_calls mix Tryz.func140 H_nums_try_int64__nums_GetIn_c1 (ts := [.sc (.int .i64), .sc (.int .i64)]) trivial (by rw [Tryz.ntmps140]; simp) (by rw [E_nums_try_int64__nums_GetIn_c1]; exact h)
def F_nums_GetIn_c1 (r0 : Option Addr) (c1 : Option Addr) (c2 : Option Addr) : W (Int × Int) :=
  ptrW c1 fun x_1 =>
  ld (.sc (.int .i64)) x_1 fun (x_2 : Int) =>
  ptrW c2 fun x_3 =>
  ld (.sc (.int .i64)) x_3 fun (x_4 : Int) =>
  callW Tryz.prog k_nums_Width [.int .i64 x_2, .int .i64 x_4] [.sc (.int .i64)] fun (x_5 : Int) =>
  callW Tryz.prog k_bits_Reader_Get [.pointer r0, .int .i64 x_5] [.sc (.int .u64), .sc (.int .i64)] fun (x_6 : Int × Int) =>
  cond (x_6.2 != 0)
    (retW (0, x_6.2))
    (ptrW c2 fun x_7 =>
    ld (.sc (.int .i64)) x_7 fun (x_8 : Int) =>
    ptrW c1 fun x_9 =>
    ld (.sc (.int .i64)) x_9 fun (x_10 : Int) =>
    cond (decide (x_6.1 > (IntKind.wrap .u64 ((IntKind.wrap .u64 x_8) - (IntKind.wrap .u64 x_10)))))
      (retW (0, 5))
      (ptrW c1 fun x_11 =>
  ld (.sc (.int .i64)) x_11 fun (x_12 : Int) =>
  retW (IntKind.wrap .i64 (IntKind.wrap .u64 ((IntKind.wrap .u64 x_12) + x_6.1)), 0)))
def H_nums_GetIn_c1 : Hints := {}
theorem E_nums_GetIn_c1 (r0 : Option Addr) (c1 : Option Addr) (c2 : Option Addr) : denF Tryz.prog H_nums_GetIn_c1 Tryz.f141 [.sc (.int .i64), .sc (.int .i64)] [.pointer r0, .pointer c1, .pointer c2] = F_nums_GetIn_c1 r0 c1 c2 := by kernel_rfl
theorem C_nums_GetIn_c1 {R : Type} (r0 : Option Addr) (c1 : Option Addr) (c2 : Option Addr) (K : Res [.sc (.int .i64), .sc (.int .i64)] → W R) (Q : R → World → Prop) (w : World) (h : F_nums_GetIn_c1 r0 c1 c2 (fun r w => K r Q w) w) : callW Tryz.prog k_nums_GetIn_c1 [.pointer r0, .pointer c1, .pointer c2] [.sc (.int .i64), .sc (.int .i64)] K Q w :=
  den_calls mix Tryz.func141 H_nums_GetIn_c1 (ts := [.sc (.int .i64), .sc (.int .i64)]) trivial (by rw [Tryz.ntmps141]; simp) (by rw [E_nums_GetIn_c1]; exact h)
def F_bits_Reader_Get (r0 : Option Addr) (n1 : Int) : W (Int × Int) :=
  cond (Option.isNone r0)
    (retW (0, 10))
    (joinW (σ := Bool) (fun J_1 =>
      cond (decide (n1 < 0))
        (J_1 true)
        (J_1 (decide (n1 > 64))))
    <| fun s_2 =>
    cond s_2
      (retW (0, 1))
      (callW Tryz.prog k_bits_Reader_Left [.pointer r0] [.sc (.int .i64)] fun (x_3 : Int) =>
      cond (decide (n1 > x_3))
        (retW (0, 2))
        (loopW (σ := Int × Int) (fun K_4 s_5 =>
    cond (decide (s_5.2 < n1))
      (drawW <|
    ptrW r0 fun x_6 =>
    ld (.sc .sl) (Addr.add x_6 0) fun (x_7 : Sl) =>
    ptrW r0 fun x_8 =>
    ld (.sc (.int .i64)) (Addr.add x_8 1) fun (x_9 : Int) =>
    idxW x_7.a x_7.n 1 (IntKind.wrap .i64 (Int.tdiv x_9 8)) fun x_10 =>
    ld (.sc (.int .u8)) x_10 fun (x_11 : Int) =>
    ptrW r0 fun x_12 =>
    ld (.sc (.int .i64)) (Addr.add x_12 1) fun (x_13 : Int) =>
    chkW (0 ≤ (Int.tmod x_13 8)) <|
    chkW (0 ≤ s_5.2) <|
    ptrW r0 fun x_14 =>
    ld (.sc (.int .i64)) (Addr.add x_14 1) fun (x_15 : Int) =>
    ptrW r0 fun x_16 =>
    stoL (Addr.add x_16 1) [.int .i64 (IntKind.wrap .i64 (x_15 + 1))] 0 <|
    K_4 (bOr .u64 s_5.1 (shL .u64 (IntKind.wrap .u64 (bAnd .u8 (shR .u8 x_11 (Int.tmod x_13 8)) 1)) s_5.2), IntKind.wrap .i64 (s_5.2 + 1)))
      (retW (s_5.1, 0)))
    (0, 0))))
def H_bits_Reader_Get : Hints := { reg := [(3, [(11, .sc .bool)])], lop := [(1, [(6, .sc (.int .u64)), (24, .sc (.int .i64))])], dr := [(11, ([], [[(0, []), (1, []), (2, []), (3, []), (4, []), (5, []), (6, []), (7, []), (8, []), (9, []), (10, []), (11, []), (12, []), (13, []), (14, []), (15, []), (16, []), (17, []), (18, []), (19, []), (20, []), (21, []), (22, []), (23, [])]]))] }
theorem E_bits_Reader_Get (r0 : Option Addr) (n1 : Int) : denF Tryz.prog H_bits_Reader_Get Tryz.f142 [.sc (.int .u64), .sc (.int .i64)] [.pointer r0, .int .i64 n1] = F_bits_Reader_Get r0 n1 := by kernel_rfl
theorem C_bits_Reader_Get {R : Type} (r0 : Option Addr) (n1 : Int) (K : Res [.sc (.int .u64), .sc (.int .i64)] → W R) (Q : R → World → Prop) (w : World) (h : F_bits_Reader_Get r0 n1 (fun r w => K r Q w) w) : callW Tryz.prog k_bits_Reader_Get [.pointer r0, .int .i64 n1] [.sc (.int .u64), .sc (.int .i64)] K Q w :=
  den_calls mix Tryz.func142 H_bits_Reader_Get (ts := [.sc (.int .u64), .sc (.int .i64)]) trivial (by rw [Tryz.ntmps142]; simp) (by rw [E_bits_Reader_Get]; exact h)
def F_packet_must_uint64 (v0 : Int) (e1 : Int) : W ((Int) ⊕ List PanicEntry) :=
  joinW (σ := Unit) (fun J_1 =>
    cond (e1 != 0)
      (panW (.iface 171 (.agg ⟨[]⟩)))
      (J_1 ()))
  <| fun s_2 =>
  retW (.inl v0)
def H_packet_must_uint64 : Hints := { con := [(3006, [])] }
theorem E_packet_must_uint64 (v0 : Int) (e1 : Int) : denFP Tryz.prog H_packet_must_uint64 Tryz.f143 [.sc (.int .u64)] [.int .u64 v0, .int .i64 e1] = F_packet_must_uint64 v0 e1 := by kernel_rfl
theorem C_packet_must_uint64 {R : Type} [Pan R] (v0 : Int) (e1 : Int) (K : Res [.sc (.int .u64)] → W R) (Q : R → World → Prop) (w : World) (h : F_packet_must_uint64 v0 e1 (kP K Q) w) : callP Tryz.prog k_packet_must_uint64 [.int .u64 v0, .int .i64 e1] [.sc (.int .u64)] K Q w :=
  den_callsP mix Tryz.func143 H_packet_must_uint64 (ts := [.sc (.int .u64)]) (post := kP K Q) trivial (by rw [Tryz.ntmps143]; simp) (by rw [E_packet_must_uint64]; exact h)
def F_nums_GetVar (r0 : Option Addr) : W (Int × Int) :=
  callW Tryz.prog k_nums_try_uint64 [.pointer r0, .func (.func 174) #[] #[]] [.sc (.int .u64), .sc (.int .i64)] fun (x_1 : Int × Int) =>
  retW (x_1.1, x_1.2)
def H_nums_GetVar : Hints := {}
theorem E_nums_GetVar (r0 : Option Addr) : denF Tryz.prog H_nums_GetVar Tryz.f144 [.sc (.int .u64), .sc (.int .i64)] [.pointer r0] = F_nums_GetVar r0 := by kernel_rfl
theorem C_nums_GetVar {R : Type} (r0 : Option Addr) (K : Res [.sc (.int .u64), .sc (.int .i64)] → W R) (Q : R → World → Prop) (w : World) (h : F_nums_GetVar r0 (fun r w => K r Q w) w) : callW Tryz.prog k_nums_GetVar [.pointer r0] [.sc (.int .u64), .sc (.int .i64)] K Q w :=
  den_calls mix Tryz.func144 H_nums_GetVar (ts := [.sc (.int .u64), .sc (.int .i64)]) trivial (by rw [Tryz.ntmps144]; simp) (by rw [E_nums_GetVar]; exact h)
def F_comp_Get (r0 : Option Addr) (kind1 : Int) : W ((Int × Int × Int × Int) × Int) :=
  newW 60 [.pointer r0] fun r_1 =>
  newW 5 [.int .u8 kind1] fun kind_2 =>
  newW 92 [.int .u8 0, .int .i32 0, .int .i32 0, .int .i32 0] fun x_3 =>
  ld (.sc .ptr) r_1 fun (x_4 : Option Addr) =>
  cond (Option.isNone x_4)
    (stoL x_3 [.int .u8 0, .int .i32 0, .int .i32 0, .int .i32 0] 0 <|
    ld (.agg [.int .u8, .int .i32, .int .i32, .int .i32]) x_3 fun (x_5 : (Int × Int × Int × Int)) =>
    retW (x_5, 10))
    (ld (.sc (.int .u8)) kind_2 fun (x_6 : Int) =>
    callW Tryz.prog k_schema_Count [.int .u8 x_6] [.sc (.int .i64)] fun (x_7 : Int) =>
    cond (x_7 == 0)
      (stoL x_3 [.int .u8 0, .int .i32 0, .int .i32 0, .int .i32 0] 0 <|
      ld (.agg [.int .u8, .int .i32, .int .i32, .int .i32]) x_3 fun (x_8 : (Int × Int × Int × Int)) =>
      retW (x_8, 1))
      (ld (.sc .ptr) r_1 fun (x_9 : Option Addr) =>
  ld (.sc (.int .u8)) kind_2 fun (x_10 : Int) =>
  callW Tryz.prog k_comp_back [.pointer x_9, .agg ⟨[.int .u8 x_10, .int .i32 0, .int .i32 0, .int .i32 0]⟩, .func (.func 175) #[] #[.pointer (some r_1), .pointer (some kind_2)]] [.agg [.int .u8, .int .i32, .int .i32, .int .i32], .sc (.int .i64)] fun (x_11 : (Int × Int × Int × Int) × Int) =>
  stoL x_3 [.int .u8 x_11.1.1, .int .i32 x_11.1.2.1, .int .i32 x_11.1.2.2.1, .int .i32 x_11.1.2.2.2] 0 <|
  ld (.agg [.int .u8, .int .i32, .int .i32, .int .i32]) x_3 fun (x_12 : (Int × Int × Int × Int)) =>
  retW (x_12, x_11.2)))
def H_comp_Get : Hints := {}
theorem E_comp_Get (r0 : Option Addr) (kind1 : Int) : denF Tryz.prog H_comp_Get Tryz.f147 [.agg [.int .u8, .int .i32, .int .i32, .int .i32], .sc (.int .i64)] [.pointer r0, .int .u8 kind1] = F_comp_Get r0 kind1 := by kernel_rfl
theorem C_comp_Get {R : Type} (r0 : Option Addr) (kind1 : Int) (K : Res [.agg [.int .u8, .int .i32, .int .i32, .int .i32], .sc (.int .i64)] → W R) (Q : R → World → Prop) (w : World) (h : F_comp_Get r0 kind1 (fun r w => K r Q w) w) : callW Tryz.prog k_comp_Get [.pointer r0, .int .u8 kind1] [.agg [.int .u8, .int .i32, .int .i32, .int .i32], .sc (.int .i64)] K Q w :=
  den_calls mix Tryz.func147 H_comp_Get (ts := [.agg [.int .u8, .int .i32, .int .i32, .int .i32], .sc (.int .i64)]) ⟨by kernel_rfl, trivial⟩ (by rw [Tryz.ntmps147]; simp) (by rw [E_comp_Get]; exact h)
def F_slices_SortStableFunc_Comp__diff_turn_c1 (x0 : Sl) : W (Unit) :=
  callW Tryz.prog k_slices_stableCmpFunc_Comp [.slice x0.a x0.n x0.c, .int .i64 (x0.n : Int), .func (.func 150) #[] #[]] [] fun (x_1 : Unit) =>
  retW ()
def H_slices_SortStableFunc_Comp__diff_turn_c1 : Hints := {}
theorem E_slices_SortStableFunc_Comp__diff_turn_c1 (x0 : Sl) : denF Tryz.prog H_slices_SortStableFunc_Comp__diff_turn_c1 Tryz.f149 [] [.slice x0.a x0.n x0.c, .func (.func 150) #[] #[]] = F_slices_SortStableFunc_Comp__diff_turn_c1 x0 := by kernel_rfl
theorem C_slices_SortStableFunc_Comp__diff_turn_c1 {R : Type} (x0 : Sl) (K : Res [] → W R) (Q : R → World → Prop) (w : World) (h : F_slices_SortStableFunc_Comp__diff_turn_c1 x0 (fun r w => K r Q w) w) : callW Tryz.prog k_slices_SortStableFunc_Comp [.slice x0.a x0.n x0.c, .func (.func 150) #[] #[]] [] K Q w :=
  den_calls mix Tryz.func149 H_slices_SortStableFunc_Comp__diff_turn_c1 (ts := []) trivial (by rw [Tryz.ntmps149]; simp) (by rw [E_slices_SortStableFunc_Comp__diff_turn_c1]; exact h)
def F_diff_turn_c1 (a0 : (Int × Int × Int × Int)) (b1 : (Int × Int × Int × Int)) : W (Int) :=
  newW 92 [.int .u8 a0.1, .int .i32 a0.2.1, .int .i32 a0.2.2.1, .int .i32 a0.2.2.2] fun a_1 =>
  newW 92 [.int .u8 b1.1, .int .i32 b1.2.1, .int .i32 b1.2.2.1, .int .i32 b1.2.2.2] fun b_2 =>
  ld (.sc (.int .u8)) (Addr.add a_1 0) fun (x_3 : Int) =>
  ld (.sc (.int .u8)) (Addr.add b_2 0) fun (x_4 : Int) =>
  callW Tryz.prog k_cmp_Compare_byte [.int .u8 x_3, .int .u8 x_4] [.sc (.int .i64)] fun (x_5 : Int) =>
  retW x_5
def H_diff_turn_c1 : Hints := {}
theorem E_diff_turn_c1 (a0 : (Int × Int × Int × Int)) (b1 : (Int × Int × Int × Int)) : denF Tryz.prog H_diff_turn_c1 Tryz.f150 [.sc (.int .i64)] [.agg ⟨[.int .u8 a0.1, .int .i32 a0.2.1, .int .i32 a0.2.2.1, .int .i32 a0.2.2.2]⟩, .agg ⟨[.int .u8 b1.1, .int .i32 b1.2.1, .int .i32 b1.2.2.1, .int .i32 b1.2.2.2]⟩] = F_diff_turn_c1 a0 b1 := by kernel_rfl
theorem C_diff_turn_c1 {R : Type} (a0 : (Int × Int × Int × Int)) (b1 : (Int × Int × Int × Int)) (K : Res [.sc (.int .i64)] → W R) (Q : R → World → Prop) (w : World) (h : F_diff_turn_c1 a0 b1 (fun r w => K r Q w) w) : callW Tryz.prog k_diff_turn_c1 [.agg ⟨[.int .u8 a0.1, .int .i32 a0.2.1, .int .i32 a0.2.2.1, .int .i32 a0.2.2.2]⟩, .agg ⟨[.int .u8 b1.1, .int .i32 b1.2.1, .int .i32 b1.2.2.1, .int .i32 b1.2.2.2]⟩] [.sc (.int .i64)] K Q w :=
  den_calls mix Tryz.func150 H_diff_turn_c1 (ts := [.sc (.int .i64)]) trivial (by rw [Tryz.ntmps150]; simp) (by rw [E_diff_turn_c1]; exact h)
def F_slices_stableCmpFunc_Ent__diff_Patch_c2 (data0 : Sl) (n1 : Int) : W (Unit) :=
  loopW (σ := Int × Int) (fun K_1 s_2 =>
    cond (decide (s_2.2 ≤ n1))
      (callW Tryz.prog k_slices_insertionSortCmpFunc_Ent [.slice data0.a data0.n data0.c, .int .i64 s_2.1, .int .i64 s_2.2, .func (.func 121) #[] #[]] [] fun (x_3 : Unit) =>
    K_1 (s_2.2, IntKind.wrap .i64 (s_2.2 + 20)))
      (callW Tryz.prog k_slices_insertionSortCmpFunc_Ent [.slice data0.a data0.n data0.c, .int .i64 s_2.1, .int .i64 n1, .func (.func 121) #[] #[]] [] fun (x_4 : Unit) =>
  loopW (σ := Int) (fun K_5 s_6 =>
    cond (decide (s_6 < n1))
      (loopW (σ := Int × Int) (fun K_7 s_8 =>
      cond (decide (s_8.2 ≤ n1))
        (callW Tryz.prog k_slices_symMergeCmpFunc_Ent [.slice data0.a data0.n data0.c, .int .i64 s_8.1, .int .i64 (IntKind.wrap .i64 (s_8.1 + s_6)), .int .i64 s_8.2, .func (.func 121) #[] #[]] [] fun (x_9 : Unit) =>
      K_7 (s_8.2, IntKind.wrap .i64 (s_8.2 + (IntKind.wrap .i64 (2 * s_6)))))
        (joinW (σ := Unit) (fun J_10 =>
      cond (decide ((IntKind.wrap .i64 (s_8.1 + s_6)) < n1))
        (callW Tryz.prog k_slices_symMergeCmpFunc_Ent [.slice data0.a data0.n data0.c, .int .i64 s_8.1, .int .i64 (IntKind.wrap .i64 (s_8.1 + s_6)), .int .i64 n1, .func (.func 121) #[] #[]] [] fun (x_11 : Unit) =>
        J_10 ())
        (J_10 ()))
    <| fun s_12 =>
    K_5 (IntKind.wrap .i64 (s_6 * 2))))
      (0, IntKind.wrap .i64 (2 * s_6)))
      (retW ()))
    20))
    (0, 20)
def H_slices_stableCmpFunc_Ent__diff_Patch_c2 : Hints := { con := [(16054, [])], lop := [(0, [(7, .sc (.int .i64)), (8, .sc (.int .i64))]), (2, [(6, .sc (.int .i64))]), (4, [(7, .sc (.int .i64)), (8, .sc (.int .i64))])] }
theorem E_slices_stableCmpFunc_Ent__diff_Patch_c2 (data0 : Sl) (n1 : Int) : denF Tryz.prog H_slices_stableCmpFunc_Ent__diff_Patch_c2 Tryz.f152 [] [.slice data0.a data0.n data0.c, .int .i64 n1, .func (.func 121) #[] #[]] = F_slices_stableCmpFunc_Ent__diff_Patch_c2 data0 n1 := by kernel_rfl
theorem C_slices_stableCmpFunc_Ent__diff_Patch_c2 {R : Type} (data0 : Sl) (n1 : Int) (K : Res [] → W R) (Q : R → World → Prop) (w : World) (h : F_slices_stableCmpFunc_Ent__diff_Patch_c2 data0 n1 (fun r w => K r Q w) w) : callW Tryz.prog k_slices_stableCmpFunc_Ent [.slice data0.a data0.n data0.c, .int .i64 n1, .func (.func 121) #[] #[]] [] K Q w :=
  den_calls mix Tryz.func152 H_slices_stableCmpFunc_Ent__diff_Patch_c2 (ts := []) trivial (by rw [Tryz.ntmps152]; simp) (by rw [E_slices_stableCmpFunc_Ent__diff_Patch_c2]; exact h)
def F_snap_Same (a0 : Sl) (b1 : Sl) : W (Bool) :=
  callW Tryz.prog k_slices_EqualFunc_Ent [.slice a0.a a0.n a0.c, .slice b1.a b1.n b1.c, .func (.func 182) #[] #[]] [.sc .bool] fun (x_1 : Bool) =>
  retW x_1
def H_snap_Same : Hints := {}
theorem E_snap_Same (a0 : Sl) (b1 : Sl) : denF Tryz.prog H_snap_Same Tryz.f155 [.sc .bool] [.slice a0.a a0.n a0.c, .slice b1.a b1.n b1.c] = F_snap_Same a0 b1 := by kernel_rfl
theorem C_snap_Same {R : Type} (a0 : Sl) (b1 : Sl) (K : Res [.sc .bool] → W R) (Q : R → World → Prop) (w : World) (h : F_snap_Same a0 b1 (fun r w => K r Q w) w) : callW Tryz.prog k_snap_Same [.slice a0.a a0.n a0.c, .slice b1.a b1.n b1.c] [.sc .bool] K Q w :=
  den_calls mix Tryz.func155 H_snap_Same (ts := [.sc .bool]) trivial (by rw [Tryz.ntmps155]; simp) (by rw [E_snap_Same]; exact h)
def F_slices_EqualFunc_Change__diff_same_c1 (s10 : Sl) (s21 : Sl) : W (Bool) :=
  cond ((s10.n : Int) != (s21.n : Int))
    (retW false)
    (loopW (σ := Int) (fun K_1 s_2 =>
    cond (decide (s_2 < (s10.n : Int)))
      (idxW s10.a s10.n 4 s_2 fun x_3 =>
    ld (.agg [.int .u32, .int .u8, .sl, .sl]) x_3 fun (x_4 : (Int × Int × Sl × Sl)) =>
    newW 86 [.int .u32 0, .int .u8 0, .slice none 0 0, .slice none 0 0] fun v1_5 =>
    stoL v1_5 [.int .u32 x_4.1, .int .u8 x_4.2.1, .slice x_4.2.2.1.a x_4.2.2.1.n x_4.2.2.1.c, .slice x_4.2.2.2.a x_4.2.2.2.n x_4.2.2.2.c] 0 <|
    idxW s21.a s21.n 4 s_2 fun x_6 =>
    ld (.agg [.int .u32, .int .u8, .sl, .sl]) x_6 fun (x_7 : (Int × Int × Sl × Sl)) =>
    newW 86 [.int .u32 0, .int .u8 0, .slice none 0 0, .slice none 0 0] fun v2_8 =>
    stoL v2_8 [.int .u32 x_7.1, .int .u8 x_7.2.1, .slice x_7.2.2.1.a x_7.2.2.1.n x_7.2.2.1.c, .slice x_7.2.2.2.a x_7.2.2.2.n x_7.2.2.2.c] 0 <|
    ld (.agg [.int .u32, .int .u8, .sl, .sl]) v1_5 fun (x_9 : (Int × Int × Sl × Sl)) =>
    ld (.agg [.int .u32, .int .u8, .sl, .sl]) v2_8 fun (x_10 : (Int × Int × Sl × Sl)) =>
    callW Tryz.prog k_diff_same_c1 [.agg ⟨[.int .u32 x_9.1, .int .u8 x_9.2.1, .slice x_9.2.2.1.a x_9.2.2.1.n x_9.2.2.1.c, .slice x_9.2.2.2.a x_9.2.2.2.n x_9.2.2.2.c]⟩, .agg ⟨[.int .u32 x_10.1, .int .u8 x_10.2.1, .slice x_10.2.2.1.a x_10.2.2.1.n x_10.2.2.1.c, .slice x_10.2.2.2.a x_10.2.2.2.n x_10.2.2.2.c]⟩] [.sc .bool] fun (x_11 : Bool) =>
    cond (!x_11)
      (retW false)
      (K_1 (IntKind.wrap .i64 (s_2 + 1))))
      (retW true))
    0)
def H_slices_EqualFunc_Change__diff_same_c1 : Hints := { lop := [(0, [(17, .sc (.int .i64))])] }
theorem E_slices_EqualFunc_Change__diff_same_c1 (s10 : Sl) (s21 : Sl) : denF Tryz.prog H_slices_EqualFunc_Change__diff_same_c1 Tryz.f156 [.sc .bool] [.slice s10.a s10.n s10.c, .slice s21.a s21.n s21.c, .func (.func 157) #[] #[]] = F_slices_EqualFunc_Change__diff_same_c1 s10 s21 := by kernel_rfl
theorem C_slices_EqualFunc_Change__diff_same_c1 {R : Type} (s10 : Sl) (s21 : Sl) (K : Res [.sc .bool] → W R) (Q : R → World → Prop) (w : World) (h : F_slices_EqualFunc_Change__diff_same_c1 s10 s21 (fun r w => K r Q w) w) : callW Tryz.prog k_slices_EqualFunc_Change [.slice s10.a s10.n s10.c, .slice s21.a s21.n s21.c, .func (.func 157) #[] #[]] [.sc .bool] K Q w :=
  den_calls mix Tryz.func156 H_slices_EqualFunc_Change__diff_same_c1 (ts := [.sc .bool]) trivial (by rw [Tryz.ntmps156]; simp) (by rw [E_slices_EqualFunc_Change__diff_same_c1]; exact h)
def F_diff_same_c1 (x0 : (Int × Int × Sl × Sl)) (y1 : (Int × Int × Sl × Sl)) : W (Bool) :=
  newW 86 [.int .u32 x0.1, .int .u8 x0.2.1, .slice x0.2.2.1.a x0.2.2.1.n x0.2.2.1.c, .slice x0.2.2.2.a x0.2.2.2.n x0.2.2.2.c] fun x_1 =>
  newW 86 [.int .u32 y1.1, .int .u8 y1.2.1, .slice y1.2.2.1.a y1.2.2.1.n y1.2.2.1.c, .slice y1.2.2.2.a y1.2.2.2.n y1.2.2.2.c] fun y_2 =>
  joinW (σ := Bool) (fun J_3 =>
    ld (.sc (.int .u32)) (Addr.add x_1 0) fun (x_4 : Int) =>
    ld (.sc (.int .u32)) (Addr.add y_2 0) fun (x_5 : Int) =>
    cond (x_4 == x_5)
      (ld (.sc (.int .u8)) (Addr.add x_1 1) fun (x_6 : Int) =>
        ld (.sc (.int .u8)) (Addr.add y_2 1) fun (x_7 : Int) =>
            cond (x_6 == x_7)
                (ld (.sc .sl) (Addr.add x_1 2) fun (x_8 : Sl) =>
                  ld (.sc .sl) (Addr.add y_2 2) fun (x_9 : Sl) =>
                      callW Tryz.prog k_slices_Equal_Comp [.slice x_8.a x_8.n x_8.c, .slice x_9.a x_9.n x_9.c] [.sc .bool] fun (x_10 : Bool) =>
                        cond x_10
                          (ld (.sc .sl) (Addr.add x_1 3) fun (x_11 : Sl) =>
                            ld (.sc .sl) (Addr.add y_2 3) fun (x_12 : Sl) =>
                                callW Tryz.prog k_slices_Equal_Comp [.slice x_11.a x_11.n x_11.c, .slice x_12.a x_12.n x_12.c] [.sc .bool] fun (x_13 : Bool) =>
                                  J_3 x_13)
                          (J_3 false))
                (J_3 false))
      (J_3 false))
  <| fun s_14 =>
  retW s_14
def H_diff_same_c1 : Hints := { reg := [(1, [(4, .sc .bool)])] }
theorem E_diff_same_c1 (x0 : (Int × Int × Sl × Sl)) (y1 : (Int × Int × Sl × Sl)) : denF Tryz.prog H_diff_same_c1 Tryz.f157 [.sc .bool] [.agg ⟨[.int .u32 x0.1, .int .u8 x0.2.1, .slice x0.2.2.1.a x0.2.2.1.n x0.2.2.1.c, .slice x0.2.2.2.a x0.2.2.2.n x0.2.2.2.c]⟩, .agg ⟨[.int .u32 y1.1, .int .u8 y1.2.1, .slice y1.2.2.1.a y1.2.2.1.n y1.2.2.1.c, .slice y1.2.2.2.a y1.2.2.2.n y1.2.2.2.c]⟩] = F_diff_same_c1 x0 y1 := by kernel_rfl
theorem C_diff_same_c1 {R : Type} (x0 : (Int × Int × Sl × Sl)) (y1 : (Int × Int × Sl × Sl)) (K : Res [.sc .bool] → W R) (Q : R → World → Prop) (w : World) (h : F_diff_same_c1 x0 y1 (fun r w => K r Q w) w) : callW Tryz.prog k_diff_same_c1 [.agg ⟨[.int .u32 x0.1, .int .u8 x0.2.1, .slice x0.2.2.1.a x0.2.2.1.n x0.2.2.1.c, .slice x0.2.2.2.a x0.2.2.2.n x0.2.2.2.c]⟩, .agg ⟨[.int .u32 y1.1, .int .u8 y1.2.1, .slice y1.2.2.1.a y1.2.2.1.n y1.2.2.1.c, .slice y1.2.2.2.a y1.2.2.2.n y1.2.2.2.c]⟩] [.sc .bool] K Q w :=
  den_calls mix Tryz.func157 H_diff_same_c1 (ts := [.sc .bool]) trivial (by rw [Tryz.ntmps157]; simp) (by rw [E_diff_same_c1]; exact h)
def F_slices_Clone_Ent (s0 : Sl) : W (Sl) :=
  cond (Option.isNone s0.a)
    (retW (⟨none, 0, 0⟩ : Sl))
    (newW 57 [] fun x_1 =>
  rawW Tryz.prog (Builtin.append_ #[23, 23] 23 #[.slice (some x_1) 0 0, .slice s0.a s0.n s0.c]) [.sc .sl] fun (x_2 : Sl) =>
  retW x_2)
def H_slices_Clone_Ent : Hints := {}
theorem E_slices_Clone_Ent (s0 : Sl) : denF Tryz.prog H_slices_Clone_Ent Tryz.f159 [.sc .sl] [.slice s0.a s0.n s0.c] = F_slices_Clone_Ent s0 := by kernel_rfl
theorem C_slices_Clone_Ent {R : Type} (s0 : Sl) (K : Res [.sc .sl] → W R) (Q : R → World → Prop) (w : World) (h : F_slices_Clone_Ent s0 (fun r w => K r Q w) w) : callW Tryz.prog k_slices_Clone_Ent [.slice s0.a s0.n s0.c] [.sc .sl] K Q w :=
  den_calls mix Tryz.func159 H_slices_Clone_Ent (ts := [.sc .sl]) trivial (by rw [Tryz.ntmps159]; simp) (by rw [E_slices_Clone_Ent]; exact h)
def F_comp_back__comp_GetStep_c1 (r0 : Option Addr) (c1 : (Int × Int × Int × Int)) (one2c0 : Option Addr) (one2c1 : Option Addr) : W ((Int × Int × Int × Int) × Int) :=
  newW 92 [.int .u8 c1.1, .int .i32 c1.2.1, .int .i32 c1.2.2.1, .int .i32 c1.2.2.2] fun c_1 =>
  newW 92 [.int .u8 0, .int .i32 0, .int .i32 0, .int .i32 0] fun x_2 =>
  ptrW r0 fun x_3 =>
  ld (.agg [.sl, .int .i64]) x_3 fun (x_4 : (Sl × Int)) =>
  newW 173 [.slice none 0 0, .int .i64 0] fun was_5 =>
  stoL was_5 [.slice x_4.1.a x_4.1.n x_4.1.c, .int .i64 x_4.2] 0 <|
  ld (.sc (.int .u8)) (Addr.add c_1 0) fun (x_6 : Int) =>
  callW Tryz.prog k_schema_Count [.int .u8 x_6] [.sc (.int .i64)] fun (x_7 : Int) =>
  loopW (σ := Int) (fun K_8 s_9 =>
    cond (decide (s_9 < x_7))
      (callW Tryz.prog k_comp_GetStep_c1 [.int .i64 s_9, .pointer one2c0, .pointer one2c1] [.sc (.int .i32), .sc (.int .i64)] fun (x_10 : Int × Int) =>
    cond (x_10.2 != 0)
      (ld (.agg [.sl, .int .i64]) was_5 fun (x_11 : (Sl × Int)) =>
      ptrW r0 fun x_12 =>
      stoL x_12 [.slice x_11.1.a x_11.1.n x_11.1.c, .int .i64 x_11.2] 0 <|
      stoL x_2 [.int .u8 0, .int .i32 0, .int .i32 0, .int .i32 0] 0 <|
      ld (.agg [.int .u8, .int .i32, .int .i32, .int .i32]) x_2 fun (x_13 : (Int × Int × Int × Int)) =>
      retW (x_13, x_10.2))
      (idxW (some (Addr.add c_1 1)) 3 1 s_9 fun x_14 =>
    stoL x_14 [.int .i32 x_10.1] 0 <|
    K_8 (IntKind.wrap .i64 (s_9 + 1))))
      (ld (.agg [.int .u8, .int .i32, .int .i32, .int .i32]) c_1 fun (x_15 : (Int × Int × Int × Int)) =>
  stoL x_2 [.int .u8 x_15.1, .int .i32 x_15.2.1, .int .i32 x_15.2.2.1, .int .i32 x_15.2.2.2] 0 <|
  ld (.agg [.int .u8, .int .i32, .int .i32, .int .i32]) x_2 fun (x_16 : (Int × Int × Int × Int)) =>
  retW (x_16, 0)))
    0
def H_comp_back__comp_GetStep_c1 : Hints := { lop := [(0, [(18, .sc (.int .i64))])] }
theorem E_comp_back__comp_GetStep_c1 (r0 : Option Addr) (c1 : (Int × Int × Int × Int)) (one2c0 : Option Addr) (one2c1 : Option Addr) : denF Tryz.prog H_comp_back__comp_GetStep_c1 Tryz.f160 [.agg [.int .u8, .int .i32, .int .i32, .int .i32], .sc (.int .i64)] [.pointer r0, .agg ⟨[.int .u8 c1.1, .int .i32 c1.2.1, .int .i32 c1.2.2.1, .int .i32 c1.2.2.2]⟩, .func (.func 161) #[] #[.pointer one2c0, .pointer one2c1]] = F_comp_back__comp_GetStep_c1 r0 c1 one2c0 one2c1 := by kernel_rfl
theorem C_comp_back__comp_GetStep_c1 {R : Type} (r0 : Option Addr) (c1 : (Int × Int × Int × Int)) (one2c0 : Option Addr) (one2c1 : Option Addr) (K : Res [.agg [.int .u8, .int .i32, .int .i32, .int .i32], .sc (.int .i64)] → W R) (Q : R → World → Prop) (w : World) (h : F_comp_back__comp_GetStep_c1 r0 c1 one2c0 one2c1 (fun r w => K r Q w) w) : callW Tryz.prog k_comp_back [.pointer r0, .agg ⟨[.int .u8 c1.1, .int .i32 c1.2.1, .int .i32 c1.2.2.1, .int .i32 c1.2.2.2]⟩, .func (.func 161) #[] #[.pointer one2c0, .pointer one2c1]] [.agg [.int .u8, .int .i32, .int .i32, .int .i32], .sc (.int .i64)] K Q w :=
  den_calls mix Tryz.func160 H_comp_back__comp_GetStep_c1 (ts := [.agg [.int .u8, .int .i32, .int .i32, .int .i32], .sc (.int .i64)]) ⟨by kernel_rfl, trivial⟩ (by rw [Tryz.ntmps160]; simp) (by rw [E_comp_back__comp_GetStep_c1]; exact h)
def F_comp_back__comp_Get_c1 (r0 : Option Addr) (c1 : (Int × Int × Int × Int)) (one2c0 : Option Addr) (one2c1 : Option Addr) : W ((Int × Int × Int × Int) × Int) :=
  newW 92 [.int .u8 c1.1, .int .i32 c1.2.1, .int .i32 c1.2.2.1, .int .i32 c1.2.2.2] fun c_1 =>
  newW 92 [.int .u8 0, .int .i32 0, .int .i32 0, .int .i32 0] fun x_2 =>
  ptrW r0 fun x_3 =>
  ld (.agg [.sl, .int .i64]) x_3 fun (x_4 : (Sl × Int)) =>
  newW 173 [.slice none 0 0, .int .i64 0] fun was_5 =>
  stoL was_5 [.slice x_4.1.a x_4.1.n x_4.1.c, .int .i64 x_4.2] 0 <|
  ld (.sc (.int .u8)) (Addr.add c_1 0) fun (x_6 : Int) =>
  callW Tryz.prog k_schema_Count [.int .u8 x_6] [.sc (.int .i64)] fun (x_7 : Int) =>
  loopW (σ := Int) (fun K_8 s_9 =>
    cond (decide (s_9 < x_7))
      (callW Tryz.prog k_comp_Get_c1 [.int .i64 s_9, .pointer one2c0, .pointer one2c1] [.sc (.int .i32), .sc (.int .i64)] fun (x_10 : Int × Int) =>
    cond (x_10.2 != 0)
      (ld (.agg [.sl, .int .i64]) was_5 fun (x_11 : (Sl × Int)) =>
      ptrW r0 fun x_12 =>
      stoL x_12 [.slice x_11.1.a x_11.1.n x_11.1.c, .int .i64 x_11.2] 0 <|
      stoL x_2 [.int .u8 0, .int .i32 0, .int .i32 0, .int .i32 0] 0 <|
      ld (.agg [.int .u8, .int .i32, .int .i32, .int .i32]) x_2 fun (x_13 : (Int × Int × Int × Int)) =>
      retW (x_13, x_10.2))
      (idxW (some (Addr.add c_1 1)) 3 1 s_9 fun x_14 =>
    stoL x_14 [.int .i32 x_10.1] 0 <|
    K_8 (IntKind.wrap .i64 (s_9 + 1))))
      (ld (.agg [.int .u8, .int .i32, .int .i32, .int .i32]) c_1 fun (x_15 : (Int × Int × Int × Int)) =>
  stoL x_2 [.int .u8 x_15.1, .int .i32 x_15.2.1, .int .i32 x_15.2.2.1, .int .i32 x_15.2.2.2] 0 <|
  ld (.agg [.int .u8, .int .i32, .int .i32, .int .i32]) x_2 fun (x_16 : (Int × Int × Int × Int)) =>
  retW (x_16, 0)))
    0
def H_comp_back__comp_Get_c1 : Hints := { lop := [(0, [(18, .sc (.int .i64))])] }
theorem E_comp_back__comp_Get_c1 (r0 : Option Addr) (c1 : (Int × Int × Int × Int)) (one2c0 : Option Addr) (one2c1 : Option Addr) : denF Tryz.prog H_comp_back__comp_Get_c1 Tryz.f160 [.agg [.int .u8, .int .i32, .int .i32, .int .i32], .sc (.int .i64)] [.pointer r0, .agg ⟨[.int .u8 c1.1, .int .i32 c1.2.1, .int .i32 c1.2.2.1, .int .i32 c1.2.2.2]⟩, .func (.func 175) #[] #[.pointer one2c0, .pointer one2c1]] = F_comp_back__comp_Get_c1 r0 c1 one2c0 one2c1 := by kernel_rfl
theorem C_comp_back__comp_Get_c1 {R : Type} (r0 : Option Addr) (c1 : (Int × Int × Int × Int)) (one2c0 : Option Addr) (one2c1 : Option Addr) (K : Res [.agg [.int .u8, .int .i32, .int .i32, .int .i32], .sc (.int .i64)] → W R) (Q : R → World → Prop) (w : World) (h : F_comp_back__comp_Get_c1 r0 c1 one2c0 one2c1 (fun r w => K r Q w) w) : callW Tryz.prog k_comp_back [.pointer r0, .agg ⟨[.int .u8 c1.1, .int .i32 c1.2.1, .int .i32 c1.2.2.1, .int .i32 c1.2.2.2]⟩, .func (.func 175) #[] #[.pointer one2c0, .pointer one2c1]] [.agg [.int .u8, .int .i32, .int .i32, .int .i32], .sc (.int .i64)] K Q w :=
  den_calls mix Tryz.func160 H_comp_back__comp_Get_c1 (ts := [.agg [.int .u8, .int .i32, .int .i32, .int .i32], .sc (.int .i64)]) ⟨by kernel_rfl, trivial⟩ (by rw [Tryz.ntmps160]; simp) (by rw [E_comp_back__comp_Get_c1]; exact h)
def F_comp_GetStep_c1 (i0 : Int) (c1 : Option Addr) (c2 : Option Addr) : W (Int × Int) :=
  ptrW c1 fun x_1 =>
  ld (.sc .ptr) x_1 fun (x_2 : Option Addr) =>
  ptrW c2 fun x_3 =>
  ld (.agg [.int .u8, .int .i32, .int .i32, .int .i32]) x_3 fun (x_4 : (Int × Int × Int × Int)) =>
  callW Tryz.prog k_comp_moved [.pointer x_2, .agg ⟨[.int .u8 x_4.1, .int .i32 x_4.2.1, .int .i32 x_4.2.2.1, .int .i32 x_4.2.2.2]⟩, .int .i64 i0] [.sc (.int .i32), .sc (.int .i64)] fun (x_5 : Int × Int) =>
  retW (x_5.1, x_5.2)
def H_comp_GetStep_c1 : Hints := {}
theorem E_comp_GetStep_c1 (i0 : Int) (c1 : Option Addr) (c2 : Option Addr) : denF Tryz.prog H_comp_GetStep_c1 Tryz.f161 [.sc (.int .i32), .sc (.int .i64)] [.int .i64 i0, .pointer c1, .pointer c2] = F_comp_GetStep_c1 i0 c1 c2 := by kernel_rfl
theorem C_comp_GetStep_c1 {R : Type} (i0 : Int) (c1 : Option Addr) (c2 : Option Addr) (K : Res [.sc (.int .i32), .sc (.int .i64)] → W R) (Q : R → World → Prop) (w : World) (h : F_comp_GetStep_c1 i0 c1 c2 (fun r w => K r Q w) w) : callW Tryz.prog k_comp_GetStep_c1 [.int .i64 i0, .pointer c1, .pointer c2] [.sc (.int .i32), .sc (.int .i64)] K Q w :=
  den_calls mix Tryz.func161 H_comp_GetStep_c1 (ts := [.sc (.int .i32), .sc (.int .i64)]) trivial (by rw [Tryz.ntmps161]; simp) (by rw [E_comp_GetStep_c1]; exact h)
def F_comp_moved (d0 : Option Addr) (o1 : (Int × Int × Int × Int)) (p2 : Int) : W (Int × Int) :=
  newW 92 [.int .u8 o1.1, .int .i32 o1.2.1, .int .i32 o1.2.2.1, .int .i32 o1.2.2.2] fun x_1 =>
  callW Tryz.prog k_bits_Reader_Get [.pointer d0, .int .i64 1] [.sc (.int .u64), .sc (.int .i64)] fun (x_2 : Int × Int) =>
  joinW (σ := Bool) (fun J_3 =>
    cond (x_2.2 != 0)
      (J_3 true)
      (J_3 (x_2.1 == 0)))
  <| fun s_4 =>
  cond s_4
    (idxW (some (Addr.add x_1 1)) 3 1 p2 fun x_5 =>
    ld (.sc (.int .i32)) x_5 fun (x_6 : Int) =>
    retW (x_6, x_2.2))
    (callW Tryz.prog k_bits_Reader_Get [.pointer d0, .int .i64 1] [.sc (.int .u64), .sc (.int .i64)] fun (x_7 : Int × Int) =>
  cond (x_7.2 != 0)
    (retW (0, x_7.2))
    (cond (x_7.1 == 0)
    (ld (.sc (.int .u8)) (Addr.add x_1 0) fun (x_8 : Int) =>
    callW Tryz.prog k_comp_in [.pointer d0, .int .u8 x_8, .int .i64 p2] [.sc (.int .i32), .sc (.int .i64)] fun (x_9 : Int × Int) =>
    joinW (σ := Bool) (fun J_10 =>
      cond (x_9.2 == 0)
        (idxW (some (Addr.add x_1 1)) 3 1 p2 fun x_11 =>
                ld (.sc (.int .i32)) x_11 fun (x_12 : Int) =>
                  callW Tryz.prog k_nums_Zig [.int .i64 (IntKind.wrap .i64 ((IntKind.wrap .i64 x_9.1) - (IntKind.wrap .i64 x_12)))] [.sc (.int .u64)] fun (x_13 : Int) =>
                        J_10 (decide (x_13 ≤ 16)))
        (J_10 false))
    <| fun s_14 =>
    cond s_14
      (retW (0, 4))
      (retW (x_9.1, x_9.2)))
    (callW Tryz.prog k_bits_Reader_Get [.pointer d0, .int .i64 4] [.sc (.int .u64), .sc (.int .i64)] fun (x_15 : Int × Int) =>
  cond (x_15.2 != 0)
    (retW (0, x_15.2))
    (drawW <|
  idxW (some (Addr.add x_1 1)) 3 1 p2 fun x_16 =>
  ld (.sc (.int .i32)) x_16 fun (x_17 : Int) =>
  callW Tryz.prog k_nums_Zag [.int .u64 (IntKind.wrap .u64 (x_15.1 + 1))] [.sc (.int .i64)] fun (x_18 : Int) =>
  andW (fun w => Rd w x_16 (.sc (.int .i32)) x_17) <|
  ld (.sc (.int .u8)) (Addr.add x_1 0) fun (x_19 : Int) =>
  callW Tryz.prog k_schema_Range [.int .u8 x_19, .int .i64 p2] [.sc (.int .i32), .sc (.int .i32), .sc (.int .i64)] fun (x_20 : Int × Int × Int) =>
  joinW (σ := Bool) (fun J_21 =>
    cond (decide ((IntKind.wrap .i64 ((IntKind.wrap .i64 x_17) + x_18)) < (IntKind.wrap .i64 x_20.1)))
      (J_21 true)
      (J_21 (decide ((IntKind.wrap .i64 ((IntKind.wrap .i64 x_17) + x_18)) > (IntKind.wrap .i64 x_20.2.1)))))
  <| fun s_22 =>
  cond s_22
    (retW (0, 5))
    (retW (IntKind.wrap .i32 (IntKind.wrap .i64 ((IntKind.wrap .i64 x_17) + x_18)), 0))))))
def H_comp_moved : Hints := { reg := [(2, [(29, .sc .bool)]), (9, [(66, .sc .bool)]), (17, [(103, .sc .bool)])], dr := [(15, ([], [[(0, []), (1, []), (2, []), (3, []), (4, []), (5, []), (6, []), (7, [3]), (8, []), (9, [])]]))] }
theorem E_comp_moved (d0 : Option Addr) (o1 : (Int × Int × Int × Int)) (p2 : Int) : denF Tryz.prog H_comp_moved Tryz.f162 [.sc (.int .i32), .sc (.int .i64)] [.pointer d0, .agg ⟨[.int .u8 o1.1, .int .i32 o1.2.1, .int .i32 o1.2.2.1, .int .i32 o1.2.2.2]⟩, .int .i64 p2] = F_comp_moved d0 o1 p2 := by kernel_rfl
theorem C_comp_moved {R : Type} (d0 : Option Addr) (o1 : (Int × Int × Int × Int)) (p2 : Int) (K : Res [.sc (.int .i32), .sc (.int .i64)] → W R) (Q : R → World → Prop) (w : World) (h : F_comp_moved d0 o1 p2 (fun r w => K r Q w) w) : callW Tryz.prog k_comp_moved [.pointer d0, .agg ⟨[.int .u8 o1.1, .int .i32 o1.2.1, .int .i32 o1.2.2.1, .int .i32 o1.2.2.2]⟩, .int .i64 p2] [.sc (.int .i32), .sc (.int .i64)] K Q w :=
  den_calls mix Tryz.func162 H_comp_moved (ts := [.sc (.int .i32), .sc (.int .i64)]) trivial (by rw [Tryz.ntmps162]; simp) (by rw [E_comp_moved]; exact h)
def F_comp_whole (c0 : (Int × Int × Int × Int)) : W (Sl) :=
  newW 92 [.int .u8 c0.1, .int .i32 c0.2.1, .int .i32 c0.2.2.1, .int .i32 c0.2.2.2] fun c_1 =>
  ld (.sc (.int .u8)) (Addr.add c_1 0) fun (x_2 : Int) =>
  callW Tryz.prog k_schema_Count [.int .u8 x_2] [.sc (.int .i64)] fun (x_3 : Int) =>
  loopW (σ := Sl × Int) (fun K_4 s_5 =>
    cond (decide (s_5.2 < x_3))
      (ld (.agg [.int .u8, .int .i32, .int .i32, .int .i32]) c_1 fun (x_6 : (Int × Int × Int × Int)) =>
    callW Tryz.prog k_comp_field [.agg ⟨[.int .u8 x_6.1, .int .i32 x_6.2.1, .int .i32 x_6.2.2.1, .int .i32 x_6.2.2.2]⟩, .int .i64 s_5.2] [.agg [.int .u64, .int .i64]] fun (x_7 : (Int × Int)) =>
    newW 231 [.int .u64 x_7.1, .int .i64 x_7.2] fun x_8 =>
    rawW Tryz.prog (Builtin.append_ #[202, 202] 202 #[.slice s_5.1.a s_5.1.n s_5.1.c, .slice (some x_8) 1 1]) [.sc .sl] fun (x_9 : Sl) =>
    K_4 (x_9, IntKind.wrap .i64 (s_5.2 + 1)))
      (retW s_5.1))
    ((⟨none, 0, 0⟩ : Sl), 0)
def H_comp_whole : Hints := { lop := [(0, [(3, .sc .sl), (8, .sc (.int .i64))])] }
theorem E_comp_whole (c0 : (Int × Int × Int × Int)) : denF Tryz.prog H_comp_whole Tryz.f164 [.sc .sl] [.agg ⟨[.int .u8 c0.1, .int .i32 c0.2.1, .int .i32 c0.2.2.1, .int .i32 c0.2.2.2]⟩] = F_comp_whole c0 := by kernel_rfl
theorem C_comp_whole {R : Type} (c0 : (Int × Int × Int × Int)) (K : Res [.sc .sl] → W R) (Q : R → World → Prop) (w : World) (h : F_comp_whole c0 (fun r w => K r Q w) w) : callW Tryz.prog k_comp_whole [.agg ⟨[.int .u8 c0.1, .int .i32 c0.2.1, .int .i32 c0.2.2.1, .int .i32 c0.2.2.2]⟩] [.sc .sl] K Q w :=
  den_calls mix Tryz.func164 H_comp_whole (ts := [.sc .sl]) trivial (by rw [Tryz.ntmps164]; simp) (by rw [E_comp_whole]; exact h)
def F_diff_find_c1 (c0 : (Int × Int × Int × Int)) (c1 : Option Addr) : W (Bool) :=
  newW 92 [.int .u8 c0.1, .int .i32 c0.2.1, .int .i32 c0.2.2.1, .int .i32 c0.2.2.2] fun c_1 =>
  ld (.sc (.int .u8)) (Addr.add c_1 0) fun (x_2 : Int) =>
  ptrW c1 fun x_3 =>
  ld (.sc (.int .u8)) x_3 fun (x_4 : Int) =>
  retW (x_2 == x_4)
def H_diff_find_c1 : Hints := {}
theorem E_diff_find_c1 (c0 : (Int × Int × Int × Int)) (c1 : Option Addr) : denF Tryz.prog H_diff_find_c1 Tryz.f165 [.sc .bool] [.agg ⟨[.int .u8 c0.1, .int .i32 c0.2.1, .int .i32 c0.2.2.1, .int .i32 c0.2.2.2]⟩, .pointer c1] = F_diff_find_c1 c0 c1 := by kernel_rfl
theorem C_diff_find_c1 {R : Type} (c0 : (Int × Int × Int × Int)) (c1 : Option Addr) (K : Res [.sc .bool] → W R) (Q : R → World → Prop) (w : World) (h : F_diff_find_c1 c0 c1 (fun r w => K r Q w) w) : callW Tryz.prog k_diff_find_c1 [.agg ⟨[.int .u8 c0.1, .int .i32 c0.2.1, .int .i32 c0.2.2.1, .int .i32 c0.2.2.2]⟩, .pointer c1] [.sc .bool] K Q w :=
  den_calls mix Tryz.func165 H_diff_find_c1 (ts := [.sc .bool]) trivial (by rw [Tryz.ntmps165]; simp) (by rw [E_diff_find_c1]; exact h)
def F_comp_size (l0 : Sl) : W (Int) :=
  loopW (σ := Int × Int) (fun K_1 s_2 =>
    cond (decide (s_2.2 < (l0.n : Int)))
      (idxW l0.a l0.n 2 s_2.2 fun x_3 =>
    ld (.agg [.int .u64, .int .i64]) x_3 fun (x_4 : (Int × Int)) =>
    newW 231 [.int .u64 0, .int .i64 0] fun p_5 =>
    stoL p_5 [.int .u64 x_4.1, .int .i64 x_4.2] 0 <|
    ld (.sc (.int .i64)) (Addr.add p_5 1) fun (x_6 : Int) =>
    K_1 (IntKind.wrap .i64 (s_2.1 + x_6), IntKind.wrap .i64 (s_2.2 + 1)))
      (retW s_2.1))
    (0, 0)
def H_comp_size : Hints := { lop := [(0, [(3, .sc (.int .i64)), (8, .sc (.int .i64))])] }
theorem E_comp_size (l0 : Sl) : denF Tryz.prog H_comp_size Tryz.f166 [.sc (.int .i64)] [.slice l0.a l0.n l0.c] = F_comp_size l0 := by kernel_rfl
theorem C_comp_size {R : Type} (l0 : Sl) (K : Res [.sc (.int .i64)] → W R) (Q : R → World → Prop) (w : World) (h : F_comp_size l0 (fun r w => K r Q w) w) : callW Tryz.prog k_comp_size [.slice l0.a l0.n l0.c] [.sc (.int .i64)] K Q w :=
  den_calls mix Tryz.func166 H_comp_size (ts := [.sc (.int .i64)]) trivial (by rw [Tryz.ntmps166]; simp) (by rw [E_comp_size]; exact h)
def F_comp_more (was0 : (Int × Int × Int × Int)) (c1 : (Int × Int × Int × Int)) (i2 : Int) : W (Int) :=
  newW 92 [.int .u8 was0.1, .int .i32 was0.2.1, .int .i32 was0.2.2.1, .int .i32 was0.2.2.2] fun was_1 =>
  newW 92 [.int .u8 c1.1, .int .i32 c1.2.1, .int .i32 c1.2.2.1, .int .i32 c1.2.2.2] fun c_2 =>
  drawW <|
  idxW (some (Addr.add c_2 1)) 3 1 i2 fun x_3 =>
  ld (.sc (.int .i32)) x_3 fun (x_4 : Int) =>
  idxW (some (Addr.add was_1 1)) 3 1 i2 fun x_5 =>
  ld (.sc (.int .i32)) x_5 fun (x_6 : Int) =>
  callW Tryz.prog k_nums_Zig [.int .i64 (IntKind.wrap .i64 ((IntKind.wrap .i64 x_4) - (IntKind.wrap .i64 x_6)))] [.sc (.int .u64)] fun (x_7 : Int) =>
  retW x_7
def H_comp_more : Hints := { dr := [(1, ([], [[(0, []), (1, []), (2, []), (3, []), (4, []), (5, []), (6, []), (7, []), (8, []), (9, []), (10, []), (11, []), (12, [])]]))] }
theorem E_comp_more (was0 : (Int × Int × Int × Int)) (c1 : (Int × Int × Int × Int)) (i2 : Int) : denF Tryz.prog H_comp_more Tryz.f168 [.sc (.int .u64)] [.agg ⟨[.int .u8 was0.1, .int .i32 was0.2.1, .int .i32 was0.2.2.1, .int .i32 was0.2.2.2]⟩, .agg ⟨[.int .u8 c1.1, .int .i32 c1.2.1, .int .i32 c1.2.2.1, .int .i32 c1.2.2.2]⟩, .int .i64 i2] = F_comp_more was0 c1 i2 := by kernel_rfl
theorem C_comp_more {R : Type} (was0 : (Int × Int × Int × Int)) (c1 : (Int × Int × Int × Int)) (i2 : Int) (K : Res [.sc (.int .u64)] → W R) (Q : R → World → Prop) (w : World) (h : F_comp_more was0 c1 i2 (fun r w => K r Q w) w) : callW Tryz.prog k_comp_more [.agg ⟨[.int .u8 was0.1, .int .i32 was0.2.1, .int .i32 was0.2.2.1, .int .i32 was0.2.2.2]⟩, .agg ⟨[.int .u8 c1.1, .int .i32 c1.2.1, .int .i32 c1.2.2.1, .int .i32 c1.2.2.2]⟩, .int .i64 i2] [.sc (.int .u64)] K Q w :=
  den_calls mix Tryz.func168 H_comp_more (ts := [.sc (.int .u64)]) trivial (by rw [Tryz.ntmps168]; simp) (by rw [E_comp_more]; exact h)
def F_comp_field (c0 : (Int × Int × Int × Int)) (i1 : Int) : W ((Int × Int)) :=
  newW 92 [.int .u8 c0.1, .int .i32 c0.2.1, .int .i32 c0.2.2.1, .int .i32 c0.2.2.2] fun c_1 =>
  newW 231 [.int .u64 0, .int .i64 0] fun x_2 =>
  ld (.sc (.int .u8)) (Addr.add c_1 0) fun (x_3 : Int) =>
  callW Tryz.prog k_schema_Range [.int .u8 x_3, .int .i64 i1] [.sc (.int .i32), .sc (.int .i32), .sc (.int .i64)] fun (x_4 : Int × Int × Int) =>
  drawW <|
  idxW (some (Addr.add c_1 1)) 3 1 i1 fun x_5 =>
  ld (.sc (.int .i32)) x_5 fun (x_6 : Int) =>
  callW Tryz.prog k_nums_Width [.int .i64 (IntKind.wrap .i64 x_4.1), .int .i64 (IntKind.wrap .i64 x_4.2.1)] [.sc (.int .i64)] fun (x_7 : Int) =>
  andW (fun w => Rd w x_5 (.sc (.int .i32)) x_6) <|
  stoL x_2 [.int .u64 (IntKind.wrap .u64 (IntKind.wrap .i64 ((IntKind.wrap .i64 x_6) - (IntKind.wrap .i64 x_4.1)))), .int .i64 x_7] 0 <|
  ld (.agg [.int .u64, .int .i64]) x_2 fun (x_8 : (Int × Int)) =>
  retW x_8
def H_comp_field : Hints := { dr := [(2, ([], [[(0, []), (1, []), (2, []), (3, []), (4, []), (5, []), (6, []), (7, []), (8, []), (9, []), (10, []), (11, []), (12, []), (13, [3]), (14, []), (15, [])]]))] }
theorem E_comp_field (c0 : (Int × Int × Int × Int)) (i1 : Int) : denF Tryz.prog H_comp_field Tryz.f169 [.agg [.int .u64, .int .i64]] [.agg ⟨[.int .u8 c0.1, .int .i32 c0.2.1, .int .i32 c0.2.2.1, .int .i32 c0.2.2.2]⟩, .int .i64 i1] = F_comp_field c0 i1 := by kernel_rfl
theorem C_comp_field {R : Type} (c0 : (Int × Int × Int × Int)) (i1 : Int) (K : Res [.agg [.int .u64, .int .i64]] → W R) (Q : R → World → Prop) (w : World) (h : F_comp_field c0 i1 (fun r w => K r Q w) w) : callW Tryz.prog k_comp_field [.agg ⟨[.int .u8 c0.1, .int .i32 c0.2.1, .int .i32 c0.2.2.1, .int .i32 c0.2.2.2]⟩, .int .i64 i1] [.agg [.int .u64, .int .i64]] K Q w :=
  den_calls mix Tryz.func169 H_comp_field (ts := [.agg [.int .u64, .int .i64]]) ⟨by kernel_rfl, trivial⟩ (by rw [Tryz.ntmps169]; simp) (by rw [E_comp_field]; exact h)
def F_slices_BinarySearchFunc_Ent__snap_Find_c1 (x0 : Sl) (target1 : Int) : W (Int × Bool) :=
  loopW (σ := Int × Int) (fun K_1 s_2 =>
    cond (decide (s_2.1 < s_2.2))
      (idxW x0.a x0.n 2 (IntKind.wrap .i64 (shR .u64 (IntKind.wrap .u64 (IntKind.wrap .i64 (s_2.1 + s_2.2))) 1)) fun x_3 =>
    ld (.agg [.int .u32, .sl]) x_3 fun (x_4 : (Int × Sl)) =>
    callW Tryz.prog k_snap_Find_c1 [.agg ⟨[.int .u32 x_4.1, .slice x_4.2.a x_4.2.n x_4.2.c]⟩, .int .u32 target1] [.sc (.int .i64)] fun (x_5 : Int) =>
    joinW (σ := Int × Int) (fun J_6 =>
      cond (decide (x_5 < 0))
        (J_6 (IntKind.wrap .i64 ((IntKind.wrap .i64 (shR .u64 (IntKind.wrap .u64 (IntKind.wrap .i64 (s_2.1 + s_2.2))) 1)) + 1), s_2.2))
        (J_6 (s_2.1, IntKind.wrap .i64 (shR .u64 (IntKind.wrap .u64 (IntKind.wrap .i64 (s_2.1 + s_2.2))) 1))))
    <| fun s_7 =>
    K_1 (s_7.1, s_7.2))
      (joinW (σ := Int × Bool) (fun J_8 =>
    cond (decide (s_2.1 < (x0.n : Int)))
      (idxW x0.a x0.n 2 s_2.1 fun x_9 =>
            ld (.agg [.int .u32, .sl]) x_9 fun (x_10 : (Int × Sl)) =>
              callW Tryz.prog k_snap_Find_c1 [.agg ⟨[.int .u32 x_10.1, .slice x_10.2.a x_10.2.n x_10.2.c]⟩, .int .u32 target1] [.sc (.int .i64)] fun (x_11 : Int) =>
                  J_8 (s_2.1, (x_11 == 0)))
      (J_8 (s_2.1, false)))
  <| fun s_12 =>
  retW (s_12.1, s_12.2)))
    (0, (x0.n : Int))
def H_slices_BinarySearchFunc_Ent__snap_Find_c1 : Hints := { reg := [(8, [(6, .sc (.int .i64)), (7, .sc .bool)])], con := [(7031, [(9, .sc (.int .i64)), (10, .sc (.int .i64))])], lop := [(0, [(9, .sc (.int .i64)), (10, .sc (.int .i64))])] }
theorem E_slices_BinarySearchFunc_Ent__snap_Find_c1 (x0 : Sl) (target1 : Int) : denF Tryz.prog H_slices_BinarySearchFunc_Ent__snap_Find_c1 Tryz.f170 [.sc (.int .i64), .sc .bool] [.slice x0.a x0.n x0.c, .int .u32 target1, .func (.func 171) #[] #[]] = F_slices_BinarySearchFunc_Ent__snap_Find_c1 x0 target1 := by kernel_rfl
theorem C_slices_BinarySearchFunc_Ent__snap_Find_c1 {R : Type} (x0 : Sl) (target1 : Int) (K : Res [.sc (.int .i64), .sc .bool] → W R) (Q : R → World → Prop) (w : World) (h : F_slices_BinarySearchFunc_Ent__snap_Find_c1 x0 target1 (fun r w => K r Q w) w) : callW Tryz.prog k_slices_BinarySearchFunc_Ent [.slice x0.a x0.n x0.c, .int .u32 target1, .func (.func 171) #[] #[]] [.sc (.int .i64), .sc .bool] K Q w :=
  den_calls mix Tryz.func170 H_slices_BinarySearchFunc_Ent__snap_Find_c1 (ts := [.sc (.int .i64), .sc .bool]) trivial (by rw [Tryz.ntmps170]; simp) (by rw [E_slices_BinarySearchFunc_Ent__snap_Find_c1]; exact h)
def F_snap_Find_c1 (e0 : (Int × Sl)) (id1 : Int) : W (Int) :=
  newW 57 [.int .u32 e0.1, .slice e0.2.a e0.2.n e0.2.c] fun e_1 =>
  ld (.sc (.int .u32)) (Addr.add e_1 0) fun (x_2 : Int) =>
  callW Tryz.prog k_cmp_Compare_ID [.int .u32 x_2, .int .u32 id1] [.sc (.int .i64)] fun (x_3 : Int) =>
  retW x_3
def H_snap_Find_c1 : Hints := {}
theorem E_snap_Find_c1 (e0 : (Int × Sl)) (id1 : Int) : denF Tryz.prog H_snap_Find_c1 Tryz.f171 [.sc (.int .i64)] [.agg ⟨[.int .u32 e0.1, .slice e0.2.a e0.2.n e0.2.c]⟩, .int .u32 id1] = F_snap_Find_c1 e0 id1 := by kernel_rfl
theorem C_snap_Find_c1 {R : Type} (e0 : (Int × Sl)) (id1 : Int) (K : Res [.sc (.int .i64)] → W R) (Q : R → World → Prop) (w : World) (h : F_snap_Find_c1 e0 id1 (fun r w => K r Q w) w) : callW Tryz.prog k_snap_Find_c1 [.agg ⟨[.int .u32 e0.1, .slice e0.2.a e0.2.n e0.2.c]⟩, .int .u32 id1] [.sc (.int .i64)] K Q w :=
  den_calls mix Tryz.func171 H_snap_Find_c1 (ts := [.sc (.int .i64)]) trivial (by rw [Tryz.ntmps171]; simp) (by rw [E_snap_Find_c1]; exact h)
def F_bits_Reader_Left (r0 : Option Addr) : W (Int) :=
  cond (Option.isNone r0)
    (retW 0)
    (drawW <|
  ptrW r0 fun x_1 =>
  ld (.sc .sl) (Addr.add x_1 0) fun (x_2 : Sl) =>
  ptrW r0 fun x_3 =>
  ld (.sc (.int .i64)) (Addr.add x_3 1) fun (x_4 : Int) =>
  retW (IntKind.wrap .i64 ((IntKind.wrap .i64 (8 * (x_2.n : Int))) - x_4)))
def H_bits_Reader_Left : Hints := { dr := [(3, ([], [[(0, []), (1, []), (2, []), (3, []), (4, []), (5, []), (6, []), (7, []), (8, []), (9, []), (10, []), (11, [])]]))] }
theorem E_bits_Reader_Left (r0 : Option Addr) : denF Tryz.prog H_bits_Reader_Left Tryz.f172 [.sc (.int .i64)] [.pointer r0] = F_bits_Reader_Left r0 := by kernel_rfl
theorem C_bits_Reader_Left {R : Type} (r0 : Option Addr) (K : Res [.sc (.int .i64)] → W R) (Q : R → World → Prop) (w : World) (h : F_bits_Reader_Left r0 (fun r w => K r Q w) w) : callW Tryz.prog k_bits_Reader_Left [.pointer r0] [.sc (.int .i64)] K Q w :=
  den_calls mix Tryz.func172 H_bits_Reader_Left (ts := [.sc (.int .i64)]) trivial (by rw [Tryz.ntmps172]; simp) (by rw [E_bits_Reader_Left]; exact h)
def F_nums_try_uint64__nums_number (r0 : Option Addr) : W (Int × Int) :=
  cond (Option.isNone r0)
    (retW (0, 10))
    (ptrW r0 fun x_1 =>
  ld (.agg [.sl, .int .i64]) x_1 fun (x_2 : (Sl × Int)) =>
  newW 173 [.slice none 0 0, .int .i64 0] fun was_3 =>
  stoL was_3 [.slice x_2.1.a x_2.1.n x_2.1.c, .int .i64 x_2.2] 0 <|
  callW Tryz.prog k_nums_number [.pointer r0] [.sc (.int .u64), .sc (.int .i64)] fun (x_4 : Int × Int) =>
  cond (x_4.2 != 0)
    (ld (.agg [.sl, .int .i64]) was_3 fun (x_5 : (Sl × Int)) =>
    ptrW r0 fun x_6 =>
    stoL x_6 [.slice x_5.1.a x_5.1.n x_5.1.c, .int .i64 x_5.2] 0 <|
    retW (0, x_4.2))
    (retW (x_4.1, 0)))
def H_nums_try_uint64__nums_number : Hints := {}
theorem E_nums_try_uint64__nums_number (r0 : Option Addr) : denF Tryz.prog H_nums_try_uint64__nums_number Tryz.f173 [.sc (.int .u64), .sc (.int .i64)] [.pointer r0, .func (.func 174) #[] #[]] = F_nums_try_uint64__nums_number r0 := by kernel_rfl
theorem C_nums_try_uint64__nums_number {R : Type} (r0 : Option Addr) (K : Res [.sc (.int .u64), .sc (.int .i64)] → W R) (Q : R → World → Prop) (w : World) (h : F_nums_try_uint64__nums_number r0 (fun r w => K r Q w) w) : callW Tryz.prog k_nums_try_uint64 [.pointer r0, .func (.func 174) #[] #[]] [.sc (.int .u64), .sc (.int .i64)] K Q w :=
  den_calls mix Tryz.func173 H_nums_try_uint64__nums_number (ts := [.sc (.int .u64), .sc (.int .i64)]) trivial (by rw [Tryz.ntmps173]; simp) (by rw [E_nums_try_uint64__nums_number]; exact h)
def F_nums_number (r0 : Option Addr) : W (Int × Int) :=
  loopW (σ := Int × Int) (fun K_1 s_2 =>
    cond (decide (s_2.2 < 16))
      (callW Tryz.prog k_bits_Reader_Get [.pointer r0, .int .i64 5] [.sc (.int .u64), .sc (.int .i64)] fun (x_3 : Int × Int) =>
    cond (x_3.2 != 0)
      (retW (0, x_3.2))
      (chkW (0 ≤ (IntKind.wrap .i64 (4 * s_2.2))) <|
    cond ((shR .u64 x_3.1 4) == 0)
      (callW Tryz.prog k_nums_groups [.int .u64 (bOr .u64 s_2.1 (shL .u64 (bAnd .u64 x_3.1 15) (IntKind.wrap .i64 (4 * s_2.2))))] [.sc (.int .i64)] fun (x_4 : Int) =>
      cond (x_4 != (IntKind.wrap .i64 (s_2.2 + 1)))
        (retW (0, 4))
        (retW (bOr .u64 s_2.1 (shL .u64 (bAnd .u64 x_3.1 15) (IntKind.wrap .i64 (4 * s_2.2))), 0)))
      (K_1 (bOr .u64 s_2.1 (shL .u64 (bAnd .u64 x_3.1 15) (IntKind.wrap .i64 (4 * s_2.2))), IntKind.wrap .i64 (s_2.2 + 1)))))
      (retW (0, 4)))
    (0, 0)
def H_nums_number : Hints := { lop := [(0, [(4, .sc (.int .u64)), (8, .sc (.int .i64))])] }
theorem E_nums_number (r0 : Option Addr) : denF Tryz.prog H_nums_number Tryz.f174 [.sc (.int .u64), .sc (.int .i64)] [.pointer r0] = F_nums_number r0 := by kernel_rfl
theorem C_nums_number {R : Type} (r0 : Option Addr) (K : Res [.sc (.int .u64), .sc (.int .i64)] → W R) (Q : R → World → Prop) (w : World) (h : F_nums_number r0 (fun r w => K r Q w) w) : callW Tryz.prog k_nums_number [.pointer r0] [.sc (.int .u64), .sc (.int .i64)] K Q w :=
  den_calls mix Tryz.func174 H_nums_number (ts := [.sc (.int .u64), .sc (.int .i64)]) trivial (by rw [Tryz.ntmps174]; simp) (by rw [E_nums_number]; exact h)
def F_comp_Get_c1 (i0 : Int) (c1 : Option Addr) (c2 : Option Addr) : W (Int × Int) :=
  ptrW c1 fun x_1 =>
  ld (.sc .ptr) x_1 fun (x_2 : Option Addr) =>
  ptrW c2 fun x_3 =>
  ld (.sc (.int .u8)) x_3 fun (x_4 : Int) =>
  callW Tryz.prog k_comp_in [.pointer x_2, .int .u8 x_4, .int .i64 i0] [.sc (.int .i32), .sc (.int .i64)] fun (x_5 : Int × Int) =>
  retW (x_5.1, x_5.2)
def H_comp_Get_c1 : Hints := {}
theorem E_comp_Get_c1 (i0 : Int) (c1 : Option Addr) (c2 : Option Addr) : denF Tryz.prog H_comp_Get_c1 Tryz.f175 [.sc (.int .i32), .sc (.int .i64)] [.int .i64 i0, .pointer c1, .pointer c2] = F_comp_Get_c1 i0 c1 c2 := by kernel_rfl
theorem C_comp_Get_c1 {R : Type} (i0 : Int) (c1 : Option Addr) (c2 : Option Addr) (K : Res [.sc (.int .i32), .sc (.int .i64)] → W R) (Q : R → World → Prop) (w : World) (h : F_comp_Get_c1 i0 c1 c2 (fun r w => K r Q w) w) : callW Tryz.prog k_comp_Get_c1 [.int .i64 i0, .pointer c1, .pointer c2] [.sc (.int .i32), .sc (.int .i64)] K Q w :=
  den_calls mix Tryz.func175 H_comp_Get_c1 (ts := [.sc (.int .i32), .sc (.int .i64)]) trivial (by rw [Tryz.ntmps175]; simp) (by rw [E_comp_Get_c1]; exact h)
def F_comp_in (r0 : Option Addr) (kind1 : Int) (i2 : Int) : W (Int × Int) :=
  callW Tryz.prog k_schema_Range [.int .u8 kind1, .int .i64 i2] [.sc (.int .i32), .sc (.int .i32), .sc (.int .i64)] fun (x_1 : Int × Int × Int) =>
  callW Tryz.prog k_nums_GetIn [.pointer r0, .int .i64 (IntKind.wrap .i64 x_1.1), .int .i64 (IntKind.wrap .i64 x_1.2.1)] [.sc (.int .i64), .sc (.int .i64)] fun (x_2 : Int × Int) =>
  retW (IntKind.wrap .i32 x_2.1, x_2.2)
def H_comp_in : Hints := {}
theorem E_comp_in (r0 : Option Addr) (kind1 : Int) (i2 : Int) : denF Tryz.prog H_comp_in Tryz.f176 [.sc (.int .i32), .sc (.int .i64)] [.pointer r0, .int .u8 kind1, .int .i64 i2] = F_comp_in r0 kind1 i2 := by kernel_rfl
theorem C_comp_in {R : Type} (r0 : Option Addr) (kind1 : Int) (i2 : Int) (K : Res [.sc (.int .i32), .sc (.int .i64)] → W R) (Q : R → World → Prop) (w : World) (h : F_comp_in r0 kind1 i2 (fun r w => K r Q w) w) : callW Tryz.prog k_comp_in [.pointer r0, .int .u8 kind1, .int .i64 i2] [.sc (.int .i32), .sc (.int .i64)] K Q w :=
  den_calls mix Tryz.func176 H_comp_in (ts := [.sc (.int .i32), .sc (.int .i64)]) trivial (by rw [Tryz.ntmps176]; simp) (by rw [E_comp_in]; exact h)
def F_slices_stableCmpFunc_Comp__diff_turn_c1 (data0 : Sl) (n1 : Int) : W (Unit) :=
  loopW (σ := Int × Int) (fun K_1 s_2 =>
    cond (decide (s_2.2 ≤ n1))
      (callW Tryz.prog k_slices_insertionSortCmpFunc_Comp [.slice data0.a data0.n data0.c, .int .i64 s_2.1, .int .i64 s_2.2, .func (.func 150) #[] #[]] [] fun (x_3 : Unit) =>
    K_1 (s_2.2, IntKind.wrap .i64 (s_2.2 + 20)))
      (callW Tryz.prog k_slices_insertionSortCmpFunc_Comp [.slice data0.a data0.n data0.c, .int .i64 s_2.1, .int .i64 n1, .func (.func 150) #[] #[]] [] fun (x_4 : Unit) =>
  loopW (σ := Int) (fun K_5 s_6 =>
    cond (decide (s_6 < n1))
      (loopW (σ := Int × Int) (fun K_7 s_8 =>
      cond (decide (s_8.2 ≤ n1))
        (callW Tryz.prog k_slices_symMergeCmpFunc_Comp [.slice data0.a data0.n data0.c, .int .i64 s_8.1, .int .i64 (IntKind.wrap .i64 (s_8.1 + s_6)), .int .i64 s_8.2, .func (.func 150) #[] #[]] [] fun (x_9 : Unit) =>
      K_7 (s_8.2, IntKind.wrap .i64 (s_8.2 + (IntKind.wrap .i64 (2 * s_6)))))
        (joinW (σ := Unit) (fun J_10 =>
      cond (decide ((IntKind.wrap .i64 (s_8.1 + s_6)) < n1))
        (callW Tryz.prog k_slices_symMergeCmpFunc_Comp [.slice data0.a data0.n data0.c, .int .i64 s_8.1, .int .i64 (IntKind.wrap .i64 (s_8.1 + s_6)), .int .i64 n1, .func (.func 150) #[] #[]] [] fun (x_11 : Unit) =>
        J_10 ())
        (J_10 ()))
    <| fun s_12 =>
    K_5 (IntKind.wrap .i64 (s_6 * 2))))
      (0, IntKind.wrap .i64 (2 * s_6)))
      (retW ()))
    20))
    (0, 20)
def H_slices_stableCmpFunc_Comp__diff_turn_c1 : Hints := { con := [(16054, [])], lop := [(0, [(7, .sc (.int .i64)), (8, .sc (.int .i64))]), (2, [(6, .sc (.int .i64))]), (4, [(7, .sc (.int .i64)), (8, .sc (.int .i64))])] }
theorem E_slices_stableCmpFunc_Comp__diff_turn_c1 (data0 : Sl) (n1 : Int) : denF Tryz.prog H_slices_stableCmpFunc_Comp__diff_turn_c1 Tryz.f177 [] [.slice data0.a data0.n data0.c, .int .i64 n1, .func (.func 150) #[] #[]] = F_slices_stableCmpFunc_Comp__diff_turn_c1 data0 n1 := by kernel_rfl
theorem C_slices_stableCmpFunc_Comp__diff_turn_c1 {R : Type} (data0 : Sl) (n1 : Int) (K : Res [] → W R) (Q : R → World → Prop) (w : World) (h : F_slices_stableCmpFunc_Comp__diff_turn_c1 data0 n1 (fun r w => K r Q w) w) : callW Tryz.prog k_slices_stableCmpFunc_Comp [.slice data0.a data0.n data0.c, .int .i64 n1, .func (.func 150) #[] #[]] [] K Q w :=
  den_calls mix Tryz.func177 H_slices_stableCmpFunc_Comp__diff_turn_c1 (ts := []) trivial (by rw [Tryz.ntmps177]; simp) (by rw [E_slices_stableCmpFunc_Comp__diff_turn_c1]; exact h)
def F_slices_insertionSortCmpFunc_Ent__diff_Patch_c2 (data0 : Sl) (a1 : Int) (b2 : Int) : W (Unit) :=
  loopW (σ := Int) (fun K_1 s_2 =>
    cond (decide (s_2 < b2))
      (loopW (σ := Int) (fun K_3 s_4 =>
      joinW (σ := Bool) (fun J_5 =>
        drawW <|
        cond (decide (s_4 > a1))
          (idxW data0.a data0.n 2 s_4 fun x_6 =>
                ld (.agg [.int .u32, .sl]) x_6 fun (x_7 : (Int × Sl)) =>
                  idxW data0.a data0.n 2 (IntKind.wrap .i64 (s_4 - 1)) fun x_8 =>
                          ld (.agg [.int .u32, .sl]) x_8 fun (x_9 : (Int × Sl)) =>
                            callW Tryz.prog k_diff_Patch_c2 [.agg ⟨[.int .u32 x_7.1, .slice x_7.2.a x_7.2.n x_7.2.c]⟩, .agg ⟨[.int .u32 x_9.1, .slice x_9.2.a x_9.2.n x_9.2.c]⟩] [.sc (.int .i64)] fun (x_10 : Int) =>
                              J_5 (decide (x_10 < 0)))
          (J_5 false))
      <| fun s_11 =>
      cond s_11
        (drawW <|
      idxW data0.a data0.n 2 (IntKind.wrap .i64 (s_4 - 1)) fun x_12 =>
      ld (.agg [.int .u32, .sl]) x_12 fun (x_13 : (Int × Sl)) =>
      idxW data0.a data0.n 2 s_4 fun x_14 =>
      ld (.agg [.int .u32, .sl]) x_14 fun (x_15 : (Int × Sl)) =>
      idxW data0.a data0.n 2 s_4 fun x_16 =>
      stoL x_16 [.int .u32 x_13.1, .slice x_13.2.a x_13.2.n x_13.2.c] 0 <|
      idxW data0.a data0.n 2 (IntKind.wrap .i64 (s_4 - 1)) fun x_17 =>
      stoL x_17 [.int .u32 x_15.1, .slice x_15.2.a x_15.2.n x_15.2.c] 0 <|
      K_3 (IntKind.wrap .i64 (s_4 - 1)))
        (K_1 (IntKind.wrap .i64 (s_2 + 1))))
      s_2)
      (retW ()))
    (IntKind.wrap .i64 (a1 + 1))
def H_slices_insertionSortCmpFunc_Ent__diff_Patch_c2 : Hints := { reg := [(4, [(34, .sc .bool)])], lop := [(0, [(8, .sc (.int .i64))]), (2, [(9, .sc (.int .i64))])], dr := [(4, ([], [[(0, []), (1, []), (2, []), (3, []), (4, []), (5, []), (6, []), (7, []), (8, []), (9, []), (10, []), (11, []), (12, []), (13, []), (14, []), (15, []), (16, [])]])), (6, ([], [[(0, []), (1, []), (2, []), (3, []), (4, []), (5, []), (6, []), (7, []), (8, []), (9, []), (10, []), (11, []), (12, []), (13, []), (14, []), (15, []), (16, []), (17, [])]]))] }
theorem E_slices_insertionSortCmpFunc_Ent__diff_Patch_c2 (data0 : Sl) (a1 : Int) (b2 : Int) : denF Tryz.prog H_slices_insertionSortCmpFunc_Ent__diff_Patch_c2 Tryz.f179 [] [.slice data0.a data0.n data0.c, .int .i64 a1, .int .i64 b2, .func (.func 121) #[] #[]] = F_slices_insertionSortCmpFunc_Ent__diff_Patch_c2 data0 a1 b2 := by kernel_rfl
theorem C_slices_insertionSortCmpFunc_Ent__diff_Patch_c2 {R : Type} (data0 : Sl) (a1 : Int) (b2 : Int) (K : Res [] → W R) (Q : R → World → Prop) (w : World) (h : F_slices_insertionSortCmpFunc_Ent__diff_Patch_c2 data0 a1 b2 (fun r w => K r Q w) w) : callW Tryz.prog k_slices_insertionSortCmpFunc_Ent [.slice data0.a data0.n data0.c, .int .i64 a1, .int .i64 b2, .func (.func 121) #[] #[]] [] K Q w :=
  den_calls mix Tryz.func179 H_slices_insertionSortCmpFunc_Ent__diff_Patch_c2 (ts := []) trivial (by rw [Tryz.ntmps179]; simp) (by rw [E_slices_insertionSortCmpFunc_Ent__diff_Patch_c2]; exact h)
def F_slices_symMergeCmpFunc_Ent__diff_Patch_c2 (d0 : Sl) (o1 : Int) (p2 : Int) (p3 : Int) : W (Unit) :=
  cond ((IntKind.wrap .i64 (p2 - o1)) == 1)
    (loopW (σ := Int × Int) (fun K_1 s_2 =>
      cond (decide (s_2.1 < s_2.2))
        (drawW <|
      idxW d0.a d0.n 2 (IntKind.wrap .i64 (shR .u64 (IntKind.wrap .u64 (IntKind.wrap .i64 (s_2.1 + s_2.2))) 1)) fun x_3 =>
      ld (.agg [.int .u32, .sl]) x_3 fun (x_4 : (Int × Sl)) =>
      idxW d0.a d0.n 2 o1 fun x_5 =>
      ld (.agg [.int .u32, .sl]) x_5 fun (x_6 : (Int × Sl)) =>
      callW Tryz.prog k_diff_Patch_c2 [.agg ⟨[.int .u32 x_4.1, .slice x_4.2.a x_4.2.n x_4.2.c]⟩, .agg ⟨[.int .u32 x_6.1, .slice x_6.2.a x_6.2.n x_6.2.c]⟩] [.sc (.int .i64)] fun (x_7 : Int) =>
      joinW (σ := Int × Int) (fun J_8 =>
        cond (decide (x_7 < 0))
          (J_8 (IntKind.wrap .i64 ((IntKind.wrap .i64 (shR .u64 (IntKind.wrap .u64 (IntKind.wrap .i64 (s_2.1 + s_2.2))) 1)) + 1), s_2.2))
          (J_8 (s_2.1, IntKind.wrap .i64 (shR .u64 (IntKind.wrap .u64 (IntKind.wrap .i64 (s_2.1 + s_2.2))) 1))))
      <| fun s_9 =>
      K_1 (s_9.1, s_9.2))
        (loopW (σ := Int) (fun K_10 s_11 =>
      cond (decide (s_11 < (IntKind.wrap .i64 (s_2.1 - 1))))
        (drawW <|
      idxW d0.a d0.n 2 (IntKind.wrap .i64 (s_11 + 1)) fun x_12 =>
      ld (.agg [.int .u32, .sl]) x_12 fun (x_13 : (Int × Sl)) =>
      idxW d0.a d0.n 2 s_11 fun x_14 =>
      ld (.agg [.int .u32, .sl]) x_14 fun (x_15 : (Int × Sl)) =>
      idxW d0.a d0.n 2 s_11 fun x_16 =>
      stoL x_16 [.int .u32 x_13.1, .slice x_13.2.a x_13.2.n x_13.2.c] 0 <|
      idxW d0.a d0.n 2 (IntKind.wrap .i64 (s_11 + 1)) fun x_17 =>
      stoL x_17 [.int .u32 x_15.1, .slice x_15.2.a x_15.2.n x_15.2.c] 0 <|
      K_10 (IntKind.wrap .i64 (s_11 + 1)))
        (retW ()))
      o1))
      (p2, p3))
    (cond ((IntKind.wrap .i64 (p3 - p2)) == 1)
    (loopW (σ := Int × Int) (fun K_18 s_19 =>
      cond (decide (s_19.1 < s_19.2))
        (drawW <|
      idxW d0.a d0.n 2 p2 fun x_20 =>
      ld (.agg [.int .u32, .sl]) x_20 fun (x_21 : (Int × Sl)) =>
      idxW d0.a d0.n 2 (IntKind.wrap .i64 (shR .u64 (IntKind.wrap .u64 (IntKind.wrap .i64 (s_19.1 + s_19.2))) 1)) fun x_22 =>
      ld (.agg [.int .u32, .sl]) x_22 fun (x_23 : (Int × Sl)) =>
      callW Tryz.prog k_diff_Patch_c2 [.agg ⟨[.int .u32 x_21.1, .slice x_21.2.a x_21.2.n x_21.2.c]⟩, .agg ⟨[.int .u32 x_23.1, .slice x_23.2.a x_23.2.n x_23.2.c]⟩] [.sc (.int .i64)] fun (x_24 : Int) =>
      joinW (σ := Int × Int) (fun J_25 =>
        cond (!(decide (x_24 < 0)))
          (J_25 (IntKind.wrap .i64 ((IntKind.wrap .i64 (shR .u64 (IntKind.wrap .u64 (IntKind.wrap .i64 (s_19.1 + s_19.2))) 1)) + 1), s_19.2))
          (J_25 (s_19.1, IntKind.wrap .i64 (shR .u64 (IntKind.wrap .u64 (IntKind.wrap .i64 (s_19.1 + s_19.2))) 1))))
      <| fun s_26 =>
      K_18 (s_26.1, s_26.2))
        (loopW (σ := Int) (fun K_27 s_28 =>
      cond (decide (s_28 > s_19.1))
        (drawW <|
      idxW d0.a d0.n 2 (IntKind.wrap .i64 (s_28 - 1)) fun x_29 =>
      ld (.agg [.int .u32, .sl]) x_29 fun (x_30 : (Int × Sl)) =>
      idxW d0.a d0.n 2 s_28 fun x_31 =>
      ld (.agg [.int .u32, .sl]) x_31 fun (x_32 : (Int × Sl)) =>
      idxW d0.a d0.n 2 s_28 fun x_33 =>
      stoL x_33 [.int .u32 x_30.1, .slice x_30.2.a x_30.2.n x_30.2.c] 0 <|
      idxW d0.a d0.n 2 (IntKind.wrap .i64 (s_28 - 1)) fun x_34 =>
      stoL x_34 [.int .u32 x_32.1, .slice x_32.2.a x_32.2.n x_32.2.c] 0 <|
      K_27 (IntKind.wrap .i64 (s_28 - 1)))
        (retW ()))
      p2))
      (o1, p2))
    (joinW (σ := Int × Int) (fun J_35 =>
    cond (decide (p2 > (IntKind.wrap .i64 (shR .u64 (IntKind.wrap .u64 (IntKind.wrap .i64 (o1 + p3))) 1))))
      (J_35 (IntKind.wrap .i64 ((IntKind.wrap .i64 ((IntKind.wrap .i64 (shR .u64 (IntKind.wrap .u64 (IntKind.wrap .i64 (o1 + p3))) 1)) + p2)) - p3), IntKind.wrap .i64 (shR .u64 (IntKind.wrap .u64 (IntKind.wrap .i64 (o1 + p3))) 1)))
      (J_35 (o1, p2)))
  <| fun s_36 =>
  loopW (σ := Int × Int) (fun K_37 s_38 =>
    cond (decide (s_38.1 < s_38.2))
      (drawW <|
    idxW d0.a d0.n 2 (IntKind.wrap .i64 ((IntKind.wrap .i64 ((IntKind.wrap .i64 ((IntKind.wrap .i64 (shR .u64 (IntKind.wrap .u64 (IntKind.wrap .i64 (o1 + p3))) 1)) + p2)) - 1)) - (IntKind.wrap .i64 (shR .u64 (IntKind.wrap .u64 (IntKind.wrap .i64 (s_38.1 + s_38.2))) 1)))) fun x_39 =>
    ld (.agg [.int .u32, .sl]) x_39 fun (x_40 : (Int × Sl)) =>
    idxW d0.a d0.n 2 (IntKind.wrap .i64 (shR .u64 (IntKind.wrap .u64 (IntKind.wrap .i64 (s_38.1 + s_38.2))) 1)) fun x_41 =>
    ld (.agg [.int .u32, .sl]) x_41 fun (x_42 : (Int × Sl)) =>
    callW Tryz.prog k_diff_Patch_c2 [.agg ⟨[.int .u32 x_40.1, .slice x_40.2.a x_40.2.n x_40.2.c]⟩, .agg ⟨[.int .u32 x_42.1, .slice x_42.2.a x_42.2.n x_42.2.c]⟩] [.sc (.int .i64)] fun (x_43 : Int) =>
    joinW (σ := Int × Int) (fun J_44 =>
      cond (!(decide (x_43 < 0)))
        (J_44 (IntKind.wrap .i64 ((IntKind.wrap .i64 (shR .u64 (IntKind.wrap .u64 (IntKind.wrap .i64 (s_38.1 + s_38.2))) 1)) + 1), s_38.2))
        (J_44 (s_38.1, IntKind.wrap .i64 (shR .u64 (IntKind.wrap .u64 (IntKind.wrap .i64 (s_38.1 + s_38.2))) 1))))
    <| fun s_45 =>
    K_37 (s_45.1, s_45.2))
      (joinW (σ := Bool) (fun J_46 =>
    cond (decide (s_38.1 < p2))
      (J_46 (decide (p2 < (IntKind.wrap .i64 ((IntKind.wrap .i64 ((IntKind.wrap .i64 (shR .u64 (IntKind.wrap .u64 (IntKind.wrap .i64 (o1 + p3))) 1)) + p2)) - s_38.1)))))
      (J_46 false))
  <| fun s_47 =>
  joinW (σ := Unit) (fun J_48 =>
    cond s_47
      (callW Tryz.prog k_slices_rotateCmpFunc_Ent [.slice d0.a d0.n d0.c, .int .i64 s_38.1, .int .i64 p2, .int .i64 (IntKind.wrap .i64 ((IntKind.wrap .i64 ((IntKind.wrap .i64 (shR .u64 (IntKind.wrap .u64 (IntKind.wrap .i64 (o1 + p3))) 1)) + p2)) - s_38.1)), .func (.func 121) #[] #[]] [] fun (x_49 : Unit) =>
      J_48 ())
      (J_48 ()))
  <| fun s_50 =>
  joinW (σ := Bool) (fun J_51 =>
    cond (decide (o1 < s_38.1))
      (J_51 (decide (s_38.1 < (IntKind.wrap .i64 (shR .u64 (IntKind.wrap .u64 (IntKind.wrap .i64 (o1 + p3))) 1)))))
      (J_51 false))
  <| fun s_52 =>
  joinW (σ := Unit) (fun J_53 =>
    cond s_52
      (callW Tryz.prog k_slices_symMergeCmpFunc_Ent [.slice d0.a d0.n d0.c, .int .i64 o1, .int .i64 s_38.1, .int .i64 (IntKind.wrap .i64 (shR .u64 (IntKind.wrap .u64 (IntKind.wrap .i64 (o1 + p3))) 1)), .func (.func 121) #[] #[]] [] fun (x_54 : Unit) =>
      J_53 ())
      (J_53 ()))
  <| fun s_55 =>
  joinW (σ := Bool) (fun J_56 =>
    cond (decide ((IntKind.wrap .i64 (shR .u64 (IntKind.wrap .u64 (IntKind.wrap .i64 (o1 + p3))) 1)) < (IntKind.wrap .i64 ((IntKind.wrap .i64 ((IntKind.wrap .i64 (shR .u64 (IntKind.wrap .u64 (IntKind.wrap .i64 (o1 + p3))) 1)) + p2)) - s_38.1))))
      (J_56 (decide ((IntKind.wrap .i64 ((IntKind.wrap .i64 ((IntKind.wrap .i64 (shR .u64 (IntKind.wrap .u64 (IntKind.wrap .i64 (o1 + p3))) 1)) + p2)) - s_38.1)) < p3)))
      (J_56 false))
  <| fun s_57 =>
  joinW (σ := Unit) (fun J_58 =>
    cond s_57
      (callW Tryz.prog k_slices_symMergeCmpFunc_Ent [.slice d0.a d0.n d0.c, .int .i64 (IntKind.wrap .i64 (shR .u64 (IntKind.wrap .u64 (IntKind.wrap .i64 (o1 + p3))) 1)), .int .i64 (IntKind.wrap .i64 ((IntKind.wrap .i64 ((IntKind.wrap .i64 (shR .u64 (IntKind.wrap .u64 (IntKind.wrap .i64 (o1 + p3))) 1)) + p2)) - s_38.1)), .int .i64 p3, .func (.func 121) #[] #[]] [] fun (x_59 : Unit) =>
      J_58 ())
      (J_58 ()))
  <| fun s_60 =>
  retW ()))
    (s_36.1, s_36.2)))
def H_slices_symMergeCmpFunc_Ent__diff_Patch_c2 : Hints := { reg := [(39, [(185, .sc .bool)]), (41, [(199, .sc .bool)]), (43, [(213, .sc .bool)])], con := [(7050, [(10, .sc (.int .i64)), (11, .sc (.int .i64))]), (19103, [(14, .sc (.int .i64)), (15, .sc (.int .i64))]), (29140, [(20, .sc (.int .i64)), (21, .sc (.int .i64))]), (37171, [(20, .sc (.int .i64)), (21, .sc (.int .i64))]), (41185, []), (43199, []), (45213, [])], lop := [(0, [(10, .sc (.int .i64)), (11, .sc (.int .i64))]), (2, [(13, .sc (.int .i64))]), (4, [(14, .sc (.int .i64)), (15, .sc (.int .i64))]), (6, [(17, .sc (.int .i64))]), (8, [(20, .sc (.int .i64)), (21, .sc (.int .i64))])], dr := [(5, ([], [[(0, []), (1, []), (2, []), (3, []), (4, []), (5, []), (6, []), (7, []), (8, []), (9, []), (10, [])]])), (11, ([], [[(0, []), (1, []), (2, []), (3, []), (4, []), (5, []), (6, []), (7, []), (8, []), (9, []), (10, []), (11, []), (12, []), (13, []), (14, []), (15, []), (16, []), (17, [])]])), (17, ([], [[(0, []), (1, []), (2, []), (3, []), (4, []), (5, []), (6, []), (7, []), (8, []), (9, []), (10, []), (11, [])]])), (23, ([], [[(0, []), (1, []), (2, []), (3, []), (4, []), (5, []), (6, []), (7, []), (8, []), (9, []), (10, []), (11, []), (12, []), (13, []), (14, []), (15, []), (16, []), (17, [])]])), (35, ([], [[(0, []), (1, []), (2, []), (3, []), (4, []), (5, []), (6, []), (7, []), (8, []), (9, []), (10, []), (11, []), (12, []), (13, [])]]))] }
set_option maxRecDepth 100000 in
theorem E_slices_symMergeCmpFunc_Ent__diff_Patch_c2 (d0 : Sl) (o1 : Int) (p2 : Int) (p3 : Int) : denF Tryz.prog H_slices_symMergeCmpFunc_Ent__diff_Patch_c2 Tryz.f180 [] [.slice d0.a d0.n d0.c, .int .i64 o1, .int .i64 p2, .int .i64 p3, .func (.func 121) #[] #[]] = F_slices_symMergeCmpFunc_Ent__diff_Patch_c2 d0 o1 p2 p3 := by kernel_rfl
theorem C_slices_symMergeCmpFunc_Ent__diff_Patch_c2 {R : Type} (d0 : Sl) (o1 : Int) (p2 : Int) (p3 : Int) (K : Res [] → W R) (Q : R → World → Prop) (w : World) (h : F_slices_symMergeCmpFunc_Ent__diff_Patch_c2 d0 o1 p2 p3 (fun r w => K r Q w) w) : callW Tryz.prog k_slices_symMergeCmpFunc_Ent [.slice d0.a d0.n d0.c, .int .i64 o1, .int .i64 p2, .int .i64 p3, .func (.func 121) #[] #[]] [] K Q w :=
  den_calls mix Tryz.func180 H_slices_symMergeCmpFunc_Ent__diff_Patch_c2 (ts := []) trivial (by rw [Tryz.ntmps180]; simp) (by rw [E_slices_symMergeCmpFunc_Ent__diff_Patch_c2]; exact h)
def F_slices_EqualFunc_Ent__snap_Same_c1 (s10 : Sl) (s21 : Sl) : W (Bool) :=
  cond ((s10.n : Int) != (s21.n : Int))
    (retW false)
    (loopW (σ := Int) (fun K_1 s_2 =>
    cond (decide (s_2 < (s10.n : Int)))
      (idxW s10.a s10.n 2 s_2 fun x_3 =>
    ld (.agg [.int .u32, .sl]) x_3 fun (x_4 : (Int × Sl)) =>
    newW 57 [.int .u32 0, .slice none 0 0] fun v1_5 =>
    stoL v1_5 [.int .u32 x_4.1, .slice x_4.2.a x_4.2.n x_4.2.c] 0 <|
    idxW s21.a s21.n 2 s_2 fun x_6 =>
    ld (.agg [.int .u32, .sl]) x_6 fun (x_7 : (Int × Sl)) =>
    newW 57 [.int .u32 0, .slice none 0 0] fun v2_8 =>
    stoL v2_8 [.int .u32 x_7.1, .slice x_7.2.a x_7.2.n x_7.2.c] 0 <|
    ld (.agg [.int .u32, .sl]) v1_5 fun (x_9 : (Int × Sl)) =>
    ld (.agg [.int .u32, .sl]) v2_8 fun (x_10 : (Int × Sl)) =>
    callW Tryz.prog k_snap_Same_c1 [.agg ⟨[.int .u32 x_9.1, .slice x_9.2.a x_9.2.n x_9.2.c]⟩, .agg ⟨[.int .u32 x_10.1, .slice x_10.2.a x_10.2.n x_10.2.c]⟩] [.sc .bool] fun (x_11 : Bool) =>
    cond (!x_11)
      (retW false)
      (K_1 (IntKind.wrap .i64 (s_2 + 1))))
      (retW true))
    0)
def H_slices_EqualFunc_Ent__snap_Same_c1 : Hints := { lop := [(0, [(17, .sc (.int .i64))])] }
theorem E_slices_EqualFunc_Ent__snap_Same_c1 (s10 : Sl) (s21 : Sl) : denF Tryz.prog H_slices_EqualFunc_Ent__snap_Same_c1 Tryz.f181 [.sc .bool] [.slice s10.a s10.n s10.c, .slice s21.a s21.n s21.c, .func (.func 182) #[] #[]] = F_slices_EqualFunc_Ent__snap_Same_c1 s10 s21 := by kernel_rfl
theorem C_slices_EqualFunc_Ent__snap_Same_c1 {R : Type} (s10 : Sl) (s21 : Sl) (K : Res [.sc .bool] → W R) (Q : R → World → Prop) (w : World) (h : F_slices_EqualFunc_Ent__snap_Same_c1 s10 s21 (fun r w => K r Q w) w) : callW Tryz.prog k_slices_EqualFunc_Ent [.slice s10.a s10.n s10.c, .slice s21.a s21.n s21.c, .func (.func 182) #[] #[]] [.sc .bool] K Q w :=
  den_calls mix Tryz.func181 H_slices_EqualFunc_Ent__snap_Same_c1 (ts := [.sc .bool]) trivial (by rw [Tryz.ntmps181]; simp) (by rw [E_slices_EqualFunc_Ent__snap_Same_c1]; exact h)
def F_snap_Same_c1 (x0 : (Int × Sl)) (y1 : (Int × Sl)) : W (Bool) :=
  newW 57 [.int .u32 x0.1, .slice x0.2.a x0.2.n x0.2.c] fun x_1 =>
  newW 57 [.int .u32 y1.1, .slice y1.2.a y1.2.n y1.2.c] fun y_2 =>
  joinW (σ := Bool) (fun J_3 =>
    ld (.sc (.int .u32)) (Addr.add x_1 0) fun (x_4 : Int) =>
    ld (.sc (.int .u32)) (Addr.add y_2 0) fun (x_5 : Int) =>
    cond (x_4 == x_5)
      (ld (.sc .sl) (Addr.add x_1 1) fun (x_6 : Sl) =>
        ld (.sc .sl) (Addr.add y_2 1) fun (x_7 : Sl) =>
            callW Tryz.prog k_slices_Equal_Comp [.slice x_6.a x_6.n x_6.c, .slice x_7.a x_7.n x_7.c] [.sc .bool] fun (x_8 : Bool) =>
              J_3 x_8)
      (J_3 false))
  <| fun s_9 =>
  retW s_9
def H_snap_Same_c1 : Hints := { reg := [(1, [(4, .sc .bool)])] }
theorem E_snap_Same_c1 (x0 : (Int × Sl)) (y1 : (Int × Sl)) : denF Tryz.prog H_snap_Same_c1 Tryz.f182 [.sc .bool] [.agg ⟨[.int .u32 x0.1, .slice x0.2.a x0.2.n x0.2.c]⟩, .agg ⟨[.int .u32 y1.1, .slice y1.2.a y1.2.n y1.2.c]⟩] = F_snap_Same_c1 x0 y1 := by kernel_rfl
theorem C_snap_Same_c1 {R : Type} (x0 : (Int × Sl)) (y1 : (Int × Sl)) (K : Res [.sc .bool] → W R) (Q : R → World → Prop) (w : World) (h : F_snap_Same_c1 x0 y1 (fun r w => K r Q w) w) : callW Tryz.prog k_snap_Same_c1 [.agg ⟨[.int .u32 x0.1, .slice x0.2.a x0.2.n x0.2.c]⟩, .agg ⟨[.int .u32 y1.1, .slice y1.2.a y1.2.n y1.2.c]⟩] [.sc .bool] K Q w :=
  den_calls mix Tryz.func182 H_snap_Same_c1 (ts := [.sc .bool]) trivial (by rw [Tryz.ntmps182]; simp) (by rw [E_snap_Same_c1]; exact h)
def F_nums_Zig (n0 : Int) : W (Int) :=
  retW (bXor .u64 (IntKind.wrap .u64 (shL .i64 n0 1)) (IntKind.wrap .u64 (shR .i64 n0 63)))
def H_nums_Zig : Hints := {}
theorem E_nums_Zig (n0 : Int) : denF Tryz.prog H_nums_Zig Tryz.f183 [.sc (.int .u64)] [.int .i64 n0] = F_nums_Zig n0 := by kernel_rfl
theorem C_nums_Zig {R : Type} (n0 : Int) (K : Res [.sc (.int .u64)] → W R) (Q : R → World → Prop) (w : World) (h : F_nums_Zig n0 (fun r w => K r Q w) w) : callW Tryz.prog k_nums_Zig [.int .i64 n0] [.sc (.int .u64)] K Q w :=
  den_calls mix Tryz.func183 H_nums_Zig (ts := [.sc (.int .u64)]) trivial (by rw [Tryz.ntmps183]; simp) (by rw [E_nums_Zig]; exact h)
def F_nums_Zag (v0 : Int) : W (Int) :=
  retW (bXor .i64 (IntKind.wrap .i64 (shR .u64 v0 1)) (IntKind.wrap .i64 (0 - (IntKind.wrap .i64 (bAnd .u64 v0 1)))))
def H_nums_Zag : Hints := {}
theorem E_nums_Zag (v0 : Int) : denF Tryz.prog H_nums_Zag Tryz.f184 [.sc (.int .i64)] [.int .u64 v0] = F_nums_Zag v0 := by kernel_rfl
theorem C_nums_Zag {R : Type} (v0 : Int) (K : Res [.sc (.int .i64)] → W R) (Q : R → World → Prop) (w : World) (h : F_nums_Zag v0 (fun r w => K r Q w) w) : callW Tryz.prog k_nums_Zag [.int .u64 v0] [.sc (.int .i64)] K Q w :=
  den_calls mix Tryz.func184 H_nums_Zag (ts := [.sc (.int .i64)]) trivial (by rw [Tryz.ntmps184]; simp) (by rw [E_nums_Zag]; exact h)
def F_slices_insertionSortCmpFunc_Comp__diff_turn_c1 (data0 : Sl) (a1 : Int) (b2 : Int) : W (Unit) :=
  loopW (σ := Int) (fun K_1 s_2 =>
    cond (decide (s_2 < b2))
      (loopW (σ := Int) (fun K_3 s_4 =>
      joinW (σ := Bool) (fun J_5 =>
        drawW <|
        cond (decide (s_4 > a1))
          (idxW data0.a data0.n 4 s_4 fun x_6 =>
                ld (.agg [.int .u8, .int .i32, .int .i32, .int .i32]) x_6 fun (x_7 : (Int × Int × Int × Int)) =>
                  idxW data0.a data0.n 4 (IntKind.wrap .i64 (s_4 - 1)) fun x_8 =>
                          ld (.agg [.int .u8, .int .i32, .int .i32, .int .i32]) x_8 fun (x_9 : (Int × Int × Int × Int)) =>
                            callW Tryz.prog k_diff_turn_c1 [.agg ⟨[.int .u8 x_7.1, .int .i32 x_7.2.1, .int .i32 x_7.2.2.1, .int .i32 x_7.2.2.2]⟩, .agg ⟨[.int .u8 x_9.1, .int .i32 x_9.2.1, .int .i32 x_9.2.2.1, .int .i32 x_9.2.2.2]⟩] [.sc (.int .i64)] fun (x_10 : Int) =>
                              J_5 (decide (x_10 < 0)))
          (J_5 false))
      <| fun s_11 =>
      cond s_11
        (drawW <|
      idxW data0.a data0.n 4 (IntKind.wrap .i64 (s_4 - 1)) fun x_12 =>
      ld (.agg [.int .u8, .int .i32, .int .i32, .int .i32]) x_12 fun (x_13 : (Int × Int × Int × Int)) =>
      idxW data0.a data0.n 4 s_4 fun x_14 =>
      ld (.agg [.int .u8, .int .i32, .int .i32, .int .i32]) x_14 fun (x_15 : (Int × Int × Int × Int)) =>
      idxW data0.a data0.n 4 s_4 fun x_16 =>
      stoL x_16 [.int .u8 x_13.1, .int .i32 x_13.2.1, .int .i32 x_13.2.2.1, .int .i32 x_13.2.2.2] 0 <|
      idxW data0.a data0.n 4 (IntKind.wrap .i64 (s_4 - 1)) fun x_17 =>
      stoL x_17 [.int .u8 x_15.1, .int .i32 x_15.2.1, .int .i32 x_15.2.2.1, .int .i32 x_15.2.2.2] 0 <|
      K_3 (IntKind.wrap .i64 (s_4 - 1)))
        (K_1 (IntKind.wrap .i64 (s_2 + 1))))
      s_2)
      (retW ()))
    (IntKind.wrap .i64 (a1 + 1))
def H_slices_insertionSortCmpFunc_Comp__diff_turn_c1 : Hints := { reg := [(4, [(34, .sc .bool)])], lop := [(0, [(8, .sc (.int .i64))]), (2, [(9, .sc (.int .i64))])], dr := [(4, ([], [[(0, []), (1, []), (2, []), (3, []), (4, []), (5, []), (6, []), (7, []), (8, []), (9, []), (10, []), (11, []), (12, []), (13, []), (14, []), (15, []), (16, [])]])), (6, ([], [[(0, []), (1, []), (2, []), (3, []), (4, []), (5, []), (6, []), (7, []), (8, []), (9, []), (10, []), (11, []), (12, []), (13, []), (14, []), (15, []), (16, []), (17, [])]]))] }
theorem E_slices_insertionSortCmpFunc_Comp__diff_turn_c1 (data0 : Sl) (a1 : Int) (b2 : Int) : denF Tryz.prog H_slices_insertionSortCmpFunc_Comp__diff_turn_c1 Tryz.f186 [] [.slice data0.a data0.n data0.c, .int .i64 a1, .int .i64 b2, .func (.func 150) #[] #[]] = F_slices_insertionSortCmpFunc_Comp__diff_turn_c1 data0 a1 b2 := by kernel_rfl
theorem C_slices_insertionSortCmpFunc_Comp__diff_turn_c1 {R : Type} (data0 : Sl) (a1 : Int) (b2 : Int) (K : Res [] → W R) (Q : R → World → Prop) (w : World) (h : F_slices_insertionSortCmpFunc_Comp__diff_turn_c1 data0 a1 b2 (fun r w => K r Q w) w) : callW Tryz.prog k_slices_insertionSortCmpFunc_Comp [.slice data0.a data0.n data0.c, .int .i64 a1, .int .i64 b2, .func (.func 150) #[] #[]] [] K Q w :=
  den_calls mix Tryz.func186 H_slices_insertionSortCmpFunc_Comp__diff_turn_c1 (ts := []) trivial (by rw [Tryz.ntmps186]; simp) (by rw [E_slices_insertionSortCmpFunc_Comp__diff_turn_c1]; exact h)
def F_slices_rotateCmpFunc_Ent__diff_Patch_c2 (data0 : Sl) (a1 : Int) (m2 : Int) (b3 : Int) : W (Unit) :=
  loopW (σ := Int × Int) (fun K_1 s_2 =>
    cond (s_2.1 != s_2.2)
      (joinW (σ := Int × Int) (fun J_3 =>
      cond (decide (s_2.1 > s_2.2))
        (callW Tryz.prog k_slices_swapRangeCmpFunc_Ent [.slice data0.a data0.n data0.c, .int .i64 (IntKind.wrap .i64 (m2 - s_2.1)), .int .i64 m2, .int .i64 s_2.2, .func (.func 121) #[] #[]] [] fun (x_4 : Unit) =>
        J_3 (IntKind.wrap .i64 (s_2.1 - s_2.2), s_2.2))
        (callW Tryz.prog k_slices_swapRangeCmpFunc_Ent [.slice data0.a data0.n data0.c, .int .i64 (IntKind.wrap .i64 (m2 - s_2.1)), .int .i64 (IntKind.wrap .i64 ((IntKind.wrap .i64 (m2 + s_2.2)) - s_2.1)), .int .i64 s_2.1, .func (.func 121) #[] #[]] [] fun (x_5 : Unit) =>
        J_3 (s_2.1, IntKind.wrap .i64 (s_2.2 - s_2.1))))
    <| fun s_6 =>
    K_1 (s_6.1, s_6.2))
      (callW Tryz.prog k_slices_swapRangeCmpFunc_Ent [.slice data0.a data0.n data0.c, .int .i64 (IntKind.wrap .i64 (m2 - s_2.1)), .int .i64 m2, .int .i64 s_2.1, .func (.func 121) #[] #[]] [] fun (x_7 : Unit) =>
  retW ()))
    (IntKind.wrap .i64 (m2 - a1), IntKind.wrap .i64 (b3 - m2))
def H_slices_rotateCmpFunc_Ent__diff_Patch_c2 : Hints := { con := [(5023, [(10, .sc (.int .i64)), (11, .sc (.int .i64))])], lop := [(0, [(10, .sc (.int .i64)), (11, .sc (.int .i64))])] }
theorem E_slices_rotateCmpFunc_Ent__diff_Patch_c2 (data0 : Sl) (a1 : Int) (m2 : Int) (b3 : Int) : denF Tryz.prog H_slices_rotateCmpFunc_Ent__diff_Patch_c2 Tryz.f188 [] [.slice data0.a data0.n data0.c, .int .i64 a1, .int .i64 m2, .int .i64 b3, .func (.func 121) #[] #[]] = F_slices_rotateCmpFunc_Ent__diff_Patch_c2 data0 a1 m2 b3 := by kernel_rfl
theorem C_slices_rotateCmpFunc_Ent__diff_Patch_c2 {R : Type} (data0 : Sl) (a1 : Int) (m2 : Int) (b3 : Int) (K : Res [] → W R) (Q : R → World → Prop) (w : World) (h : F_slices_rotateCmpFunc_Ent__diff_Patch_c2 data0 a1 m2 b3 (fun r w => K r Q w) w) : callW Tryz.prog k_slices_rotateCmpFunc_Ent [.slice data0.a data0.n data0.c, .int .i64 a1, .int .i64 m2, .int .i64 b3, .func (.func 121) #[] #[]] [] K Q w :=
  den_calls mix Tryz.func188 H_slices_rotateCmpFunc_Ent__diff_Patch_c2 (ts := []) trivial (by rw [Tryz.ntmps188]; simp) (by rw [E_slices_rotateCmpFunc_Ent__diff_Patch_c2]; exact h)
def F_slices_swapRangeCmpFunc_Ent__diff_Patch_c2 (data0 : Sl) (a1 : Int) (b2 : Int) (n3 : Int) : W (Unit) :=
  loopW (σ := Int) (fun K_1 s_2 =>
    cond (decide (s_2 < n3))
      (drawW <|
    idxW data0.a data0.n 2 (IntKind.wrap .i64 (b2 + s_2)) fun x_3 =>
    ld (.agg [.int .u32, .sl]) x_3 fun (x_4 : (Int × Sl)) =>
    idxW data0.a data0.n 2 (IntKind.wrap .i64 (a1 + s_2)) fun x_5 =>
    ld (.agg [.int .u32, .sl]) x_5 fun (x_6 : (Int × Sl)) =>
    idxW data0.a data0.n 2 (IntKind.wrap .i64 (a1 + s_2)) fun x_7 =>
    stoL x_7 [.int .u32 x_4.1, .slice x_4.2.a x_4.2.n x_4.2.c] 0 <|
    idxW data0.a data0.n 2 (IntKind.wrap .i64 (b2 + s_2)) fun x_8 =>
    stoL x_8 [.int .u32 x_6.1, .slice x_6.2.a x_6.2.n x_6.2.c] 0 <|
    K_1 (IntKind.wrap .i64 (s_2 + 1)))
      (retW ()))
    0
def H_slices_swapRangeCmpFunc_Ent__diff_Patch_c2 : Hints := { lop := [(0, [(10, .sc (.int .i64))])], dr := [(3, ([], [[(0, []), (1, []), (2, []), (3, []), (4, []), (5, []), (6, []), (7, []), (8, []), (9, []), (10, []), (11, []), (12, []), (13, []), (14, []), (15, []), (16, []), (17, []), (18, []), (19, []), (20, []), (21, []), (22, []), (23, [])]]))] }
theorem E_slices_swapRangeCmpFunc_Ent__diff_Patch_c2 (data0 : Sl) (a1 : Int) (b2 : Int) (n3 : Int) : denF Tryz.prog H_slices_swapRangeCmpFunc_Ent__diff_Patch_c2 Tryz.f191 [] [.slice data0.a data0.n data0.c, .int .i64 a1, .int .i64 b2, .int .i64 n3, .func (.func 121) #[] #[]] = F_slices_swapRangeCmpFunc_Ent__diff_Patch_c2 data0 a1 b2 n3 := by kernel_rfl
theorem C_slices_swapRangeCmpFunc_Ent__diff_Patch_c2 {R : Type} (data0 : Sl) (a1 : Int) (b2 : Int) (n3 : Int) (K : Res [] → W R) (Q : R → World → Prop) (w : World) (h : F_slices_swapRangeCmpFunc_Ent__diff_Patch_c2 data0 a1 b2 n3 (fun r w => K r Q w) w) : callW Tryz.prog k_slices_swapRangeCmpFunc_Ent [.slice data0.a data0.n data0.c, .int .i64 a1, .int .i64 b2, .int .i64 n3, .func (.func 121) #[] #[]] [] K Q w :=
  den_calls mix Tryz.func191 H_slices_swapRangeCmpFunc_Ent__diff_Patch_c2 (ts := []) trivial (by rw [Tryz.ntmps191]; simp) (by rw [E_slices_swapRangeCmpFunc_Ent__diff_Patch_c2]; exact h)
end Go.Proofs.YtchhhjlpnecjkaaGreat
set_option linter.unusedVariables false
namespace Go.Proofs.YtchhhjlpnecjkaaGreat
open Go Go.Proofs.YtchhhjlpnecjkaaGreat.Den
def F_cmp_Compare_ID (x0 : Int) (y1 : Int) : W (Int) :=
  callW Tryz.prog k_cmp_isNaN_ID [.int .u32 x0] [.sc .bool] fun (x_1 : Bool) =>
  callW Tryz.prog k_cmp_isNaN_ID [.int .u32 y1] [.sc .bool] fun (x_2 : Bool) =>
  cond x_1
    (cond x_2
      (retW 0)
      (retW (-1)))
    (cond x_2
    (retW 1)
    (cond (decide (x0 < y1))
    (retW (-1))
    (cond (decide (x0 > y1))
    (retW 1)
    (retW 0))))
def H_cmp_Compare_ID : Hints := {}
theorem E_cmp_Compare_ID (x0 : Int) (y1 : Int) : denF Tryz.prog H_cmp_Compare_ID Tryz.f122 [.sc (.int .i64)] [.int .u32 x0, .int .u32 y1] = F_cmp_Compare_ID x0 y1 := by kernel_rfl
theorem C_cmp_Compare_ID {R : Type} (x0 : Int) (y1 : Int) (K : Res [.sc (.int .i64)] → W R) (Q : R → World → Prop) (w : World) (h : F_cmp_Compare_ID x0 y1 (fun r w => K r Q w) w) : callW Tryz.prog k_cmp_Compare_ID [.int .u32 x0, .int .u32 y1] [.sc (.int .i64)] K Q w :=
  den_calls mix Tryz.func122 H_cmp_Compare_ID (ts := [.sc (.int .i64)]) trivial (by rw [Tryz.ntmps122]; simp) (by rw [E_cmp_Compare_ID]; exact h)
def F_cmp_Compare_byte (x0 : Int) (y1 : Int) : W (Int) :=
  callW Tryz.prog k_cmp_isNaN_byte [.int .u8 x0] [.sc .bool] fun (x_1 : Bool) =>
  callW Tryz.prog k_cmp_isNaN_byte [.int .u8 y1] [.sc .bool] fun (x_2 : Bool) =>
  cond x_1
    (cond x_2
      (retW 0)
      (retW (-1)))
    (cond x_2
    (retW 1)
    (cond (decide (x0 < y1))
    (retW (-1))
    (cond (decide (x0 > y1))
    (retW 1)
    (retW 0))))
def H_cmp_Compare_byte : Hints := {}
theorem E_cmp_Compare_byte (x0 : Int) (y1 : Int) : denF Tryz.prog H_cmp_Compare_byte Tryz.f151 [.sc (.int .i64)] [.int .u8 x0, .int .u8 y1] = F_cmp_Compare_byte x0 y1 := by kernel_rfl
theorem C_cmp_Compare_byte {R : Type} (x0 : Int) (y1 : Int) (K : Res [.sc (.int .i64)] → W R) (Q : R → World → Prop) (w : World) (h : F_cmp_Compare_byte x0 y1 (fun r w => K r Q w) w) : callW Tryz.prog k_cmp_Compare_byte [.int .u8 x0, .int .u8 y1] [.sc (.int .i64)] K Q w :=
  den_calls mix Tryz.func151 H_cmp_Compare_byte (ts := [.sc (.int .i64)]) trivial (by rw [Tryz.ntmps151]; simp) (by rw [E_cmp_Compare_byte]; exact h)
def F_cmp_isNaN_ID (x0 : Int) : W (Bool) :=
  retW (x0 != x0)
def H_cmp_isNaN_ID : Hints := {}
theorem E_cmp_isNaN_ID (x0 : Int) : denF Tryz.prog H_cmp_isNaN_ID Tryz.f153 [.sc .bool] [.int .u32 x0] = F_cmp_isNaN_ID x0 := by kernel_rfl
theorem C_cmp_isNaN_ID {R : Type} (x0 : Int) (K : Res [.sc .bool] → W R) (Q : R → World → Prop) (w : World) (h : F_cmp_isNaN_ID x0 (fun r w => K r Q w) w) : callW Tryz.prog k_cmp_isNaN_ID [.int .u32 x0] [.sc .bool] K Q w :=
  den_calls mix Tryz.func153 H_cmp_isNaN_ID (ts := [.sc .bool]) trivial (by rw [Tryz.ntmps153]; simp) (by rw [E_cmp_isNaN_ID]; exact h)
end Go.Proofs.YtchhhjlpnecjkaaGreat
namespace Go.Proofs.YtchhhjlpnecjkaaGreat.Den
open Go Go.RowKit
variable {R : Type} {Q : R → World → Prop} {w : World}
theorem joinI {σ : Type} {A : (σ → W R) → W R} {K : σ → W R} (J : σ → World → Prop) (h : A (fun s _ w' => J s w') Q w) (hk : ∀ s w', J s w' → K s Q w') : joinW A K Q w := ⟨J, hk, h⟩
theorem condI {b : Bool} {X Y : W R} (h1 : b = true → X Q w) (h2 : b = false → Y Q w) : (cond b X Y : W R) Q w := by
  cases b
  · exact h2 rfl
  · exact h1 rfl
theorem condD {p : Prop} [Decidable p] {X Y : W R} (h1 : p → X Q w) (h2 : ¬p → Y Q w) : (cond (decide p) X Y : W R) Q w := by
  by_cases h : p
  · simp only [h, decide_true, cond_true]; exact h1 h
  · simp only [h, decide_false, cond_false]; exact h2 h
theorem condT {b : Bool} {X Y : W R} (h : b = true) (hx : X Q w) : (cond b X Y : W R) Q w := by subst h; exact hx
theorem condF {b : Bool} {X Y : W R} (h : b = false) (hx : Y Q w) : (cond b X Y : W R) Q w := by subst h; exact hx
theorem condE {a b : Int} {X Y : W R} (h1 : a = b → X Q w) (h2 : a ≠ b → Y Q w) : (cond (a == b) X Y : W R) Q w :=
  condI (fun h => h1 (by simpa using h)) (fun h => h2 (by simpa using h))
theorem condN {a b : Int} {X Y : W R} (h1 : a ≠ b → X Q w) (h2 : a = b → Y Q w) : (cond (a != b) X Y : W R) Q w :=
  condI (fun h => h1 (by simpa using h)) (fun h => h2 (by simpa using h))
theorem loopI {σ : Type} {body : (σ → W R) → σ → W R} {s0 : σ} (I : σ → World → Prop) (μ : σ → World → Nat) (h0 : I s0 w) (hs : ∀ s w', I s w' → body (fun s' _ w'' => I s' w'' ∧ μ s' w'' < μ s w') s Q w') : loopW body s0 Q w := ⟨I, μ, h0, hs⟩
theorem ldI {t : Ty} {a : Addr} {K : t.T → W R} (x : t.T) (h : Rd w a t x) (hk : K x Q w) : ld t a K Q w := ⟨x, h, hk⟩
structure Fr (S : Nat → Prop) (w w' : World) : Prop where
  os : w'.os = w.os
  tape : w'.tape = w.tape
  output : w'.output = w.output
  size : w.heap.size ≤ w'.heap.size
  block : ∀ k, k < w.heap.size → ¬ S k → w'.heap[k]? = w.heap[k]?
abbrev None : Nat → Prop := fun _ => False
theorem Fr.refl (S : Nat → Prop) (w : World) : Fr S w w := ⟨rfl, rfl, rfl, Nat.le_refl _, fun _ _ _ => rfl⟩
theorem Fr.trans {S T U : Nat → Prop} {a b c : World} (h : Fr S a b) (k : Fr T b c) (hs : ∀ x, S x → U x) (ht : ∀ x, x < a.heap.size → T x → U x) : Fr U a c :=
  ⟨k.os.trans h.os, k.tape.trans h.tape, k.output.trans h.output, Nat.le_trans h.size k.size,
    fun i hi hu => (k.block i (Nat.lt_of_lt_of_le hi h.size) (fun x => hu (ht i hi x))).trans (h.block i hi (fun x => hu (hs i x)))⟩
theorem Fr.mono {S T : Nat → Prop} {a b : World} (h : Fr S a b) (hs : ∀ x, x < a.heap.size → S x → T x) : Fr T a b := ⟨h.os, h.tape, h.output, h.size, fun k hk hn => h.block k hk (fun x => hn (hs k hk x))⟩
theorem Fr.then0 {S : Nat → Prop} {a b c : World} (h : Fr S a b) (k : Fr None b c) : Fr S a c := h.trans k (fun _ h => h) (fun _ _ h => h.elim)
theorem Fr.then {S : Nat → Prop} {a b c : World} (h : Fr S a b) (k : Fr S b c) : Fr S a c := h.trans k (fun _ h => h) (fun _ _ h => h)
theorem Fr.thenNew {S T : Nat → Prop} {a b c : World} (h : Fr S a b) (k : Fr T b c) (ht : ∀ x, T x → a.heap.size ≤ x) : Fr S a c := h.trans k (fun _ h => h) (fun x hx h => absurd (ht x h) (by omega))
theorem Fr.alloc {S : Nat → Prop} {a b : World} (h : Fr S a b) (o : Obj) : Fr S a (b.alloc o) :=
  h.then0 ⟨rfl, rfl, rfl, by simp, fun k hk _ => heap_alloc_old b o hk⟩
theorem Fr.drew {S : Nat → Prop} {a b : World} (h : Fr S a b) : Fr S a b.drew := ⟨h.os, h.tape, h.output, h.size, h.block⟩
theorem Fr.setCell {S : Nat → Prop} {a b : World} (h : Fr S a b) {p : Addr} (hp : S p.block ∨ a.heap.size ≤ p.block) (v : Value) : Fr S a (b.setCell p v) :=
  h.trans (T := fun k => k = p.block) ⟨rfl, rfl, rfl, by simp, fun k _ hn => heap_setCell_other b p k v (fun e => hn e)⟩ (fun _ h => h) (fun x hx e => by
    subst e
    rcases hp with hp | hp
    · exact hp
    · omega)
theorem Fr.grown {S : Nat → Prop} {a b c : World} {row : Option Nat} (h : Fr S a b) (k : b.grownBy c row) (hr : ∀ x, row = some x → S x ∨ a.heap.size ≤ x) : Fr S a c :=
  h.trans (T := fun x => row = some x) ⟨k.os, k.tape, k.output, k.size, fun i hi hn => k.block i hi (fun e => hn e.symm)⟩ (fun _ h => h) (fun x hx e => by
    rcases hr x e with h | h
    · exact h
    · omega)
theorem Fr.below {a b : World} (h : Fr None a b) : Below a.heap.size a b := ⟨h.os, h.tape, h.output, h.size, fun k hk => h.block k hk (fun x => x)⟩
def Blk (w : World) (b : Nat) (T : TypeId) (cs : List Value) : Prop := w.heap[b]? = some (.cells ⟨cs⟩ T (0, 0))
theorem Blk.lt {b : Nat} {T : TypeId} {cs : List Value} (h : Blk w b T cs) : b < w.heap.size := (Array.getElem?_eq_some_iff.1 h).1
theorem Blk.cell {b : Nat} {T : TypeId} {cs : List Value} (h : Blk w b T cs) (o : Nat) : w.cell? ⟨b, o, none⟩ = cs[o]? := by
  unfold Blk at h
  simp [World.cell?, h]
theorem Blk.frozen {b : Nat} {T : TypeId} {cs : List Value} (h : Blk w b T cs) (o : Nat) : w.frozen? ⟨b, o, none⟩ = false := by
  unfold Blk at h
  simp [World.frozen?, h]
theorem Blk.fr {S : Nat → Prop} {w' : World} {b : Nat} {T : TypeId} {cs : List Value} (h : Blk w b T cs) (f : Fr S w w') (hn : ¬ S b) : Blk w' b T cs := (f.block b h.lt hn).trans h
theorem Blk.new (w : World) (T : TypeId) (cs : List Value) : Blk (w.alloc (.cells ⟨cs⟩ T)) w.heap.size T cs := heap_alloc_new w _
theorem Blk.alloc {b : Nat} {T : TypeId} {cs : List Value} (h : Blk w b T cs) (o : Obj) : Blk (w.alloc o) b T cs := (heap_alloc_old w o h.lt).trans h
theorem Blk.drew {b : Nat} {T : TypeId} {cs : List Value} (h : Blk w b T cs) : Blk w.drew b T cs := h
theorem Blk.set {b : Nat} {T : TypeId} {cs : List Value} (h : Blk w b T cs) (o : Nat) (v : Value) : Blk (w.setCell ⟨b, o, none⟩ v) b T (cs.set o v) := by
  have := heap_setCell_same w b o ⟨cs⟩ T v h
  simpa [Blk] using this
theorem add_lit (b o n : Nat) : Addr.add ⟨b, o, none⟩ n = ⟨b, o + n, none⟩ := by
  unfold Addr.add
  split
  · rename_i h; subst h; rfl
  · rfl
theorem Blk.cells {b : Nat} {T : TypeId} {cs : List Value} (h : Blk w b T cs) (o : Nat) (vs : List Value) (hv : ∀ j u, vs[j]? = some u → cs[o + j]? = some u) : CellsAt w ⟨b, o, none⟩ vs := by
  intro j u hj
  rw [add_lit, h.cell]
  exact hv j u hj
def putAt (cs : List Value) (o : Nat) : List Value → List Value
  | [] => cs
  | v :: vs => putAt (cs.set o v) (o + 1) vs
theorem putAt_length : ∀ (vs cs : List Value) (o : Nat), (putAt cs o vs).length = cs.length
  | [], _, _ => rfl
  | v :: vs, cs, o => by simp [putAt, putAt_length vs]
theorem stoBlk {b : Nat} {T : TypeId} {K : W R} : ∀ (vs : List Value) (i : Nat) {cs : List Value} {o : Nat} {w : World}, Blk w b T cs → o + i + vs.length ≤ cs.length → (∀ v ∈ vs, v.oneCell' = true) →
    (∀ w', Blk w' b T (putAt cs (o + i) vs) → Fr (fun k => k = b) w w' → w'.heap.size = w.heap.size → K Q w') → stoL ⟨b, o, none⟩ vs i K Q w
  | [], i, cs, o, w, h, _, _, hk => hk w h (Fr.refl _ _) rfl
  | v :: vs, i, cs, o, w, h, hl, hv, hk => by
    simp only [List.length_cons] at hl
    refine ⟨hv v List.mem_cons_self, ⟨cs[o + i], ?_⟩, ?_, ?_⟩
    · rw [add_lit, h.cell]; simp
    · rw [add_lit, h.frozen]
    · rw [add_lit]
      refine stoBlk vs (i + 1) (h.set (o + i) v) (by simp; omega) (fun v hv' => hv v (List.mem_cons_of_mem _ hv')) ?_
      intro w' h1 h2 h3
      refine hk w' ?_ ?_ ?_
      · rw [show o + (i + 1) = o + i + 1 by omega] at h1; exact h1
      · exact (Fr.setCell (S := fun k => k = b) (Fr.refl _ _) (p := ⟨b, o + i, none⟩) (.inl rfl) v).then h2
      · rw [h3]; simp
def Sl.v (s : Sl) : Value := .slice s.a s.n s.c
def Ty.size : Ty → Nat
  | .sc _ => 1
  | .agg l => l.length
theorem Tup_len {l : List Sc} : ∀ (x : Tup Sc.T l), (Tup.e Sc.e l x).length = l.length := by
  induction l with
  | nil => intro x; rfl
  | cons t r ih =>
    intro x
    cases r with
    | nil => rfl
    | cons u r => simp only [Tup.e, List.length_cons]; rw [ih x.2]; rfl
def Ty.cells : (t : Ty) → t.T → List Value
  | .sc s, x => [s.e x]
  | .agg l, x => Tup.e Sc.e l x
theorem Ty.cells_len : ∀ (t : Ty) (x : t.T), (t.cells x).length = t.size
  | .sc _, _ => rfl
  | .agg _, x => Tup_len x
structure SlT (ok : Nat → Prop) (w : World) (t : Ty) (s : Sl) (l : List t.T) : Prop where
  len : s.n = l.length
  cap : s.n ≤ s.c
  at_ : l = [] ∨ ∃ b o, s.a = some ⟨b, o, none⟩ ∧ ok b ∧ b < w.heap.size ∧ ∀ i x, l[i]? = some x → Rd w ⟨b, o + i * t.size, none⟩ t x
theorem Rd.keep {w' : World} {b o : Nat} (hb : w'.heap[b]? = w.heap[b]?) : ∀ {t : Ty} {x : t.T}, Rd w ⟨b, o, none⟩ t x → Rd w' ⟨b, o, none⟩ t x
  | .sc _, _, h => (World.cell?_of_block (w := w) (a := ⟨b, o, none⟩) hb).trans h
  | .agg _, _, h => fun j u hj => by
    have := h j u hj
    rw [add_lit] at this ⊢
    exact (World.cell?_of_block (w := w) (a := ⟨b, o + j, none⟩) hb).trans this
theorem SlT.fr {ok S : Nat → Prop} {w' : World} {t : Ty} {s : Sl} {l : List t.T} (h : SlT ok w t s l) (f : Fr S w w') (hn : ∀ k, ok k → ¬ S k) : SlT ok w' t s l := by
  refine ⟨h.len, h.cap, h.at_.imp id ?_⟩
  rintro ⟨b, o, h1, h2, h3, h4⟩
  exact ⟨b, o, h1, h2, Nat.lt_of_lt_of_le h3 f.size, fun i x hx => (h4 i x hx).keep (f.block b h3 (hn b h2))⟩
theorem SlT.fr0 {ok : Nat → Prop} {w' : World} {t : Ty} {s : Sl} {l : List t.T} (h : SlT ok w t s l) (f : Fr None w w') : SlT ok w' t s l := h.fr f (fun _ _ h => h)
theorem SlT.mono {ok ok' : Nat → Prop} {t : Ty} {s : Sl} {l : List t.T} (h : SlT ok w t s l) (hk : ∀ k, k < w.heap.size → ok k → ok' k) : SlT ok' w t s l := by
  refine ⟨h.len, h.cap, h.at_.imp id ?_⟩
  rintro ⟨b, o, h1, h2, h3, h4⟩
  exact ⟨b, o, h1, hk b h3 h2, h3, h4⟩
theorem SlT.nil {ok : Nat → Prop} (t : Ty) {a : Option Addr} {c : Nat} : SlT ok w t ⟨a, 0, c⟩ [] := ⟨rfl, Nat.zero_le _, .inl rfl⟩
theorem SlT.idx {ok : Nat → Prop} {t : Ty} {s : Sl} {l : List t.T} (h : SlT ok w t s l) {sz : Nat} (hsz : sz = t.size) {i : Int} (h0 : 0 ≤ i) (h1 : i < l.length) {K : Addr → W R}
    (hk : ∀ a x, l[i.toNat]? = some x → Rd w a t x → K a Q w) : idxW s.a s.n sz i K Q w := by
  subst hsz
  have hi : i.toNat < l.length := by omega
  rcases h.at_ with rfl | ⟨b, o, ha, _, _, hr⟩
  · simp at hi
  · refine ⟨⟨b, o, none⟩, ha, h0, by rw [h.len]; exact h1, ?_⟩
    rw [add_lit]
    exact hk _ _ (List.getElem?_eq_getElem hi) (hr _ _ (List.getElem?_eq_getElem hi))
end Go.Proofs.YtchhhjlpnecjkaaGreat.Den
namespace Go.Proofs.YtchhhjlpnecjkaaGreat.Den
open Go Go.RowKit
variable {R : Type} {Q : R → World → Prop} {w : World}
theorem Rd.cells : ∀ {t : Ty} {a : Addr} {x : t.T}, Rd w a t x ↔ CellsAt w a (t.cells x)
  | .sc s, a, x => by
    constructor
    · intro h j u hj
      rcases j with _ | j
      · simp [Ty.cells] at hj
        subst hj
        have : a.add 0 = a := by unfold Addr.add; simp
        rw [this]
        exact h
      · simp [Ty.cells] at hj
    · intro h
      have := h 0 (s.e x) (by simp [Ty.cells])
      have e : a.add 0 = a := by unfold Addr.add; simp
      rw [e] at this
      exact this
  | .agg _, _, _ => Iff.rfl
theorem Sc.one : ∀ (s : Sc) (x : s.T), s ≠ .raw → (s.e x).oneCell' = true
  | .int _, _, _ | .bool, _, _ | .str, _, _ | .ptr, _, _ | .sl, _, _ | .map, _, _ => rfl
  | .raw, _, h => (h rfl).elim
def Ty.fine : Ty → Bool
  | .sc .raw => false
  | .sc _ => true
  | .agg l => l.all fun s => match s with
    | .raw => false
    | _ => true
theorem Ty.one : ∀ (t : Ty) (x : t.T), t.fine = true → ∀ u ∈ t.cells x, u.oneCell' = true
  | .sc s, x, h, u, hu => by
    simp only [Ty.cells, List.mem_singleton] at hu
    subst hu
    exact Sc.one s x (fun e => by subst e; simp [Ty.fine] at h)
  | .agg l, x, h, u, hu => by
    simp only [Ty.cells] at hu
    simp only [Ty.fine, List.all_eq_true] at h
    revert h
    revert hu
    induction l with
    | nil => intro hu; simp [Tup.e] at hu
    | cons s r ih =>
      intro hu h
      have hs : s ≠ .raw := fun e => by have := h s List.mem_cons_self; subst e; simp at this
      cases r with
      | nil =>
        simp only [Tup.e, List.mem_singleton] at hu
        subst hu
        exact Sc.one s x hs
      | cons s2 r =>
        simp only [Tup.e, List.mem_cons] at hu
        rcases hu with rfl | hu
        · exact Sc.one s x.1 hs
        · exact ih x.2 hu (fun z hz => h z (List.mem_cons_of_mem _ hz))
theorem flat_len {t : Ty} (l : List t.T) : (l.flatMap t.cells).length = l.length * t.size := by
  induction l with
  | nil => simp
  | cons x r ih => rw [List.flatMap_cons, List.length_append, ih, t.cells_len, List.length_cons, Nat.add_mul]; omega
theorem flat_at {t : Ty} : ∀ {l : List t.T} {i : Nat} {x : t.T}, l[i]? = some x → ∀ j u, (t.cells x)[j]? = some u → (l.flatMap t.cells)[i * t.size + j]? = some u
  | [], _, _, h, _, _, _ => by simp at h
  | y :: r, 0, x, h, j, u, hj => by
    simp at h
    subst h
    have hl : j < (t.cells y).length := (List.getElem?_eq_some_iff.1 hj).1
    rw [List.flatMap_cons, Nat.zero_mul, Nat.zero_add, List.getElem?_append_left hl]
    exact hj
  | y :: r, i + 1, x, h, j, u, hj => by
    simp at h
    rw [List.flatMap_cons, List.getElem?_append_right (by rw [t.cells_len, Nat.add_mul]; omega), t.cells_len]
    have := flat_at h j u hj
    rw [show (i + 1) * t.size + j - t.size = i * t.size + j by rw [Nat.add_mul]; omega]
    exact this
theorem flat_take {t : Ty} (l : List t.T) (n : Nat) : (l.take n).flatMap t.cells = (l.flatMap t.cells).take (n * t.size) := by
  induction l generalizing n with
  | nil => simp
  | cons x r ih =>
    rcases n with _ | n
    · simp
    · rw [List.take_succ_cons, List.flatMap_cons, List.flatMap_cons, ih]
      have e1 : (n + 1) * t.size = (t.cells x).length + n * t.size := by rw [t.cells_len, Nat.add_mul]; omega
      rw [e1, List.take_length_add_append]
structure Own (S : Nat → Prop) (w : World) (E : TypeId) (t : Ty) (s : Sl) (l : List t.T) : Prop where
  row : w.ownsRow 0 E t.size s.v l.length (l.flatMap t.cells)
  own : ∀ k, s.v.ownBlock = some k → S k
theorem Own.nil (S : Nat → Prop) (w : World) (E : TypeId) (t : Ty) : Own S w E t ⟨none, 0, 0⟩ [] := ⟨World.ownsRow_nil w 0 E t.size, by simp [Sl.v, Value.ownBlock]⟩
section
variable {S : Nat → Prop} {E : TypeId} {t : Ty} {s : Sl} {l : List t.T}
theorem Own.cases (h : Own S w E t s l) : (s = ⟨none, 0, 0⟩ ∧ l = []) ∨ ∃ g c cur, s = ⟨some ⟨g, 0, none⟩, l.length, c⟩ ∧ S g ∧ w.heap[g]? = some (.cells cur E (0, 0)) ∧ l.length ≤ c ∧ c ≤ maxLen ∧ cur.size = c * t.size ∧ cur.toList.take (l.length * t.size) = l.flatMap t.cells := by
  obtain ⟨a, n, c⟩ := s
  rcases h.row.2 with ⟨h1, h2⟩ | ⟨g, cap, cur, h1, _, h3, h4, h5, h6, h7⟩
  · simp only [Sl.v, Value.slice.injEq] at h1
    obtain ⟨rfl, rfl, rfl⟩ := h1
    exact .inl ⟨rfl, List.eq_nil_of_length_eq_zero h2⟩
  · simp only [Sl.v, Value.slice.injEq] at h1
    obtain ⟨rfl, rfl, rfl⟩ := h1
    exact .inr ⟨g, _, cur, rfl, h.own g rfl, h3, h4, h5, h6, h7⟩
theorem Own.mk' {g c : Nat} {cur : Array Value} (hg : S g) (h3 : w.heap[g]? = some (.cells cur E (0, 0))) (h4 : l.length ≤ c) (h5 : c ≤ maxLen) (h6 : cur.size = c * t.size) (h7 : cur.toList.take (l.length * t.size) = l.flatMap t.cells) :
    Own S w E t ⟨some ⟨g, 0, none⟩, l.length, c⟩ l :=
  ⟨⟨flat_len l, .inr ⟨g, c, cur, rfl, Nat.zero_le _, h3, h4, h5, h6, h7⟩⟩, fun k hk => by simp [Sl.v, Value.ownBlock] at hk; subst hk; exact hg⟩
theorem Own.len (h : Own S w E t s l) : s.n = l.length := by
  rcases h.cases with ⟨rfl, rfl⟩ | ⟨g, c, cur, rfl, _⟩ <;> rfl
theorem Own.cap (h : Own S w E t s l) : s.n ≤ s.c := by
  rcases h.cases with ⟨rfl, rfl⟩ | ⟨g, c, cur, rfl, _, _, hc, _⟩
  · exact Nat.le_refl _
  · exact hc
theorem Own.small (h : Own S w E t s l) : l.length ≤ maxLen := by
  rcases h.cases with ⟨rfl, rfl⟩ | ⟨g, c, cur, rfl, _, _, hc, h2, _⟩
  · simp
  · exact Nat.le_trans hc h2
theorem Own.mono {S' : Nat → Prop} (h : Own S w E t s l) (hs : ∀ k, k < w.heap.size → S k → S' k) : Own S' w E t s l :=
  ⟨h.row, fun k hk => hs k (h.row.lt k hk).2 (h.own k hk)⟩
theorem Own.fr {T : Nat → Prop} {w' : World} (h : Own S w E t s l) (f : Fr T w w') (hn : ∀ k, S k → ¬ T k) : Own S w' E t s l := by
  rcases h.cases with ⟨rfl, rfl⟩ | ⟨g, c, cur, rfl, hg, h3, h4, h5, h6, h7⟩
  · exact Own.nil _ _ _ _
  · exact Own.mk' hg ((f.block g (Array.getElem?_eq_some_iff.1 h3).1 (hn g hg)).trans h3) h4 h5 h6 h7
theorem Own.read (h : Own S w E t s l) {g : Nat} (hg : s.a = some ⟨g, 0, none⟩) {i : Nat} {x : t.T} (hx : l[i]? = some x) : Rd w ⟨g, i * t.size, none⟩ t x := by
  rcases h.cases with ⟨rfl, rfl⟩ | ⟨g, c, cur, rfl, hS, h3, h4, h5, h6, h7⟩
  · simp at hx
  · simp only [Option.some.injEq, Addr.mk.injEq, and_true] at hg
    subst hg
    refine Rd.cells.2 fun j u hj => ?_
    have := flat_at hx j u hj
    rw [← h7, List.getElem?_take] at this
    split at this
    · rw [add_lit, cell_of_row w g _ cur E (0, 0) h3]
      simpa using this
    · cases this
theorem Own.sl (h : Own S w E t s l) : SlT S w t s l := by
  refine ⟨h.len, h.cap, ?_⟩
  rcases h.cases with ⟨rfl, rfl⟩ | ⟨g, c, cur, rfl, hg, h3, h4, h5, h6, h7⟩
  · exact .inl rfl
  · refine .inr ⟨g, 0, rfl, hg, (Array.getElem?_eq_some_iff.1 h3).1, fun i x hx => ?_⟩
    rw [Nat.zero_add]
    exact h.read rfl hx
theorem putAt_get : ∀ (vs : List Value) {cs : List Value} {o : Nat}, o + vs.length ≤ cs.length → putAt cs o vs = cs.take o ++ vs ++ cs.drop (o + vs.length)
  | [], cs, o, _ => by simp [putAt]
  | v :: vs, cs, o, h => by
    simp only [List.length_cons] at h
    rw [putAt, putAt_get vs (by simp; omega)]
    rw [List.take_set, List.length_cons, List.drop_set_of_lt (by omega)]
    rw [show o + 1 + vs.length = o + (vs.length + 1) by omega]
    congr 1
    rw [show List.take (o + 1) cs = List.take o cs ++ [cs[o]'(by omega)] by rw [List.take_append_getElem]]
    rw [List.set_append_right _ _ (by simp; omega)]
    simp [Nat.min_eq_left (by omega : o ≤ cs.length)]
theorem putAt_take : ∀ (vs cs : List Value) (o m : Nat), (putAt cs o vs).take m = putAt (cs.take m) o vs
  | [], _, _, _ => rfl
  | v :: vs, cs, o, m => by rw [putAt, putAt_take vs, List.take_set]; rfl
theorem flat_set {t : Ty} : ∀ {l : List t.T} {i : Nat} {x : t.T}, i < l.length → (l.set i x).flatMap t.cells = putAt (l.flatMap t.cells) (i * t.size) (t.cells x)
  | [], _, _, h => by simp at h
  | y :: r, 0, x, h => by
    rw [putAt_get _ (by rw [flat_len, t.cells_len, List.length_cons, Nat.add_mul]; omega)]
    rw [List.set_cons_zero, List.flatMap_cons, List.flatMap_cons, Nat.zero_mul, List.take_zero, List.nil_append, Nat.zero_add, t.cells_len, ← t.cells_len y, List.drop_left]
  | y :: r, i + 1, x, h => by
    have hi : i < r.length := by simpa using h
    have hle : i * t.size + t.size ≤ r.length * t.size := by rw [← Nat.succ_mul]; exact Nat.mul_le_mul_right _ hi
    rw [List.set_cons_succ, List.flatMap_cons, List.flatMap_cons, flat_set hi, putAt_get _ (by rw [flat_len, t.cells_len]; exact hle), putAt_get _ (by rw [List.length_append, flat_len, t.cells_len, t.cells_len, Nat.add_mul]; omega)]
    have e1 : (i + 1) * t.size = (t.cells y).length + i * t.size := by rw [t.cells_len, Nat.add_mul]; omega
    rw [e1, List.take_length_add_append, Nat.add_assoc, List.drop_length_add_append]
    simp
theorem Own.set (h : Own S w E t s l) (hf : t.fine = true) {i : Nat} (hi : i < l.length) {g : Nat} (hg : s.a = some ⟨g, 0, none⟩) (x : t.T) {K : W R}
    (hk : ∀ w', Own S w' E t s (l.set i x) → Fr (fun k => s.v.ownBlock = some k) w w' → w'.heap.size = w.heap.size → K Q w') : stoL ⟨g, i * t.size, none⟩ (t.cells x) 0 K Q w := by
  rcases h.cases with ⟨rfl, rfl⟩ | ⟨g, c, cur, rfl, hS, h3, h4, h5, h6, h7⟩
  · simp at hi
  · simp only [Option.some.injEq, Addr.mk.injEq, and_true] at hg
    subst hg
    have hle : i * t.size + t.size ≤ l.length * t.size := by rw [← Nat.succ_mul]; exact Nat.mul_le_mul_right _ hi
    have hle2 : l.length * t.size ≤ c * t.size := Nat.mul_le_mul_right _ h4
    refine stoBlk (T := E) (cs := cur.toList) (t.cells x) 0 h3 (by rw [t.cells_len]; simp; omega) (t.one x hf) fun w' hb hfr hsz => ?_
    rw [Nat.add_zero] at hb
    refine hk w' ?_ (hfr.mono fun k _ e => by simp [Sl.v, Value.ownBlock, e]) hsz
    have hl : (l.set i x).length = l.length := List.length_set
    have := Own.mk' (S := S) (w := w') (E := E) (t := t) (l := l.set i x) (g := g) (c := c) (cur := ⟨putAt cur.toList (i * t.size) (t.cells x)⟩) hS hb (by rw [hl]; exact h4) h5 (by simp [putAt_length, h6]) (by
      rw [hl, flat_set hi, ← h7, putAt_take])
    rw [hl] at this
    exact this
theorem putAt_set_lt {v : Value} : ∀ (vs cs : List Value) (o q : Nat), q < o → (putAt cs o vs).set q v = putAt (cs.set q v) o vs
  | [], _, _, _, _ => rfl
  | a :: vs, cs, o, q, h => by
    rw [putAt, putAt, putAt_set_lt vs _ _ _ (by omega), List.set_comm _ _ (by omega)]
theorem putAt_set {v : Value} : ∀ (vs cs : List Value) (o j : Nat), j < vs.length → (putAt cs o vs).set (o + j) v = putAt cs o (vs.set j v)
  | [], _, _, _, h => by simp at h
  | a :: vs, cs, o, 0, _ => by
    rw [putAt, show o + 0 = o from rfl, putAt_set_lt vs _ _ _ (by omega), List.set_set]
    rfl
  | a :: vs, cs, o, j + 1, h => by
    rw [putAt, show o + (j + 1) = o + 1 + j by omega, putAt_set vs _ _ _ (by simpa using h)]
    rfl
theorem Own.setFld (h : Own S w E t s l) {i j : Nat} {x x' : t.T} (hx : l[i]? = some x) {g : Nat} (hg : s.a = some ⟨g, 0, none⟩) (hj : j < t.size) {v : Value} (hc : t.cells x' = (t.cells x).set j v) (h1 : v.oneCell' = true) {K : W R}
    (hk : ∀ w', Own S w' E t s (l.set i x') → Fr (fun k => s.v.ownBlock = some k) w w' → w'.heap.size = w.heap.size → K Q w') : stoL ⟨g, i * t.size + j, none⟩ [v] 0 K Q w := by
  obtain ⟨hi, he⟩ := List.getElem?_eq_some_iff.1 hx
  rcases h.cases with ⟨rfl, rfl⟩ | ⟨g, c, cur, rfl, hS, h3, h4, h5, h6, h7⟩
  · simp at hi
  · simp only [Option.some.injEq, Addr.mk.injEq, and_true] at hg
    subst hg
    have hle : i * t.size + t.size ≤ l.length * t.size := by rw [← Nat.succ_mul]; exact Nat.mul_le_mul_right _ hi
    have hle2 : l.length * t.size ≤ c * t.size := Nat.mul_le_mul_right _ h4
    refine stoBlk (T := E) (cs := cur.toList) (o := i * t.size + j) [v] 0 h3 (by simp; omega) (by simpa using h1) fun w' hb hfr hsz => ?_
    rw [Nat.add_zero] at hb
    refine hk w' ?_ (hfr.mono fun k _ e => by simp [Sl.v, Value.ownBlock, e]) hsz
    have hl : (l.set i x').length = l.length := List.length_set
    have hself : putAt (l.flatMap t.cells) (i * t.size) (t.cells x) = l.flatMap t.cells := by
      rw [← flat_set hi]
      congr 1
      rw [← he]
      exact List.set_getElem_self hi
    have := Own.mk' (S := S) (w := w') (E := E) (t := t) (l := l.set i x') (g := g) (c := c) (cur := ⟨putAt cur.toList (i * t.size + j) [v]⟩) hS hb (by rw [hl]; exact h4) h5 (by simp [putAt_length, h6]) (by
      rw [hl, flat_set hi, hc, ← putAt_set _ _ _ _ (by rw [t.cells_len]; exact hj), hself, ← h7, ← List.take_set]
      rfl)
    rw [hl] at this
    exact this
theorem Own.take (h : Own S w E t s l) {n : Nat} (hn : n ≤ l.length) : Own S w E t ⟨s.a, n, s.c⟩ (l.take n) := by
  rcases h.cases with ⟨rfl, rfl⟩ | ⟨g, c, cur, rfl, hS, h3, h4, h5, h6, h7⟩
  · simp at hn; subst hn; exact Own.nil _ _ _ _
  · have hl : (l.take n).length = n := by simp; omega
    have := Own.mk' (S := S) (w := w) (E := E) (t := t) (l := l.take n) (g := g) (c := c) (cur := cur) hS h3 (by omega) h5 h6 (by
      rw [hl, flat_take, ← h7, List.take_take, Nat.min_eq_left (Nat.mul_le_mul_right _ hn)])
    rw [hl] at this
    exact this
theorem Own.lit (w : World) (E : TypeId) (t : Ty) (l : List t.T) (hS : S w.heap.size) (hm : l.length ≤ maxLen) {cs : List Value} (hc : cs = l.flatMap t.cells) {n : Nat} (hn : n = l.length) : Own S (w.alloc (.cells ⟨cs⟩ E)) E t ⟨some ⟨w.heap.size, 0, none⟩, n, n⟩ l := by
  subst hc; subst hn
  exact Own.mk' hS (heap_alloc_new w _) (Nat.le_refl _) hm (flat_len l) (by rw [List.take_of_length_le (by rw [flat_len]; exact Nat.le_refl _)])
end
structure SlTy (P : Program) (T E : TypeId) (t : Ty) (bytes : Nat) : Prop where
  under : P.underlying T = some (.slice E)
  info : ∃ i z, P.info? E = some i ∧ i.zero = some z ∧ i.size = t.size ∧ i.bytes = bytes ∧ z.cells.size = t.size
  pos : 0 < t.size
  fine : t.fine = true
theorem SlT.cellsAt {ok : Nat → Prop} {t : Ty} {s : Sl} {l : List t.T} (h : SlT ok w t s l) {a : Addr} (ha : s.a = some a) : ∀ j u, (l.flatMap t.cells)[j]? = some u → w.cell? (a.add j) = some u := by
  intro j u hj
  rcases h.at_ with rfl | ⟨b, o, ha', _, _, hr⟩
  · simp at hj
  · rw [ha] at ha'
    cases ha'
    have hj' : j < l.length * t.size := by have := (List.getElem?_eq_some_iff.1 hj).1; rwa [flat_len] at this
    have hp : 0 < t.size := by rcases Nat.eq_zero_or_pos t.size with h0 | h0; (rw [h0] at hj'; simp at hj'); exact h0
    have hi : j / t.size < l.length := Nat.div_lt_of_lt_mul (by rw [Nat.mul_comm]; exact hj')
    have hx := List.getElem?_eq_getElem hi
    have hm : j % t.size < (t.cells l[j / t.size]).length := by rw [t.cells_len]; exact Nat.mod_lt _ hp
    have := flat_at hx (j % t.size) _ (List.getElem?_eq_getElem hm)
    rw [Nat.mul_comm, Nat.div_add_mod, hj] at this
    rw [add_lit]
    have hc := Rd.cells.1 (hr _ _ hx) (j % t.size) _ (List.getElem?_eq_getElem hm)
    rw [add_lit, Nat.add_assoc, Nat.mul_comm, Nat.div_add_mod] at hc
    rw [hc]
    exact this.symm
theorem appI {P : Program} {T E ty : TypeId} {t : Ty} {bytes : Nat} (H : SlTy P T E t bytes) {S S' ok : Nat → Prop} {s s2 : Sl} {l l2 : List t.T} (h : Own S w E t s l) (h2 : SlT ok w t s2 l2)
    (hb : (l.length + l2.length) * bytes ≤ 140737488355328) (hm : l.length + l2.length ≤ maxLen) (h1 : ∀ k, S k → S' k) (h1' : S' w.heap.size) {K : Sl → W R}
    (hk : ∀ r w', Own S' w' E t r (l ++ l2) → Fr (fun k => s.v.ownBlock = some k) w w' → w'.heap.size ≤ w.heap.size + 1 → K r Q w') : rawW P (Builtin.append_ #[T, T] ty #[.slice s.a s.n s.c, .slice s2.a s2.n s2.c]) [.sc .sl] K Q w := by
  obtain ⟨i, z, hi, hz, hs, hby, hzs⟩ := H.info
  have hn2 := h2.len
  have flat : (l ++ l2).flatMap t.cells = l.flatMap t.cells ++ l2.flatMap t.cells := List.flatMap_append
  have hlen : (l ++ l2).length = l.length + l2.length := List.length_append
  have hmi : ((l.length + l2.length : Nat) : Int) ≤ 9223372036854775807 := by simp only [maxLen] at hm; omega
  by_cases h0 : l2 = []
  · subst h0
    have hrun : (Builtin.append_ #[T, T] ty #[.slice s.a s.n s.c, .slice s2.a s2.n s2.c]).run P w = .ok (.slice s.a s.n s.c) w := by
      rw [show s2.n = 0 from hn2]
      rcases h.cases with ⟨rfl, rfl⟩ | ⟨g, c, cur, rfl, hS, h3, h4, h5, h6, h7⟩
      · rcases hsa : s2.a with _ | a <;> simp [Builtin.append_, run_underlying H.under, sizeOf, typeInfo, hi, Builtin.lenOf, Builtin.firstCells, loadCells, loadCellsFrom]
      · rcases hsa : s2.a with _ | a <;> simp [Builtin.append_, run_underlying H.under, sizeOf, typeInfo, hi, Builtin.lenOf, Builtin.firstCells, loadCells, loadCellsFrom, h4, storeCells]
    refine ⟨s, w, hrun, hk s w ?_ (Fr.refl _ _) (by omega)⟩
    rw [List.append_nil]
    exact h.mono fun k _ hk => h1 k hk
  rcases h2.at_ with e0 | ⟨b2, o2, ha2, _, _, _⟩
  · exact (h0 e0).elim
  have hnews := h2.cellsAt ha2
  have hl2 : (l2.flatMap t.cells).length = l2.length * i.size := by rw [flat_len, hs]
  have hpos : 0 < l2.length := List.length_pos_iff.2 h0
  have one : ∀ u ∈ l2.flatMap t.cells, u.oneCell' = true := fun u hu => by
    obtain ⟨x, _, hx⟩ := List.mem_flatMap.1 hu
    exact t.one x H.fine u hx
  have grown : ∀ (old : Nat) {v : Value} {w' : World}, old < l.length + l2.length → v = .slice (some ⟨w.heap.size, 0, none⟩) (l.length + l2.length) (grownCap w (l.length + l2.length) old E) →
      w' = w.drew.alloc (.cells ((l.flatMap t.cells).toArray ++ (l2.flatMap t.cells).toArray ++ Builtin.zeroCells z.cells (grownCap w (l.length + l2.length) old E - (l.length + l2.length))) E) →
      ∃ r : Sl, v = r.v ∧ K r Q w' := by
    intro old v w' ho hv hw
    have hge := grownCap_ge w (l.length + l2.length) old E
    have hcm := grownCap_le_maxLen w (l.length + l2.length) old E hm
    generalize grownCap w (l.length + l2.length) old E = G at hge hcm hv hw
    subst hv; subst hw
    refine ⟨⟨_, _, _⟩, rfl, hk _ _ ?_ ((Fr.refl _ w).drew.alloc _) (by simp)⟩
    rw [← hlen]
    refine Own.mk' h1' (heap_alloc_new w.drew _) (by rw [hlen]; exact hge) hcm ?_ ?_
    · simp only [Array.size_append, List.size_toArray, flat_len, size_zeroCells, hzs, ← Nat.add_mul]
      congr 1
      rw [hlen]
      omega
    · simp only [Array.toList_append, List.append_assoc]
      rw [← List.append_assoc, flat, ← flat_len (l ++ l2), flat]
      exact List.take_left
  rcases h.cases with ⟨rfl, rfl⟩ | ⟨g, c, cur, rfl, hS, h3, h4, h5, h6, h7⟩
  · have hr := run_append_nil (P := P) w T ty E i z H.under hi hz ⟨b2, o2, none⟩ l2.length s2.c _ hl2 hnews hpos (by simpa using hmi) (by rw [hby]; simp at hb; omega)
    obtain ⟨r, hv, hK⟩ := grown 0 (by simpa using hpos) (v := .slice (some ⟨w.heap.size, 0, none⟩) l2.length (grownCap w l2.length 0 E))
      (w' := w.drew.alloc (.cells ((l2.flatMap t.cells).toArray ++ Builtin.zeroCells z.cells (grownCap w l2.length 0 E - l2.length)) E)) (by simp) (by simp)
    refine ⟨r, _, ?_, hK⟩
    rw [hn2, ha2]
    rw [hv] at hr
    exact hr
  · by_cases hroom : l.length + l2.length ≤ c
    · have hfit : l.length * i.size + (l2.flatMap t.cells).length ≤ cur.size := by rw [hl2, hs, h6, ← Nat.add_mul]; exact Nat.mul_le_mul_right _ hroom
      have hr := run_append_room (P := P) w T ty E i H.under hi g l.length c cur h3 ⟨b2, o2, none⟩ l2.length s2.c _ hl2 hnews one hroom hfit
      refine ⟨⟨some ⟨g, 0, none⟩, l.length + l2.length, c⟩, _, by rw [hn2, ha2]; exact hr, hk _ _ ?_ ?_ (by simp [World.setRow])⟩
      · rw [← hlen]
        refine Own.mk' (h1 g hS) (setRow_heap w g cur _ E _ h3) (by rw [hlen]; exact hroom) h5 ?_ ?_
        · simp only [List.size_toArray, List.length_append, List.length_take, List.length_drop, Array.length_toList]
          omega
        · rw [hs, h7, ← flat, ← flat_len (l ++ l2)]
          exact List.take_left
      · exact ⟨rfl, rfl, rfl, by simp [World.setRow], fun k _ hk => setRow_other w g k _ (fun e => hk (by simp [Sl.v, Value.ownBlock, e]))⟩
    · have holds : ∀ j u, (l.flatMap t.cells)[j]? = some u → w.cell? ((⟨g, 0, none⟩ : Addr).add j) = some u := h.sl.cellsAt rfl
      have hr := run_append_grow (P := P) w T ty E i z H.under hi hz ⟨g, 0, none⟩ l.length c _ (by rw [flat_len, hs]) holds ⟨b2, o2, none⟩ l2.length s2.c _ hl2 hnews (by omega) hmi (growslice_fits (by omega) (by rw [hby]; exact hb))
      obtain ⟨r, hv, hK⟩ := grown c (by omega) rfl rfl
      refine ⟨r, _, ?_, hK⟩
      rw [hn2, ha2]
      rw [hv] at hr
      exact hr
theorem Own.idx {S : Nat → Prop} {E : TypeId} {t : Ty} {s : Sl} {l : List t.T} (h : Own S w E t s l) {sz : Nat} (hsz : sz = t.size) {i : Int} (h0 : 0 ≤ i) (h1 : i < l.length) {K : Addr → W R}
    (hk : ∀ g x, s.a = some ⟨g, 0, none⟩ → l[i.toNat]? = some x → Rd w ⟨g, i.toNat * t.size, none⟩ t x → K ⟨g, i.toNat * t.size, none⟩ Q w) : idxW s.a s.n sz i K Q w := by
  subst hsz
  have hi : i.toNat < l.length := by omega
  rcases h.cases with ⟨rfl, rfl⟩ | ⟨g, c, cur, rfl, hS, h3, h4, h5, h6, h7⟩
  · simp at hi
  · refine ⟨⟨g, 0, none⟩, rfl, h0, h1, ?_⟩
    rw [add_lit, Nat.zero_add]
    have hx := List.getElem?_eq_getElem hi
    exact hk g _ rfl hx (h.read rfl hx)
open Go.ChangeMaps Go.MapKept in
def MapB {κ : Type} (P : Program) (k : TypeId) (ke : κ → Value) (w : World) (b : Nat) (f : κ → Option Value) : Prop :=
  ∃ es clock, w.heap[b]? = some (.map es clock) ∧ Go.MapKept.Stamped es clock ∧ (∀ x ∈ es.toList, ∃ l, keyOf P k x.key = some l) ∧ (∀ x ∈ es.toList, ∃ i, x.key = ke i) ∧ es.toList.Pairwise (fun x y => x.key ≠ y.key) ∧
    ∀ i v, f i = some v ↔ ∃ x ∈ es.toList, x.key = ke i ∧ x.val = v
section
variable {κ : Type} {P : Program} {k : TypeId} {ke : κ → Value} {b : Nat} {f : κ → Option Value}
theorem MapB.lt (h : MapB P k ke w b f) : b < w.heap.size := by
  obtain ⟨es, clock, hb, _⟩ := h
  exact (Array.getElem?_eq_some_iff.1 hb).1
theorem MapB.fr {S : Nat → Prop} {w' : World} (h : MapB P k ke w b f) (hf : Fr S w w') (hn : ¬ S b) : MapB P k ke w' b f := by
  have hl := h.lt
  obtain ⟨es, clock, hb, r⟩ := h
  exact ⟨es, clock, (hf.block b hl hn).trans hb, r⟩
theorem MapB.congr (h : MapB P k ke w b f) {g : κ → Option Value} (e : ∀ i, g i = f i) : MapB P k ke w b g := by
  have : g = f := funext e
  rw [this]
  exact h
theorem pw_inj {es : List MapEntry} (h : es.Pairwise (fun x y => x.key ≠ y.key)) {x y : MapEntry} (hx : x ∈ es) (hy : y ∈ es) (e : x.key = y.key) : x = y := by
  induction es with
  | nil => simp at hx
  | cons z r ih =>
    rw [List.pairwise_cons] at h
    rcases List.mem_cons.1 hx with h1 | h1
    · rcases List.mem_cons.1 hy with h2 | h2
      · rw [h1, h2]
      · subst h1; exact absurd e (h.1 _ h2)
    · rcases List.mem_cons.1 hy with h2 | h2
      · subst h2; exact absurd e.symm (h.1 _ h1)
      · exact ih h.2 h1 h2
theorem MapB.put [DecidableEq κ] (h : MapB P k ke w b f) (Kd : Go.Maps.Keyed P k) (hke : ∀ i j, ke i = ke j → i = j) {T e : TypeId} (ht : P.underlying T = some (.map k e)) {i : κ} {l : Lit} (hkey : keyOf P k (ke i) = some l) (v : Value) :
    ∃ w', (Instr.mapUpdate T (.map (some b)) (ke i) v).run P w = .ok () w' ∧ MapB P k ke w' b (fun j => if j = i then some v else f j) ∧ Fr (fun k => k = b) w w' ∧ w'.heap.size = w.heap.size := by
  obtain ⟨es, clock, hb, hst, hks, hki, hpw, hf⟩ := h
  have frame : ∀ o, Fr (fun k => k = b) w (Go.ChangeMaps.setBlock w b o) := fun o => ⟨rfl, rfl, rfl, by simp [Go.ChangeMaps.setBlock], fun j _ hj => Go.ChangeMaps.heap_setBlock_other hb _ hj⟩
  rcases Kd.find w hkey es.toList hks with ⟨h1, h2⟩ | ⟨j, e0, h1, h2, h3⟩
  · refine ⟨Go.ChangeMaps.setBlock w b (.map (es.push ⟨ke i, v, clock⟩) (clock + 1)), ?_, ⟨_, _, Go.ChangeMaps.heap_setBlock_same hb _, Go.MapKept.stamped_push hst h2, ?_, ?_, ?_, ?_⟩, frame _, by simp [Go.ChangeMaps.setBlock]⟩
    · simp [Instr.mapUpdate, run_underlying ht, MapKept.run_getObj_map hb, Kd.check w false hkey, h1, MapKept.run_setObj_map _ hb, Result.andThen, Go.ChangeMaps.setBlock]
    · intro x hx
      simp only [Array.toList_push, List.mem_append, List.mem_singleton] at hx
      rcases hx with hx | rfl
      · exact hks x hx
      · exact ⟨_, hkey⟩
    · intro x hx
      simp only [Array.toList_push, List.mem_append, List.mem_singleton] at hx
      rcases hx with hx | rfl
      · exact hki x hx
      · exact ⟨_, rfl⟩
    · rw [Array.toList_push, List.pairwise_append]
      refine ⟨hpw, by simp, fun x hx y hy => ?_⟩
      simp only [List.mem_singleton] at hy
      subst hy
      exact h2 x hx
    · intro j u
      simp only [Array.toList_push, List.mem_append, List.mem_singleton]
      show (if _ then _ else _) = _ ↔ _
      by_cases hji : j = i
      · subst hji
        rw [if_pos rfl]
        constructor
        · intro e; cases e; exact ⟨_, .inr rfl, rfl, rfl⟩
        · rintro ⟨x, hx | rfl, hk, rfl⟩
          · exact absurd hk (h2 x hx)
          · rfl
      · rw [if_neg hji, hf]
        constructor
        · rintro ⟨x, hx, r⟩; exact ⟨x, .inl hx, r⟩
        · rintro ⟨x, hx | rfl, hk, rfl⟩
          · exact ⟨x, hx, hk, rfl⟩
          · exact absurd (hke _ _ hk).symm hji
  · have hj : es[j]? = some e0 := by simpa using h2
    have hjl : j < es.toList.length := (List.getElem?_eq_some_iff.1 h2).1
    have hm : (es.modify j fun e' => { e' with key := ke i, val := v }).toList = es.toList.set j { e0 with key := ke i, val := v } := by
      rw [Array.toList_modify]
      apply List.ext_getElem?
      intro q
      rw [List.getElem?_modify, List.getElem?_set]
      by_cases hq : j = q
      · subst hq; simp [h2]; simpa using hjl
      · simp [hq]
    refine ⟨Go.ChangeMaps.setBlock w b (.map (es.modify j fun e' => { e' with key := ke i, val := v }) clock), ?_, ⟨_, _, Go.ChangeMaps.heap_setBlock_same hb _, Go.MapKept.stamped_modify hst j _ (fun _ _ => rfl) (fun e _ he => by rw [hj] at he; cases he; exact h3.symm), ?_, ?_, ?_, ?_⟩, frame _, by simp [Go.ChangeMaps.setBlock]⟩
    · simp [Instr.mapUpdate, run_underlying ht, MapKept.run_getObj_map hb, Kd.check w false hkey, h1, hj, h3, Kd.stays w hkey, MapKept.run_setObj_map _ hb, Result.andThen, Go.ChangeMaps.setBlock]
    · intro x hx
      rw [hm] at hx
      rcases List.mem_or_eq_of_mem_set hx with hx | rfl
      · exact hks x hx
      · exact ⟨_, hkey⟩
    · intro x hx
      rw [hm] at hx
      rcases List.mem_or_eq_of_mem_set hx with hx | rfl
      · exact hki x hx
      · exact ⟨_, rfl⟩
    · rw [hm, ← List.pairwise_map (f := fun x : MapEntry => x.key) (R := fun a b => a ≠ b), List.map_set]
      rw [show (List.map (fun x : MapEntry => x.key) es.toList).set j (ke i) = List.map (fun x : MapEntry => x.key) es.toList by
        apply List.ext_getElem?
        intro q
        rw [List.getElem?_set]
        by_cases hq : j = q
        · subst hq; simp [h2, h3]; simpa using hjl
        · simp [hq]]
      rw [List.pairwise_map]
      exact hpw
    · intro q u
      rw [hm]
      have hother : ∀ x, x ∈ es.toList.set j { e0 with key := ke i, val := v } ↔ x = { e0 with key := ke i, val := v } ∨ (x ∈ es.toList ∧ x.key ≠ ke i) := by
        intro x
        constructor
        · intro hx
          obtain ⟨p, hp⟩ := List.mem_iff_getElem?.1 hx
          rw [List.getElem?_set] at hp
          by_cases hq : j = p
          · subst hq; rw [if_pos rfl, if_pos hjl] at hp; exact .inl (Option.some.inj hp).symm
          · rw [if_neg hq] at hp
            refine .inr ⟨List.mem_of_getElem? hp, fun hk => hq ?_⟩
            have e1 := pw_inj hpw (List.mem_of_getElem? h2) (List.mem_of_getElem? hp) (h3.trans hk.symm)
            subst e1
            by_cases hlt : j < p
            · have hpl := (List.getElem?_eq_some_iff.1 hp).1
              have a1 := (List.getElem?_eq_some_iff.1 hp).2
              have a2 := (List.getElem?_eq_some_iff.1 h2).2
              have := (List.pairwise_iff_getElem.1 hpw) j p hjl hpl hlt
              rw [a1, a2] at this
              exact absurd rfl this
            · have hpl := (List.getElem?_eq_some_iff.1 hp).1
              have a1 := (List.getElem?_eq_some_iff.1 hp).2
              have a2 := (List.getElem?_eq_some_iff.1 h2).2
              have := (List.pairwise_iff_getElem.1 hpw) p j hpl hjl (by omega)
              rw [a1, a2] at this
              exact absurd rfl this
        · rintro (rfl | ⟨hx, hk⟩)
          · exact List.mem_of_getElem? (i := j) (by rw [List.getElem?_set, if_pos rfl, if_pos hjl])
          · obtain ⟨p, hp⟩ := List.mem_iff_getElem?.1 hx
            refine List.mem_of_getElem? (i := p) ?_
            rw [List.getElem?_set, if_neg]
            · exact hp
            · intro e; subst e; rw [h2] at hp; cases hp; exact hk h3
      show (if _ then _ else _) = _ ↔ _
      by_cases hji : q = i
      · subst hji
        rw [if_pos rfl]
        constructor
        · intro e; cases e; exact ⟨_, (hother _).2 (.inl rfl), rfl, rfl⟩
        · rintro ⟨x, hx, hk, rfl⟩
          rcases (hother x).1 hx with rfl | ⟨_, hne⟩
          · rfl
          · exact absurd hk hne
      · rw [if_neg hji, hf]
        constructor
        · rintro ⟨x, hx, hk, hv⟩; exact ⟨x, (hother x).2 (.inr ⟨hx, fun e => hji (hke _ _ (hk.symm.trans e))⟩), hk, hv⟩
        · rintro ⟨x, hx, hk, rfl⟩
          rcases (hother x).1 hx with rfl | ⟨hx', hne⟩
          · exact absurd (hke _ _ hk).symm hji
          · exact ⟨x, hx', hk, rfl⟩
end
end Go.Proofs.YtchhhjlpnecjkaaGreat.Den
namespace Go.Proofs.YtchhhjlpnecjkaaGreat.Den
open Go Go.RowKit
variable {R : Type} {Q : R → World → Prop} {w : World}
theorem w64 {x : Int} (h : -9223372036854775808 ≤ x ∧ x ≤ 9223372036854775807) : IntKind.wrap .i64 x = x := by rw [IntKind.wrap_i64]; omega
theorem wu32 {x : Int} (h : 0 ≤ x ∧ x ≤ 4294967295) : IntKind.wrap .u32 x = x := by rw [IntKind.wrap_u32]; omega
theorem wu8 {x : Int} (h : 0 ≤ x ∧ x ≤ 255) : IntKind.wrap .u8 x = x := by rw [IntKind.wrap_u8]; omega
theorem maxLen_eq : maxLen = 9223372036854775807 := by simp [maxLen]
theorem newI {T : TypeId} {cs : List Value} {K : Addr → W R} (hk : ∀ w', Blk w' w.heap.size T cs → Fr None w w' → w'.heap.size = w.heap.size + 1 → K ⟨w.heap.size, 0, none⟩ Q w') : newW T cs K Q w :=
  hk _ (Blk.new w T cs) ((Fr.refl _ _).alloc _) (by simp)
theorem putAt_all : ∀ {vs cs : List Value}, vs.length = cs.length → putAt cs 0 vs = vs := by
  intro vs cs h
  rw [putAt_get vs (by omega)]
  simp [h]
def one1 : List Value → Bool
  | [] => true
  | v :: r => v.oneCell' && one1 r
theorem one1_mem : ∀ {vs : List Value}, one1 vs = true → ∀ v ∈ vs, v.oneCell' = true
  | u :: r, h, v, hv => by
    simp only [one1, Bool.and_eq_true] at h
    rcases List.mem_cons.1 hv with rfl | hv
    · exact h.1
    · exact one1_mem h.2 v hv
theorem stoAll {b : Nat} {T : TypeId} {cs vs : List Value} {K : W R} (h : Blk w b T cs) (hl : vs.length = cs.length) (h1 : one1 vs = true) (hk : ∀ w', Blk w' b T vs → Fr (fun k => k = b) w w' → w'.heap.size = w.heap.size → K Q w') : stoL ⟨b, 0, none⟩ vs 0 K Q w :=
  stoBlk vs 0 h (by omega) (one1_mem h1) fun w' hb hf hs => hk w' (by rw [putAt_all hl] at hb; exact hb) hf hs
theorem locI {T : TypeId} {cs vs : List Value} {K : Addr → W R} (hl : vs.length = cs.length) (h1 : one1 vs = true)
    (hk : ∀ w', Blk w' w.heap.size T vs → Fr None w w' → w'.heap.size = w.heap.size + 1 → K ⟨w.heap.size, 0, none⟩ Q w') : newW T cs (fun a => stoL a vs 0 (K a)) Q w :=
  newI fun _ B f hs => stoAll B hl h1 fun w2 B2 f2 hs2 => hk w2 B2 (f.thenNew f2 (fun x e => by omega)) (by omega)
theorem fldI {b : Nat} {T : TypeId} {cs : List Value} {s : Sc} {i : Nat} {K : s.T → W R} (B : Blk w b T cs) {x : s.T} (hx : cs[i]? = some (s.e x)) (hk : K x Q w) : ld (.sc s) (Addr.add ⟨b, 0, none⟩ i) K Q w :=
  ⟨x, by rw [add_lit, Nat.zero_add]; exact (B.cell i).trans hx, hk⟩
theorem fld0 {b : Nat} {T : TypeId} {cs : List Value} {s : Sc} {i : Nat} {K : s.T → W R} (B : Blk w b T cs) {x : s.T} (hx : cs[i]? = some (s.e x)) (hk : K x Q w) : ld (.sc s) ⟨b, i, none⟩ K Q w :=
  ⟨x, (B.cell i).trans hx, hk⟩
theorem aggI {b : Nat} {T : TypeId} {cs : List Value} {l : List Sc} {K : Tup Sc.T l → W R} (B : Blk w b T cs) {x : Tup Sc.T l} (hx : cs = Tup.e Sc.e l x) (hk : K x Q w) : ld (.agg l) ⟨b, 0, none⟩ K Q w :=
  ⟨x, by subst hx; exact B.cells 0 _ (fun j u h => by rw [Nat.zero_add]; exact h), hk⟩
theorem setI {b : Nat} {T : TypeId} {cs : List Value} {i : Nat} {v : Value} {K : W R} (B : Blk w b T cs) (hi : i < cs.length) (h1 : v.oneCell' = true)
    (hk : ∀ w', Blk w' b T (cs.set i v) → Fr (fun k => k = b) w w' → w'.heap.size = w.heap.size → K Q w') : stoL ⟨b, i, none⟩ [v] 0 K Q w :=
  stoBlk (o := i) [v] 0 B (by simp; omega) (by simpa using h1) fun w' hb hf hs => hk w' (by simpa [putAt] using hb) hf hs
theorem idxB {b : Nat} {n sz : Nat} {i : Int} (h0 : 0 ≤ i) (h1 : i < n) {o : Nat} {K : Addr → W R} (hk : K ⟨b, o + i.toNat * sz, none⟩ Q w) : idxW (some ⟨b, o, none⟩) n sz i K Q w :=
  ⟨_, rfl, h0, h1, by rw [add_lit]; exact hk⟩
theorem ptrI {a : Addr} {K : Addr → W R} (hk : K a Q w) : ptrW (some a) K Q w := hk
theorem chkI {c : Prop} {K : W R} (h : c) (hk : K Q w) : chkW c K Q w := ⟨h, hk⟩
theorem Fr.newer {a b c : World} {T : Nat → Prop} (h : Fr None a b) (k : Fr T b c) (ht : ∀ x, T x → a.heap.size ≤ x) : Fr None a c := h.thenNew k ht
theorem forI {σ : Type} {step : (σ → W R) → σ → W R} {done : σ → W R} {s0 : σ} {N : Nat} (idx : σ → Int) (P : Nat → σ → World → Prop)
    (h0 : P 0 s0 w) (hi : ∀ j s w', P j s w' → idx s = j)
    (hs : ∀ j s w' (K : σ → W R), j < N → P j s w' → idx s = j → (∀ s' w'', P (j + 1) s' w'' → K s' Q w'') → step K s Q w') (hd : ∀ s w', P N s w' → done s Q w') :
    loopW (fun K s => cond (decide (idx s < (N : Int))) (step K s) (done s)) s0 Q w := by
  refine loopI (fun s w' => ∃ j, j ≤ N ∧ P j s w') (fun s _ => N - (idx s).toNat) ⟨0, Nat.zero_le _, h0⟩ ?_
  rintro s w' ⟨j, hj, hp⟩
  have e := hi j s w' hp
  rcases Nat.lt_or_ge j N with hlt | hge
  · refine condT (by simp [e]; omega) ?_
    refine hs j s w' _ hlt hp e ?_
    intro s' w'' hp'
    refine ⟨⟨j + 1, hlt, hp'⟩, ?_⟩
    rw [hi _ _ _ hp', e]
    omega
  · have : j = N := by omega
    subst this
    exact condF (by simp [e]) (hd s w' hp)
theorem wsucc {j N : Nat} (h : j < N) (hN : N ≤ 9223372036854775807) : IntKind.wrap .i64 ((j : Int) + 1) = ((j + 1 : Nat) : Int) := by rw [w64 (by omega)]; rfl
def slTyB (P : Program) (T E : TypeId) (t : Ty) (bytes : Nat) : Bool := match P.underlying T, P.info? E with
  | some (.slice E'), some i => Nat.beq E' E && (match i.zero with
    | some z => Nat.beq i.size t.size && Nat.beq i.bytes bytes && Nat.beq z.cells.size t.size
    | none => false) && Nat.blt 0 t.size && t.fine
  | _, _ => false
theorem slTy {P : Program} {T E : TypeId} {t : Ty} {bytes : Nat} (h : slTyB P T E t bytes = true) : SlTy P T E t bytes := by
  unfold slTyB at h
  split at h
  · rename_i E' i h1 h2
    simp only [Bool.and_eq_true] at h
    obtain ⟨⟨⟨hE, hz⟩, hp⟩, hf⟩ := h
    have := Nat.eq_of_beq_eq_true hE
    subst this
    split at hz
    · rename_i z hz1
      simp only [Bool.and_eq_true] at hz
      exact ⟨h1, ⟨i, z, h2, hz1, Nat.eq_of_beq_eq_true hz.1.1, Nat.eq_of_beq_eq_true hz.1.2, Nat.eq_of_beq_eq_true hz.2⟩, by simpa [Nat.blt_eq] using hp, hf⟩
    · cases hz
  · cases h
theorem app1 {P : Program} {T E ty : TypeId} {t : Ty} {bytes : Nat} (H : SlTy P T E t bytes) {S S' : Nat → Prop} {s : Sl} {l : List t.T} {b : Nat} {T' : TypeId} {cs : List Value} {x : t.T} (h : Own S w E t s l) (B : Blk w b T' cs) (hc : cs = t.cells x)
    (hb : (l.length + 1) * bytes ≤ 140737488355328) (hm : l.length + 1 ≤ maxLen) (h1 : ∀ k, S k → S' k) (h1' : S' w.heap.size) {K : Sl → W R}
    (hk : ∀ r w', Own S' w' E t r (l ++ [x]) → Fr (fun k => s.v.ownBlock = some k) w w' → w'.heap.size ≤ w.heap.size + 1 → K r Q w') : rawW P (Builtin.append_ #[T, T] ty #[.slice s.a s.n s.c, .slice (some ⟨b, 0, none⟩) 1 1]) [.sc .sl] K Q w := by
  have h2 : SlT (fun _ => True) w t ⟨some ⟨b, 0, none⟩, 1, 1⟩ [x] := by
    refine ⟨rfl, Nat.le_refl _, .inr ⟨b, 0, rfl, trivial, B.lt, fun i y hy => ?_⟩⟩
    rcases i with _ | i
    · simp at hy
      subst hy
      subst hc
      exact Rd.cells.2 (B.cells _ _ (fun j u hj => by rw [Nat.zero_add, Nat.zero_mul, Nat.zero_add]; exact hj))
    · simp at hy
  exact appI H h h2 hb hm h1 h1' hk
theorem SlT.get {ok : Nat → Prop} {t : Ty} {s : Sl} {l : List t.T} (h : SlT ok w t s l) {sz : Nat} (hsz : sz = t.size) {i : Int} {j : Nat} (hi : i = j) (hj : j < l.length) {K : t.T → W R} (hk : ∀ x, l[j]? = some x → K x Q w) :
    idxW s.a s.n sz i (fun a => ld t a K) Q w := by
  subst hi
  refine h.idx hsz (by omega) (by omega) fun a x hx hr => ldI x hr (hk x (by simpa using hx))
theorem drop_at {α : Type} {l : List α} {j : Nat} {x : α} (h : l[j]? = some x) : l.drop j = x :: l.drop (j + 1) := by
  obtain ⟨hl, he⟩ := List.getElem?_eq_some_iff.1 h
  rw [List.drop_eq_getElem_cons hl, he]
theorem take_at {α : Type} {l : List α} {j : Nat} {x : α} (h : l[j]? = some x) : l.take (j + 1) = l.take j ++ [x] := by
  rw [List.take_add_one, h]; rfl
abbrev Up (n : Nat) : Nat → Prop := fun k => n ≤ k
theorem Fr.up {n : Nat} {a b : World} (h : Fr None a b) : Fr (Up n) a b := h.mono fun _ _ h => h.elim
theorem Fr.ofUp {n : Nat} {a b : World} (h : Fr (Up n) a b) (hn : a.heap.size ≤ n) : Fr None a b := h.mono fun x hx h => by have : n ≤ x := h; omega
theorem Fr.thenUp {n : Nat} {a b c : World} (h : Fr None a b) (k : Fr (Up n) b c) (hn : a.heap.size ≤ n) : Fr None a c := h.newer k fun _ e => Nat.le_trans hn e
theorem Own.up {n m : Nat} {E : TypeId} {t : Ty} {s : Sl} {l : List t.T} (h : Own (Up n) w E t s l) (hn : m ≤ n) : Own (Up m) w E t s l := h.mono fun _ _ h => Nat.le_trans hn h
theorem Own.none {S : Nat → Prop} {w' : World} {E : TypeId} {t : Ty} {s : Sl} {l : List t.T} (h : Own S w E t s l) (f : Fr None w w') : Own S w' E t s l := h.fr f fun _ _ h => h
theorem Sl.own (s : Sl) : s.v.ownBlock = s.a.map (·.block) := by
  obtain ⟨a, n, c⟩ := s
  cases a <;> rfl
theorem Own.lt {S : Nat → Prop} {E : TypeId} {t : Ty} {s : Sl} {l : List t.T} (h : Own S w E t s l) {k : Nat} (e : s.v.ownBlock = some k) : k < w.heap.size := (h.row.lt k e).2
theorem Own.upFr {n : Nat} {v w' : World} {E : TypeId} {t : Ty} {s : Sl} {l : List t.T} (h : Own (Up n) v E t s l) (f : Fr (fun k => s.v.ownBlock = some k) w w') : Fr (Up n) w w' := f.mono fun _ _ e => h.own _ e
theorem Blk.frUp {n : Nat} {w' : World} {b : Nat} {T : TypeId} {cs : List Value} (h : Blk w b T cs) (f : Fr (Up n) w w') (hb : b < n) : Blk w' b T cs := h.fr f fun e => by have : n ≤ b := e; omega
theorem SlT.frUp {ok : Nat → Prop} {n : Nat} {w' : World} {t : Ty} {s : Sl} {l : List t.T} (h : SlT ok w t s l) (f : Fr (Up n) w w') (hn : w.heap.size ≤ n) : SlT ok w' t s l := h.fr0 (f.ofUp hn)
theorem bothI {X Y : W R} (h1 : X Q w) (h2 : Y Q w) : bothW X Y Q w := ⟨h1, h2⟩
theorem andI {p : World → Prop} {X : W R} (h : p w) (hx : X Q w) : andW p X Q w := ⟨h, hx⟩
theorem Blk.rd {b : Nat} {T : TypeId} {cs : List Value} (B : Blk w b T cs) {s : Sc} {i : Nat} {x : s.T} (hx : cs[i]? = some (s.e x)) : Rd w (Addr.add ⟨b, 0, none⟩ i) (.sc s) x := by
  rw [add_lit, Nat.zero_add]
  exact (B.cell i).trans hx
end Go.Proofs.YtchhhjlpnecjkaaGreat.Den
namespace Go.Proofs.YtchhhjlpnecjkaaGreat.Den
open Go Go.RowKit
variable {R : Type} {Q : R → World → Prop} {w : World} {P : Program}
def eqFs (P : Program) (rec : TypeId → Value → Value → Option Bool) (xs ys : Array Value) : List Field → Option Bool
  | [] => some true
  | f :: fs => bif f.name == "_" then eqFs P rec xs ys fs else match pv P (part f.type xs f.offset), pv P (part f.type ys f.offset) with
    | some a, some b => match rec f.type a b, eqFs P rec xs ys fs with
      | some r, some s => some (r && s)
      | _, _ => none
    | _, _ => none
def eqIs (P : Program) (rec : TypeId → Value → Value → Option Bool) (e : TypeId) (c : Nat) (xs ys : Array Value) : List Nat → Option Bool
  | [] => some true
  | i :: is => match pv P (part e xs (i * c)), pv P (part e ys (i * c)) with
    | some a, some b => match rec e a b, eqIs P rec e c xs ys is with
      | some r, some s => some (r && s)
      | _, _ => none
    | _, _ => none
def eqV (P : Program) : Nat → TypeId → Value → Value → Option Bool
  | 0, _, _, _ => none
  | d + 1, t, x, y => match P.underlying t, x, y with
    | some .bool, .bool a, .bool b => some (a == b)
    | some (.int _), .int k a, .int k' b => (match k, k' with
      | .i64, .i64 => some (a == b) | .i32, .i32 => some (a == b) | .u32, .u32 => some (a == b) | .u8, .u8 => some (a == b) | .u64, .u64 => some (a == b) | .u16, .u16 => some (a == b)
      | _, _ => none)
    | some .string, .string a, .string b => some (a.toList == b.toList)
    | some (.struct _), .agg xs, .agg ys => bif P.stoodInHeld t then none else eqFs P (eqV P d) xs ys (P.fieldsOf t).toList
    | some (.array n e), .agg xs, .agg ys => bif (P.info? e).isSome then eqIs P (eqV P d) e (P.cellsOf e) xs ys (List.range n) else none
    | _, _, _ => none
theorem eqFs_run {rec : TypeId → Value → Value → Option Bool} {d : Nat} (hr : ∀ t x y r, rec t x y = some r → ∀ w, (Op.equalIn d t x y).run P w = .ok r w) (xs ys : Array Value) :
    ∀ (fs : List Field) (r : Bool), eqFs P rec xs ys fs = some r → ∀ w, (Op.eqFields d xs ys fs).run P w = .ok r w
  | [], r, h, w => by simp only [eqFs] at h; cases h; simp [Op.eqFields]
  | f :: fs, r, h, w => by
    simp only [eqFs] at h
    cases hn : (f.name == "_") with
    | true =>
      rw [hn] at h
      have : ¬ (f.name ≠ "_") := by simpa using hn
      rw [Op.eqFields, if_neg this]
      exact eqFs_run hr xs ys fs r h w
    | false =>
      rw [hn] at h
      have hne : f.name ≠ "_" := by simpa using hn
      simp only [cond_false] at h
      split at h
      · rename_i a b ha hb
        split at h
        · rename_i r1 s1 h1 h2
          cases h
          rw [Op.eqFields, if_pos hne]
          simp only [Sem.run_bind, pv_run ha w, pv_run hb w, hr _ _ _ _ h1 w, Result.andThen_ok]
          cases r1
          · simp
          · simpa using eqFs_run hr xs ys fs s1 h2 w
        · cases h
      · cases h
theorem eqIs_run {rec : TypeId → Value → Value → Option Bool} {d : Nat} (hr : ∀ t x y r, rec t x y = some r → ∀ w, (Op.equalIn d t x y).run P w = .ok r w) (e : TypeId) (c : Nat) (xs ys : Array Value) :
    ∀ (is : List Nat) (r : Bool), eqIs P rec e c xs ys is = some r → ∀ w, (Op.eqItems d e c xs ys is).run P w = .ok r w
  | [], r, h, w => by simp only [eqIs] at h; cases h; simp [Op.eqItems]
  | i :: is, r, h, w => by
    simp only [eqIs] at h
    split at h
    · rename_i a b ha hb
      split at h
      · rename_i r1 s1 h1 h2
        cases h
        rw [Op.eqItems]
        simp only [Sem.run_bind, pv_run ha w, pv_run hb w, hr _ _ _ _ h1 w, Result.andThen_ok]
        cases r1
        · simp
        · simpa using eqIs_run hr e c xs ys is s1 h2 w
      · cases h
    · cases h
theorem eqV_run : ∀ (m : Nat) (t : TypeId) (x y : Value) (r : Bool), eqV P m t x y = some r → ∀ d, m ≤ d → ∀ w, (Op.equalIn d t x y).run P w = .ok r w
  | 0, _, _, _, _, h, _, _, _ => by simp [eqV] at h
  | m + 1, t, x, y, r, h, d, hd, w => by
    obtain ⟨d, rfl⟩ : ∃ d', d = d' + 1 := ⟨d - 1, by omega⟩
    have ih := fun t x y r h => eqV_run m t x y r h d (by omega)
    simp only [eqV] at h
    split at h
    · rename_i a b hu; cases h; exact run_equalIn_bool' w d t _ _ hu
    · rename_i k a k' b hu
      split at h <;> first | (cases h; done) | (cases h; exact run_equalIn_int w d t _ _ _ _ hu)
    · rename_i a b hu; cases h; exact run_equalIn_string w d t _ _ hu
    · rename_i fs xs ys hu
      cases hs : P.stoodInHeld t with
      | true => rw [hs] at h; cases h
      | false =>
        rw [hs] at h
        have hf : P.fieldsOf t = fs := by simp [Program.fieldsOf, hu]
        rw [run_equalIn_agg w d t xs ys (by rw [hf]; exact hu) hs]
        exact eqFs_run ih xs ys _ r h w
    · rename_i n e xs ys hu
      cases hi : P.info? e with
      | none => rw [hi] at h; cases h
      | some i =>
        rw [hi] at h
        rw [run_equalIn_array w d xs ys hu hi]
        exact eqIs_run ih e _ xs ys _ r h w
    · cases h
theorem neqI {T : TypeId} {a b : Operand} {xs ys : Array Value} {r : Bool} {K : Bool → W R} (hg : P.eqGuardType P.depth T = false) (h : eqV P 9 T (.agg xs) (.agg ys) = some r) (hk : K (!r) Q w) :
    rawQ P (do Go.eqGuard .neq T a b (.agg xs) (.agg ys); Go.binOp .neq T (.agg xs) (.agg ys)) [.sc .bool] K Q w := by
  refine ⟨!r, ?_, hk⟩
  rw [Sem.run_bind, run_eqGuard_agg (P := P) w _ _ _ _ _ _ hg]
  simp only [Result.andThen_ok]
  rw [run_neq_struct, eqV_run 9 T _ _ r h 10000 (by omega)]
  rfl
theorem eqlI {T : TypeId} {a b : Operand} {xs ys : Array Value} {r : Bool} {K : Bool → W R} (hg : P.eqGuardType P.depth T = false) (h : eqV P 9 T (.agg xs) (.agg ys) = some r) (hk : K r Q w) :
    rawQ P (do Go.eqGuard .eql T a b (.agg xs) (.agg ys); Go.binOp .eql T (.agg xs) (.agg ys)) [.sc .bool] K Q w := by
  refine ⟨r, ?_, hk⟩
  rw [Sem.run_bind, run_eqGuard_agg (P := P) w _ _ _ _ _ _ hg]
  simp only [Result.andThen_ok]
  rw [run_eql_struct, eqV_run 9 T _ _ r h 10000 (by omega)]
  rfl
end Go.Proofs.YtchhhjlpnecjkaaGreat.Den
namespace Go.Proofs.YtchhhjlpnecjkaaGreat
open Go Go.RowKit Go.Proofs.YtchhhjlpnecjkaaGreat.Den
abbrev Comp := Int × Int × Int × Int
abbrev compT : Ty := .agg [.int .u8, .int .i32, .int .i32, .int .i32]
abbrev fldT : Ty := .agg [.str, .int .i32, .int .i32]
def i32 (x : Int) : Prop := -2147483648 ≤ x ∧ x ≤ 2147483647
def CompOk (c : Comp) : Prop := (0 ≤ c.1 ∧ c.1 ≤ 255) ∧ i32 c.2.1 ∧ i32 c.2.2.1 ∧ i32 c.2.2.2
def fieldsM (k : Int) : List (ByteArray × Int × Int) :=
  if k = 0 then [(⟨#[120]⟩, -524288, 524287), (⟨#[121]⟩, -524288, 524287)]
  else if k = 1 then [(⟨#[100, 120]⟩, -32768, 32767), (⟨#[100, 121]⟩, -32768, 32767)]
  else if k = 2 then [(⟨#[108, 101, 102, 116]⟩, 0, 4095)]
  else if k = 3 then [(⟨#[115, 104, 97, 112, 101]⟩, 0, 15), (⟨#[104, 112]⟩, 0, 1000), (⟨#[115, 105, 122, 101]⟩, 1, 100)]
  else if k = 4 then [(⟨#[116, 101, 97, 109]⟩, 0, 7), (⟨#[99, 111, 108, 111, 114]⟩, 0, 255), (⟨#[102, 108, 97, 103, 115]⟩, 0, 31)]
  else if k = 5 then [(⟨#[101, 118, 101, 114, 121]⟩, 1, 255), (⟨#[108, 101, 102, 116]⟩, 0, 254), (⟨#[115, 104, 97, 112, 101]⟩, 0, 15)]
  else []
def nameM (k : Int) : ByteArray :=
  if k = 0 then ⟨#[112, 111, 115]⟩ else if k = 1 then ⟨#[118, 101, 108]⟩ else if k = 2 then ⟨#[108, 105, 102, 101]⟩ else if k = 3 then ⟨#[98, 111, 100, 121]⟩
  else if k = 4 then ⟨#[116, 97, 103]⟩ else if k = 5 then ⟨#[115, 112, 97, 119, 110]⟩ else ⟨#[]⟩
def toldM (k : Int) : Bool := decide (k = 0 ∨ k = 1 ∨ k = 2 ∨ k = 3 ∨ k = 4)
def cntM (k : Int) : Nat := (fieldsM k).length
theorem fieldsM_cases (k : Int) : k = 0 ∨ k = 1 ∨ k = 2 ∨ k = 3 ∨ k = 4 ∨ k = 5 ∨ (k ≠ 0 ∧ k ≠ 1 ∧ k ≠ 2 ∧ k ≠ 3 ∧ k ≠ 4 ∧ k ≠ 5) := by omega
theorem cntM_le (k : Int) : cntM k ≤ 3 := by
  rcases fieldsM_cases k with rfl | rfl | rfl | rfl | rfl | rfl | ⟨h0, h1, h2, h3, h4, h5⟩ <;> simp [cntM, fieldsM, *]
theorem cntM_0 (k : Int) : cntM k = 0 ↔ (k < 0 ∨ 5 < k) := by
  rcases fieldsM_cases k with rfl | rfl | rfl | rfl | rfl | rfl | ⟨h0, h1, h2, h3, h4, h5⟩ <;> simp [cntM, fieldsM, *]
  omega
def fl (c : Comp) : Nat → Int
  | 0 => c.2.1
  | 1 => c.2.2.1
  | _ => c.2.2.2
abbrev compC (c : Comp) : List Value := [.int .u8 c.1, .int .i32 c.2.1, .int .i32 c.2.2.1, .int .i32 c.2.2.2]
theorem compC_fl (c : Comp) {i : Nat} (h : i < 3) : (compC c)[1 + i]? = some (.int .i32 (fl c i)) := by
  rcases i with _ | _ | _ | i
  · rfl
  · rfl
  · rfl
  · omega
def inR (c : Comp) (i : Nat) : Bool := match (fieldsM c.1)[i]? with
  | some p => decide (p.2.1 ≤ fl c i) && decide (fl c i ≤ p.2.2)
  | none => fl c i == 0
def over (c : Comp) : Bool := (List.range 3).any fun i => decide (cntM c.1 ≤ i) && !inR c i
def checkM (c : Comp) : Int := if cntM c.1 = 0 then 1 else if over c then 4 else if (List.range 3).all (inR c) then 0 else 5
variable {R : Type} {Q : R → World → Prop} {w : World}
theorem spec_schema_of {k : Int} {K : Res [.agg [.str, .bool, .sl]] → W R} (hk : ∀ (s : Sl) w', SlT (fun b => w.heap.size ≤ b) w' fldT s (fieldsM k) → Fr None w w' → K (nameM k, toldM k, s) Q w') :
    callW Tryz.prog k_schema_of [.int .u8 k] [.agg [.str, .bool, .sl]] K Q w := by
  refine C_schema_of k K Q w ?_
  unfold F_schema_of
  refine newI fun w1 B1 f1 s1 => ?_
  have lit : ∀ {l : List (ByteArray × Int × Int)} {nm : ByteArray} {td : Bool} {n : Nat}, fieldsM k = l → nameM k = nm → toldM k = td → n = l.length → n ≤ 3 →
      newW 239 (l.flatMap fldT.cells) (fun x => stoL ⟨w.heap.size, 0, none⟩ [.string nm, .bool td, .slice (some x) n n] 0 <| ld (.agg [.str, .bool, .sl]) ⟨w.heap.size, 0, none⟩ fun y => K y) Q w1 := by
    intro l nm td n e1 e2 e3 e4 e5
    subst e1; subst e2; subst e3; subst e4
    have ow := Own.lit (S := fun b => w.heap.size ≤ b) w1 239 fldT (fieldsM k) (by omega) (by rw [maxLen_eq]; omega) rfl rfl
    refine newI fun w2 B2 f2 s2 => ?_
    refine stoAll (B1.fr f2 (fun h => h)) rfl rfl fun w3 B3 f3 s3 => ?_
    refine aggI B3 (x := (nameM k, toldM k, ⟨some ⟨w1.heap.size, 0, none⟩, (fieldsM k).length, (fieldsM k).length⟩)) rfl ?_
    refine hk _ _ ?_ ((f1.then0 f2).newer f3 (fun x e => by omega))
    refine ⟨rfl, Nat.le_refl _, .inr ⟨w1.heap.size, 0, rfl, by omega, by rw [s3, s2]; omega, fun i x hx => ?_⟩⟩
    rw [Nat.zero_add]
    refine Rd.keep (w := w2) (f3.block _ (by rw [s2]; omega) (by omega)) (Rd.cells.2 ?_)
    exact B2.cells _ _ (fun j u hu => flat_at hx j u hu)
  refine condE (fun h => ?_) fun h0 => ?_
  · subst h; exact lit (l := fieldsM 0) rfl rfl rfl rfl (by decide)
  refine condE (fun h => ?_) fun h1 => ?_
  · subst h; exact lit (l := fieldsM 1) rfl rfl rfl rfl (by decide)
  refine condE (fun h => ?_) fun h2 => ?_
  · subst h; exact lit (l := fieldsM 2) rfl rfl rfl rfl (by decide)
  refine condE (fun h => ?_) fun h3 => ?_
  · subst h; exact lit (l := fieldsM 3) rfl rfl rfl rfl (by decide)
  refine condE (fun h => ?_) fun h4 => ?_
  · subst h; exact lit (l := fieldsM 4) rfl rfl rfl rfl (by decide)
  refine condE (fun h => ?_) fun h5 => ?_
  · subst h; exact lit (l := fieldsM 5) rfl rfl rfl rfl (by decide)
  refine stoAll B1 rfl rfl fun w3 B3 f3 s3 => ?_
  refine aggI B3 (x := (⟨#[]⟩, false, ⟨none, 0, 0⟩)) rfl ?_
  have e1 : fieldsM k = [] := by simp [fieldsM, h0, h1, h2, h3, h4, h5]
  have e2 : nameM k = ⟨#[]⟩ := by simp [nameM, h0, h1, h2, h3, h4, h5]
  have e3 : toldM k = false := by simp [toldM, h0, h1, h2, h3, h4]
  have := hk ⟨none, 0, 0⟩ w3 (by rw [e1]; exact SlT.nil _) (f1.newer f3 (fun x e => by omega))
  rw [e2, e3] at this
  exact this
theorem comps_ty : SlTy Tryz.prog 55 92 compT 16 := slTy (by kernel_rfl)
theorem over_of {c : Comp} {i : Nat} (h : i < 3) (hn : cntM c.1 ≤ i) (hx : fl c i ≠ 0) : over c = true := by
  simp only [over, List.any_eq_true, List.mem_range, Bool.and_eq_true, decide_eq_true_eq]
  refine ⟨i, h, hn, ?_⟩
  have : (fieldsM c.1)[i]? = none := List.getElem?_eq_none hn
  simp [inR, this, hx]
theorem not_over {c : Comp} (h : ∀ i, cntM c.1 ≤ i → i < 3 → fl c i = 0) : over c = false := by
  rw [Bool.eq_false_iff]
  intro ho
  simp only [over, List.any_eq_true, List.mem_range, Bool.and_eq_true, decide_eq_true_eq] at ho
  obtain ⟨i, h3, hn, hx⟩ := ho
  have : (fieldsM c.1)[i]? = none := List.getElem?_eq_none hn
  simp [inR, this, h i hn h3] at hx
theorem all_inR {c : Comp} (h : ∀ i, cntM c.1 ≤ i → i < 3 → fl c i = 0) (h2 : ∀ i, i < cntM c.1 → inR c i = true) : (List.range 3).all (inR c) = true := by
  simp only [List.all_eq_true, List.mem_range]
  intro i hi
  rcases Nat.lt_or_ge i (cntM c.1) with hl | hg
  · exact h2 i hl
  · have : (fieldsM c.1)[i]? = none := List.getElem?_eq_none hg
    simp [inR, this, h i hg hi]
theorem not_all_inR {c : Comp} {i : Nat} (h : i < 3) (h2 : inR c i = false) : (List.range 3).all (inR c) = false := by
  rw [Bool.eq_false_iff]
  intro ho
  simp only [List.all_eq_true, List.mem_range] at ho
  rw [ho i h] at h2
  cases h2
theorem spec_schema_Check {c : Comp} {K : Res [.sc (.int .i64)] → W R} (hk : ∀ w', Fr None w w' → K (checkM c) Q w') :
    callW Tryz.prog k_schema_Check [.agg ⟨compC c⟩] [.sc (.int .i64)] K Q w := by
  refine C_schema_Check c K Q w ?_
  unfold F_schema_Check
  refine newI fun w1 B1 f1 s1 => ?_
  refine fldI B1 (x := c.1) rfl ?_
  refine spec_schema_of fun s w2 hS f2 => ?_
  have hn : s.n = cntM c.1 := hS.len
  have B2 := B1.fr f2 (fun h => h)
  have f02 := f1.then0 f2
  refine condE (fun h => ?_) fun h => ?_
  · have : cntM c.1 = 0 := by have : (s.n : Int) = 0 := h; omega
    have e := hk w2 f02
    simp only [checkM, this, if_true] at e
    exact e
  have h0 : cntM c.1 ≠ 0 := by intro e; exact h (by show (s.n : Int) = 0; omega)
  have h3 := cntM_le c.1
  refine chkI (by simp [hn]; omega) ?_
  simp only [Option.getD_some, Option.getD_none, Int.toNat_natCast, hn]
  refine forI (N := 3 - cntM c.1) (fun s : Int => s) (fun j s w' => s = j ∧ w' = w2 ∧ ∀ i, i < j → fl c (cntM c.1 + i) = 0) ⟨rfl, rfl, by omega⟩ (fun j s w' h => h.1) ?_ ?_
  · rintro j s1 w' K' hj ⟨e1, e2, hz⟩ - hK
    subst e1; subst e2
    simp only [show ¬ (3 = cntM c.1) by omega, if_false, Option.map_some, Nat.mul_one]
    rw [add_lit, add_lit]
    refine idxB (by omega) (by omega) ?_
    refine fld0 B2 (x := fl c (cntM c.1 + j)) (by
      rw [show 0 + 1 + cntM c.1 + (j : Int).toNat * 1 = 1 + (cntM c.1 + j) by simp; omega]
      exact compC_fl c (by omega)) ?_
    refine condN (fun hx => ?_) fun hx => ?_
    · have e := hk w' f02
      simp only [checkM, h0, if_false, over_of (c := c) (i := cntM c.1 + j) (by omega) (by omega) hx, if_true] at e
      exact e
    · refine hK _ _ ⟨wsucc hj (by omega), rfl, fun i hi => ?_⟩
      rcases Nat.lt_succ_iff_lt_or_eq.1 hi with h | h
      · exact hz i h
      · subst h; exact hx
  · rintro s1 w' ⟨e1, e2, hz⟩
    subst e2
    have hover : over c = false := not_over fun i h1 h2 => by
      have := hz (i - cntM c.1) (by omega)
      rwa [show cntM c.1 + (i - cntM c.1) = i by omega] at this
    refine forI (N := cntM c.1) (fun s : Int => s) (fun j s w'' => s = j ∧ Fr None w' w'' ∧ ∀ i, i < j → inR c i = true) ⟨rfl, Fr.refl _ _, by omega⟩ (fun j s w' h => h.1) ?_ ?_
    · rintro j s1 w3 K' hj ⟨e1, f3, hz2⟩ - hK
      subst e1
      rw [← hn]
      refine (hS.fr0 f3).idx rfl (by omega) (by rw [← hS.len]; omega) fun a x hx hr => ?_
      refine ldI x hr ?_
      refine newI fun w4 B4 f4 s4 => ?_
      refine stoAll B4 rfl rfl fun w5 B5 f5 s5 => ?_
      have f35 : Fr None w3 w5 := f4.newer f5 (fun y e => by omega)
      have B5' := (B2.fr f3 (fun h => h)).fr f35 (fun h => h)
      have hx' : (fieldsM c.1)[j]? = some x := by simpa using hx
      have hin : inR c j = (decide (x.2.1 ≤ fl c j) && decide (fl c j ≤ x.2.2)) := by simp [inR, hx']
      refine joinI (fun b w'' => b = !inR c j ∧ Fr None w3 w'') ?_ ?_
      · refine idxB (by omega) (by omega) ?_
        have hc : (compC c)[0 + 1 + (j : Int).toNat * 1]? = some (.int .i32 (fl c j)) := by
          rw [show 0 + 1 + (j : Int).toNat * 1 = 1 + j by simp]
          exact compC_fl c (by omega)
        refine fld0 B5'.drew (x := fl c j) hc ?_
        refine fldI B5.drew (x := x.2.1) rfl ?_
        refine condD (fun hlt => ?_) fun hge => ?_
        · exact ⟨by rw [hin]; simp; omega, f35.drew⟩
        · refine idxB (by omega) (by omega) ?_
          refine fld0 B5'.drew (x := fl c j) hc ?_
          refine fldI B5.drew (x := x.2.2) rfl ?_
          refine ⟨?_, f35.drew⟩
          rw [hin]
          have h1 : decide (x.2.1 ≤ fl c j) = true := decide_eq_true (Int.not_lt.1 hge)
          rw [h1, Bool.true_and]
          by_cases hgt : fl c j > x.2.2
          · rw [decide_eq_true hgt, decide_eq_false (Int.not_le.2 hgt)]; rfl
          · rw [decide_eq_false hgt, decide_eq_true (Int.not_lt.1 hgt)]; rfl
      · rintro b w6 ⟨rfl, f6⟩
        refine condI (fun hb => ?_) fun hb => ?_
        · have e := hk w6 ((f02.then0 f3).then0 f6)
          simp only [checkM, h0, if_false, hover, not_all_inR (c := c) (i := j) (by omega) (by simpa using hb)] at e
          exact e
        · refine hK _ _ ⟨wsucc hj (by omega), f3.then0 f6, fun i hi => ?_⟩
          rcases Nat.lt_succ_iff_lt_or_eq.1 hi with h | h
          · exact hz2 i h
          · subst h; simpa using hb
    · rintro s1 w3 ⟨e1, f3, hz2⟩
      have e := hk w3 (f02.then0 f3)
      simp only [checkM, h0, if_false, hover, all_inR (c := c) (fun i h1 h2 => by
        have := hz (i - cntM c.1) (by omega)
        rwa [show cntM c.1 + (i - cntM c.1) = i by omega] at this) hz2, if_true] at e
      exact e
def listM : Int → List Comp → Int
  | _, [] => 0
  | last, c :: r => if checkM c ≠ 0 then checkM c else if c.1 ≤ last then 4 else listM c.1 r
def listE (l : List Comp) : Int := listM (-1) l
def lastK (l : List Comp) : Nat → Int
  | 0 => -1
  | j + 1 => ((l[j]?).map (·.1)).getD 0
theorem listM_at {l : List Comp} {j : Nat} {x : Comp} (h : l[j]? = some x) : listM (lastK l j) (l.drop j) = if checkM x ≠ 0 then checkM x else if x.1 ≤ lastK l j then 4 else listM (lastK l (j + 1)) (l.drop (j + 1)) := by
  have e : lastK l (j + 1) = x.1 := by simp [lastK, h]
  rw [drop_at h, listM, e]
theorem listM_end (k : Int) (l : List Comp) : listM k (l.drop l.length) = 0 := by simp [listM]
theorem checkM_kind {c : Comp} (h : checkM c = 0) : 0 ≤ c.1 ∧ c.1 ≤ 5 := by
  have : cntM c.1 ≠ 0 := by intro e; simp [checkM, e] at h
  rw [ne_eq, cntM_0] at this
  omega
abbrev Small {α : Type} (l : List α) : Prop := l.length ≤ 1048576
theorem spec_schema_List {ok : Nat → Prop} {s : Sl} {l : List Comp} (hS : SlT ok w compT s l) (hm : Small l) {K : Res [.sc (.int .i64)] → W R} (hk : ∀ w', Fr None w w' → K (listE l) Q w') :
    callW Tryz.prog k_schema_List [.slice s.a s.n s.c] [.sc (.int .i64)] K Q w := by
  refine C_schema_List s K Q w ?_
  unfold F_schema_List
  refine forI (N := s.n) (fun s : Int => s) (fun j i w' => i = j ∧ Fr None w w' ∧ listE l = listM (lastK l j) (l.drop j)) ⟨rfl, Fr.refl _ _, rfl⟩ (fun j s w' h => h.1) ?_ ?_
  · rintro j i w1 K' hj ⟨rfl, f1, he⟩ - hK
    have hlen := hS.len
    refine (hS.fr0 f1).get rfl rfl (by omega) fun x hx => ?_
    refine locI rfl rfl fun w2 B2 f2 s2 => ?_
    refine aggI B2 (x := x) rfl ?_
    refine spec_schema_Check (c := x) fun w3 f3 => ?_
    have B3 := B2.fr f3 (fun h => h)
    have f13 := f2.then0 f3
    rw [listM_at hx] at he
    refine condN (fun hc => ?_) fun hc => ?_
    · rw [if_pos hc] at he
      rw [← he]
      exact hk _ (f1.then0 f13)
    · rw [if_neg (by simpa using hc)] at he
      refine joinI (fun b w' => b = decide (x.1 ≤ lastK l j) ∧ Fr None w3 w') ?_ ?_
      · refine condD (fun h0 => ?_) fun h0 => ?_
        · obtain ⟨j', rfl⟩ : ∃ j', j = j' + 1 := ⟨j - 1, by omega⟩
          refine fldI B3.drew (x := x.1) rfl ?_
          have hS4 := (hS.fr0 (f1.then0 f13)).fr0 (Fr.refl None _).drew
          refine hS4.idx rfl (by rw [w64 (by omega)]; omega) (by rw [w64 (by omega)]; omega) fun a y hy hr => ?_
          have hy' : l[j']? = some y := by
            rw [w64 (by omega)] at hy
            rwa [show (((j' + 1 : Nat) : Int) - 1).toNat = j' by omega] at hy
          refine ldI (t := .sc (.int .u8)) y.1 ?_ ?_
          · have := Rd.cells.1 hr 0 (.int .u8 y.1) rfl
            exact this
          · exact ⟨by simp [lastK, hy'], (Fr.refl _ _).drew⟩
        · have : j = 0 := by omega
          subst this
          have := (checkM_kind hc).1
          have e0 : lastK l 0 = -1 := rfl
          exact ⟨by rw [e0]; simp; omega, (Fr.refl _ _).drew⟩
      · rintro b w4 ⟨rfl, f4⟩
        have f14 := f13.then0 f4
        refine condD (fun hle => ?_) fun hle => ?_
        · rw [if_pos hle] at he
          rw [← he]
          exact hk _ (f1.then0 f14)
        · rw [if_neg hle] at he
          exact hK _ _ ⟨wsucc hj (by omega), f1.then0 f14, he⟩
  · rintro i w1 ⟨rfl, f1, he⟩
    rw [hS.len, listM_end] at he
    rw [← he]
    exact hk _ f1
theorem bits_or : ∀ m : Fin 64, ∀ k : Fin 6, bOr .u8 ((m.val : Nat) : Int) (shL .u8 1 ((k.val : Nat) : Int)) = ((m.val ||| (1 <<< k.val) : Nat) : Int) ∧ m.val ||| (1 <<< k.val) < 64 := by decide +kernel
def has (l : List Comp) (k : Nat) : Bool := l.any fun c => c.1 == (k : Int)
def orK (m : Nat) (c : Comp) : Nat := if (0 : Int) ≤ c.1 ∧ c.1 < (6 : Int) then m ||| (1 <<< c.1.toNat) else m
def maskN (l : List Comp) : Nat := l.foldl orK 0
theorem or_bit {m k i : Nat} : Nat.testBit (m ||| (1 <<< k)) i = (Nat.testBit m i || decide (i = k)) := by
  rw [Nat.testBit_or, Nat.one_shiftLeft, Nat.testBit_two_pow]
  congr 1
  exact decide_eq_decide.2 ⟨Eq.symm, Eq.symm⟩
theorem maskN_lt (l : List Comp) : maskN l < 64 := by
  unfold maskN
  have : ∀ (l : List Comp) (m : Nat), m < 64 → l.foldl orK m < 64 := by
    intro l
    induction l with
    | nil => intro m h; exact h
    | cons c r ih =>
      intro m h
      rw [List.foldl_cons]
      refine ih _ ?_
      unfold orK
      split
      · rename_i hc
        exact (bits_or ⟨m, h⟩ ⟨c.1.toNat, by omega⟩).2
      · exact h
  exact this l 0 (by omega)
theorem maskN_snoc (l : List Comp) (c : Comp) : maskN (l ++ [c]) = if 0 ≤ c.1 ∧ c.1 < 6 then maskN l ||| (1 <<< c.1.toNat) else maskN l := by
  unfold maskN
  rw [List.foldl_append]
  rfl
theorem maskN_bit (l : List Comp) {k : Nat} (hk : k < 6) : Nat.testBit (maskN l) k = has l k := by
  have : ∀ (l : List Comp) (m : Nat), Nat.testBit (l.foldl orK m) k = (Nat.testBit m k || has l k) := by
    intro l
    induction l with
    | nil => intro m; simp [has]
    | cons c r ih =>
      intro m
      rw [List.foldl_cons, ih, orK]
      by_cases hc : 0 ≤ c.1 ∧ c.1 < 6
      · rw [if_pos hc, or_bit, Bool.or_assoc]
        congr 1
        simp only [has, List.any_cons]
        congr 1
        by_cases h : k = c.1.toNat
        · simp [h]; omega
        · have : ¬ c.1 = (k : Int) := by omega
          simp [h, this]
      · rw [if_neg hc]
        congr 1
        have : ¬ c.1 = (k : Int) := by omega
        simp [has, this]
  have h := this l 0
  simpa [maskN] using h
theorem mask_ext {m n : Nat} (h1 : m < 64) (h2 : n < 64) (h : ∀ k, k < 6 → Nat.testBit m k = Nat.testBit n k) : m = n := by
  refine Nat.eq_of_testBit_eq fun i => ?_
  rcases Nat.lt_or_ge i 6 with hi | hi
  · exact h i hi
  · have : 64 ≤ 2 ^ i := Nat.pow_le_pow_right (n := 2) (by omega) hi
    rw [Nat.testBit_lt_two_pow (by omega), Nat.testBit_lt_two_pow (by omega)]
theorem spec_schema_Mask {ok : Nat → Prop} {s : Sl} {l : List Comp} (hS : SlT ok w compT s l) (hm : Small l) (hl : ∀ c ∈ l, CompOk c) {K : Res [.sc (.int .u8)] → W R} (hk : ∀ w', Fr None w w' → K ((maskN l : Nat) : Int) Q w') :
    callW Tryz.prog k_schema_Mask [.slice s.a s.n s.c] [.sc (.int .u8)] K Q w := by
  refine C_schema_Mask s K Q w ?_
  unfold F_schema_Mask
  have hlen := hS.len
  refine forI (N := s.n) (fun s : Int × Int => s.2) (fun j i w' => i = (((maskN (l.take j) : Nat) : Int), (j : Int)) ∧ Fr None w w') ⟨rfl, Fr.refl _ _⟩ (fun j s w' h => by rw [h.1]) ?_ ?_
  · rintro j i w1 K' hj ⟨rfl, f1⟩ - hK
    refine (hS.fr0 f1).get rfl rfl (by omega) fun x hx => ?_
    refine locI rfl rfl fun w2 B2 f2 s2 => ?_
    refine fldI B2 (x := x.1) rfl ?_
    have hx1 := (hl x (List.mem_of_getElem? hx)).1
    have hsn := maskN_snoc (l.take j) x
    rw [← take_at hx] at hsn
    refine joinI (fun m w' => m = ((maskN (l.take (j + 1)) : Nat) : Int) ∧ w' = w2) ?_ ?_
    · refine condD (fun h6 => ?_) fun h6 => ?_
      · refine fldI B2 (x := x.1) rfl ?_
        refine chkI hx1.1 ⟨?_, rfl⟩
        rw [hsn, if_pos ⟨hx1.1, h6⟩]
        have := (bits_or ⟨maskN (l.take j), maskN_lt _⟩ ⟨x.1.toNat, by omega⟩).1
        simp only [Int.toNat_of_nonneg hx1.1] at this
        exact this
      · exact ⟨by rw [hsn, if_neg (by omega)], rfl⟩
    · rintro m w3 ⟨rfl, rfl⟩
      exact hK _ _ ⟨by rw [wsucc hj (by omega)], f1.then0 f2⟩
  · rintro i w1 ⟨rfl, f1⟩
    rw [hlen, List.take_length]
    exact hk _ f1
def rangeM (k i : Int) : Int × Int × Int := if 0 ≤ i then (match (fieldsM k)[i.toNat]? with
  | some p => (p.2.1, p.2.2, 0)
  | none => (0, 0, 1)) else (0, 0, 1)
theorem comp_eq {x y : Comp} : (x.1 == y.1 && (((x.2.1 == y.2.1 && (x.2.2.1 == y.2.2.1 && (x.2.2.2 == y.2.2.2 && true)))) && true)) = decide (x = y) := by
  rw [Bool.eq_iff_iff]
  simp [Prod.ext_iff]
theorem eqV_comp (x y : Comp) : eqV Tryz.prog 9 92 (.agg ⟨compC x⟩) (.agg ⟨compC y⟩) = some (decide (x = y)) := by
  rw [← comp_eq]
  kernel_rfl
theorem eqG_comp : Tryz.prog.eqGuardType Tryz.prog.depth 92 = false := by kernel_rfl
def findM (l : List Comp) (k : Int) : Int := match l.findIdx? (fun c => c.1 == k) with
  | some i => i
  | none => -1
def withG (c : Comp) : Bool → List Comp → List Comp
  | done, [] => if done then [] else [c]
  | done, x :: r => (if !done && decide (x.1 ≥ c.1) then [c] else []) ++ ((if x.1 ≠ c.1 then [x] else []) ++ withG c (done || decide (x.1 ≥ c.1)) r)
def withM (l : List Comp) (c : Comp) : List Comp := withG c false l
end Go.Proofs.YtchhhjlpnecjkaaGreat
namespace Go.Proofs.YtchhhjlpnecjkaaGreat.Den
open Go Go.RowKit Go.ChangeShapes Go.WideShapes Go.ChangeAt Go.Deep
variable {H : Type} {enc : TypeId × Value → H} {P : Program} {w : World}
def LeafOk (enc : TypeId × Value → H) (P : Program) (w : World) (t : TypeId) (c : Value) : Prop := ∃ fuel x, DataW.trod enc P w 0 (fun _ => true) true fuel t [c] = some x
def leafSc (P : Program) (t : TypeId) : Option Sc := match P.underlying t with
  | some (.int k) => some (.int k)
  | some .bool => some .bool
  | some .string => some .str
  | some (.slice _) => some .sl
  | _ => none
def leavesF (P : Program) (rec : TypeId → Option (List TypeId)) : Nat → List Field → Option (List TypeId)
  | _, [] => some []
  | acc, f :: fs => bif Nat.beq f.offset acc then match rec f.type with
    | none => none
    | some l => bif Nat.beq l.length (P.cellsOf f.type) then match leavesF P rec (acc + l.length) fs with
      | none => none
      | some r => some (l ++ r)
      else none
    else none
def leaves (P : Program) : Nat → TypeId → Option (List TypeId)
  | 0, _ => none
  | n + 1, t => match P.underlying t with
    | some (.struct fs) => (match leavesF P (leaves P n) 0 fs.toList with
      | none => none
      | some l => bif Nat.beq l.length (P.cellsOf t) then some l else none)
    | some (.array k e) => (match leaves P n e with
      | none => none
      | some l => bif Nat.beq l.length (P.cellsOf e) && Nat.beq (k * l.length) (P.cellsOf t) then some ((List.range k).flatMap fun _ => l) else none)
    | _ => bif (leafSc P t).isSome then some [t] else none
theorem leavesF_ok {rec : TypeId → Option (List TypeId)} {fuel : Nat}
    (hr : ∀ (t : TypeId) (ts : List TypeId) (cs : List Value) (x : DataW H × List MemPlace), rec t = some ts → DataW.trod enc P w 0 (fun _ => true) true fuel t cs = some x → cs.length = ts.length ∧ ∀ (i : Nat) (ti : TypeId) (c : Value), ts[i]? = some ti → cs[i]? = some c → LeafOk enc P w ti c) (cs : List Value) :
    ∀ (fs : List Field) (acc : Nat) (ts : List TypeId), leavesF P rec acc fs = some ts → (∀ f ∈ fs, ∃ y, DataW.trod enc P w 0 (fun _ => true) true fuel f.type ((cs.drop f.offset).take (P.cellsOf f.type)) = some y) →
      ∀ (i : Nat) (ti : TypeId) (c : Value), ts[i]? = some ti → cs[acc + i]? = some c → LeafOk enc P w ti c
  | [], _, ts, h, _, i, ti, c, hi, _ => by simp only [leavesF] at h; cases h; simp at hi
  | f :: fs, acc, ts, h, hf, i, ti, c, hi, hc => by
    simp only [leavesF] at h
    cases ho : Nat.beq f.offset acc with
    | false => rw [ho] at h; cases h
    | true =>
      rw [ho, cond_true] at h
      have ho := Nat.eq_of_beq_eq_true ho
      split at h
      · cases h
      · rename_i l hl
        cases hn : Nat.beq l.length (P.cellsOf f.type) with
        | false => rw [hn] at h; cases h
        | true =>
          rw [hn, cond_true] at h
          have hn := Nat.eq_of_beq_eq_true hn
          split at h
          · cases h
          · rename_i r hrr
            cases h
            obtain ⟨y, hy⟩ := hf f List.mem_cons_self
            obtain ⟨h1, h2⟩ := hr _ _ _ _ hl hy
            by_cases hil : i < l.length
            · rw [List.getElem?_append_left hil] at hi
              refine h2 i ti c hi ?_
              rw [List.getElem?_take, if_pos (by omega), List.getElem?_drop, ho]
              exact hc
            · rw [List.getElem?_append_right (by omega)] at hi
              exact leavesF_ok hr cs fs (acc + l.length) r hrr (fun g hg => hf g (List.mem_cons_of_mem _ hg)) (i - l.length) ti c hi (by rw [show acc + l.length + (i - l.length) = acc + i by omega]; exact hc)
theorem flat_range_len {α : Type} (l : List α) (k : Nat) : ((List.range k).flatMap fun _ => l).length = k * l.length := by
  induction k with
  | zero => simp
  | succ k ih => rw [List.range_succ, List.flatMap_append, List.length_append, ih, Nat.add_mul]; simp
theorem range_flat {α : Type} (l : List α) : ∀ (k i : Nat) (x : α), ((List.range k).flatMap fun _ => l)[i]? = some x → 0 < l.length ∧ i < k * l.length ∧ l[i % l.length]? = some x
  | 0, i, x, h => by simp at h
  | k + 1, i, x, h => by
    rw [List.range_succ, List.flatMap_append] at h
    have hlen := flat_range_len l k
    by_cases hi : i < k * l.length
    · rw [List.getElem?_append_left (by omega)] at h
      obtain ⟨h1, h2, h3⟩ := range_flat l k i x h
      exact ⟨h1, by rw [Nat.add_mul]; omega, h3⟩
    · rw [List.getElem?_append_right (by omega), hlen] at h
      simp only [List.flatMap_cons, List.flatMap_nil, List.append_nil] at h
      have hlt := (List.getElem?_eq_some_iff.1 h).1
      refine ⟨by omega, by rw [Nat.add_mul]; omega, ?_⟩
      have : i % l.length = i - k * l.length := by
        rw [show i = (i - k * l.length) + k * l.length by omega, Nat.add_mul_mod_self_right, Nat.mod_eq_of_lt hlt]
        omega
      rw [this]
      exact h
theorem leaves_ok : ∀ (n : Nat) (fuel : Nat) (t : TypeId) (ts : List TypeId) (cs : List Value) (x : DataW H × List MemPlace), leaves P n t = some ts → DataW.trod enc P w 0 (fun _ => true) true fuel t cs = some x →
    cs.length = ts.length ∧ ∀ (i : Nat) (ti : TypeId) (c : Value), ts[i]? = some ti → cs[i]? = some c → LeafOk enc P w ti c
  | 0, _, _, _, _, _, h, _ => by simp [leaves] at h
  | n + 1, 0, _, _, _, _, _, h => by simp [DataW.trod] at h
  | n + 1, fuel + 1, t, ts, cs, x, h, ht => by
    have one : ∀ c, cs = [c] → ts = [t] → cs.length = ts.length ∧ ∀ (i : Nat) (ti : TypeId) (c : Value), ts[i]? = some ti → cs[i]? = some c → LeafOk enc P w ti c := by
      intro c hc hts
      subst hc; subst hts
      refine ⟨rfl, fun i ti c' hi hc => ?_⟩
      rcases i with _ | i
      · simp at hi hc
        subst hi; subst hc
        exact ⟨_, x, ht⟩
      · simp at hi
    have ht0 := ht
    simp only [leaves] at h
    split at h
    · rename_i fs hu
      obtain ⟨xs, m, hm, _, hlen, hxl, hxs⟩ := DataW.trod_struct hu ht
      cases hm
      split at h
      · cases h
      · rename_i l hl
        cases hn : Nat.beq l.length (P.cellsOf t) with
        | false => rw [hn] at h; cases h
        | true =>
          rw [hn, cond_true] at h
          cases h
          have hn := Nat.eq_of_beq_eq_true hn
          refine ⟨by omega, fun i ti c hi hc => ?_⟩
          refine leavesF_ok (fun t ts cs x h1 h2 => leaves_ok n fuel t ts cs x h1 h2) cs fs.toList 0 ts hl (fun f hf => ?_) i ti c hi (by rw [Nat.zero_add]; exact hc)
          obtain ⟨q, hq⟩ := List.mem_iff_getElem?.1 hf
          rw [Array.getElem?_toList] at hq
          rw [hxs q f hq]
          exact ⟨_, List.getElem?_eq_getElem (by rw [hxl]; exact (Array.getElem?_eq_some_iff.1 hq).1)⟩
    · rename_i k e hu
      obtain ⟨xs, m, hm, _, hlen, hxl, hxs⟩ := DataW.trod_array hu ht
      cases hm
      split at h
      · cases h
      · rename_i l hl
        cases hn : (Nat.beq l.length (P.cellsOf e) && Nat.beq (k * l.length) (P.cellsOf t)) with
        | false => rw [hn] at h; cases h
        | true =>
          rw [hn, cond_true] at h
          cases h
          rw [Bool.and_eq_true] at hn
          have hn1 := Nat.eq_of_beq_eq_true hn.1
          have hn2 := Nat.eq_of_beq_eq_true hn.2
          refine ⟨by rw [flat_range_len, hlen, hn2], fun i ti c hi hc => ?_⟩
          obtain ⟨h1, h2, h3⟩ := range_flat l k i ti hi
          have hq : i / l.length < k := Nat.div_lt_of_lt_mul (by rw [Nat.mul_comm]; exact h2)
          have hy := hxs (i / l.length) hq
          rw [List.getElem?_eq_getElem (by rw [hxl]; exact hq)] at hy
          refine (leaves_ok n fuel e l _ _ hl hy).2 (i % l.length) ti c h3 ?_
          rw [List.getElem?_take, if_pos (by rw [← hn1]; exact Nat.mod_lt _ h1), List.getElem?_drop, ← hn1, Nat.mul_comm, Nat.div_add_mod]
          exact hc
    · rename_i h1 h2
      cases hsc : leafSc P t with
      | none => rw [hsc] at h; cases h
      | some s =>
        rw [hsc] at h
        cases h
        have : ∃ c, cs = [c] := by
          unfold leafSc at hsc
          split at hsc
          · rename_i hu; obtain ⟨n, hc, _⟩ := DataW.trod_int hu ht0; exact ⟨_, hc⟩
          · rename_i hu; obtain ⟨n, hc, _⟩ := DataW.trod_bool hu ht0; exact ⟨_, hc⟩
          · rename_i hu; obtain ⟨n, hc, _⟩ := DataW.trod_string hu ht0; exact ⟨_, hc⟩
          · rename_i hu
            rcases DataW.trod_slice hu ht0 with ⟨hc, _⟩ | ⟨a, len, cap, _, _, _, _, hc, _⟩
            · exact ⟨_, hc⟩
            · exact ⟨_, hc⟩
          · cases hsc
        obtain ⟨c, hc⟩ := this
        exact one c hc rfl
theorem LeafOk.int {t : TypeId} {c : Value} {k : IntKind} (h : LeafOk enc P w t c) (hu : P.underlying t = some (.int k)) : ∃ n, c = .int k n ∧ (Lit.int k n).wf = true := by
  obtain ⟨fuel, x, h⟩ := h
  obtain ⟨n, hc, _, hw⟩ := DataW.trod_int hu h
  exact ⟨n, by simpa using hc, hw⟩
theorem LeafOk.bool {t : TypeId} {c : Value} (h : LeafOk enc P w t c) (hu : P.underlying t = some .bool) : ∃ b, c = .bool b := by
  obtain ⟨fuel, x, h⟩ := h
  obtain ⟨n, hc, _⟩ := DataW.trod_bool hu h
  exact ⟨n, by simpa using hc⟩
theorem LeafOk.str {t : TypeId} {c : Value} (h : LeafOk enc P w t c) (hu : P.underlying t = some .string) : ∃ b, c = .string b := by
  obtain ⟨fuel, x, h⟩ := h
  obtain ⟨n, hc, _⟩ := DataW.trod_string hu h
  exact ⟨n, by simpa using hc⟩
theorem LeafOk.sc {t : TypeId} {c : Value} {s : Sc} (h : LeafOk enc P w t c) (hs : leafSc P t = some s) : ∃ x : s.T, c = s.e x := by
  unfold leafSc at hs
  split at hs
  · rename_i hu; cases hs; obtain ⟨n, hc, _⟩ := h.int hu; exact ⟨n, hc⟩
  · rename_i hu; cases hs; obtain ⟨n, hc⟩ := h.bool hu; exact ⟨n, hc⟩
  · rename_i hu; cases hs; obtain ⟨n, hc⟩ := h.str hu; exact ⟨n, hc⟩
  · rename_i hu
    cases hs
    obtain ⟨fuel, x, h⟩ := h
    rcases DataW.trod_slice hu h with ⟨hc, _⟩ | ⟨a, len, cap, _, _, _, _, hc, _⟩
    · exact ⟨⟨none, 0, 0⟩, by simpa using hc⟩
    · exact ⟨⟨some a, len, cap⟩, by simpa using hc⟩
  · cases hs
theorem tup_of : ∀ {ts : List TypeId} {ss : List Sc} {cs : List Value}, ts.map (leafSc P) = ss.map some → cs.length = ts.length → (∀ (i : Nat) (ti : TypeId) (c : Value), ts[i]? = some ti → cs[i]? = some c → LeafOk enc P w ti c) →
    ∃ x : Tup Sc.T ss, cs = Tup.e Sc.e ss x
  | [], [], [], _, _, _ => ⟨(), rfl⟩
  | [], _ :: _, _, h, _, _ => by simp at h
  | _ :: _, [], _, h, _, _ => by simp at h
  | [], [], _ :: _, _, h, _ => by simp at h
  | t :: ts, s :: ss, [], _, h, _ => by simp at h
  | t :: ts, s :: ss, c :: cs, h, hl, ho => by
    simp only [List.map_cons, List.cons.injEq] at h
    obtain ⟨x, hx⟩ := (ho 0 t c rfl rfl).sc h.1
    obtain ⟨y, hy⟩ := tup_of (cs := cs) h.2 (by simpa using hl) (fun i ti c hi hc => ho (i + 1) ti c (by simpa using hi) (by simpa using hc))
    rcases ss with _ | ⟨s2, ss⟩
    · rcases ts with _ | ⟨t2, ts⟩
      · rcases cs with _ | ⟨c2, cs⟩
        · exact ⟨x, by rw [hx]; rfl⟩
        · simp at hl
      · simp at h
    · exact ⟨(x, y), by rw [hx, hy]; rfl⟩
def AllLeaf (enc : TypeId × Value → H) (P : Program) (w : World) (ts : List TypeId) (cs : List Value) : Prop := cs.length = ts.length ∧ ∀ (i : Nat) (ti : TypeId) (c : Value), ts[i]? = some ti → cs[i]? = some c → LeafOk enc P w ti c
theorem list_of {α : Type} {p : Nat → α → Prop} : ∀ (n : Nat), (∀ i, i < n → ∃ x, p i x) → ∃ l : List α, l.length = n ∧ ∀ i x, l[i]? = some x → p i x
  | 0, _ => ⟨[], rfl, fun i x h => by simp at h⟩
  | n + 1, h => by
    obtain ⟨l, hl, hp⟩ := list_of n fun i hi => h i (by omega)
    obtain ⟨x, hx⟩ := h n (by omega)
    refine ⟨l ++ [x], by simp [hl], fun i y hy => ?_⟩
    by_cases hi : i < l.length
    · rw [List.getElem?_append_left hi] at hy; exact hp i y hy
    · rw [List.getElem?_append_right (by omega)] at hy
      have : i - l.length = 0 := by
        have := (List.getElem?_eq_some_iff.1 hy).1
        simp at this
        omega
      rw [this] at hy
      simp at hy
      subst hy
      rw [show i = n by omega]
      exact hx
theorem spot_of {a : Addr} {v : Value} (h : w.cell? a = some v) : a = ⟨a.block, a.off, none⟩ := by
  obtain ⟨b, o, s⟩ := a
  cases s with
  | none => rfl
  | some x =>
    exfalso
    simp only [World.cell?] at h
    split at h
    · cases h
    · cases h
theorem add0 (a : Addr) : a.add 0 = a := by unfold Addr.add; simp
theorem cells_at {base : Nat} {a : Addr} {n : Nat} {cs : List Value} (h : w.cells? base a n = some cs) : cs.length = n ∧ CellsAt w a cs := by
  unfold World.cells? at h
  split at h
  · refine ⟨?_, fun j u hj => ?_⟩
    · have := congrArg (Option.map List.length) (rfl : (List.range n).mapM (fun i => w.cell? (a.add i)) = _)
      rw [h] at this
      clear this
      have key : ∀ (l : List Nat) (ys : List Value), l.mapM (fun i => w.cell? (a.add i)) = some ys → ys.length = l.length := by
        intro l
        induction l with
        | nil => intro ys h; simp at h; subst h; rfl
        | cons x l ih =>
          intro ys h
          rw [List.mapM_cons] at h
          obtain ⟨y, hy, h2⟩ := Option.bind_eq_some_iff.1 h
          obtain ⟨ys', hys, h3⟩ := Option.bind_eq_some_iff.1 h2
          cases h3
          simp [ih ys' hys]
      rw [key _ _ h]
      simp
    · have key : ∀ (l : List Nat) (ys : List Value), l.mapM (fun i => w.cell? (a.add i)) = some ys → ∀ (j : Nat) (u : Value) (k : Nat), ys[j]? = some u → l[j]? = some k → w.cell? (a.add k) = some u := by
        intro l
        induction l with
        | nil => intro ys h j u k _ hk; simp at hk
        | cons x l ih =>
          intro ys h j u k hj hk
          rw [List.mapM_cons] at h
          obtain ⟨y, hy, h2⟩ := Option.bind_eq_some_iff.1 h
          obtain ⟨ys', hys, h3⟩ := Option.bind_eq_some_iff.1 h2
          cases h3
          rcases j with _ | j
          · simp at hj hk
            subst hj; subst hk
            exact hy
          · exact ih ys' hys j u k (by simpa using hj) (by simpa using hk)
      have hjl : j < n := by
        have key2 : ∀ (l : List Nat) (ys : List Value), l.mapM (fun i => w.cell? (a.add i)) = some ys → ys.length = l.length := by
          intro l
          induction l with
          | nil => intro ys h; simp at h; subst h; rfl
          | cons x l ih =>
            intro ys h
            rw [List.mapM_cons] at h
            obtain ⟨y, hy, h2⟩ := Option.bind_eq_some_iff.1 h
            obtain ⟨ys', hys, h3⟩ := Option.bind_eq_some_iff.1 h2
            cases h3
            simp [ih ys' hys]
        have := key2 _ _ h
        have := (List.getElem?_eq_some_iff.1 hj).1
        simp at *
        omega
      exact key _ _ h j u j hj (by simp [hjl])
  · cases h
structure SlArg (P : Program) (t e : TypeId) (ty : Ty) (ts : List TypeId) : Prop where
  under : P.underlying t = some (.slice e)
  size : P.cellsOf e = ty.size
  pos : 0 < ty.size
  leaf : leaves P 9 e = some ts
  sorts : ∃ ss : List Sc, ts.map (leafSc P) = ss.map some ∧ ((ty = .agg ss) ∨ ∃ s, ty = .sc s ∧ ss = [s])
theorem LeafOk.slice {t e : TypeId} {ty : Ty} {ts : List TypeId} (A : SlArg P t e ty ts) {c : Value} (h : LeafOk enc P w t c) :
    ∃ (s : Sl) (l : List ty.T), c = s.v ∧ SlT (fun k => k < w.heap.size) w ty s l ∧ s.c ≤ maxLen ∧ ∀ x ∈ l, AllLeaf enc P w ts (ty.cells x) := by
  obtain ⟨fuel, x, h⟩ := h
  rcases open_slice A.under h with ⟨hc, _⟩ | ⟨a, len, cap, m, n, D, Pl, hc, hb, hl, hm, hmm, _, hel⟩
  · exact ⟨⟨none, 0, 0⟩, [], by simpa [Sl.v] using hc, SlT.nil _, Nat.zero_le _, by simp⟩
  · have hmc : m = cap := by simpa using hmm
    subst hmc
    obtain ⟨ss, hss, hty⟩ := A.sorts
    have each : ∀ i, i < len → ∃ x : ty.T, CellsAt w (a.add (i * ty.size)) (ty.cells x) ∧ AllLeaf enc P w ts (ty.cells x) := by
      intro i hi
      obtain ⟨cs', h1, h2⟩ := hel i (by omega)
      obtain ⟨h3, h4⟩ := cells_at h1
      obtain ⟨h5, h6⟩ := leaves_ok 9 n e ts cs' _ A.leaf h2
      obtain ⟨x, hx⟩ := tup_of hss h5 h6
      rw [A.size] at h4
      rcases hty with rfl | ⟨s, rfl, rfl⟩
      · exact ⟨x, by rw [show Ty.cells (.agg ss) x = cs' from hx.symm]; exact h4, by rw [show Ty.cells (.agg ss) x = cs' from hx.symm]; exact ⟨h5, h6⟩⟩
      · exact ⟨x, by rw [show Ty.cells (.sc s) x = cs' from hx.symm]; exact h4, by rw [show Ty.cells (.sc s) x = cs' from hx.symm]; exact ⟨h5, h6⟩⟩
    obtain ⟨l, hll, hlp⟩ := list_of len each
    refine ⟨⟨some a, len, m⟩, l, by simpa [Sl.v] using hc, ⟨hll.symm, hl, ?_⟩, hm, fun x hx => ?_⟩
    · by_cases h0 : l = []
      · exact .inl h0
      · right
        have hpos : 0 < l.length := List.length_pos_iff.2 h0
        have hx0 := List.getElem?_eq_getElem hpos
        have hc0 := (hlp 0 _ hx0).1
        rw [Nat.zero_mul, add0] at hc0
        have hcl := ty.cells_len l[0]
        have hp := A.pos
        have hcell := hc0 0 _ (List.getElem?_eq_getElem (by omega))
        rw [add0] at hcell
        have ha := spot_of hcell
        refine ⟨a.block, a.off, by rw [ha], World.block_lt_of_cell? w a hcell, World.block_lt_of_cell? w a hcell, fun i x hx => ?_⟩
        refine Rd.cells.2 ?_
        have := (hlp i x hx).1
        rw [ha, add_lit] at this
        exact this
    · obtain ⟨i, hi⟩ := List.mem_iff_getElem?.1 hx
      exact (hlp i x hi).2
theorem trodAll_below {P : Program} (hl : laidOutB P = true) {W W' : World} (hb : Below W.heap.size W W') : ∀ {ts : List TypeId} {vs : List Value} {ds : List (DataW H)} {ps : List MemPlace}, (∀ t ∈ ts, P.readableRec t = true ∧ t < P.types.size) →
    DataW.TrodAll enc P W 0 (fun _ => true) true ts vs ds ps → (∀ x ∈ ps, x.block < W.heap.size) → DataW.TrodAll enc P W' 0 (fun b => decide (b < W.heap.size)) true ts vs ds ps
  | [], [], [], _, _, h, _ => h
  | [], [], _ :: _, _, _, h, _ => h.elim
  | [], _ :: _, _, _, _, h, _ => h.elim
  | _ :: _, [], _, _, _, h, _ => h.elim
  | _ :: _, _ :: _, [], _, _, h, _ => h.elim
  | t :: ts, v :: vs, d :: ds, ps, hr, ⟨p, q, h1, h2, e⟩, hlt => by
    subst e
    exact ⟨p, q, Below.trod hl (hr t List.mem_cons_self).1 (hr t List.mem_cons_self).2 h1 hb (fun x hx => hlt x (List.mem_append_left _ hx)),
      trodAll_below hl hb (fun u hu => hr u (List.mem_cons_of_mem _ hu)) h2 (fun x hx => hlt x (List.mem_append_right _ hx)), rfl⟩
theorem law_post {P : Program} (hl : laidOutB P = true) {f : Func} {s : ChangeSpec} {W W' : World} {args : Array Value} {ds gs : List (DataW H)} {before : List MemPlace} {tb : TypeId} (hbool : P.underlying tb = some .bool) (hres : f.resultTypes = #[tb])
    (hr : ∀ t ∈ f.params.toList, P.readableRec t = true ∧ t < P.types.size) (hvars : s.vars = []) (hs : (s.fn H (ds ++ [])).results = [.lit (.bool true)] ∧ (s.fn H (ds ++ [])).args = ds ∧ (s.fn H (ds ++ [])).vars = [])
    (hW : DataW.Whole enc P f.params.toList s.vars false W args.toList ds gs before) (hf : Fr None W W') : s.post enc P f false true false false W args (.bool true) W' := by
  have hlt := hW.lt
  have hW2 := hW
  obtain ⟨p, q, hA, hV, rfl, hfz, hnd⟩ := hW2
  rw [hvars] at hV
  obtain ⟨hgs, hq⟩ : gs = [] ∧ q = [] := by
    cases gs with
    | nil => exact ⟨rfl, hV⟩
    | cons _ _ => exact hV.elim
  subst hq; subst hgs
  refine ⟨ds, [], p ++ [], [], p, [], hW, ?_, ?_, ?_, hf.below.frame _, fun h => by cases h⟩
  · rw [hs.1, hres]
    exact trodAll_mk1 (shut_bool hbool true)
  · rw [hs.2.1]
    exact trodAll_below hl hf.below hr hA (fun x hx => hlt x (by simpa using hx))
  · rw [hs.2.2, hvars]
    rfl
def aggB (P : Program) (t : TypeId) : Bool := match P.underlying t with
  | some (.struct _) => true
  | some (.array _ _) => true
  | _ => false
structure AggArg (P : Program) (t : TypeId) (ss : List Sc) (ts : List TypeId) : Prop where
  under : aggB P t = true
  leaf : leaves P 9 t = some ts
  sorts : ts.map (leafSc P) = ss.map some
theorem arg_agg {t : TypeId} {ss : List Sc} {ts : List TypeId} (A : AggArg P t ss ts) {v : Value} {d : DataW H} {p : List MemPlace} (hval : Value.okWide P w .any 0 t v) (h : DataW.Trod enc P w 0 (fun _ => true) true t v d p) :
    ∃ x : Tup Sc.T ss, v = .agg ⟨Tup.e Sc.e ss x⟩ ∧ AllLeaf enc P w ts (Tup.e Sc.e ss x) := by
  have : ∃ cs, v = .agg cs := by
    unfold Value.okWide at hval
    have hu := A.under
    unfold aggB at hu
    split at hu
    · rename_i fs hu2; rw [hu2] at hval; obtain ⟨cs, h, _⟩ := hval; exact ⟨cs, h⟩
    · rename_i n e hu2; rw [hu2] at hval; obtain ⟨cs, h, _⟩ := hval; exact ⟨cs, h⟩
    · cases hu
  obtain ⟨cs, rfl⟩ := this
  obtain ⟨fuel, hf⟩ := h
  have hf : DataW.trod enc P w 0 (fun _ => true) true fuel t cs.toList = some (d, p) := hf
  obtain ⟨h1, h2⟩ := leaves_ok 9 fuel t ts cs.toList _ A.leaf hf
  obtain ⟨x, hx⟩ := tup_of A.sorts h1 h2
  refine ⟨x, ?_, ?_⟩
  · rw [← hx]
  · rw [← hx]; exact ⟨h1, h2⟩
end Go.Proofs.YtchhhjlpnecjkaaGreat.Den
namespace Go.Proofs.YtchhhjlpnecjkaaGreat
open Go Go.RowKit Go.ChangeShapes Go.WideShapes Go.ChangeAt Go.Proofs.YtchhhjlpnecjkaaGreat.Den
variable {R : Type} {Q : R → World → Prop} {w : World}
theorem calls_of {f : Nat} {args : List Value} {W : World} (h : callW Tryz.prog f args [.sc .bool] (fun (r : Bool) (_ : Unit → World → Prop) w' => r = true ∧ Fr None W w') (fun _ _ => True) W) : Calls Tryz.prog f ⟨args⟩ W (fun e w' => e = .returned (.bool true) ∧ Fr None W w') :=
  Calls.mono h fun _ w' ⟨r, he, hr, hf⟩ => ⟨by rw [he, hr]; rfl, hf⟩
theorem own_knob : ownKnob Tryz.prog.godebug = none := by kernel_rfl
theorem laid_out : laidOutB Tryz.prog = true := by kernel_rfl
theorem wf_u8 {n : Int} (h : (Lit.int .u8 n).wf = true) : 0 ≤ n ∧ n ≤ 255 := by simpa [Lit.wf, IntKind.min, IntKind.max, IntKind.bits, IntKind.signed] using h
theorem wf_u32 {n : Int} (h : (Lit.int .u32 n).wf = true) : 0 ≤ n ∧ n ≤ 4294967295 := by simpa [Lit.wf, IntKind.min, IntKind.max, IntKind.bits, IntKind.signed] using h
theorem u8_und : Tryz.prog.underlying 5 = some (.int .u8) := by kernel_rfl
theorem bool_und : Tryz.prog.underlying 4 = some .bool := by kernel_rfl
abbrev u8T : Ty := .sc (.int .u8)
theorem Den.Rd.fld {a : Addr} {l : List Sc} {x : Tup Sc.T l} (h : Rd w a (.agg l) x) {i : Nat} {s : Sc} {y : s.T} (hy : (Tup.e Sc.e l x)[i]? = some (s.e y)) {K : s.T → W R} (hk : K y Q w) : ld (.sc s) (a.add i) K Q w := ⟨y, h i _ hy, hk⟩
theorem idxA {a : Addr} {n sz : Nat} {i : Int} (h0 : 0 ≤ i) (h1 : i < n) {K : Addr → W R} (hk : K (a.add (i.toNat * sz)) Q w) : idxW (some a) n sz i K Q w := ⟨a, rfl, h0, h1, hk⟩
theorem addA (a : Addr) (i j : Nat) : (a.add i).add j = a.add (i + j) := Go.Deep.add_add a i j
end Go.Proofs.YtchhhjlpnecjkaaGreat
namespace Go.Proofs.YtchhhjlpnecjkaaGreat.Den
open Go Go.RowKit
variable {R : Type} {Q : R → World → Prop} {w : World}
abbrev OB := (Nat → Prop) → World → Prop
def St (A : OB) : Prop := ∀ {F F' S : Nat → Prop} {w w' : World}, A F w → Fr S w w' → (∀ k, k < w.heap.size → F k → ¬ S k ∧ F' k) → A F' w'
abbrev Ex (F : Nat → Prop) (w : World) : Nat → Prop := fun k => F k ∨ w.heap.size ≤ k
theorem St.fr {A : OB} (h : St A) {F S : Nat → Prop} {w w' : World} (a : A F w) (f : Fr S w w') (hn : ∀ k, F k → ¬ S k) : A F w' := h a f fun k _ e => ⟨hn k e, e⟩
theorem St.fr0 {A : OB} (h : St A) {F : Nat → Prop} {w w' : World} (a : A F w) (f : Fr None w w') : A F w' := h a f fun _ _ e => ⟨fun h => h, e⟩
theorem St.mono {A : OB} (h : St A) {F F' : Nat → Prop} {w : World} (a : A F w) (hf : ∀ k, k < w.heap.size → F k → F' k) : A F' w := h a (Fr.refl None w) fun k hk e => ⟨fun h => h, hf k hk e⟩
def relab (lab : Nat → Nat) (n n' c : Nat) : Nat → Nat := fun k => if k < n then lab k else if k < n' then c else 0
theorem relab_lt {lab : Nat → Nat} {n n' c k : Nat} (h : k < n) : relab lab n n' c k = lab k := by simp [relab, h]
theorem relab_new {lab : Nat → Nat} {n n' c k : Nat} (h : n ≤ k) (h2 : k < n') : relab lab n n' c k = c := by simp [relab, show ¬ k < n by omega, h2]
theorem relab_ne {lab : Nat → Nat} {n n' c k : Nat} (h : relab lab n n' c k ≠ 0) : (lab k ≠ 0 ∧ k < n) ∨ (n ≤ k ∧ k < n') := by
  unfold relab at h
  split at h
  · exact .inl ⟨h, by assumption⟩
  · split at h
    · exact .inr ⟨by omega, by assumption⟩
    · exact absurd rfl h
theorem St.other {A : OB} (h : St A) {lab : Nat → Nat} {i j c : Nat} {w w' : World} (a : A (fun k => lab k = i) w) (f : Fr (fun k => lab k = j) w w') (hij : i ≠ j) : A (fun k => relab lab w.heap.size w'.heap.size c k = i) w' :=
  h a f fun k hk e => ⟨by omega, by show relab _ _ _ _ _ = _; rw [relab_lt hk]; exact e⟩
theorem St.grown {A : OB} (h : St A) {lab : Nat → Nat} {i : Nat} {w w' : World} (a : A (Ex (fun k => lab k = i) w) w') : A (fun k => relab lab w.heap.size w'.heap.size i k = i) w' :=
  h.mono a fun k hk e => by
    rcases Nat.lt_or_ge k w.heap.size with hl | hg
    · rw [relab_lt hl]
      rcases e with e | e
      · exact e
      · omega
    · exact relab_new hg hk
def Bl (b : Nat) (T : TypeId) (cs : List Value) : OB := fun F w => F b ∧ Blk w b T cs
theorem Bl.st {b : Nat} {T : TypeId} {cs : List Value} : St (Bl b T cs) := fun ⟨h1, h2⟩ f hs => ⟨(hs b h2.lt h1).2, h2.fr f (hs b h2.lt h1).1⟩
theorem Own.st {E : TypeId} {t : Ty} {s : Sl} {l : List t.T} : St fun F w => Own F w E t s l := fun {F F' S w w'} h f hs => by
  rcases h.cases with ⟨rfl, rfl⟩ | ⟨g, c, cur, rfl, hg, h3, h4, h5, h6, h7⟩
  · exact Own.nil _ _ _ _
  · have hl := (Array.getElem?_eq_some_iff.1 h3).1
    exact Own.mk' (hs g hl hg).2 ((f.block g hl (hs g hl hg).1).trans h3) h4 h5 h6 h7
theorem SlT.st {t : Ty} {s : Sl} {l : List t.T} : St fun F w => SlT F w t s l := fun {F F' S w w'} h f hs => by
  refine ⟨h.len, h.cap, h.at_.imp id ?_⟩
  rintro ⟨b, o, h1, h2, h3, h4⟩
  exact ⟨b, o, h1, (hs b h3 h2).2, Nat.lt_of_lt_of_le h3 f.size, fun i x hx => (h4 i x hx).keep (f.block b h3 (hs b h3 h2).1)⟩
def Mp {κ : Type} (P : Program) (k : TypeId) (ke : κ → Value) (b : Nat) (f : κ → Option Value) : OB := fun F w => F b ∧ MapB P k ke w b f
theorem Mp.st {κ : Type} {P : Program} {k : TypeId} {ke : κ → Value} {b : Nat} {f : κ → Option Value} : St (Mp P k ke b f) := fun ⟨h1, h2⟩ fr hs => ⟨(hs b h2.lt h1).2, h2.fr fr (hs b h2.lt h1).1⟩
theorem Fr.ex {F : Nat → Prop} {a b c : World} (h : Fr F a b) (k : Fr (Ex F a) b c) : Fr F a c := h.trans k (fun _ h => h) fun x hx e => by
  rcases e with e | e
  · exact e
  · omega
theorem Fr.exS {F S : Nat → Prop} {a b c : World} (h : Fr F a b) (k : Fr S b c) (hs : ∀ x, S x → F x ∨ a.heap.size ≤ x) : Fr F a c := h.ex (k.mono fun x _ e => hs x e)
theorem Fr.sub {S T : Nat → Prop} {a b : World} (h : Fr S a b) (hs : ∀ x, S x → T x) : Fr T a b := h.mono fun x _ e => hs x e
theorem Fr.any {S : Nat → Prop} {a b : World} (h : Fr None a b) : Fr S a b := h.mono fun _ _ e => e.elim
theorem Fr.lab {lab : Nat → Nat} {j : Nat} {a b : World} (h : Fr (fun k => lab k = j) a b) (hj : j ≠ 0) : Fr (fun k => lab k ≠ 0) a b := h.mono fun k _ e => by omega
theorem makeI {P : Program} {T E : TypeId} {t : Ty} {bytes : Nat} (H : SlTy P T E t bytes) {z : t.T} {zv : Value} (hz : (P.info? E).bind (·.zero) = some zv) (hzc : zv.cells.toList = t.cells z) {i : Int} {n : Nat} (hi : i = (n : Int)) (hb : n * bytes ≤ 140737488355328) (hm : n ≤ 9223372036854775807)
    {K : Sl → W R} (hk : ∀ w', Own (fun k => k = w.heap.size) w' E t ⟨some ⟨w.heap.size, 0, none⟩, n, n⟩ (List.replicate n z) → Fr None w w' → w'.heap.size = w.heap.size + 1 → K ⟨some ⟨w.heap.size, 0, none⟩, n, n⟩ Q w') :
    rawW P (Instr.makeSlice T (.int .i64 i) (.int .i64 i)) [.sc .sl] K Q w := by
  subst hi
  obtain ⟨i, z', h1, h2, h3, h4, h5⟩ := H.info
  rw [h1] at hz
  simp only [Option.bind_some, h2, Option.some.injEq] at hz
  subst hz
  have hbi : (i.bytes : Int) * (n : Int) ≤ 281474976710656 := by
    have : i.bytes * n ≤ 140737488355328 := by rw [h4, Nat.mul_comm]; exact hb
    have h : ((i.bytes * n : Nat) : Int) ≤ 140737488355328 := by omega
    rw [Int.natCast_mul] at h
    omega
  have hr := run_make (P := P) w T E i z' H.under h1 h2 .i64 .i64 n n (by omega) (Int.le_refl _) hbi (by omega)
  simp only [Int.toNat_natCast] at hr
  have hcells : (madeCells z'.cells (n * i.size)).toList = (List.replicate n z).flatMap t.cells := by
    apply List.ext_getElem?
    intro j
    have hpos := H.pos
    have hzs : z'.cells = ⟨t.cells z⟩ := by rw [← hzc]
    have hsz : (t.cells z).length = t.size := t.cells_len z
    by_cases hj : j < n * t.size
    · have hq : j / t.size < n := Nat.div_lt_of_lt_mul (by rw [Nat.mul_comm]; exact hj)
      have hml : j % t.size < (t.cells z).length := by rw [hsz]; exact Nat.mod_lt _ hpos
      have e1 := flat_at (l := List.replicate n z) (i := j / t.size) (x := z) (by simp [hq]) (j % t.size) _ (List.getElem?_eq_getElem hml)
      rw [Nat.mul_comm, Nat.div_add_mod] at e1
      rw [e1, hzs, h3]
      have hj' : j < (madeCells ⟨t.cells z⟩ (n * t.size)).size := by rw [size_madeCells]; exact hj
      rw [Array.getElem?_toList, Array.getElem?_eq_getElem hj']
      simp only [madeCells, Array.getElem_map, Array.getElem_range, List.size_toArray, hsz]
      congr 1
      rw [getElem!_pos (c := (⟨t.cells z⟩ : Array Value)) (i := j % t.size) (by simpa using hml)]
      simp
    · rw [List.getElem?_eq_none, List.getElem?_eq_none]
      · rw [flat_len]; simp; omega
      · rw [Array.length_toList, size_madeCells, h3]; omega
  refine ⟨⟨_, _, _⟩, _, hr, hk _ ?_ ((Fr.refl _ _).alloc _) (by simp)⟩
  have hl : (List.replicate n z).length = n := List.length_replicate
  have := Own.mk' (S := fun k => k = w.heap.size) (w := w.alloc (.cells (madeCells z'.cells (n * i.size)) E)) (E := E) (t := t) (l := List.replicate n z) (g := w.heap.size) (c := n) (cur := madeCells z'.cells (n * i.size)) rfl (heap_alloc_new w _) (by rw [hl]; exact Nat.le_refl _) (by rw [maxLen_eq]; exact hm) (by rw [size_madeCells, h3]) (by
    rw [hl, hcells, List.take_of_length_le]
    rw [flat_len, hl]; exact Nat.le_refl _)
  rw [hl] at this
  exact this
theorem appP {P : Program} {T E ty : TypeId} {t : Ty} {bytes : Nat} (H : SlTy P T E t bytes) {S : Nat → Prop} {o : Sl} {lo : List t.T} {x : t.T} {cs : List Value} (hc : cs = t.cells x) (ho : Own S w E t o lo) (hS : ∀ k, w.heap.size ≤ k → S k)
    (hb : (lo.length + 1) * bytes ≤ 140737488355328) (hm : lo.length + 1 ≤ 9223372036854775807) {K : Sl → W R}
    (hk : ∀ r w', Own S w' E t r (lo ++ [x]) → Fr (fun k => o.v.ownBlock = some k) w w' → K r Q w') : newW E cs (fun a => rawW P (Builtin.append_ #[T, T] ty #[.slice o.a o.n o.c, .slice (some a) 1 1]) [.sc .sl] K) Q w := by
  subst hc
  refine newI fun w2 B2 f2 s2 => ?_
  refine app1 (S' := S) H (ho.none f2) B2 rfl hb (by rw [maxLen_eq]; exact hm) (fun _ h => h) (hS _ (by omega)) fun r w3 o3 f3 s3 => ?_
  exact hk r w3 o3 (f2.any.then f3)
end Go.Proofs.YtchhhjlpnecjkaaGreat.Den
