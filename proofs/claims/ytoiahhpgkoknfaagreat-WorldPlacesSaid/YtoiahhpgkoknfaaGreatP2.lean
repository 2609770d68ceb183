/-
  What the proof of rows:R15p leans on, laid together by a program of this session (wip/pack.py) out of its own texts; the last of these texts holds rows:R15p.
-/
import Derived.Test.YtoiahhpgkoknfaaGreatP1
set_option linter.unusedVariables false
set_option linter.unusedSimpArgs false
set_option linter.unusedVariables false
namespace Go.Proofs.YtoiahhpgkoknfaaGreat
open Go Go.Proofs.YtoiahhpgkoknfaaGreat.Den
def Zaj (t0:Option Addr) (id1:Int) (c2:(Int × Int × Int × Int)):W (Int) :=
 newW 52 [.int .u8 c2.1,.int .i32 c2.2.1,.int .i32 c2.2.2.1,.int .i32 c2.2.2.2] fun c_1 =>
 cond (Option.isNone t0)
  (retW 10)
  (ld (.agg [.int .u8,.int .i32,.int .i32,.int .i32]) c_1 fun (x_2:(Int × Int × Int × Int)) =>
 callW Tryz.prog Z32 [.agg ⟨[.int .u8 x_2.1,.int .i32 x_2.2.1,.int .i32 x_2.2.2.1,.int .i32 x_2.2.2.2]⟩] [.sc (.int .i64)] fun (x_3:Int) =>
 cond (x_3 != 0)
  (retW x_3)
  (ld (.sc (.int .u8)) (Addr.add c_1 0) fun (x_4:Int) =>
 callW Tryz.prog Z44 [.pointer t0,.int .u32 id1,.int .u8 x_4] [.sc (.int .i64),.sc (.int .i64)] fun (x_5:Int × Int) =>
 joinW (σ:=Unit) (fun J_6 =>
  cond (x_5.2 == 0)
   (drawW <|
   ld (.sc (.int .u8)) (Addr.add c_1 0) fun (x_7:Int) =>
   ptrW t0 fun x_8 =>
   idxW (some (Addr.add x_8 3)) 6 1 x_7 fun x_9 =>
   ld (.sc .sl) (Addr.add x_9 0) fun (x_10:Sl) =>
   ld (.agg [.int .i32,.int .i32,.int .i32]) (Addr.add c_1 1) fun (x_11:(Int × Int × Int)) =>
   idxW x_10.a x_10.n 3 x_5.1 fun x_12 =>
   stoL x_12 [.int .i32 x_11.1,.int .i32 x_11.2.1,.int .i32 x_11.2.2] 0 <|
   J_6 ())
   (J_6 ()))
 <| fun s_13 =>
 retW x_5.2))
theorem Zg7 {R:Type} (t0:Option Addr) (id1:Int) (c2:(Int × Int × Int × Int)) (K:Res [.sc (.int .i64)]→W R) (Q:R→World→Prop) (w:World) (h:Zaj t0 id1 c2 (fun r w=>K r Q w) w):callW Tryz.prog Z4k [.pointer t0,.int .u32 id1,.agg ⟨[.int .u8 c2.1,.int .i32 c2.2.1,.int .i32 c2.2.2.1,.int .i32 c2.2.2.2]⟩] [.sc (.int .i64)] K Q w:=den_c (K:=K) mix Tryz.func185 { con:=[(9026,[])],dr:=[(8,([],[[(0,[]),(1,[]),(2,[]),(3,[]),(4,[]),(5,[]),(6,[]),(7,[]),(8,[]),(9,[]),(10,[]),(11,[]),(12,[])]]))] } trivial rfl (by kernel_rfl) h
def Z7m (d0:Option Addr) (o1:Int):W (Sl × Int) :=
 callW Tryz.prog Z2e [.pointer d0,.int .u32 o1] [.sc (.int .i64),.sc .bool] fun (x_1:Int × Bool) =>
 cond (Option.isNone d0)
  (retW ((⟨none,0,0⟩:Sl),10))
  (cond (!x_1.2)
   (retW ((⟨none,0,0⟩:Sl),7))
   (callW Tryz.prog Z55 [.pointer d0,.int .i64 x_1.1] [.agg [.int .u32,.sl],.sc .bool] fun (x_2:(Int × Sl) × Bool) =>
 newW 49 [.int .u32 0,.slice none 0 0] fun x_3 =>
 stoL x_3 [.int .u32 x_2.1.1,.slice x_2.1.2.a x_2.1.2.n x_2.1.2.c] 0 <|
 ptrW d0 fun x_4 =>
 callW Tryz.prog Z2n [.pointer (some (Addr.add x_4 2)),.int .i64 x_1.1] [.sc (.int .u32)] fun (x_5:Int) =>
 ptrW d0 fun x_6 =>
 ld (.sc .sl) (Addr.add x_6 1) fun (x_7:Sl) =>
 loopW (σ:=Int) (fun K_8 s_9 =>
  cond (decide (s_9 < (x_7.n:Int)))
   (idxW x_7.a x_7.n 1 s_9 fun x_10 =>
  ld (.sc (.int .u8)) x_10 fun (x_11:Int) =>
  ptrW d0 fun x_12 =>
  idxW (some (Addr.add x_12 3)) 6 1 x_11 fun x_13 =>
  callW Tryz.prog Z1m [.pointer (some x_13),.int .i64 x_1.1] [.agg [.int .i32,.int .i32,.int .i32]] fun (x_14:(Int × Int × Int)) =>
  K_8 (IntKind.wrap .i64 (s_9+1)))
   (ptrW d0 fun x_15 =>
 ld (.sc .sl) (Addr.add (Addr.add x_15 2) 0) fun (x_16:Sl) =>
 joinW (σ:=Unit) (fun J_17 =>
  cond (decide (x_1.1 < (x_16.n:Int)))
   (drawW <|
   ptrW d0 fun x_18 =>
   ld (.sc .map) (Addr.add x_18 9) fun (x_19:Option Nat) =>
   ptrW d0 fun x_20 =>
   ld (.sc .sl) (Addr.add (Addr.add x_20 2) 0) fun (x_21:Sl) =>
   idxW x_21.a x_21.n 1 x_1.1 fun x_22 =>
   ld (.sc (.int .u32)) x_22 fun (x_23:Int) =>
   rawU Tryz.prog (Instr.mapUpdate 330 (.map x_19) (.int .u32 x_23) (.int .i64 x_1.1)) <|
   J_17 ())
   (J_17 ()))
 <| fun s_24 =>
 ptrW d0 fun x_25 =>
 ld (.sc .map) (Addr.add x_25 9) fun (x_26:Option Nat) =>
 rawW Tryz.prog (Builtin.delete_ #[330,34] 0 #[.map x_26,.int .u32 o1]) [] fun (_:Unit) =>
 ld (.sc .sl) (Addr.add x_3 1) fun (x_28:Sl) =>
 retW (x_28,0)))
  0))
theorem Zcx {R:Type} (d0:Option Addr) (o1:Int) (K:Res [.sc .sl,.sc (.int .i64)]→W R) (Q:R→World→Prop) (w:World) (h:Z7m d0 o1 (fun r w=>K r Q w) w):callW Tryz.prog Z1j [.pointer d0,.int .u32 o1] [.sc .sl,.sc (.int .i64)] K Q w:=den_c (K:=K) mix Tryz.func186 { con:=[(15059,[])],lop:=[(1,[(40,.sc (.int .i64))])],dr:=[(14,([],[[(0,[]),(1,[]),(2,[]),(3,[]),(4,[]),(5,[]),(6,[]),(7,[]),(8,[]),(9,[]),(10,[]),(11,[]),(12,[]),(13,[])]]))] } trivial rfl (by kernel_rfl) h
def Z9c (s0:Option Addr) (id1:Int):W (Int) :=
 cond (Option.isNone s0)
  (retW 10)
  (callW Tryz.prog Z60 [.pointer s0,.int .u32 id1] [.sc .bool] fun (x_1:Bool) =>
  cond (!x_1)
   (retW 7)
   (drawW <|
 ptrW s0 fun x_2 =>
 ld (.sc .sl) (Addr.add x_2 2) fun (x_3:Sl) =>
 callW Tryz.prog Z15 [.int .u32 id1] [.sc (.int .i64)] fun (x_4:Int) =>
 andW (fun w=>Rd w (Addr.add x_2 2) (.sc .sl) x_3) <|
 idxW x_3.a x_3.n 1 x_4 fun x_5 =>
 stoL x_5 [.bool false] 0 <|
 ptrW s0 fun x_6 =>
 ld (.sc (.int .i64)) (Addr.add x_6 5) fun (x_7:Int) =>
 ptrW s0 fun x_8 =>
 stoL (Addr.add x_8 5) [.int .i64 (IntKind.wrap .i64 (x_7 - 1))] 0 <|
 callW Tryz.prog Z8o [.int .u32 id1] [.sc (.int .i64)] fun (x_9:Int) =>
 joinW (σ:=Unit) (fun J_10 =>
  cond (decide (x_9 < 4194303))
   (drawW <|
   ptrW s0 fun x_11 =>
   ld (.sc .sl) (Addr.add x_11 3) fun (x_12:Sl) =>
   callW Tryz.prog Z15 [.int .u32 id1] [.sc (.int .i64)] fun (x_13:Int) =>
   andW (fun w=>Rd w (Addr.add x_11 3) (.sc .sl) x_12) <|
   newW 3 [.int .i64 x_13] fun x_14 =>
   rawW Tryz.prog (Builtin.append_ #[273,273] 273 #[.slice x_12.a x_12.n x_12.c,.slice (some x_14) 1 1]) [.sc .sl] fun (x_15:Sl) =>
   ptrW s0 fun x_16 =>
   stoL (Addr.add x_16 3) [.slice x_15.a x_15.n x_15.c] 0 <|
   J_10 ())
   (J_10 ()))
 <| fun s_17 =>
 retW 0))
theorem Zek {R:Type} (s0:Option Addr) (id1:Int) (K:Res [.sc (.int .i64)]→W R) (Q:R→World→Prop) (w:World) (h:Z9c s0 id1 (fun r w=>K r Q w) w):callW Tryz.prog Z5y [.pointer s0,.int .u32 id1] [.sc (.int .i64)] K Q w:=den_c (K:=K) mix Tryz.func187 { con:=[(9029,[])],dr:=[(5,([],[[(0,[]),(1,[]),(2,[]),(3,[]),(4,[]),(5,[3]),(6,[]),(7,[])]])),(8,([],[[(0,[]),(1,[]),(2,[]),(3,[]),(4,[]),(5,[]),(6,[4]),(7,[]),(8,[]),(9,[]),(10,[]),(11,[])]]))] } trivial rfl (by kernel_rfl) h
def Z9f (d0:Option Addr):W (Int × Int) :=
 cond (Option.isNone d0)
  (retW (0,10))
  (ptrW d0 fun x_1 =>
  ld (.sc .sl) (Addr.add x_1 3) fun (x_2:Sl) =>
  cond (decide ((x_2.n:Int) > 0))
   (drawW <|
   ptrW d0 fun x_3 =>
   ld (.sc .sl) (Addr.add x_3 3) fun (x_4:Sl) =>
   ptrW d0 fun x_5 =>
   ld (.sc .sl) (Addr.add x_5 3) fun (x_6:Sl) =>
   idxW x_4.a x_4.n 1 (IntKind.wrap .i64 ((x_6.n:Int) - 1)) fun x_7 =>
   ld (.sc (.int .i64)) x_7 fun (x_8:Int) =>
   drawW <|
   ptrW d0 fun x_9 =>
   ld (.sc .sl) (Addr.add x_9 3) fun (x_10:Sl) =>
   ptrW d0 fun x_11 =>
   ld (.sc .sl) (Addr.add x_11 3) fun (x_12:Sl) =>
   slcW x_10.a x_10.n x_10.c 1 none (some (IntKind.wrap .i64 ((x_12.n:Int) - 1))) fun x_13 =>
   ptrW d0 fun x_14 =>
   stoL (Addr.add x_14 3) [.slice x_13.a x_13.n x_13.c] 0 <|
   ptrW d0 fun x_15 =>
   ld (.sc .sl) (Addr.add x_15 1) fun (x_16:Sl) =>
   idxW x_16.a x_16.n 1 x_8 fun x_17 =>
   ld (.sc (.int .i64)) x_17 fun (x_18:Int) =>
   callW Tryz.prog Z4f [.pointer d0,.int .i64 x_8,.int .i64 (IntKind.wrap .i64 (x_18+1))] [.sc (.int .u32),.sc (.int .i64)] fun (x_19:Int × Int) =>
   retW (x_19.1,x_19.2))
   (drawW <|
   ptrW d0 fun x_20 =>
   ld (.sc (.int .i64)) (Addr.add x_20 4) fun (x_21:Int) =>
   ptrW d0 fun x_22 =>
   ld (.sc .sl) (Addr.add x_22 1) fun (x_23:Sl) =>
   cond (decide (x_21 < (x_23.n:Int)))
    (ptrW d0 fun x_24 =>
    ld (.sc (.int .i64)) (Addr.add x_24 4) fun (x_25:Int) =>
    ptrW d0 fun x_26 =>
    stoL (Addr.add x_26 4) [.int .i64 (IntKind.wrap .i64 (x_25+1))] 0 <|
    drawW <|
    ptrW d0 fun x_27 =>
    ld (.sc (.int .i64)) (Addr.add x_27 4) fun (x_28:Int) =>
    ptrW d0 fun x_29 =>
    ld (.sc (.int .i64)) (Addr.add x_29 0) fun (x_30:Int) =>
    callW Tryz.prog Z4f [.pointer d0,.int .i64 (IntKind.wrap .i64 (x_28 - 1)),.int .i64 x_30] [.sc (.int .u32),.sc (.int .i64)] fun (x_31:Int × Int) =>
    retW (x_31.1,x_31.2))
    (retW (0,8))))
theorem Zen {R:Type} (d0:Option Addr) (K:Res [.sc (.int .u32),.sc (.int .i64)]→W R) (Q:R→World→Prop) (w:World) (h:Z9f d0 (fun r w=>K r Q w) w):callW Tryz.prog Z61 [.pointer d0] [.sc (.int .u32),.sc (.int .i64)] K Q w:=den_c (K:=K) mix Tryz.func188 { dr:=[(4,([],[[(0,[]),(1,[]),(2,[]),(3,[]),(4,[]),(5,[]),(6,[]),(7,[]),(8,[]),(9,[]),(10,[]),(11,[]),(12,[])]])),(5,([],[[(0,[]),(1,[]),(2,[]),(3,[]),(4,[]),(5,[]),(6,[]),(7,[]),(8,[]),(9,[]),(10,[]),(11,[]),(12,[]),(13,[]),(14,[])]])),(7,([],[[(0,[]),(1,[]),(2,[]),(3,[]),(4,[]),(5,[]),(6,[]),(7,[]),(8,[]),(9,[]),(10,[])]])),(9,([],[[(0,[]),(1,[]),(2,[]),(3,[]),(4,[]),(5,[]),(6,[]),(7,[]),(8,[]),(9,[]),(10,[]),(11,[]),(12,[]),(13,[]),(14,[])]]))] } trivial rfl (by kernel_rfl) h
def Zad (s0:Option Addr) (id1:Int) (l2:Sl):W (Unit) :=
 callW Tryz.prog Z7v [.slice l2.a l2.n l2.c] [.sc (.int .u8)] fun (x_1:Int) =>
 ptrW s0 fun x_2 =>
 ld (.sc .map) (Addr.add x_2 1) fun (x_3:Option Nat) =>
 rawQ Tryz.prog (Instr.lookup 204 (.map x_3) (.int .u8 x_1) false) [.sc .ptr] fun (x_4:(Option Addr)) =>
 joinW (σ:=(Option Addr)) (fun J_5 =>
  cond (Option.isNone x_4)
   (callW Tryz.prog Zb2 [.int .u8 x_1] [.sc .ptr,.sc (.int .i64)] fun (x_6:(Option Addr) × Int) =>
   ptrW s0 fun x_7 =>
   ld (.sc .map) (Addr.add x_7 1) fun (x_8:Option Nat) =>
   rawU Tryz.prog (Instr.mapUpdate 204 (.map x_8) (.int .u8 x_1) (.pointer x_6.1)) <|
   J_5 x_6.1)
   (J_5 x_4))
 <| fun s_9 =>
 callW Tryz.prog Z4h [.pointer s_9,.int .u32 id1,.slice l2.a l2.n l2.c] [.sc (.int .i64)] fun (x_10:Int) =>
 ptrW s0 fun x_11 =>
 ld (.sc .map) (Addr.add x_11 2) fun (x_12:Option Nat) =>
 rawU Tryz.prog (Instr.mapUpdate 205 (.map x_12) (.int .u32 id1) (.pointer s_9)) <|
 retW ()
theorem Zg1 {R:Type} (s0:Option Addr) (id1:Int) (l2:Sl) (K:Res []→W R) (Q:R→World→Prop) (w:World) (h:Zad s0 id1 l2 (fun r w=>K r Q w) w):callW Tryz.prog Z2d [.pointer s0,.int .u32 id1,.slice l2.a l2.n l2.c] [] K Q w:=den_c (K:=K) mix Tryz.func189 { con:=[(4017,[(7,.sc .ptr)])] } trivial rfl (by kernel_rfl) h
def Zgp (slot0:Int) (gen1:Int):W (Int × Int) :=
 joinW (σ:=Bool) (fun J_1 =>
  cond (decide (slot0 < 0))
   (J_1 true)
   (cond (decide (slot0 ≥ 1024))
     (J_1 true)
     (cond (decide (gen1 < 1))
       (J_1 true)
       (J_1 (decide (gen1 > 4194303))))))
 <| fun s_2 =>
 cond s_2
  (retW (0,1))
  (retW (IntKind.wrap .u32 (IntKind.wrap .i64 ((IntKind.wrap .i64 (gen1 * 1024))+slot0)),0))
theorem Zm5 {R:Type} (slot0:Int) (gen1:Int) (K:Res [.sc (.int .u32),.sc (.int .i64)]→W R) (Q:R→World→Prop) (w:World) (h:Zgp slot0 gen1 (fun r w=>K r Q w) w):callW Tryz.prog Z9o [.int .i64 slot0,.int .i64 gen1] [.sc (.int .u32),.sc (.int .i64)] K Q w:=den_c (K:=K) mix Tryz.func194 { reg:=[(1,[(19,.sc .bool)])] } trivial rfl (by kernel_rfl) h
def Zai (t0:Option Addr) (id1:Int):W (Int × Bool) :=
 cond (Option.isNone t0)
  (retW (0,false))
  (ptrW t0 fun x_1 =>
 ld (.sc .map) (Addr.add x_1 9) fun (x_2:Option Nat) =>
 rawQ Tryz.prog (Instr.lookup 330 (.map x_2) (.int .u32 id1) true) [.sc (.int .i64),.sc .bool] fun (x_3:Int × Bool) =>
 retW (x_3.1,x_3.2))
theorem Zg6 {R:Type} (t0:Option Addr) (id1:Int) (K:Res [.sc (.int .i64),.sc .bool]→W R) (Q:R→World→Prop) (w:World) (h:Zai t0 id1 (fun r w=>K r Q w) w):callW Tryz.prog Z2e [.pointer t0,.int .u32 id1] [.sc (.int .i64),.sc .bool] K Q w:=den_c (K:=K) mix Tryz.func195 {} trivial rfl (by kernel_rfl) h
def Zb8 (t0:Option Addr) (row1:Int):W ((Int × Sl) × Bool) :=
 newW 49 [.int .u32 0,.slice none 0 0] fun x_1 =>
 joinW (σ:=Bool) (fun J_2 =>
  cond (decide (row1 < 0))
   (J_2 true)
   (callW Tryz.prog Z4j [.pointer t0] [.sc (.int .i64)] fun (x_3:Int) =>
     J_2 (decide (row1 ≥ x_3))))
 <| fun s_4 =>
 cond s_4
  (stoL x_1 [.int .u32 0,.slice none 0 0] 0 <|
  ld (.agg [.int .u32,.sl]) x_1 fun (x_5:(Int × Sl)) =>
  retW (x_5,false))
  (ptrW t0 fun x_6 =>
 ld (.sc .sl) (Addr.add (Addr.add x_6 2) 0) fun (x_7:Sl) =>
 idxW x_7.a x_7.n 1 row1 fun x_8 =>
 ld (.sc (.int .u32)) x_8 fun (x_9:Int) =>
 newW 49 [.int .u32 0,.slice none 0 0] fun e_10 =>
 stoL e_10 [.int .u32 x_9,.slice none 0 0] 0 <|
 ptrW t0 fun x_11 =>
 ld (.sc .sl) (Addr.add x_11 1) fun (x_12:Sl) =>
 loopW (σ:=Int) (fun K_13 s_14 =>
  cond (decide (s_14 < (x_12.n:Int)))
   (idxW x_12.a x_12.n 1 s_14 fun x_15 =>
  ld (.sc (.int .u8)) x_15 fun (x_16:Int) =>
  drawW <|
  ld (.sc .sl) (Addr.add e_10 1) fun (x_17:Sl) =>
  callW Tryz.prog Z43 [.pointer t0,.int .i64 row1,.int .u8 x_16] [.agg [.int .u8,.int .i32,.int .i32,.int .i32]] fun (x_18:(Int × Int × Int × Int)) =>
  andW (fun w=>Rd w (Addr.add e_10 1) (.sc .sl) x_17) <|
  newW 52 [.int .u8 x_18.1,.int .i32 x_18.2.1,.int .i32 x_18.2.2.1,.int .i32 x_18.2.2.2] fun x_19 =>
  rawW Tryz.prog (Builtin.append_ #[35,35] 35 #[.slice x_17.a x_17.n x_17.c,.slice (some x_19) 1 1]) [.sc .sl] fun (x_20:Sl) =>
  stoL (Addr.add e_10 1) [.slice x_20.a x_20.n x_20.c] 0 <|
  K_13 (IntKind.wrap .i64 (s_14+1)))
   (ld (.agg [.int .u32,.sl]) e_10 fun (x_21:(Int × Sl)) =>
 stoL x_1 [.int .u32 x_21.1,.slice x_21.2.a x_21.2.n x_21.2.c] 0 <|
 ld (.agg [.int .u32,.sl]) x_1 fun (x_22:(Int × Sl)) =>
 retW (x_22,true)))
  0)
theorem Zh7 {R:Type} (t0:Option Addr) (row1:Int) (K:Res [.agg [.int .u32,.sl],.sc .bool]→W R) (Q:R→World→Prop) (w:World) (h:Zb8 t0 row1 (fun r w=>K r Q w) w):callW Tryz.prog Z55 [.pointer t0,.int .i64 row1] [.agg [.int .u32,.sl],.sc .bool] K Q w:=den_c (K:=K) mix Tryz.func196 { reg:=[(1,[(16,.sc .bool)])],lop:=[(0,[(32,.sc (.int .i64))])],dr:=[(7,([],[[(0,[]),(1,[]),(2,[]),(3,[]),(4,[]),(5,[1]),(6,[]),(7,[]),(8,[]),(9,[])]]))] } ⟨by kernel_rfl,trivial⟩ rfl (by kernel_rfl) h
def Z7d (kind0:Int):W (Int) :=
 cond (decide (kind0 > 5))
  (retW 0)
  (newW 3 [.int .i64 2,.int .i64 2,.int .i64 1,.int .i64 3,.int .i64 3,.int .i64 3] fun x_1 =>
 idxW (some x_1) 6 1 kind0 fun x_2 =>
 ld (.sc (.int .i64)) x_2 fun (x_3:Int) =>
 retW x_3)
theorem Zco {R:Type} (kind0:Int) (K:Res [.sc (.int .i64)]→W R) (Q:R→World→Prop) (w:World) (h:Z7d kind0 (fun r w=>K r Q w) w):callW Tryz.prog Z36 [.int .u8 kind0] [.sc (.int .i64)] K Q w:=den_c (K:=K) mix Tryz.func197 {} trivial rfl (by kernel_rfl) h
def Z7e (kind0:Int) (i1:Int):W (Int × Int × Int) :=
 joinW (σ:=Bool) (fun J_1 =>
  cond (decide (i1 < 0))
   (J_1 true)
   (callW Tryz.prog Z36 [.int .u8 kind0] [.sc (.int .i64)] fun (x_2:Int) =>
     J_1 (decide (i1 ≥ x_2))))
 <| fun s_3 =>
 cond s_3
  (retW (0,0,1))
  (newW 21 [.int .i32 (-524288),.int .i32 (-524288)] fun x_4 =>
 newW 21 [.int .i32 (-32768),.int .i32 (-32768)] fun x_5 =>
 newW 21 [.int .i32 0] fun x_6 =>
 newW 21 [.int .i32 0,.int .i32 0,.int .i32 1] fun x_7 =>
 newW 21 [.int .i32 0,.int .i32 0,.int .i32 0] fun x_8 =>
 newW 21 [.int .i32 1,.int .i32 0,.int .i32 0] fun x_9 =>
 newW 258 [.slice (some x_4) 2 2,.slice (some x_5) 2 2,.slice (some x_6) 1 1,.slice (some x_7) 3 3,.slice (some x_8) 3 3,.slice (some x_9) 3 3] fun x_10 =>
 idxW (some x_10) 6 1 kind0 fun x_11 =>
 ld (.sc .sl) x_11 fun (x_12:Sl) =>
 idxW x_12.a x_12.n 1 i1 fun x_13 =>
 ld (.sc (.int .i32)) x_13 fun (x_14:Int) =>
 newW 21 [.int .i32 524287,.int .i32 524287] fun x_15 =>
 newW 21 [.int .i32 32767,.int .i32 32767] fun x_16 =>
 newW 21 [.int .i32 4095] fun x_17 =>
 newW 21 [.int .i32 15,.int .i32 1000,.int .i32 100] fun x_18 =>
 newW 21 [.int .i32 7,.int .i32 255,.int .i32 31] fun x_19 =>
 newW 21 [.int .i32 255,.int .i32 254,.int .i32 15] fun x_20 =>
 newW 258 [.slice (some x_15) 2 2,.slice (some x_16) 2 2,.slice (some x_17) 1 1,.slice (some x_18) 3 3,.slice (some x_19) 3 3,.slice (some x_20) 3 3] fun x_21 =>
 idxW (some x_21) 6 1 kind0 fun x_22 =>
 ld (.sc .sl) x_22 fun (x_23:Sl) =>
 idxW x_23.a x_23.n 1 i1 fun x_24 =>
 ld (.sc (.int .i32)) x_24 fun (x_25:Int) =>
 retW (x_14,x_25,0))
theorem Zcp {R:Type} (kind0:Int) (i1:Int) (K:Res [.sc (.int .i32),.sc (.int .i32),.sc (.int .i64)]→W R) (Q:R→World→Prop) (w:World) (h:Z7e kind0 i1 (fun r w=>K r Q w) w):callW Tryz.prog Z4v [.int .u8 kind0,.int .i64 i1] [.sc (.int .i32),.sc (.int .i32),.sc (.int .i64)] K Q w:=den_c (K:=K) mix Tryz.func198 { reg:=[(1,[(16,.sc .bool)])] } trivial rfl (by kernel_rfl) h
def Z93 (t0:Option Addr) (id1:Int):W (Int) :=
 joinW (σ:=Unit) (fun J_1 =>
  cond (!Option.isNone t0)
   (ptrW t0 fun x_2 =>
   ld (.sc .sl) (Addr.add x_2 1) fun (x_3:Sl) =>
   loopW (σ:=Int) (fun K_4 s_5 =>
    cond (decide (s_5 < (x_3.n:Int)))
     (idxW x_3.a x_3.n 2 s_5 fun x_6 =>
    ld (.agg [.int .u32,.sl]) x_6 fun (x_7:(Int × Sl)) =>
    newW 49 [.int .u32 0,.slice none 0 0] fun e_8 =>
    stoL e_8 [.int .u32 x_7.1,.slice x_7.2.a x_7.2.n x_7.2.c] 0 <|
    ld (.sc (.int .u32)) (Addr.add e_8 0) fun (x_9:Int) =>
    cond (x_9 == id1)
     (retW s_5)
     (K_4 (IntKind.wrap .i64 (s_5+1))))
     (J_1 ()))
    0)
   (J_1 ()))
 <| fun s_10 =>
 retW (-1)
theorem Zeb {R:Type} (t0:Option Addr) (id1:Int) (K:Res [.sc (.int .i64)]→W R) (Q:R→World→Prop) (w:World) (h:Z93 t0 id1 (fun r w=>K r Q w) w):callW Tryz.prog Zk [.pointer t0,.int .u32 id1] [.sc (.int .i64)] K Q w:=den_c (K:=K) mix Tryz.func199 { con:=[(3008,[])],lop:=[(0,[(14,.sc (.int .i64))])] } trivial rfl (by kernel_rfl) h
def Z88 (s0:Option Addr) (id1:Int):W (Bool) :=
 cond (Option.isNone s0)
  (retW false)
  (ptrW s0 fun x_1 =>
 ld (.sc .sl) (Addr.add x_1 1) fun (x_2:Sl) =>
 loopW (σ:=Int) (fun K_3 s_4 =>
  cond (decide (s_4 < (x_2.n:Int)))
   (idxW x_2.a x_2.n 3 s_4 fun x_5 =>
  ld (.agg [.int .i64,.bool,.int .i64]) x_5 fun (x_6:(Int × Bool × Int)) =>
  newW 229 [.int .i64 0,.bool false,.int .i64 0] fun x_7 =>
  stoL x_7 [.int .i64 x_6.1,.bool x_6.2.1,.int .i64 x_6.2.2] 0 <|
  joinW (σ:=Bool) (fun J_8 =>
   drawW <|
   ld (.sc .bool) (Addr.add x_7 1) fun (x_9:Bool) =>
   cond x_9
    (callW Tryz.prog Z3h [.int .u32 id1] [.sc (.int .i64)] fun (x_10:Int) =>
      cond (s_4 == x_10)
        (ld (.sc (.int .i64)) (Addr.add x_7 0) fun (x_11:Int) =>
         callW Tryz.prog Z5o [.int .u32 id1] [.sc (.int .i64)] fun (x_12:Int) =>
           andW (fun w=>Rd w (Addr.add x_7 0) (.sc (.int .i64)) x_11) <|
           J_8 (x_11 == x_12))
        (J_8 false))
    (J_8 false))
  <| fun s_13 =>
  cond s_13
   (retW true)
   (K_3 (IntKind.wrap .i64 (s_4+1))))
   (retW false))
  0)
theorem Zdh {R:Type} (s0:Option Addr) (id1:Int) (K:Res [.sc .bool]→W R) (Q:R→World→Prop) (w:World) (h:Z88 s0 id1 (fun r w=>K r Q w) w):callW Tryz.prog Z5b [.pointer s0,.int .u32 id1] [.sc .bool] K Q w:=den_c (K:=K) mix Tryz.func200 { reg:=[(6,[(33,.sc .bool)])],lop:=[(0,[(14,.sc (.int .i64))])],dr:=[(6,([],[[(0,[]),(1,[]),(2,[]),(3,[]),(4,[]),(5,[]),(6,[]),(7,[]),(8,[]),(9,[]),(10,[]),(11,[]),(12,[10]),(13,[]),(14,[])]]))] } trivial rfl (by kernel_rfl) h
def Z92 (t0:Option Addr) (id1:Int) (kind2:Int):W ((Int × Int × Int × Int) × Int) :=
 newW 52 [.int .u8 0,.int .i32 0,.int .i32 0,.int .i32 0] fun x_1 =>
 cond (Option.isNone t0)
  (stoL x_1 [.int .u8 0,.int .i32 0,.int .i32 0,.int .i32 0] 0 <|
  ld (.agg [.int .u8,.int .i32,.int .i32,.int .i32]) x_1 fun (x_2:(Int × Int × Int × Int)) =>
  retW (x_2,10))
  (callW Tryz.prog Zk [.pointer t0,.int .u32 id1] [.sc (.int .i64)] fun (x_3:Int) =>
 cond (decide (x_3 < 0))
  (stoL x_1 [.int .u8 0,.int .i32 0,.int .i32 0,.int .i32 0] 0 <|
  ld (.agg [.int .u8,.int .i32,.int .i32,.int .i32]) x_1 fun (x_4:(Int × Int × Int × Int)) =>
  retW (x_4,7))
  (ptrW t0 fun x_5 =>
 ld (.sc .sl) (Addr.add x_5 1) fun (x_6:Sl) =>
 idxW x_6.a x_6.n 2 x_3 fun x_7 =>
 ld (.sc .sl) (Addr.add x_7 1) fun (x_8:Sl) =>
 callW Tryz.prog Z2j [.slice x_8.a x_8.n x_8.c,.int .u8 kind2] [.sc (.int .i64)] fun (x_9:Int) =>
 cond (decide (x_9 < 0))
  (stoL x_1 [.int .u8 0,.int .i32 0,.int .i32 0,.int .i32 0] 0 <|
  ld (.agg [.int .u8,.int .i32,.int .i32,.int .i32]) x_1 fun (x_10:(Int × Int × Int × Int)) =>
  retW (x_10,10))
  (ptrW t0 fun x_11 =>
 ld (.sc .sl) (Addr.add x_11 1) fun (x_12:Sl) =>
 idxW x_12.a x_12.n 2 x_3 fun x_13 =>
 ld (.sc .sl) (Addr.add x_13 1) fun (x_14:Sl) =>
 idxW x_14.a x_14.n 4 x_9 fun x_15 =>
 ld (.agg [.int .u8,.int .i32,.int .i32,.int .i32]) x_15 fun (x_16:(Int × Int × Int × Int)) =>
 stoL x_1 [.int .u8 x_16.1,.int .i32 x_16.2.1,.int .i32 x_16.2.2.1,.int .i32 x_16.2.2.2] 0 <|
 ld (.agg [.int .u8,.int .i32,.int .i32,.int .i32]) x_1 fun (x_17:(Int × Int × Int × Int)) =>
 retW (x_17,0))))
theorem Zea {R:Type} (t0:Option Addr) (id1:Int) (kind2:Int) (K:Res [.agg [.int .u8,.int .i32,.int .i32,.int .i32],.sc (.int .i64)]→W R) (Q:R→World→Prop) (w:World) (h:Z92 t0 id1 kind2 (fun r w=>K r Q w) w):callW Tryz.prog Z5q [.pointer t0,.int .u32 id1,.int .u8 kind2] [.agg [.int .u8,.int .i32,.int .i32,.int .i32],.sc (.int .i64)] K Q w:=den_c (K:=K) mix Tryz.func201 {} ⟨by kernel_rfl,trivial⟩ rfl (by kernel_rfl) h
def Z9e (s0:Option Addr) (id1:Int):W (Bool) :=
 joinW (σ:=Bool) (fun J_1 =>
  drawW <|
  bothW
   (cond (!Option.isNone s0)
    (ptrW s0 fun x_2 =>
      ld (.sc .sl) (Addr.add x_2 1) fun (x_3 : Sl) =>
          callW Tryz.prog Z15 [.int .u32 id1] [.sc (.int .i64)] fun (x_4:Int) =>
           andW (fun w=>Rd w (Addr.add x_2 1) (.sc .sl) x_3) <|
           cond (decide (x_4 < (x_3.n : Int)))
                 (ptrW s0 fun x_5 =>
                  ld (.sc .sl) (Addr.add x_5 2) fun (x_6 : Sl) =>
                      callW Tryz.prog Z15 [.int .u32 id1] [.sc (.int .i64)] fun (x_7:Int) =>
                        andW (fun w=>Rd w (Addr.add x_5 2) (.sc .sl) x_6) <|
                        idxW x_6.a x_6.n 1 x_7 fun x_8 =>
                         ld (.sc .bool) x_8 fun (x_9:Bool) =>
                          cond x_9
                           (ptrW s0 fun x_10 =>
                            ld (.sc .sl) (Addr.add x_10 1) fun (x_11 : Sl) =>
                                callW Tryz.prog Z15 [.int .u32 id1] [.sc (.int .i64)] fun (x_12 : Int) =>
                                   andW (fun w=>Rd w (Addr.add x_10 1) (.sc .sl) x_11) <|
                                   idxW x_11.a x_11.n 1 x_12 fun x_13 =>
                                    ld (.sc (.int .i64)) x_13 fun (x_14:Int) =>
                                     callW Tryz.prog Z8o [.int .u32 id1] [.sc (.int .i64)] fun (x_15:Int) =>
                                      andW (fun w=>Rd w x_13 (.sc (.int .i64)) x_14) <|
                                      andW (fun w=>Rd w (Addr.add x_10 1) (.sc .sl) x_11) <|
                                      J_1 (x_14 == x_15))
                           (J_1 false))
                 (J_1 false))
    (J_1 false))
   (cond (!Option.isNone s0)
    (ptrW s0 fun x_16 =>
      ld (.sc .sl) (Addr.add x_16 1) fun (x_17 : Sl) =>
          callW Tryz.prog Z15 [.int .u32 id1] [.sc (.int .i64)] fun (x_18:Int) =>
            andW (fun w=>Rd w (Addr.add x_16 1) (.sc .sl) x_17) <|
            cond (decide (x_18 < (x_17.n:Int)))
              (ptrW s0 fun x_19 =>
               ld (.sc .sl) (Addr.add x_19 2) fun (x_20 : Sl) =>
                   callW Tryz.prog Z15 [.int .u32 id1] [.sc (.int .i64)] fun (x_21:Int) =>
                     andW (fun w=>Rd w (Addr.add x_19 2) (.sc .sl) x_20) <|
                     idxW x_20.a x_20.n 1 x_21 fun x_22 =>
                      ld (.sc .bool) x_22 fun (x_23:Bool) =>
                       cond x_23
                        (ptrW s0 fun x_24 =>
                         ld (.sc .sl) (Addr.add x_24 1) fun (x_25 : Sl) =>
                             callW Tryz.prog Z15 [.int .u32 id1] [.sc (.int .i64)] fun (x_26 : Int) =>
                                andW (fun w=>Rd w (Addr.add x_24 1) (.sc .sl) x_25) <|
                                idxW x_25.a x_25.n 1 x_26 fun x_27 =>
                                 ld (.sc (.int .i64)) x_27 fun (x_28:Int) =>
                                  callW Tryz.prog Z8o [.int .u32 id1] [.sc (.int .i64)] fun (x_29:Int) =>
                                   andW (fun w=>Rd w x_27 (.sc (.int .i64)) x_28) <|
                                   andW (fun w=>Rd w (Addr.add x_24 1) (.sc .sl) x_25) <|
                                   J_1 (x_28 == x_29))
                        (J_1 false))
              (J_1 false))
    (J_1 false)))
 <| fun s_30 =>
 retW s_30
theorem Zem {R:Type} (s0:Option Addr) (id1:Int) (K:Res [.sc .bool]→W R) (Q:R→World→Prop) (w:World) (h:Z9e s0 id1 (fun r w=>K r Q w) w):callW Tryz.prog Z60 [.pointer s0,.int .u32 id1] [.sc .bool] K Q w:=den_c (K:=K) mix Tryz.func202 { reg:=[(1,[(4,.sc .bool)])],dr:=[(1,([(4,9)],[[(0,[]),(1,[]),(2,[]),(3,[]),(5,[]),(6,[]),(7,[]),(8,[]),(4,[8]),(9,[]),(10,[]),(11,[]),(12,[]),(13,[]),(14,[]),(15,[]),(16,[]),(17,[]),(18,[16]),(19,[]),(20,[]),(21,[]),(22,[]),(23,[]),(24,[]),(25,[]),(26,[]),(27,[]),(31,[]),(28,[26]),(29,[]),(30,[]),(32,[26,30]),(33,[]),(34,[]),(35,[])],[(0,[]),(1,[]),(2,[]),(3,[]),(5,[]),(6,[]),(7,[]),(8,[]),(9,[]),(4,[8]),(10,[]),(11,[]),(12,[]),(13,[]),(14,[]),(15,[]),(16,[]),(17,[]),(18,[16]),(19,[]),(20,[]),(21,[]),(22,[]),(23,[]),(24,[]),(25,[]),(26,[]),(27,[]),(31,[]),(28,[26]),(29,[]),(30,[]),(32,[26,30]),(33,[]),(34,[]),(35,[])]]))] } trivial rfl (by kernel_rfl) h
def Z9h (t0:Option Addr) (id1:Int) (kind2:Int):W (Int × Int) :=
 callW Tryz.prog Z2e [.pointer t0,.int .u32 id1] [.sc (.int .i64),.sc .bool] fun (x_1:Int × Bool) =>
 cond (Option.isNone t0)
  (retW (0,10))
  (cond (!x_1.2)
   (retW (0,7))
   (ptrW t0 fun x_2 =>
   ld (.sc .sl) (Addr.add x_2 1) fun (x_3:Sl) =>
   callW Tryz.prog Z3w [.slice x_3.a x_3.n x_3.c,.int .u8 kind2] [.sc .bool] fun (x_4:Bool) =>
   cond (!x_4)
    (retW (0,10))
    (retW (x_1.1,0))))
theorem Zer {R:Type} (t0:Option Addr) (id1:Int) (kind2:Int) (K:Res [.sc (.int .i64),.sc (.int .i64)]→W R) (Q:R→World→Prop) (w:World) (h:Z9h t0 id1 kind2 (fun r w=>K r Q w) w):callW Tryz.prog Z44 [.pointer t0,.int .u32 id1,.int .u8 kind2] [.sc (.int .i64),.sc (.int .i64)] K Q w:=den_c (K:=K) mix Tryz.func217 {} trivial rfl (by kernel_rfl) h
def Z9g (t0:Option Addr) (row1:Int) (kind2:Int):W ((Int × Int × Int × Int)) :=
 newW 52 [.int .u8 0,.int .i32 0,.int .i32 0,.int .i32 0] fun x_1 =>
 ptrW t0 fun x_2 =>
 idxW (some (Addr.add x_2 3)) 6 1 kind2 fun x_3 =>
 ld (.sc .sl) (Addr.add x_3 0) fun (x_4:Sl) =>
 idxW x_4.a x_4.n 3 row1 fun x_5 =>
 ld (.agg [.int .i32,.int .i32,.int .i32]) x_5 fun (x_6:(Int × Int × Int)) =>
 stoL x_1 [.int .u8 kind2,.int .i32 x_6.1,.int .i32 x_6.2.1,.int .i32 x_6.2.2] 0 <|
 ld (.agg [.int .u8,.int .i32,.int .i32,.int .i32]) x_1 fun (x_7:(Int × Int × Int × Int)) =>
 retW x_7
theorem Zeq {R:Type} (t0:Option Addr) (row1:Int) (kind2:Int) (K:Res [.agg [.int .u8,.int .i32,.int .i32,.int .i32]]→W R) (Q:R→World→Prop) (w:World) (h:Z9g t0 row1 kind2 (fun r w=>K r Q w) w):callW Tryz.prog Z43 [.pointer t0,.int .i64 row1,.int .u8 kind2] [.agg [.int .u8,.int .i32,.int .i32,.int .i32]] K Q w:=den_c (K:=K) mix Tryz.func218 {} ⟨by kernel_rfl,trivial⟩ rfl (by kernel_rfl) h
def Za9 (s0:Option Addr) (id1:Int) (c2:(Int × Int × Int × Int)):W (Int) :=
 newW 52 [.int .u8 c2.1,.int .i32 c2.2.1,.int .i32 c2.2.2.1,.int .i32 c2.2.2.2] fun c_1 =>
 ld (.agg [.int .u8,.int .i32,.int .i32,.int .i32]) c_1 fun (x_2:(Int × Int × Int × Int)) =>
 callW Tryz.prog Z32 [.agg ⟨[.int .u8 x_2.1,.int .i32 x_2.2.1,.int .i32 x_2.2.2.1,.int .i32 x_2.2.2.2]⟩] [.sc (.int .i64)] fun (x_3:Int) =>
 joinW (σ:=Bool) (fun J_4 =>
  cond (x_3 != 0)
   (J_4 (!Option.isNone s0))
   (J_4 false))
 <| fun s_5 =>
 cond s_5
  (retW x_3)
  (callW Tryz.prog Z1k [.pointer s0,.int .u32 id1] [.sc .ptr,.sc (.int .i64)] fun (x_6:(Option Addr) × Int) =>
 cond (x_6.2 != 0)
  (retW x_6.2)
  (drawW <|
  ld (.sc (.int .u8)) (Addr.add c_1 0) fun (x_7:Int) =>
  callW Tryz.prog Z2z [.pointer x_6.1] [.sc (.int .u8)] fun (x_8:Int) =>
  andW (fun w=>Rd w (Addr.add c_1 0) (.sc (.int .u8)) x_7) <|
  chkW (0≤x_7) <|
  cond ((bAnd .u8 (shR .u8 x_8 x_7) 1) == 1)
   (retW 9)
   (callW Tryz.prog Z42 [.pointer s0,.int .u32 id1,.pointer x_6.1,.func (.func 259) #[] #[.pointer (some c_1)]] [] fun (x_9:Unit) =>
 retW 0)))
theorem Zfx {R:Type} (s0:Option Addr) (id1:Int) (c2:(Int × Int × Int × Int)) (K:Res [.sc (.int .i64)]→W R) (Q:R→World→Prop) (w:World) (h:Za9 s0 id1 c2 (fun r w=>K r Q w) w):callW Tryz.prog Z6i [.pointer s0,.int .u32 id1,.agg ⟨[.int .u8 c2.1,.int .i32 c2.2.1,.int .i32 c2.2.2.1,.int .i32 c2.2.2.2]⟩] [.sc (.int .i64)] K Q w:=den_c (K:=K) mix Tryz.func219 { reg:=[(2,[(17,.sc .bool)])],dr:=[(7,([],[[(0,[]),(2,[]),(3,[]),(1,[3]),(4,[]),(5,[]),(6,[]),(7,[])]]))] } trivial rfl (by kernel_rfl) h
def Z7l (s0:Option Addr) (id1:Int) (kind2:Int):W (Int) :=
 newW 5 [.int .u8 kind2] fun kind_1 =>
 callW Tryz.prog Z1k [.pointer s0,.int .u32 id1] [.sc .ptr,.sc (.int .i64)] fun (x_2:(Option Addr) × Int) =>
 cond (x_2.2 != 0)
  (retW x_2.2)
  (joinW (σ:=Bool) (fun J_3 =>
   drawW <|
   ld (.sc (.int .u8)) kind_1 fun (x_4:Int) =>
   cond (decide (x_4 ≥ 6))
    (J_3 true)
    (ld (.sc (.int .u8)) kind_1 fun (x_5:Int) =>
     callW Tryz.prog Z2z [.pointer x_2.1] [.sc (.int .u8)] fun (x_6:Int) =>
      andW (fun w=>Rd w kind_1 (.sc (.int .u8)) x_5) <|
      chkW (0≤x_5) <|
       J_3 ((bAnd .u8 (shR .u8 x_6 x_5) 1) == 0)))
  <| fun s_7 =>
  cond s_7
   (retW 10)
   (callW Tryz.prog Z42 [.pointer s0,.int .u32 id1,.pointer x_2.1,.func (.func 262) #[] #[.pointer (some kind_1)]] [] fun (x_8:Unit) =>
 retW 0))
theorem Zcw {R:Type} (s0:Option Addr) (id1:Int) (kind2:Int) (K:Res [.sc (.int .i64)]→W R) (Q:R→World→Prop) (w:World) (h:Z7l s0 id1 kind2 (fun r w=>K r Q w) w):callW Tryz.prog Z51 [.pointer s0,.int .u32 id1,.int .u8 kind2] [.sc (.int .i64)] K Q w:=den_c (K:=K) mix Tryz.func220 { reg:=[(4,[(19,.sc .bool)])],dr:=[(4,([],[[(0,[]),(1,[]),(2,[]),(3,[]),(5,[]),(4,[5]),(6,[]),(7,[]),(8,[]),(9,[]),(10,[])]]))] } trivial rfl (by kernel_rfl) h
def Z7k (s0:Option Addr):W (Sl) :=
 cond (Option.isNone s0)
  (retW (⟨none,0,0⟩:Sl))
  (ptrW s0 fun x_1 =>
 ld (.sc .map) (Addr.add x_1 1) fun (x_2:Option Nat) =>
 callW Tryz.prog Z6g [.map x_2] [.sc .raw] fun (x_3:Value) =>
 callW Tryz.prog Z4z [x_3] [.sc .sl] fun (x_4:Sl) =>
 loopW (σ:=Sl × Int) (fun K_5 s_6 =>
  cond (decide (s_6.2 < (x_4.n:Int)))
   (idxW x_4.a x_4.n 1 s_6.2 fun x_7 =>
  ld (.sc (.int .u8)) x_7 fun (x_8:Int) =>
  ptrW s0 fun x_9 =>
  ld (.sc .map) (Addr.add x_9 1) fun (x_10:Option Nat) =>
  rawQ Tryz.prog (Instr.lookup 204 (.map x_10) (.int .u8 x_8) false) [.sc .ptr] fun (x_11:(Option Addr)) =>
  callW Tryz.prog Z4j [.pointer x_11] [.sc (.int .i64)] fun (x_12:Int) =>
  joinW (σ:=Sl) (fun J_13 =>
   cond (decide (x_12 > 0))
    (callW Tryz.prog Z6j [.pointer x_11] [.sc .sl] fun (x_14:Sl) =>
    newW 321 [.int .u8 x_8,.slice x_14.a x_14.n x_14.c] fun x_15 =>
    rawW Tryz.prog (Builtin.append_ #[318,318] 318 #[.slice s_6.1.a s_6.1.n s_6.1.c,.slice (some x_15) 1 1]) [.sc .sl] fun (x_16:Sl) =>
    J_13 x_16)
    (J_13 s_6.1))
  <| fun s_17 =>
  K_5 (s_17,IntKind.wrap .i64 (s_6.2+1)))
   (retW s_6.1))
  ((⟨none,0,0⟩:Sl),0))
theorem Zcv {R:Type} (s0:Option Addr) (K:Res [.sc .sl]→W R) (Q:R→World→Prop) (w:World) (h:Z7k s0 (fun r w=>K r Q w) w):callW Tryz.prog Z7q [.pointer s0] [.sc .sl] K Q w:=den_c (K:=K) mix Tryz.func224 { con:=[(10028,[(3,.sc .sl)])],lop:=[(0,[(3,.sc .sl),(16,.sc (.int .i64))])] } trivial rfl (by kernel_rfl) h
def Z6c (c0:Option Addr) (row1:Int):W (Int) :=
 ptrW c0 fun x_1 =>
 ld (.sc .sl) (Addr.add x_1 0) fun (x_2:Sl) =>
 idxW x_2.a x_2.n 1 row1 fun x_3 =>
 ld (.sc (.int .u32)) x_3 fun (x_4:Int) =>
 ptrW c0 fun x_5 =>
 ld (.sc .sl) (Addr.add x_5 0) fun (x_6:Sl) =>
 drawW <|
 ptrW c0 fun x_7 =>
 ld (.sc .sl) (Addr.add x_7 0) fun (x_8:Sl) =>
 ptrW c0 fun x_9 =>
 ld (.sc .sl) (Addr.add x_9 0) fun (x_10:Sl) =>
 idxW x_10.a x_10.n 1 (IntKind.wrap .i64 ((x_6.n:Int) - 1)) fun x_11 =>
 ld (.sc (.int .u32)) x_11 fun (x_12:Int) =>
 idxW x_8.a x_8.n 1 row1 fun x_13 =>
 stoL x_13 [.int .u32 x_12] 0 <|
 ptrW c0 fun x_14 =>
 ld (.sc .sl) (Addr.add x_14 0) fun (x_15:Sl) =>
 slcW x_15.a x_15.n x_15.c 1 none (some (IntKind.wrap .i64 ((x_6.n:Int) - 1))) fun x_16 =>
 ptrW c0 fun x_17 =>
 stoL (Addr.add x_17 0) [.slice x_16.a x_16.n x_16.c] 0 <|
 retW x_4
theorem Zbg {R:Type} (c0:Option Addr) (row1:Int) (K:Res [.sc (.int .u32)]→W R) (Q:R→World→Prop) (w:World) (h:Z6c c0 row1 (fun r w=>K r Q w) w):callW Tryz.prog Z2n [.pointer c0,.int .i64 row1] [.sc (.int .u32)] K Q w:=den_c (K:=K) mix Tryz.func226 { dr:=[(3,([],[[(0,[]),(1,[]),(2,[]),(3,[]),(4,[]),(5,[]),(6,[]),(7,[]),(8,[]),(9,[]),(10,[]),(11,[]),(12,[]),(13,[])]]))] } trivial rfl (by kernel_rfl) h
def Z4p (c0:Option Addr) (row1:Int):W ((Int × Int × Int)) :=
 newW 322 [.int .i32 0,.int .i32 0,.int .i32 0] fun x_1 =>
 ptrW c0 fun x_2 =>
 ld (.sc .sl) (Addr.add x_2 0) fun (x_3:Sl) =>
 idxW x_3.a x_3.n 3 row1 fun x_4 =>
 ld (.agg [.int .i32,.int .i32,.int .i32]) x_4 fun (x_5:(Int × Int × Int)) =>
 newW 322 [.int .i32 0,.int .i32 0,.int .i32 0] fun x_6 =>
 stoL x_6 [.int .i32 x_5.1,.int .i32 x_5.2.1,.int .i32 x_5.2.2] 0 <|
 ptrW c0 fun x_7 =>
 ld (.sc .sl) (Addr.add x_7 0) fun (x_8:Sl) =>
 drawW <|
 ptrW c0 fun x_9 =>
 ld (.sc .sl) (Addr.add x_9 0) fun (x_10:Sl) =>
 ptrW c0 fun x_11 =>
 ld (.sc .sl) (Addr.add x_11 0) fun (x_12:Sl) =>
 idxW x_12.a x_12.n 3 (IntKind.wrap .i64 ((x_8.n:Int) - 1)) fun x_13 =>
 ld (.agg [.int .i32,.int .i32,.int .i32]) x_13 fun (x_14:(Int × Int × Int)) =>
 idxW x_10.a x_10.n 3 row1 fun x_15 =>
 stoL x_15 [.int .i32 x_14.1,.int .i32 x_14.2.1,.int .i32 x_14.2.2] 0 <|
 ptrW c0 fun x_16 =>
 ld (.sc .sl) (Addr.add x_16 0) fun (x_17:Sl) =>
 slcW x_17.a x_17.n x_17.c 3 none (some (IntKind.wrap .i64 ((x_8.n:Int) - 1))) fun x_18 =>
 ptrW c0 fun x_19 =>
 stoL (Addr.add x_19 0) [.slice x_18.a x_18.n x_18.c] 0 <|
 ld (.agg [.int .i32,.int .i32,.int .i32]) x_6 fun (x_20:(Int × Int × Int)) =>
 stoL x_1 [.int .i32 x_20.1,.int .i32 x_20.2.1,.int .i32 x_20.2.2] 0 <|
 ld (.agg [.int .i32,.int .i32,.int .i32]) x_1 fun (x_21:(Int × Int × Int)) =>
 retW x_21
theorem Z8y {R:Type} (c0:Option Addr) (row1:Int) (K:Res [.agg [.int .i32,.int .i32,.int .i32]]→W R) (Q:R→World→Prop) (w:World) (h:Z4p c0 row1 (fun r w=>K r Q w) w):callW Tryz.prog Z1m [.pointer c0,.int .i64 row1] [.agg [.int .i32,.int .i32,.int .i32]] K Q w:=den_c (K:=K) mix Tryz.func227 { dr:=[(3,([],[[(0,[]),(1,[]),(2,[]),(3,[]),(4,[]),(5,[]),(6,[]),(7,[]),(8,[]),(9,[]),(10,[]),(11,[]),(12,[]),(13,[])]]))] } ⟨by kernel_rfl,trivial⟩ rfl (by kernel_rfl) h
def Za8 (s0:Option Addr) (slot1:Int) (gen2:Int):W (Int × Int) :=
 drawW <|
 ptrW s0 fun x_1 =>
 ld (.sc .sl) (Addr.add x_1 1) fun (x_2:Sl) =>
 ptrW s0 fun x_3 =>
 ld (.sc .sl) (Addr.add x_3 2) fun (x_4:Sl) =>
 idxW x_2.a x_2.n 1 slot1 fun x_5 =>
 stoL x_5 [.int .i64 gen2] 0 <|
 idxW x_4.a x_4.n 1 slot1 fun x_6 =>
 stoL x_6 [.bool true] 0 <|
 ptrW s0 fun x_7 =>
 ld (.sc (.int .i64)) (Addr.add x_7 5) fun (x_8:Int) =>
 ptrW s0 fun x_9 =>
 stoL (Addr.add x_9 5) [.int .i64 (IntKind.wrap .i64 (x_8+1))] 0 <|
 callW Tryz.prog Z9o [.int .i64 slot1,.int .i64 gen2] [.sc (.int .u32),.sc (.int .i64)] fun (x_10:Int × Int) =>
 retW (x_10.1,x_10.2)
theorem Zfw {R:Type} (s0:Option Addr) (slot1:Int) (gen2:Int) (K:Res [.sc (.int .u32),.sc (.int .i64)]→W R) (Q:R→World→Prop) (w:World) (h:Za8 s0 slot1 gen2 (fun r w=>K r Q w) w):callW Tryz.prog Z4f [.pointer s0,.int .i64 slot1,.int .i64 gen2] [.sc (.int .u32),.sc (.int .i64)] K Q w:=den_c (K:=K) mix Tryz.func228 { dr:=[(1,([],[[(0,[]),(1,[]),(2,[]),(3,[]),(4,[]),(5,[]),(6,[]),(7,[]),(8,[]),(9,[]),(10,[]),(11,[]),(12,[]),(13,[]),(14,[])]]))] } trivial rfl (by kernel_rfl) h
def Zf0 (l0:Sl):W (Int) :=
 loopW (σ:=Int × Int) (fun K_1 s_2 =>
  cond (decide (s_2.2 < (l0.n:Int)))
   (idxW l0.a l0.n 4 s_2.2 fun x_3 =>
  ld (.agg [.int .u8,.int .i32,.int .i32,.int .i32]) x_3 fun (x_4:(Int × Int × Int × Int)) =>
  newW 52 [.int .u8 0,.int .i32 0,.int .i32 0,.int .i32 0] fun c_5 =>
  stoL c_5 [.int .u8 x_4.1,.int .i32 x_4.2.1,.int .i32 x_4.2.2.1,.int .i32 x_4.2.2.2] 0 <|
  ld (.sc (.int .u8)) (Addr.add c_5 0) fun (x_6:Int) =>
  joinW (σ:=Int) (fun J_7 =>
   cond (decide (x_6 < 6))
    (ld (.sc (.int .u8)) (Addr.add c_5 0) fun (x_8:Int) =>
    chkW (0≤x_8) <|
    J_7 (bOr .u8 s_2.1 (shL .u8 1 x_8)))
    (J_7 s_2.1))
  <| fun s_9 =>
  K_1 (s_9,IntKind.wrap .i64 (s_2.2+1)))
   (retW s_2.1))
  (0,0)
theorem Zkw {R:Type} (l0:Sl) (K:Res [.sc (.int .u8)]→W R) (Q:R→World→Prop) (w:World) (h:Zf0 l0 (fun r w=>K r Q w) w):callW Tryz.prog Z7v [.slice l0.a l0.n l0.c] [.sc (.int .u8)] K Q w:=den_c (K:=K) mix Tryz.func229 { con:=[(7014,[(3,.sc (.int .u8))])],lop:=[(0,[(3,.sc (.int .u8)),(8,.sc (.int .i64))])] } trivial rfl (by kernel_rfl) h
def Zhy (mask0:Int):W ((Option Addr) × Int) :=
 cond (decide (mask0 ≥ 64))
  (retW (none,1))
  (rawW Tryz.prog (Instr.makeMap 330 none) [.sc .map] fun (x_1:Option Nat) =>
 newW 332 [.int .u8 mask0,.slice none 0 0,.slice none 0 0,.slice none 0 0,.slice none 0 0,.slice none 0 0,.slice none 0 0,.slice none 0 0,.slice none 0 0,.map x_1] fun x_2 =>
 loopW (σ:=Int) (fun K_3 s_4 =>
  cond (decide (s_4 < 6))
   (chkW (0≤s_4) <|
  joinW (σ:=Unit) (fun J_5 =>
   cond ((bAnd .u8 (shR .u8 mask0 s_4) 1) == 1)
    (ld (.sc .sl) (Addr.add x_2 1) fun (x_6:Sl) =>
    newW 5 [.int .u8 s_4] fun x_7 =>
    rawW Tryz.prog (Builtin.append_ #[326,326] 326 #[.slice x_6.a x_6.n x_6.c,.slice (some x_7) 1 1]) [.sc .sl] fun (x_8:Sl) =>
    stoL (Addr.add x_2 1) [.slice x_8.a x_8.n x_8.c] 0 <|
    J_5 ())
    (J_5 ()))
  <| fun s_9 =>
  K_3 (IntKind.wrap .u8 (s_4+1)))
   (retW ((some x_2),0)))
  0)
theorem Znp {R:Type} (mask0:Int) (K:Res [.sc .ptr,.sc (.int .i64)]→W R) (Q:R→World→Prop) (w:World) (h:Zhy mask0 (fun r w=>K r Q w) w):callW Tryz.prog Zb2 [.int .u8 mask0] [.sc .ptr,.sc (.int .i64)] K Q w:=den_c (K:=K) mix Tryz.func230 { con:=[(9019,[])],lop:=[(0,[(12,.sc (.int .u8))])] } trivial rfl (by kernel_rfl) h
def Zae (d0:Option Addr) (o1:Int) (p2:Sl):W (Int) :=
 cond (Option.isNone d0)
  (retW 10)
  (callW Tryz.prog Z5v [.slice p2.a p2.n p2.c] [.sc (.int .i64)] fun (x_1:Int) =>
 cond (x_1 != 0)
  (retW x_1)
  (drawW <|
 ptrW d0 fun x_2 =>
 ld (.sc (.int .u8)) (Addr.add x_2 0) fun (x_3:Int) =>
 callW Tryz.prog Z7v [.slice p2.a p2.n p2.c] [.sc (.int .u8)] fun (x_4:Int) =>
 andW (fun w=>Rd w (Addr.add x_2 0) (.sc (.int .u8)) x_3) <|
 cond (x_4 != x_3)
  (retW 4)
  (callW Tryz.prog Z2e [.pointer d0,.int .u32 o1] [.sc (.int .i64),.sc .bool] fun (x_5:Int × Bool) =>
 cond x_5.2
  (retW 9)
  (drawW <|
 ptrW d0 fun x_6 =>
 ld (.sc .map) (Addr.add x_6 9) fun (x_7:Option Nat) =>
 ptrW d0 fun x_8 =>
 ld (.sc .sl) (Addr.add (Addr.add x_8 2) 0) fun (x_9:Sl) =>
 rawU Tryz.prog (Instr.mapUpdate 330 (.map x_7) (.int .u32 o1) (.int .i64 (x_9.n:Int))) <|
 ptrW d0 fun x_10 =>
 callW Tryz.prog Z30 [.pointer (some (Addr.add x_10 2)),.int .u32 o1] [] fun (x_11:Unit) =>
 loopW (σ:=Int) (fun K_12 s_13 =>
  cond (decide (s_13 < (p2.n:Int)))
   (idxW p2.a p2.n 4 s_13 fun x_14 =>
  ld (.agg [.int .u8,.int .i32,.int .i32,.int .i32]) x_14 fun (x_15:(Int × Int × Int × Int)) =>
  newW 52 [.int .u8 0,.int .i32 0,.int .i32 0,.int .i32 0] fun x_16 =>
  stoL x_16 [.int .u8 x_15.1,.int .i32 x_15.2.1,.int .i32 x_15.2.2.1,.int .i32 x_15.2.2.2] 0 <|
  drawW <|
  ld (.sc (.int .u8)) (Addr.add x_16 0) fun (x_17:Int) =>
  ptrW d0 fun x_18 =>
  idxW (some (Addr.add x_18 3)) 6 1 x_17 fun x_19 =>
  ld (.agg [.int .i32,.int .i32,.int .i32]) (Addr.add x_16 1) fun (x_20:(Int × Int × Int)) =>
  callW Tryz.prog Z1r [.pointer (some x_19),.agg ⟨[.int .i32 x_20.1,.int .i32 x_20.2.1,.int .i32 x_20.2.2]⟩] [] fun (x_21:Unit) =>
  K_12 (IntKind.wrap .i64 (s_13+1)))
   (retW 0))
  0))))
theorem Zg2 {R:Type} (d0:Option Addr) (o1:Int) (p2:Sl) (K:Res [.sc (.int .i64)]→W R) (Q:R→World→Prop) (w:World) (h:Zae d0 o1 p2 (fun r w=>K r Q w) w):callW Tryz.prog Z4h [.pointer d0,.int .u32 o1,.slice p2.a p2.n p2.c] [.sc (.int .i64)] K Q w:=den_c (K:=K) mix Tryz.func231 { lop:=[(0,[(51,.sc (.int .i64))])],dr:=[(6,([],[[(0,[]),(2,[]),(3,[]),(4,[]),(5,[]),(1,[5]),(6,[])]])),(11,([],[[(0,[]),(1,[]),(2,[]),(3,[]),(4,[]),(5,[]),(6,[]),(7,[]),(8,[]),(9,[]),(10,[]),(11,[])]])),(16,([],[[(0,[]),(1,[]),(2,[]),(3,[]),(4,[]),(5,[]),(6,[]),(7,[]),(8,[])]]))] } trivial rfl (by kernel_rfl) h
def Zah (t0:Option Addr):W (Int) :=
 cond (Option.isNone t0)
  (retW 0)
  (ptrW t0 fun x_1 =>
 ld (.sc .sl) (Addr.add (Addr.add x_1 2) 0) fun (x_2:Sl) =>
 retW (x_2.n:Int))
theorem Zg5 {R:Type} (t0:Option Addr) (K:Res [.sc (.int .i64)]→W R) (Q:R→World→Prop) (w:World) (h:Zah t0 (fun r w=>K r Q w) w):callW Tryz.prog Z4j [.pointer t0] [.sc (.int .i64)] K Q w:=den_c (K:=K) mix Tryz.func241 {} trivial rfl (by kernel_rfl) h
def Z6a (s0:Sl) (v1:Int):W (Bool) :=
 callW Tryz.prog Z8n [.slice s0.a s0.n s0.c,.int .u8 v1] [.sc (.int .i64)] fun (x_1:Int) =>
 retW (decide (x_1 ≥ 0))
theorem Zbe {R:Type} (s0:Sl) (v1:Int) (K:Res [.sc .bool]→W R) (Q:R→World→Prop) (w:World) (h:Z6a s0 v1 (fun r w=>K r Q w) w):callW Tryz.prog Z3w [.slice s0.a s0.n s0.c,.int .u8 v1] [.sc .bool] K Q w:=den_c (K:=K) mix Tryz.func256 {} trivial rfl (by kernel_rfl) h
def Zf3 (t0:Option Addr):W (Int) :=
 cond (Option.isNone t0)
  (retW 0)
  (ptrW t0 fun x_1 =>
 ld (.sc (.int .u8)) (Addr.add x_1 0) fun (x_2:Int) =>
 retW x_2)
theorem Zep {R:Type} (t0:Option Addr) (K:Res [.sc (.int .u8)]→W R) (Q:R→World→Prop) (w:World) (h:Zf3 t0 (fun r w=>K r Q w) w):callW Tryz.prog Z2z [.pointer t0] [.sc (.int .u8)] K Q w:=den_c (K:=K) mix Tryz.func257 {} trivial rfl (by kernel_rfl) h
def Z1z (s0:Option Addr) (id1:Int) (t2:Option Addr) (turn3c0:Option Addr):W (Unit) :=
 callW Tryz.prog Z1j [.pointer t2,.int .u32 id1] [.sc .sl,.sc (.int .i64)] fun (x_1:Sl × Int) =>
 callW Tryz.prog Z50 [.slice x_1.1.a x_1.1.n x_1.1.c,.pointer turn3c0] [.sc .sl] fun (x_2:Sl) =>
 callW Tryz.prog Z2d [.pointer s0,.int .u32 id1,.slice x_2.a x_2.n x_2.c] [] fun (x_3:Unit) =>
 retW ()
theorem Z4e {R:Type} (s0:Option Addr) (id1:Int) (t2:Option Addr) (turn3c0:Option Addr) (K:Res []→W R) (Q:R→World→Prop) (w:World) (h:Z1z s0 id1 t2 turn3c0 (fun r w=>K r Q w) w):callW Tryz.prog Z42 [.pointer s0,.int .u32 id1,.pointer t2,.func (.func 259) #[] #[.pointer turn3c0]] [] K Q w:=den_c (K:=K) mix Tryz.func258 {} trivial rfl (by kernel_rfl) h
def Z1o (s0:Option Addr) (id1:Int) (t2:Option Addr) (turn3c0:Option Addr):W (Unit) :=
 callW Tryz.prog Z1j [.pointer t2,.int .u32 id1] [.sc .sl,.sc (.int .i64)] fun (x_1:Sl × Int) =>
 callW Tryz.prog Z3k [.slice x_1.1.a x_1.1.n x_1.1.c,.pointer turn3c0] [.sc .sl] fun (x_2:Sl) =>
 callW Tryz.prog Z2d [.pointer s0,.int .u32 id1,.slice x_2.a x_2.n x_2.c] [] fun (x_3:Unit) =>
 retW ()
theorem Z3u {R:Type} (s0:Option Addr) (id1:Int) (t2:Option Addr) (turn3c0:Option Addr) (K:Res []→W R) (Q:R→World→Prop) (w:World) (h:Z1o s0 id1 t2 turn3c0 (fun r w=>K r Q w) w):callW Tryz.prog Z42 [.pointer s0,.int .u32 id1,.pointer t2,.func (.func 262) #[] #[.pointer turn3c0]] [] K Q w:=den_c (K:=K) mix Tryz.func258 {} trivial rfl (by kernel_rfl) h
def Z7j (l0:Sl) (c1:Option Addr):W (Sl) :=
 callW Tryz.prog Z28 [.slice l0.a l0.n l0.c,.func (.func 260) #[] #[.pointer c1]] [.sc (.int .i64)] fun (x_1:Int) =>
 joinW (σ:=Int) (fun J_2 =>
  cond (decide (x_1 < 0))
   (J_2 (l0.n:Int))
   (J_2 x_1))
 <| fun s_3 =>
 ptrW c1 fun x_4 =>
 ld (.agg [.int .u8,.int .i32,.int .i32,.int .i32]) x_4 fun (x_5:(Int × Int × Int × Int)) =>
 newW 52 [.int .u8 x_5.1,.int .i32 x_5.2.1,.int .i32 x_5.2.2.1,.int .i32 x_5.2.2.2] fun x_6 =>
 callW Tryz.prog Z4y [.slice l0.a l0.n l0.c,.int .i64 s_3,.slice (some x_6) 1 1] [.sc .sl] fun (x_7:Sl) =>
 retW x_7
theorem Zcu {R:Type} (l0:Sl) (c1:Option Addr) (K:Res [.sc .sl]→W R) (Q:R→World→Prop) (w:World) (h:Z7j l0 c1 (fun r w=>K r Q w) w):callW Tryz.prog Z50 [.slice l0.a l0.n l0.c,.pointer c1] [.sc .sl] K Q w:=den_c (K:=K) mix Tryz.func259 { con:=[(4009,[(4,.sc (.int .i64))])] } trivial rfl (by kernel_rfl) h
def Z5k (x0:(Int × Int × Int × Int)) (c1:Option Addr):W (Bool) :=
 newW 52 [.int .u8 x0.1,.int .i32 x0.2.1,.int .i32 x0.2.2.1,.int .i32 x0.2.2.2] fun x_1 =>
 ld (.sc (.int .u8)) (Addr.add x_1 0) fun (x_2:Int) =>
 ptrW c1 fun x_3 =>
 ld (.sc (.int .u8)) (Addr.add x_3 0) fun (x_4:Int) =>
 retW (decide (x_2 > x_4))
theorem Zat {R:Type} (x0:(Int × Int × Int × Int)) (c1:Option Addr) (K:Res [.sc .bool]→W R) (Q:R→World→Prop) (w:World) (h:Z5k x0 c1 (fun r w=>K r Q w) w):callW Tryz.prog Z29 [.agg ⟨[.int .u8 x0.1,.int .i32 x0.2.1,.int .i32 x0.2.2.1,.int .i32 x0.2.2.2]⟩,.pointer c1] [.sc .bool] K Q w:=den_c (K:=K) mix Tryz.func260 {} trivial rfl (by kernel_rfl) h
def Z7h (d0:Sl) (o1:Int) (p2:Sl):W (Sl) :=
 slcW d0.a d0.n d0.c 4 (some o1) none fun x_1 =>
 cond ((p2.n:Int) == 0)
  (retW d0)
  (cond (o1 == (d0.n:Int))
  (rawW Tryz.prog (Builtin.append_ #[35,35] 35 #[.slice d0.a d0.n d0.c,.slice p2.a p2.n p2.c]) [.sc .sl] fun (x_2:Sl) =>
  retW x_2)
  (cond (decide ((IntKind.wrap .i64 ((d0.n:Int)+(p2.n:Int))) > (d0.c:Int)))
  (slcW d0.a d0.n d0.c 4 none (some o1) fun x_3 =>
  rawW Tryz.prog (Builtin.append_ #[35,3] 35 #[.slice x_3.a x_3.n x_3.c,.int .i64 (IntKind.wrap .i64 ((IntKind.wrap .i64 ((d0.n:Int)+(p2.n:Int))) - o1))]) [.sc .sl] fun (x_4:Sl) =>
  slcW x_4.a x_4.n x_4.c 4 (some o1) none fun x_5 =>
  rawW Tryz.prog (Builtin.copy_ #[35,35] 3 #[.slice x_5.a x_5.n x_5.c,.slice p2.a p2.n p2.c]) [.sc (.int .i64)] fun (x_6:Int) =>
  drawW <|
  slcW x_4.a x_4.n x_4.c 4 (some (IntKind.wrap .i64 (o1+(p2.n:Int)))) none fun x_7 =>
  slcW d0.a d0.n d0.c 4 (some o1) none fun x_8 =>
  rawW Tryz.prog (Builtin.copy_ #[35,35] 3 #[.slice x_7.a x_7.n x_7.c,.slice x_8.a x_8.n x_8.c]) [.sc (.int .i64)] fun (x_9:Int) =>
  retW x_4)
  (slcW d0.a d0.n d0.c 4 none (some (IntKind.wrap .i64 ((d0.n:Int)+(p2.n:Int)))) fun x_10 =>
 slcW x_10.a x_10.n x_10.c 4 (some (IntKind.wrap .i64 (o1+(p2.n:Int)))) none fun x_11 =>
 extW Tryz.prog Zbh [.slice p2.a p2.n p2.c,.slice x_11.a x_11.n x_11.c] [.sc .bool] fun (x_12:Bool) =>
 cond (!x_12)
  (drawW <|
  slcW x_10.a x_10.n x_10.c 4 (some (IntKind.wrap .i64 (o1+(p2.n:Int)))) none fun x_13 =>
  slcW x_10.a x_10.n x_10.c 4 (some o1) none fun x_14 =>
  rawW Tryz.prog (Builtin.copy_ #[35,35] 3 #[.slice x_13.a x_13.n x_13.c,.slice x_14.a x_14.n x_14.c]) [.sc (.int .i64)] fun (x_15:Int) =>
  slcW x_10.a x_10.n x_10.c 4 (some o1) none fun x_16 =>
  rawW Tryz.prog (Builtin.copy_ #[35,35] 3 #[.slice x_16.a x_16.n x_16.c,.slice p2.a p2.n p2.c]) [.sc (.int .i64)] fun (x_17:Int) =>
  retW x_10)
  (slcW x_10.a x_10.n x_10.c 4 (some (d0.n:Int)) none fun x_18 =>
 rawW Tryz.prog (Builtin.copy_ #[35,35] 3 #[.slice x_18.a x_18.n x_18.c,.slice p2.a p2.n p2.c]) [.sc (.int .i64)] fun (x_19:Int) =>
 slcW x_10.a x_10.n x_10.c 4 (some o1) none fun x_20 =>
 callW Tryz.prog Z9y [.slice x_20.a x_20.n x_20.c,.int .i64 (p2.n:Int)] [] fun (x_21:Unit) =>
 retW x_10))))
theorem Zcs {R:Type} (d0:Sl) (o1:Int) (p2:Sl) (K:Res [.sc .sl]→W R) (Q:R→World→Prop) (w:World) (h:Z7h d0 o1 p2 (fun r w=>K r Q w) w):callW Tryz.prog Z4y [.slice d0.a d0.n d0.c,.int .i64 o1,.slice p2.a p2.n p2.c] [.sc .sl] K Q w:=den_c (K:=K) mix Tryz.func261 { dr:=[(11,([],[[(0,[]),(1,[]),(2,[]),(3,[]),(4,[]),(5,[]),(6,[]),(7,[]),(8,[])]])),(15,([],[[(0,[]),(1,[]),(2,[]),(3,[]),(4,[]),(5,[]),(6,[]),(7,[]),(8,[])]]))] } trivial rfl (by kernel_rfl) h
def Z5l (l0:Sl) (c1:Option Addr):W (Sl) :=
 callW Tryz.prog Z5f [.slice l0.a l0.n l0.c,.func (.func 263) #[] #[.pointer c1]] [.sc .sl] fun (x_1:Sl) =>
 retW x_1
theorem Zau {R:Type} (l0:Sl) (c1:Option Addr) (K:Res [.sc .sl]→W R) (Q:R→World→Prop) (w:World) (h:Z5l l0 c1 (fun r w=>K r Q w) w):callW Tryz.prog Z3k [.slice l0.a l0.n l0.c,.pointer c1] [.sc .sl] K Q w:=den_c (K:=K) mix Tryz.func262 {} trivial rfl (by kernel_rfl) h
def Z4o (x0:(Int × Int × Int × Int)) (c1:Option Addr):W (Bool) :=
 newW 52 [.int .u8 x0.1,.int .i32 x0.2.1,.int .i32 x0.2.2.1,.int .i32 x0.2.2.2] fun x_1 =>
 ld (.sc (.int .u8)) (Addr.add x_1 0) fun (x_2:Int) =>
 ptrW c1 fun x_3 =>
 ld (.sc (.int .u8)) x_3 fun (x_4:Int) =>
 retW (x_2 == x_4)
theorem Z8x {R:Type} (x0:(Int × Int × Int × Int)) (c1:Option Addr) (K:Res [.sc .bool]→W R) (Q:R→World→Prop) (w:World) (h:Z4o x0 c1 (fun r w=>K r Q w) w):callW Tryz.prog Zc [.agg ⟨[.int .u8 x0.1,.int .i32 x0.2.1,.int .i32 x0.2.2.1,.int .i32 x0.2.2.2]⟩,.pointer c1] [.sc .bool] K Q w:=den_c (K:=K) mix Tryz.func263 {} trivial rfl (by kernel_rfl) h
def Za6 (m0:Option Nat):W (Value) :=
 newW 204 [.map m0] fun m_1 =>
 retW (.func (.func 290) #[] #[.pointer (some m_1)]:Value)
theorem Zfu {R:Type} (m0:Option Nat) (K:Res [.sc .raw]→W R) (Q:R→World→Prop) (w:World) (h:Za6 m0 (fun r w=>K r Q w) w):callW Tryz.prog Z6g [.map m0] [.sc .raw] K Q w:=den_c (K:=K) mix Tryz.func266 {} trivial rfl (by kernel_rfl) h
def Zag (t0:Option Addr):W (Sl) :=
 cond (Option.isNone t0)
  (retW (⟨none,0,0⟩:Sl))
  (ptrW t0 fun x_1 =>
 ld (.sc .sl) (Addr.add (Addr.add x_1 2) 0) fun (x_2:Sl) =>
 callW Tryz.prog Z6h [.slice x_2.a x_2.n x_2.c] [.sc .sl] fun (x_3:Sl) =>
 retW x_3)
theorem Zg4 {R:Type} (t0:Option Addr) (K:Res [.sc .sl]→W R) (Q:R→World→Prop) (w:World) (h:Zag t0 (fun r w=>K r Q w) w):callW Tryz.prog Z6j [.pointer t0] [.sc .sl] K Q w:=den_c (K:=K) mix Tryz.func267 {} trivial rfl (by kernel_rfl) h
def Z6t (c0:Option Addr) (x1:Int):W (Unit) :=
 ptrW c0 fun x_1 =>
 ld (.sc .sl) (Addr.add x_1 0) fun (x_2:Sl) =>
 newW 34 [.int .u32 x1] fun x_3 =>
 rawW Tryz.prog (Builtin.append_ #[62,62] 62 #[.slice x_2.a x_2.n x_2.c,.slice (some x_3) 1 1]) [.sc .sl] fun (x_4:Sl) =>
 ptrW c0 fun x_5 =>
 stoL (Addr.add x_5 0) [.slice x_4.a x_4.n x_4.c] 0 <|
 retW ()
theorem Zbo {R:Type} (c0:Option Addr) (x1:Int) (K:Res []→W R) (Q:R→World→Prop) (w:World) (h:Z6t c0 x1 (fun r w=>K r Q w) w):callW Tryz.prog Z30 [.pointer c0,.int .u32 x1] [] K Q w:=den_c (K:=K) mix Tryz.func268 {} trivial rfl (by kernel_rfl) h
def Z52 (c0:Option Addr) (x1:(Int × Int × Int)):W (Unit) :=
 newW 322 [.int .i32 x1.1,.int .i32 x1.2.1,.int .i32 x1.2.2] fun x_1 =>
 drawW <|
 ptrW c0 fun x_2 =>
 ld (.sc .sl) (Addr.add x_2 0) fun (x_3:Sl) =>
 ld (.agg [.int .i32,.int .i32,.int .i32]) x_1 fun (x_4:(Int × Int × Int)) =>
 newW 322 [.int .i32 x_4.1,.int .i32 x_4.2.1,.int .i32 x_4.2.2] fun x_5 =>
 rawW Tryz.prog (Builtin.append_ #[323,323] 323 #[.slice x_3.a x_3.n x_3.c,.slice (some x_5) 1 1]) [.sc .sl] fun (x_6:Sl) =>
 ptrW c0 fun x_7 =>
 stoL (Addr.add x_7 0) [.slice x_6.a x_6.n x_6.c] 0 <|
 retW ()
theorem Z9u {R:Type} (c0:Option Addr) (x1:(Int × Int × Int)) (K:Res []→W R) (Q:R→World→Prop) (w:World) (h:Z52 c0 x1 (fun r w=>K r Q w) w):callW Tryz.prog Z1r [.pointer c0,.agg ⟨[.int .i32 x1.1,.int .i32 x1.2.1,.int .i32 x1.2.2]⟩] [] K Q w:=den_c (K:=K) mix Tryz.func269 { dr:=[(1,([],[[(0,[]),(1,[]),(2,[]),(3,[]),(4,[]),(5,[]),(6,[]),(7,[]),(8,[]),(9,[]),(10,[])]]))] } trivial rfl (by kernel_rfl) h
def Z8g (s0:Sl) (v1:Int):W (Int) :=
 loopW (σ:=Int) (fun K_1 s_2 =>
  cond (decide (s_2 < (s0.n:Int)))
   (idxW s0.a s0.n 1 s_2 fun x_3 =>
  ld (.sc (.int .u8)) x_3 fun (x_4:Int) =>
  cond (v1 == x_4)
   (retW s_2)
   (K_1 (IntKind.wrap .i64 (s_2+1))))
   (retW (-1)))
  0
theorem Zdp {R:Type} (s0:Sl) (v1:Int) (K:Res [.sc (.int .i64)]→W R) (Q:R→World→Prop) (w:World) (h:Z8g s0 v1 (fun r w=>K r Q w) w):callW Tryz.prog Z8n [.slice s0.a s0.n s0.c,.int .u8 v1] [.sc (.int .i64)] K Q w:=den_c (K:=K) mix Tryz.func277 { lop:=[(0,[(8,.sc (.int .i64))])] } trivial rfl (by kernel_rfl) h
def Za7 (s0:Sl):W (Sl) :=
 cond (Option.isNone s0.a)
  (retW (⟨none,0,0⟩:Sl))
  (newW 34 [] fun x_1 =>
 rawW Tryz.prog (Builtin.append_ #[62,62] 62 #[.slice (some x_1) 0 0,.slice s0.a s0.n s0.c]) [.sc .sl] fun (x_2:Sl) =>
 retW x_2)
theorem Zfv {R:Type} (s0:Sl) (K:Res [.sc .sl]→W R) (Q:R→World→Prop) (w:World) (h:Za7 s0 (fun r w=>K r Q w) w):callW Tryz.prog Z6h [.slice s0.a s0.n s0.c] [.sc .sl] K Q w:=den_c (K:=K) mix Tryz.func291 {} trivial rfl (by kernel_rfl) h
end Go.Proofs.YtoiahhpgkoknfaaGreat
namespace Go.Proofs.YtoiahhpgkoknfaaGreat
open Go Go.RowKit Go.Proofs.YtoiahhpgkoknfaaGreat.Den
abbrev Comp:=Int × Int × Int × Int
abbrev compT:Ty:=.agg [.int .u8,.int .i32,.int .i32,.int .i32]
abbrev fldT:Ty:=.agg [.str,.int .i32,.int .i32]
def i32 (x:Int):Prop:=-2147483648≤x∧x≤2147483647
def CompOk (c:Comp):Prop:=(0≤c.1∧c.1≤255)∧i32 c.2.1∧i32 c.2.2.1∧i32 c.2.2.2
def fieldsM (k:Int):List (ByteArray × Int × Int) :=
 if k=0 then [(⟨#[120]⟩, -524288,524287),(⟨#[121]⟩, -524288,524287)]
 else if k=1 then [(⟨#[100,120]⟩, -32768,32767),(⟨#[100,121]⟩, -32768,32767)]
 else if k=2 then [(⟨#[108,101,102,116]⟩,0,4095)]
 else if k=3 then [(⟨#[115,104,97,112,101]⟩,0,15),(⟨#[104,112]⟩,0,1000),(⟨#[115,105,122,101]⟩,1,100)]
 else if k=4 then [(⟨#[116,101,97,109]⟩,0,7),(⟨#[99,111,108,111,114]⟩,0,255),(⟨#[102,108,97,103,115]⟩,0,31)]
 else if k=5 then [(⟨#[101,118,101,114,121]⟩,1,255),(⟨#[108,101,102,116]⟩,0,254),(⟨#[115,104,97,112,101]⟩,0,15)]
 else []
def nameM (k:Int):ByteArray :=
 if k=0 then ⟨#[112,111,115]⟩ else if k=1 then ⟨#[118,101,108]⟩ else if k=2 then ⟨#[108,105,102,101]⟩ else if k=3 then ⟨#[98,111,100,121]⟩
 else if k=4 then ⟨#[116,97,103]⟩ else if k=5 then ⟨#[115,112,97,119,110]⟩ else ⟨#[]⟩
def toldM (k:Int):Bool:=decide (k=0∨k=1∨k=2∨k=3∨k=4)
def cntM (k:Int):Nat:=(fieldsM k).length
theorem Zav (k:Int):k=0∨k=1∨k=2∨k=3∨k=4∨k=5∨(k≠0∧k≠1∧k≠2∧k≠3∧k≠4∧k≠5):=by omega
theorem Znu (k:Int):cntM k≤3:=by
 rcases Zav k with rfl | rfl | rfl | rfl | rfl | rfl | ⟨h0,h1,h2,h3,h4,h5⟩ <;> simp [cntM,fieldsM, *]
theorem Zqm (k:Int):cntM k=0↔(k < 0∨5 < k):=by
 rcases Zav k with rfl | rfl | rfl | rfl | rfl | rfl | ⟨h0,h1,h2,h3,h4,h5⟩ <;> simp [cntM,fieldsM, *]
 omega
def fl (c:Comp):Nat→Int
 | 0=>c.2.1
 | 1=>c.2.2.1
 | _=>c.2.2.2
abbrev compC (c:Comp):List Value:=[.int .u8 c.1,.int .i32 c.2.1,.int .i32 c.2.2.1,.int .i32 c.2.2.2]
theorem Zl3 (c:Comp) {i:Nat} (h:i < 3):(compC c)[1+i]?=some (.int .i32 (fl c i)):=by
 rcases i with _ | _ | _ | i
 ·rfl
 ·rfl
 ·rfl
 ·omega
def inR (c:Comp) (i:Nat):Bool:=match (fieldsM c.1)[i]? with
 | some p=>decide (p.2.1≤fl c i) && decide (fl c i≤p.2.2)
 | none=>fl c i == 0
def over (c:Comp):Bool:=(List.range 3).any fun i=>decide (cntM c.1≤i) && !inR c i
def checkM (c:Comp):Int:=if cntM c.1=0 then 1 else if over c then 4 else if (List.range 3).all (inR c) then 0 else 5
variable {R:Type} {Q:R→World→Prop} {w:World}
theorem Zjy {k:Int} {K:Res [.agg [.str,.bool,.sl]]→W R} (hk:∀ (s:Sl) w',SlT (fun b=>w.heap.size≤b) w' fldT s (fieldsM k)→Fr None w w'→K (nameM k,toldM k,s) Q w') :
  callW Tryz.prog Zdv [.int .u8 k] [.agg [.str,.bool,.sl]] K Q w:=by
 refine Znl k K Q w ?_
 unfold Zhu
 refine newI fun w1 B1 f1 s1=>?_
 have lit:∀ {l:List (ByteArray × Int × Int)} {nm:ByteArray} {td:Bool} {n:Nat},fieldsM k=l→nameM k=nm→toldM k=td→n=l.length→n≤3 →
   newW 260 (l.flatMap fldT.cells) (fun x=>stoL ⟨w.heap.size,0,none⟩ [.string nm,.bool td,.slice (some x) n n] 0 <| ld (.agg [.str,.bool,.sl]) ⟨w.heap.size,0,none⟩ fun y=>K y) Q w1:=by
  intro l nm td n e1 e2 e3 e4 e5
  subst e1; subst e2; subst e3; subst e4
  have ow:=Den.Own.lit (S:=fun b=>w.heap.size≤b) w1 260 fldT (fieldsM k) (by omega) (by rw [Zn]; omega) rfl rfl
  refine newI fun w2 B2 f2 s2=>?_
  refine stoAll (B1.fr f2 (fun h=>h)) rfl rfl fun w3 B3 f3 s3=>?_
  refine aggI B3 (x:=(nameM k,toldM k,⟨some ⟨w1.heap.size,0,none⟩,(fieldsM k).length,(fieldsM k).length⟩)) rfl ?_
  refine hk _ _ ?_ ((f1.then0 f2).newer f3 (fun x e=>by omega))
  refine ⟨rfl,Nat.le_refl _,.inr ⟨w1.heap.size,0,rfl,by omega,by rw [s3,s2]; omega,fun i x hx=>?_⟩⟩
  rw [Nat.zero_add]
  refine Rd.keep (w:=w2) (f3.block _ (by rw [s2]; omega) (by omega)) (Rd.cells.2 ?_)
  exact B2.cells _ _ (fun j u hu=>Zga hx j u hu)
 refine condE (fun h=>?_) fun h0=>?_
 ·subst h; exact lit (l:=fieldsM 0) rfl rfl rfl rfl (by decide)
 refine condE (fun h=>?_) fun h1=>?_
 ·subst h; exact lit (l:=fieldsM 1) rfl rfl rfl rfl (by decide)
 refine condE (fun h=>?_) fun h2=>?_
 ·subst h; exact lit (l:=fieldsM 2) rfl rfl rfl rfl (by decide)
 refine condE (fun h=>?_) fun h3=>?_
 ·subst h; exact lit (l:=fieldsM 3) rfl rfl rfl rfl (by decide)
 refine condE (fun h=>?_) fun h4=>?_
 ·subst h; exact lit (l:=fieldsM 4) rfl rfl rfl rfl (by decide)
 refine condE (fun h=>?_) fun h5=>?_
 ·subst h; exact lit (l:=fieldsM 5) rfl rfl rfl rfl (by decide)
 refine stoAll B1 rfl rfl fun w3 B3 f3 s3=>?_
 refine aggI B3 (x:=(⟨#[]⟩,false,⟨none,0,0⟩)) rfl ?_
 have e1:fieldsM k=[]:=by simp [fieldsM,h0,h1,h2,h3,h4,h5]
 have e2:nameM k=⟨#[]⟩:=by simp [nameM,h0,h1,h2,h3,h4,h5]
 have e3:toldM k=false:=by simp [toldM,h0,h1,h2,h3,h4]
 have:=hk ⟨none,0,0⟩ w3 (by rw [e1]; exact SlT.nil _) (f1.newer f3 (fun x e=>by omega))
 rw [e2,e3] at this
 exact this
theorem Z35:SlTy Tryz.prog 35 52 compT 16:=slTy (by kernel_rfl)
theorem Zrf {c:Comp} {i:Nat} (h:i < 3) (hn:cntM c.1≤i) (hx:fl c i≠0):over c=true:=by
 simp only [over,List.any_eq_true,List.mem_range,Bool.and_eq_true,decide_eq_true_eq]
 refine ⟨i,h,hn,?_⟩
 have:(fieldsM c.1)[i]?=none:=List.getElem?_eq_none hn
 simp [inR,this,hx]
theorem Zp5 {c:Comp} (h:∀ i,cntM c.1≤i→i < 3→fl c i=0):over c=false:=by
 rw [Bool.eq_false_iff]
 intro ho
 simp only [over,List.any_eq_true,List.mem_range,Bool.and_eq_true,decide_eq_true_eq] at ho
 obtain ⟨i,h3,hn,hx⟩:=ho
 have:(fieldsM c.1)[i]?=none:=List.getElem?_eq_none hn
 simp [inR,this,h i hn h3] at hx
theorem Zqi {c:Comp} (h:∀ i,cntM c.1≤i→i < 3→fl c i=0) (h2:∀ i,i < cntM c.1→inR c i=true):(List.range 3).all (inR c)=true:=by
 simp only [List.all_eq_true,List.mem_range]
 intro i hi
 rcases Nat.lt_or_ge i (cntM c.1) with hl | hg
 ·exact h2 i hl
 ·have:(fieldsM c.1)[i]?=none:=List.getElem?_eq_none hg
  simp [inR,this,h i hg hi]
theorem Zih {c:Comp} {i:Nat} (h:i < 3) (h2:inR c i=false):(List.range 3).all (inR c)=false:=by
 rw [Bool.eq_false_iff]
 intro ho
 simp only [List.all_eq_true,List.mem_range] at ho
 rw [ho i h] at h2
 cases h2
theorem Z3a {c:Comp} {K:Res [.sc (.int .i64)]→W R} (hk:∀ w',Fr None w w'→K (checkM c) Q w') :
  callW Tryz.prog Z32 [.agg ⟨compC c⟩] [.sc (.int .i64)] K Q w:=by
 refine Zjk c K Q w ?_
 unfold Zd2
 refine newI fun w1 B1 f1 s1=>?_
 refine fldI B1 (x:=c.1) rfl ?_
 refine Zjy fun s w2 hS f2=>?_
 have hn:s.n=cntM c.1:=hS.len
 have B2:=B1.fr f2 (fun h=>h)
 have f02:=f1.then0 f2
 refine condE (fun h=>?_) fun h=>?_
 ·have:cntM c.1=0:=by have:(s.n:Int)=0:=h; omega
  have e:=hk w2 f02
  simp only [checkM,this,if_true] at e
  exact e
 have h0:cntM c.1≠0:=by intro e; exact h (by show (s.n:Int)=0; omega)
 have h3:=Znu c.1
 refine chkI (by simp [hn]; omega) ?_
 simp only [Option.getD_some,Option.getD_none,Int.toNat_natCast,hn]
 refine forI (N:=3 - cntM c.1) (fun s:Int=>s) (fun j s w'=>s=j∧w'=w2∧∀ i,i < j→fl c (cntM c.1+i)=0) ⟨rfl,rfl,by omega⟩ (fun j s w' h=>h.1) ?_ ?_
 ·rintro j s1 w' K' hj ⟨e1,e2,hz⟩ - hK
  subst e1; subst e2
  simp only [show ¬ (3=cntM c.1) by omega,if_false,Option.map_some,Nat.mul_one]
  rw [Z3,Z3]
  refine idxB (by omega) (by omega) ?_
  refine fld0 B2 (x:=fl c (cntM c.1+j)) (by
   rw [show 0+1+cntM c.1+(j:Int).toNat * 1=1+(cntM c.1+j) by simp; omega]
   exact Zl3 c (by omega)) ?_
  refine condN (fun hx=>?_) fun hx=>?_
  ·have e:=hk w' f02
   simp only [checkM,h0,if_false,Zrf (c:=c) (i:=cntM c.1+j) (by omega) (by omega) hx,if_true] at e
   exact e
  ·refine hK _ _ ⟨wsucc hj (by omega),rfl,fun i hi=>?_⟩
   rcases Nat.lt_succ_iff_lt_or_eq.1 hi with h | h
   ·exact hz i h
   ·subst h; exact hx
 ·rintro s1 w' ⟨e1,e2,hz⟩
  subst e2
  have hover:over c=false:=Zp5 fun i h1 h2=>by
   have:=hz (i - cntM c.1) (by omega)
   rwa [show cntM c.1+(i - cntM c.1)=i by omega] at this
  refine forI (N:=cntM c.1) (fun s:Int=>s) (fun j s w''=>s=j∧Fr None w' w''∧∀ i,i < j→inR c i=true) ⟨rfl,Fr.refl _ _,by omega⟩ (fun j s w' h=>h.1) ?_ ?_
  ·rintro j s1 w3 K' hj ⟨e1,f3,hz2⟩ - hK
   subst e1
   rw [← hn]
   refine (hS.fr0 f3).idx rfl (by omega) (by rw [← hS.len]; omega) fun a x hx hr=>?_
   refine ldI x hr ?_
   refine newI fun w4 B4 f4 s4=>?_
   refine stoAll B4 rfl rfl fun w5 B5 f5 s5=>?_
   have f35:Fr None w3 w5:=f4.newer f5 (fun y e=>by omega)
   have B5':=(B2.fr f3 (fun h=>h)).fr f35 (fun h=>h)
   have hx':(fieldsM c.1)[j]?=some x:=by simpa using hx
   have hin:inR c j=(decide (x.2.1≤fl c j) && decide (fl c j≤x.2.2)):=by simp [inR,hx']
   refine joinI (fun b w''=>b=!inR c j∧Fr None w3 w'') ?_ ?_
   ·refine idxB (by omega) (by omega) ?_
    have hc:(compC c)[0+1+(j:Int).toNat * 1]?=some (.int .i32 (fl c j)):=by
     rw [show 0+1+(j:Int).toNat * 1=1+j by simp]
     exact Zl3 c (by omega)
    refine fld0 B5'.drew (x:=fl c j) hc ?_
    refine fldI B5.drew (x:=x.2.1) rfl ?_
    refine condD (fun hlt=>?_) fun hge=>?_
    ·exact ⟨by rw [hin]; simp; omega,f35.drew⟩
    ·refine idxB (by omega) (by omega) ?_
     refine fld0 B5'.drew (x:=fl c j) hc ?_
     refine fldI B5.drew (x:=x.2.2) rfl ?_
     refine ⟨?_,f35.drew⟩
     rw [hin]
     have h1:decide (x.2.1≤fl c j)=true:=decide_eq_true (Int.not_lt.1 hge)
     rw [h1,Bool.true_and]
     by_cases hgt:fl c j > x.2.2
     ·rw [decide_eq_true hgt,decide_eq_false (Int.not_le.2 hgt)]; rfl
     ·rw [decide_eq_false hgt,decide_eq_true (Int.not_lt.1 hgt)]; rfl
   ·rintro b w6 ⟨rfl,f6⟩
    refine condI (fun hb=>?_) fun hb=>?_
    ·have e:=hk w6 ((f02.then0 f3).then0 f6)
     simp only [checkM,h0,if_false,hover,Zih (c:=c) (i:=j) (by omega) (by simpa using hb)] at e
     exact e
    ·refine hK _ _ ⟨wsucc hj (by omega),f3.then0 f6,fun i hi=>?_⟩
     rcases Nat.lt_succ_iff_lt_or_eq.1 hi with h | h
     ·exact hz2 i h
     ·subst h; simpa using hb
  ·rintro s1 w3 ⟨e1,f3,hz2⟩
   have e:=hk w3 (f02.then0 f3)
   simp only [checkM,h0,if_false,hover,Zqi (c:=c) (fun i h1 h2=>by
    have:=hz (i - cntM c.1) (by omega)
    rwa [show cntM c.1+(i - cntM c.1)=i by omega] at this) hz2,if_true] at e
   exact e
def listM:Int→List Comp→Int
 | _,[]=>0
 | last,c :: r=>if checkM c≠0 then checkM c else if c.1≤last then 4 else listM c.1 r
def listE (l:List Comp):Int:=listM (-1) l
def lastK (l:List Comp):Nat→Int
 | 0=>-1
 | j+1=>((l[j]?).map (·.1)).getD 0
theorem Zp1 {l:List Comp} {j:Nat} {x:Comp} (h:l[j]?=some x):listM (lastK l j) (l.drop j)=if checkM x≠0 then checkM x else if x.1≤lastK l j then 4 else listM (lastK l (j+1)) (l.drop (j+1)):=by
 have e:lastK l (j+1)=x.1:=by simp [lastK,h]
 rw [Zqr h,listM,e]
theorem Zmh (k:Int) (l:List Comp):listM k (l.drop l.length)=0:=by simp [listM]
theorem Z49 {c:Comp} (h:checkM c=0):0≤c.1∧c.1≤5:=by
 have:cntM c.1≠0:=by intro e; simp [checkM,e] at h
 rw [ne_eq,Zqm] at this
 omega
abbrev Small {α:Type} (l:List α):Prop:=l.length≤1048576
theorem Z77 {ok:Nat→Prop} {s:Sl} {l:List Comp} (hS:SlT ok w compT s l) (hm:Small l) {K:Res [.sc (.int .i64)]→W R} (hk:∀ w',Fr None w w'→K (listE l) Q w') :
  callW Tryz.prog Z5v [.slice s.a s.n s.c] [.sc (.int .i64)] K Q w:=by
 refine Zkv s K Q w ?_
 unfold Zez
 refine forI (N:=s.n) (fun s:Int=>s) (fun j i w'=>i=j∧Fr None w w'∧listE l=listM (lastK l j) (l.drop j)) ⟨rfl,Fr.refl _ _,rfl⟩ (fun j s w' h=>h.1) ?_ ?_
 ·rintro j i w1 K' hj ⟨rfl,f1,he⟩ - hK
  have hlen:=hS.len
  refine (hS.fr0 f1).get rfl rfl (by omega) fun x hx=>?_
  refine locI rfl rfl fun w2 B2 f2 s2=>?_
  refine aggI B2 (x:=x) rfl ?_
  refine Z3a (c:=x) fun w3 f3=>?_
  have B3:=B2.fr f3 (fun h=>h)
  have f13:=f2.then0 f3
  rw [Zp1 hx] at he
  refine condN (fun hc=>?_) fun hc=>?_
  ·rw [if_pos hc] at he
   rw [← he]
   exact hk _ (f1.then0 f13)
  ·rw [if_neg (by simpa using hc)] at he
   refine joinI (fun b w'=>b=decide (x.1≤lastK l j)∧Fr None w3 w') ?_ ?_
   ·refine condD (fun h0=>?_) fun h0=>?_
    ·obtain ⟨j',rfl⟩:∃ j',j=j'+1:=⟨j - 1,by omega⟩
     refine fldI B3.drew (x:=x.1) rfl ?_
     have hS4:=(hS.fr0 (f1.then0 f13)).fr0 (Fr.refl None _).drew
     refine hS4.idx rfl (by rw [w64 (by omega)]; omega) (by rw [w64 (by omega)]; omega) fun a y hy hr=>?_
     have hy':l[j']?=some y:=by
      rw [w64 (by omega)] at hy
      rwa [show (((j'+1:Nat):Int) - 1).toNat=j' by omega] at hy
     refine ldI (t:=.sc (.int .u8)) y.1 ?_ ?_
     ·have:=Rd.cells.1 hr 0 (.int .u8 y.1) rfl
      exact this
     ·exact ⟨by simp [lastK,hy'],(Fr.refl _ _).drew⟩
    ·have:j=0:=by omega
     subst this
     have:=(Z49 hc).1
     have e0:lastK l 0=-1:=rfl
     exact ⟨by rw [e0]; simp; omega,(Fr.refl _ _).drew⟩
   ·rintro b w4 ⟨rfl,f4⟩
    have f14:=f13.then0 f4
    refine condD (fun hle=>?_) fun hle=>?_
    ·rw [if_pos hle] at he
     rw [← he]
     exact hk _ (f1.then0 f14)
    ·rw [if_neg hle] at he
     exact hK _ _ ⟨wsucc hj (by omega),f1.then0 f14,he⟩
 ·rintro i w1 ⟨rfl,f1,he⟩
  rw [hS.len,Zmh] at he
  rw [← he]
  exact hk _ f1
theorem Znt:∀ m:Fin 64,∀ k:Fin 6,bOr .u8 ((m.val:Nat):Int) (shL .u8 1 ((k.val:Nat):Int))=((m.val ||| (1 <<< k.val):Nat):Int)∧m.val ||| (1 <<< k.val) < 64:=by decide +kernel
theorem Zsb:∀ m:Fin 64,∀ k:Fin 6,((Int.tmod (shR .u8 ((m.val:Nat):Int) ((k.val:Nat):Int)) 2) == 0)=!Nat.testBit m.val k.val:=by decide +kernel
theorem Zoq:∀ m:Fin 64,∀ k:Fin 6,((bAnd .u8 (shR .u8 ((m.val:Nat):Int) ((k.val:Nat):Int)) 1) == 1)=Nat.testBit m.val k.val:=by decide +kernel
theorem Zsa:∀ m:Fin 64,∀ k:Fin 6,Nat.testBit m.val k.val=false→IntKind.wrap .u8 ((m.val:Int)+(shL .u8 1 ((k.val:Nat):Int)))=((m.val ||| (1 <<< k.val):Nat):Int):=by decide +kernel
def has (l:List Comp) (k:Nat):Bool:=l.any fun c=>c.1 == (k:Int)
def orK (m:Nat) (c:Comp):Nat:=if (0:Int)≤c.1∧c.1 < (6:Int) then m ||| (1 <<< c.1.toNat) else m
def maskN (l:List Comp):Nat:=l.foldl orK 0
theorem Zto {m k i:Nat}:Nat.testBit (m ||| (1 <<< k)) i=(Nat.testBit m i || decide (i=k)):=by
 rw [Nat.testBit_or,Nat.one_shiftLeft,Nat.testBit_two_pow]
 congr 1
 exact decide_eq_decide.2 ⟨Eq.symm,Eq.symm⟩
theorem Z66 (l:List Comp):maskN l < 64:=by
 unfold maskN
 have:∀ (l:List Comp) (m:Nat),m < 64→l.foldl orK m < 64:=by
  intro l
  induction l with
  | nil=>intro m h; exact h
  | cons c r ih =>
   intro m h
   rw [List.foldl_cons]
   refine ih _ ?_
   unfold orK
   split
   ·rename_i hc
    exact (Znt ⟨m,h⟩ ⟨c.1.toNat,by omega⟩).2
   ·exact h
 exact this l 0 (by omega)
theorem Zpw (l:List Comp) (c:Comp):maskN (l ++ [c])=if 0≤c.1∧c.1 < 6 then maskN l ||| (1 <<< c.1.toNat) else maskN l:=by
 unfold maskN
 rw [List.foldl_append]
 rfl
theorem Zfa (l:List Comp) {k:Nat} (hk:k < 6):Nat.testBit (maskN l) k=has l k:=by
 have:∀ (l:List Comp) (m:Nat),Nat.testBit (l.foldl orK m) k=(Nat.testBit m k || has l k):=by
  intro l
  induction l with
  | nil=>intro m; simp [has]
  | cons c r ih =>
   intro m
   rw [List.foldl_cons,ih,orK]
   by_cases hc:0≤c.1∧c.1 < 6
   ·rw [if_pos hc,Zto,Bool.or_assoc]
    congr 1
    simp only [has,List.any_cons]
    congr 1
    by_cases h:k=c.1.toNat
    ·simp [h]; omega
    ·have:¬ c.1=(k:Int):=by omega
     simp [h,this]
   ·rw [if_neg hc]
    congr 1
    have:¬ c.1=(k:Int):=by omega
    simp [has,this]
 have h:=this l 0
 simpa [maskN] using h
theorem Zp4 {m n:Nat} (h1:m < 64) (h2:n < 64) (h:∀ k,k < 6→Nat.testBit m k=Nat.testBit n k):m=n:=by
 refine Nat.eq_of_testBit_eq fun i=>?_
 rcases Nat.lt_or_ge i 6 with hi | hi
 ·exact h i hi
 ·have:64≤2 ^ i:=Nat.pow_le_pow_right (n:=2) (by omega) hi
  rw [Nat.testBit_lt_two_pow (by omega),Nat.testBit_lt_two_pow (by omega)]
theorem Zbb {ok:Nat→Prop} {s:Sl} {l:List Comp} (hS:SlT ok w compT s l) (hm:Small l) (hl:∀ c∈l,CompOk c) {K:Res [.sc (.int .u8)]→W R} (hk:∀ w',Fr None w w'→K ((maskN l:Nat):Int) Q w') :
  callW Tryz.prog Z7v [.slice s.a s.n s.c] [.sc (.int .u8)] K Q w:=by
 refine Zkw s K Q w ?_
 unfold Zf0
 have hlen:=hS.len
 refine forI (N:=s.n) (fun s:Int × Int=>s.2) (fun j i w'=>i=(((maskN (l.take j):Nat):Int),(j:Int))∧Fr None w w') ⟨rfl,Fr.refl _ _⟩ (fun j s w' h=>by rw [h.1]) ?_ ?_
 ·rintro j i w1 K' hj ⟨rfl,f1⟩ - hK
  refine (hS.fr0 f1).get rfl rfl (by omega) fun x hx=>?_
  refine locI rfl rfl fun w2 B2 f2 s2=>?_
  refine fldI B2 (x:=x.1) rfl ?_
  have hx1:=(hl x (List.mem_of_getElem? hx)).1
  have hsn:=Zpw (l.take j) x
  rw [← Z1q hx] at hsn
  refine joinI (fun m w'=>m=((maskN (l.take (j+1)):Nat):Int)∧w'=w2) ?_ ?_
  ·refine condD (fun h6=>?_) fun h6=>?_
   ·refine fldI B2 (x:=x.1) rfl ?_
    refine chkI hx1.1 ⟨?_,rfl⟩
    rw [hsn,if_pos ⟨hx1.1,h6⟩]
    have:=(Znt ⟨maskN (l.take j),Z66 _⟩ ⟨x.1.toNat,by omega⟩).1
    simp only [Int.toNat_of_nonneg hx1.1] at this
    exact this
   ·exact ⟨by rw [hsn,if_neg (by omega)],rfl⟩
  ·rintro m w3 ⟨rfl,rfl⟩
   exact hK _ _ ⟨by rw [wsucc hj (by omega)],f1.then0 f2⟩
 ·rintro i w1 ⟨rfl,f1⟩
  rw [hlen,List.take_length]
  exact hk _ f1
theorem Zh1 {ok:Nat→Prop} {s:Sl} {l:List Comp} (hS:SlT ok w compT s l) (hm:Small l) {K:Res [.sc (.int .u8)]→W R} (hk:∀ w',Fr None w w'→K ((maskN l:Nat):Int) Q w') :
  callW Tryz.prog Z3f [.slice s.a s.n s.c] [.sc (.int .u8)] K Q w:=by
 refine Zdd s K Q w ?_
 unfold Z84
 have hlen:=hS.len
 refine forI (N:=6) (fun s:Int × Int=>s.2) (fun k i w'=>∃ m:Nat,i=((m:Int),(k:Int))∧m < 64∧(∀ q,q < 6→Nat.testBit m q=(decide (q < k) && has l q))∧Fr None w w')
  ⟨0,rfl,by omega,fun q _=>by simp,Fr.refl _ _⟩ (fun j s w' h=>by obtain ⟨m,h,_⟩:=h; rw [h]) ?_ ?_
 ·rintro k i w1 K' hk6 ⟨m,rfl,hm64,hbit,f1⟩ - hK
  refine forI (N:=s.n) (fun s:Int × Int=>s.2) (fun j i w'=>∃ m:Nat,i=((m:Int),(j:Int))∧m < 64∧(∀ q,q < 6→Nat.testBit m q=((decide (q < k) && has l q) || (decide (q=k) && has (l.take j) k)))∧Fr None w w')
   ⟨m,rfl,hm64,fun q hq=>by rw [hbit q hq]; simp [has],f1⟩ (fun j s w' h=>by obtain ⟨m,h,_⟩:=h; rw [h]) ?_ ?_
  ·rintro j i w2 K'' hj ⟨m,rfl,hm64,hbit,f2⟩ - hK2
   refine (hS.fr0 f2).get rfl rfl (by omega) fun x hx=>?_
   refine locI rfl rfl fun w3 B3 f3 s3=>?_
   have hsn:has (l.take (j+1)) k=(has (l.take j) k || x.1 == (k:Int)):=by rw [Z1q hx]; simp [has]
   refine joinI (fun b w'=>b=((x.1 == (k:Int)) && !Nat.testBit m k)∧w'=w3) ?_ ?_
   ·refine fldI B3 (x:=x.1) rfl ?_
    refine condI (fun h=>?_) fun h=>?_
    ·refine chkI (by simp) ⟨?_,rfl⟩
     have:=Zsb ⟨m,hm64⟩ ⟨k,hk6⟩
     rw [h,Bool.true_and]
     exact this
    ·exact ⟨by rw [h]; rfl,rfl⟩
   ·rintro b w4 ⟨rfl,rfl⟩
    refine joinI (fun m' w'=>∃ n:Nat,m'=(n:Int)∧n < 64∧(∀ q,q < 6→Nat.testBit n q=((decide (q < k) && has l q) || (decide (q=k) && has (l.take (j+1)) k)))∧w'=w4) ?_ ?_
    ·refine condI (fun h=>?_) fun h=>?_
     ·simp only [Bool.and_eq_true,Bool.not_eq_true'] at h
      refine chkI (by simp) ⟨m ||| (1 <<< k),Zsa ⟨m,hm64⟩ ⟨k,hk6⟩ h.2,(Znt ⟨m,hm64⟩ ⟨k,hk6⟩).2,fun q hq=>?_,rfl⟩
      rw [Zto,hbit q hq,hsn,h.1,Bool.or_true,Bool.and_true]
      by_cases hqk:q=k <;> simp [hqk]
     ·refine ⟨m,rfl,hm64,fun q hq=>?_,rfl⟩
      rw [hbit q hq,hsn]
      by_cases hqk:q=k
      ·subst hqk
       have hb:=hbit q hq
       cases hxk:(x.1 == (q:Int)) with
       | false=>simp
       | true =>
        rw [hxk,Bool.true_and,Bool.not_eq_false'] at h
        rw [h] at hb
        simp at hb
        simp [hb]
      ·simp [hqk]
    ·rintro m' w5 ⟨n,rfl,hn,hb,rfl⟩
     exact hK2 _ _ ⟨n,by rw [wsucc hj (by omega)],hn,hb,f2.then0 f3⟩
  ·rintro i w2 ⟨m,rfl,hm64,hbit,f2⟩
   refine hK _ _ ⟨m,by rw [wu8 (by omega)]; rfl,hm64,fun q hq=>?_,f2⟩
   rw [hbit q hq,hlen,List.take_length]
   by_cases h1:q=k
   ·simp [h1]
   ·have:decide (q < k+1)=decide (q < k):=decide_eq_decide.2 (by omega)
    simp [h1,this]
 ·rintro i w1 ⟨m,rfl,hm64,hbit,f1⟩
  have:m=maskN l:=Zp4 hm64 (Z66 l) fun q hq=>by rw [hbit q hq,Zfa l hq]; simp [hq]
  rw [this]
  exact hk _ f1
theorem Zfi {k:Int} (h0:0≤k) {K:Res [.sc (.int .i64)]→W R} (hk:∀ w',Fr None w w'→K ((cntM k:Nat):Int) Q w'):callW Tryz.prog Z36 [.int .u8 k] [.sc (.int .i64)] K Q w:=by
 refine Zco k K Q w ?_
 unfold Z7d
 refine condD (fun h=>?_) fun h=>?_
 ·have e:=hk w (Fr.refl _ _)
  rw [(Zqm k).2 (.inr h)] at e
  exact e
 ·refine newI fun w1 B1 f1 s1=>?_
  refine idxB h0 (by omega) ?_
  rw [Nat.mul_one,Nat.zero_add]
  have e:=hk w1 f1
  rcases (by omega:k=0∨k=1∨k=2∨k=3∨k=4∨k=5) with rfl | rfl | rfl | rfl | rfl | rfl
  all_goals exact fld0 B1 (x:=((cntM _:Nat):Int)) rfl e
def rangeM (k i:Int):Int × Int × Int:=if 0≤i then (match (fieldsM k)[i.toNat]? with
 | some p=>(p.2.1,p.2.2,0)
 | none=>(0,0,1)) else (0,0,1)
theorem Zlt {k i:Int} (h0:0≤k) {K:Res [.sc (.int .i32),.sc (.int .i32),.sc (.int .i64)]→W R} (hk:∀ w',Fr None w w'→K (rangeM k i) Q w') :
  callW Tryz.prog Z4v [.int .u8 k,.int .i64 i] [.sc (.int .i32),.sc (.int .i32),.sc (.int .i64)] K Q w:=by
 refine Zcp k i K Q w ?_
 unfold Z7e
 refine joinI (fun b w'=>b=decide (i < 0∨(cntM k:Int)≤i)∧Fr None w w') ?_ ?_
 ·refine condD (fun h=>⟨by simp [h],Fr.refl _ _⟩) fun h=>?_
  refine Zfi h0 fun w1 f1=>⟨?_,f1⟩
  by_cases h2:(cntM k:Int)≤i
  ·simp [h,h2]
  ·simp [h,h2]
 ·rintro b w1 ⟨rfl,f1⟩
  refine condD (fun h=>?_) fun h=>?_
  ·have:rangeM k i=(0,0,1):=by
    unfold rangeM
    by_cases hi:0≤i
    ·rw [if_pos hi,List.getElem?_eq_none (by show cntM k≤_; omega)]
    ·rw [if_neg hi]
   have e:=hk w1 f1
   rw [this] at e
   exact e
  ·have hi:0≤i:=by omega
   have hlt:i.toNat < cntM k:=by omega
   have hin:∀ n:Nat,n=cntM k→i < (n:Int):=fun n e=>by omega
   have hc:cntM k≠0:=by omega
   have h5:k≤5:=by
    rw [ne_eq,Zqm] at hc
    omega
   have h3:=Znu k
   obtain ⟨p,hp⟩:∃ p,(fieldsM k)[i.toNat]?=some p:=⟨_,List.getElem?_eq_getElem hlt⟩
   have hr:rangeM k i=(p.2.1,p.2.2,0):=by simp [rangeM,hi,hp]
   rw [hr] at hk
   refine newI fun wa Ba fa sa=>newI fun wb Bb fb sb=>newI fun wc Bc fc sc=>newI fun wd Bd fd sd=>newI fun we Be fe se=>newI fun wf Bf ff sf=>newI fun wg Bg fg sg=>?_
   have Bf':=Bf.fr fg (fun h=>h)
   have Be':=Be.fr (ff.then0 fg) (fun h=>h)
   have Bd':=Bd.fr ((fe.then0 ff).then0 fg) (fun h=>h)
   have Bc':=Bc.fr (((fd.then0 fe).then0 ff).then0 fg) (fun h=>h)
   have Bb':=Bb.fr ((((fc.then0 fd).then0 fe).then0 ff).then0 fg) (fun h=>h)
   have Ba':=Ba.fr (((((fb.then0 fc).then0 fd).then0 fe).then0 ff).then0 fg) (fun h=>h)
   have f1g:Fr None w wg:=(((((((f1.then0 fa).then0 fb).then0 fc).then0 fd).then0 fe).then0 ff).then0 fg)
   have kc:k=0∨k=1∨k=2∨k=3∨k=4∨k=5:=by omega
   refine idxB h0 (by omega) ?_
   have sel:∀ {R':Type} {Q':R'→World→Prop} {K2:Sl→W R'},(∀ b cs T n,Blk wg b T cs→n=cntM k→cs=(fieldsM k).map (fun p=>Value.int .i32 p.2.1)→K2 ⟨some ⟨b,0,none⟩,n,n⟩ Q' wg)→ld (.sc .sl) ⟨wf.heap.size,0+k.toNat * 1,none⟩ K2 Q' wg:=by
    intro R' Q' K2 hK
    rcases kc with rfl | rfl | rfl | rfl | rfl | rfl
    ·exact fld0 Bg (x:=⟨_,_,_⟩) rfl (hK _ _ _ _ Ba' rfl rfl)
    ·exact fld0 Bg (x:=⟨_,_,_⟩) rfl (hK _ _ _ _ Bb' rfl rfl)
    ·exact fld0 Bg (x:=⟨_,_,_⟩) rfl (hK _ _ _ _ Bc' rfl rfl)
    ·exact fld0 Bg (x:=⟨_,_,_⟩) rfl (hK _ _ _ _ Bd' rfl rfl)
    ·exact fld0 Bg (x:=⟨_,_,_⟩) rfl (hK _ _ _ _ Be' rfl rfl)
    ·exact fld0 Bg (x:=⟨_,_,_⟩) rfl (hK _ _ _ _ Bf' rfl rfl)
   refine sel fun b cs T n Bx hn hcs=>?_
   refine idxB hi (hin n hn) ?_
   refine fld0 Bx (x:=p.2.1) (by rw [hcs,Nat.mul_one,Nat.zero_add,List.getElem?_map,hp]; rfl) ?_
   refine newI fun va Ca ga ta=>newI fun vb Cb gb tb=>newI fun vc Cc gc tc=>newI fun vd Cd gd td=>newI fun ve Ce ge te=>newI fun vf Cf gf tf=>newI fun vg Cg gg tg=>?_
   have Cf':=Cf.fr gg (fun h=>h)
   have Ce':=Ce.fr (gf.then0 gg) (fun h=>h)
   have Cd':=Cd.fr ((ge.then0 gf).then0 gg) (fun h=>h)
   have Cc':=Cc.fr (((gd.then0 ge).then0 gf).then0 gg) (fun h=>h)
   have Cb':=Cb.fr ((((gc.then0 gd).then0 ge).then0 gf).then0 gg) (fun h=>h)
   have Ca':=Ca.fr (((((gb.then0 gc).then0 gd).then0 ge).then0 gf).then0 gg) (fun h=>h)
   refine idxB h0 (by omega) ?_
   have sel2:∀ {R':Type} {Q':R'→World→Prop} {K2:Sl→W R'},(∀ b cs T n,Blk vg b T cs→n=cntM k→cs=(fieldsM k).map (fun p=>Value.int .i32 p.2.2)→K2 ⟨some ⟨b,0,none⟩,n,n⟩ Q' vg)→ld (.sc .sl) ⟨vf.heap.size,0+k.toNat * 1,none⟩ K2 Q' vg:=by
    intro R' Q' K2 hK
    rcases kc with rfl | rfl | rfl | rfl | rfl | rfl
    ·exact fld0 Cg (x:=⟨_,_,_⟩) rfl (hK _ _ _ _ Ca' rfl rfl)
    ·exact fld0 Cg (x:=⟨_,_,_⟩) rfl (hK _ _ _ _ Cb' rfl rfl)
    ·exact fld0 Cg (x:=⟨_,_,_⟩) rfl (hK _ _ _ _ Cc' rfl rfl)
    ·exact fld0 Cg (x:=⟨_,_,_⟩) rfl (hK _ _ _ _ Cd' rfl rfl)
    ·exact fld0 Cg (x:=⟨_,_,_⟩) rfl (hK _ _ _ _ Ce' rfl rfl)
    ·exact fld0 Cg (x:=⟨_,_,_⟩) rfl (hK _ _ _ _ Cf' rfl rfl)
   refine sel2 fun b2 cs2 T2 n2 Bx2 hn2 hcs2=>?_
   refine idxB hi (hin n2 hn2) ?_
   refine fld0 Bx2 (x:=p.2.2) (by rw [hcs2,Nat.mul_one,Nat.zero_add,List.getElem?_map,hp]; rfl) ?_
   exact hk _ (((((((f1g.then0 ga).then0 gb).then0 gc).then0 gd).then0 ge).then0 gf).then0 gg)
theorem Zb4 {c:Comp} (hc0:0≤c.1) {K:Res [.sc (.int .i64)]→W R} (hk:∀ w',Fr None w w'→K (checkM c) Q w') :
  callW Tryz.prog Z26 [.agg ⟨compC c⟩] [.sc (.int .i64)] K Q w:=by
 refine Zcn c K Q w ?_
 unfold Z7c
 refine newI fun w1 B1 f1 s1=>?_
 refine fldI B1 (x:=c.1) rfl ?_
 refine Zfi hc0 fun w2 f2=>?_
 have B2:=B1.fr f2 (fun h=>h)
 have f02:=f1.then0 f2
 have h3:=Znu c.1
 refine condE (fun h=>?_) fun h=>?_
 ·have e:=hk w2 f02
  simp only [checkM,show cntM c.1=0 by omega,if_true] at e
  exact e
 have h0:cntM c.1≠0:=by omega
 have cell:∀ {i:Nat},i < 3→(compC c)[0+1+(i:Int).toNat * 1]?=some (.int .i32 (fl c i)):=fun {i} hi=>by
  rw [show 0+1+(i:Int).toNat * 1=1+i by simp]
  exact Zl3 c hi
 refine loopI (fun s w'=>∃ j:Nat,s=(j:Int)∧cntM c.1≤j∧j≤3∧w'=w2∧∀ i,cntM c.1≤i→i < j→fl c i=0) (fun s _=>3 - s.toNat) ⟨cntM c.1,rfl,Nat.le_refl _,h3,rfl,by omega⟩ ?_
 rintro s w' ⟨j,rfl,hj1,hj2,rfl,hz⟩
 refine condD (fun hlt=>?_) fun hge=>?_
 ·rw [Z3]
  refine idxB (by omega) (by omega) ?_
  refine fld0 B2 (x:=fl c j) (cell (by omega)) ?_
  refine condN (fun hx=>?_) fun hx=>?_
  ·have e:=hk w' f02
   simp only [checkM,h0,if_false,Zrf (c:=c) (i:=j) (by omega) hj1 hx,if_true] at e
   exact e
  ·rw [w64 (by omega)]
   refine ⟨⟨j+1,rfl,by omega,by omega,rfl,fun i hi hi2=>?_⟩,by omega⟩
   rcases Nat.lt_succ_iff_lt_or_eq.1 hi2 with h | h
   ·exact hz i hi h
   ·subst h; exact hx
 ·have hj3:j=3:=by omega
  subst hj3
  have hover:over c=false:=Zp5 fun i h1 h2=>hz i h1 h2
  refine forI (N:=cntM c.1) (fun s:Int=>s) (fun j s w''=>s=j∧Fr None w' w''∧∀ i,i < j→inR c i=true) ⟨rfl,Fr.refl _ _,by omega⟩ (fun j s w' h=>h.1) ?_ ?_
  ·rintro j s1 w3 K' hj ⟨rfl,f3,hz2⟩ - hK
   have B3:=B2.fr f3 (fun h=>h)
   refine fldI B3 (x:=c.1) rfl ?_
   refine Zlt hc0 fun w4 f4=>?_
   have B4:=B3.fr f4 (fun h=>h)
   obtain ⟨x,hx⟩:∃ x,(fieldsM c.1)[j]?=some x:=⟨_,List.getElem?_eq_getElem hj⟩
   have hr:rangeM c.1 (j:Int)=(x.2.1,x.2.2,0):=by simp [rangeM,hx]
   rw [hr]
   have hin:inR c j=(decide (x.2.1≤fl c j) && decide (fl c j≤x.2.2)):=by simp [inR,hx]
   refine joinI (fun b w''=>b=!inR c j∧w''=w4) ?_ ?_
   ·rw [Z3]
    refine idxB (by omega) (by omega) ?_
    refine fld0 B4 (x:=fl c j) (cell (by omega)) ?_
    refine condD (fun hlt=>?_) fun hge=>?_
    ·refine ⟨?_,rfl⟩
     have h1:decide (x.2.1≤fl c j)=false:=decide_eq_false (Int.not_le.2 hlt)
     rw [hin,h1]; rfl
    ·refine idxB (by omega) (by omega) ?_
     refine fld0 B4 (x:=fl c j) (cell (by omega)) ?_
     refine ⟨?_,rfl⟩
     have h1:decide (x.2.1≤fl c j)=true:=decide_eq_true (Int.not_lt.1 hge)
     rw [hin,h1,Bool.true_and]
     by_cases hgt:fl c j > x.2.2
     ·rw [decide_eq_true hgt,decide_eq_false (Int.not_le.2 hgt)]; rfl
     ·rw [decide_eq_false hgt,decide_eq_true (Int.not_lt.1 hgt)]; rfl
   ·rintro b w5 ⟨rfl,rfl⟩
    refine condI (fun hb=>?_) fun hb=>?_
    ·have e:=hk w5 ((f02.then0 f3).then0 f4)
     simp only [checkM,h0,if_false,hover,Zih (c:=c) (i:=j) (by omega) (by simpa using hb)] at e
     exact e
    ·refine hK _ _ ⟨wsucc hj (by omega),f3.then0 f4,fun i hi=>?_⟩
     rcases Nat.lt_succ_iff_lt_or_eq.1 hi with h | h
     ·exact hz2 i h
     ·subst h; simpa using hb
  ·rintro s1 w3 ⟨e1,f3,hz2⟩
   have e:=hk w3 (f02.then0 f3)
   simp only [checkM,h0,if_false,hover,Zqi (c:=c) (fun i h1 h2=>hz i h1 h2) hz2,if_true] at e
   exact e
theorem Zls {ok:Nat→Prop} {s:Sl} {l:List Comp} (hS:SlT ok w compT s l) (hm:l.length≤9223372036854775807) (hl:∀ c∈l,CompOk c) {K:Res [.sc (.int .i64)]→W R} (hk:∀ w',Fr None w w'→K (listE l) Q w') :
  callW Tryz.prog Z2k [.slice s.a s.n s.c] [.sc (.int .i64)] K Q w:=by
 refine Zdc s K Q w ?_
 unfold Z83
 have hlen:=hS.len
 refine forI (N:=s.n) (fun s:Int × Int=>s.2) (fun j i w'=>i=(lastK l j,(j:Int))∧Fr None w w'∧listE l=listM (lastK l j) (l.drop j)) ⟨rfl,Fr.refl _ _,rfl⟩ (fun j s w' h=>by rw [h.1]) ?_ ?_
 ·rintro j i w1 K' hj ⟨rfl,f1,he⟩ - hK
  refine (hS.fr0 f1).get rfl rfl (by omega) fun x hx=>?_
  refine locI rfl rfl fun w2 B2 f2 s2=>?_
  refine aggI B2 (x:=x) rfl ?_
  have hx1:=(hl x (List.mem_of_getElem? hx)).1
  refine Zb4 (c:=x) hx1.1 fun w3 f3=>?_
  have B3:=B2.fr f3 (fun h=>h)
  have f13:=f2.then0 f3
  rw [Zp1 hx] at he
  refine condN (fun hc=>?_) fun hc=>?_
  ·rw [if_pos hc] at he
   rw [← he]
   exact hk _ (f1.then0 f13)
  ·rw [if_neg (by simpa using hc)] at he
   refine fldI B3 (x:=x.1) rfl ?_
   rw [w64 (x:=x.1) (by omega)]
   refine condD (fun hle=>?_) fun hle=>?_
   ·rw [if_pos hle] at he
    rw [← he]
    exact hk _ (f1.then0 f13)
   ·rw [if_neg hle] at he
    refine fldI B3 (x:=x.1) rfl ?_
    rw [w64 (x:=x.1) (by omega)]
    refine hK _ _ ⟨?_,f1.then0 f13,he⟩
    rw [wsucc hj (by omega)]
    simp [lastK,hx]
 ·rintro i w1 ⟨rfl,f1,he⟩
  rw [hS.len,Zmh] at he
  rw [← he]
  exact hk _ f1
theorem Zh0 {ok:Nat→Prop} {s:Sl} {l:List Comp} (hS:SlT ok w compT s l) (hm:Small l) (hl:∀ c∈l,CompOk c) {K:Res [.sc (.int .i64)]→W R} (hk:∀ w',Fr None w w'→K (listE l) Q w') :
  callW Tryz.prog Z2k [.slice s.a s.n s.c] [.sc (.int .i64)] K Q w:=Zls hS (Nat.le_trans hm (by decide)) hl hk
theorem Zn4 {ok:Nat→Prop} {s:Sl} {l:List Comp} (hS:SlT ok w compT s l) (hm:Small l) {K:Res [.sc .sl]→W R}
  (hk:∀ r w',Den.Own (fun k=>w.heap.size≤k) w' 52 compT r l→Fr None w w'→K r Q w') :
  callW Tryz.prog Z58 [.slice s.a s.n s.c] [.sc .sl] K Q w:=by
 refine Zde s K Q w ?_
 unfold Z85
 refine newI fun w1 B1 f1 s1=>?_
 have own:=Den.Own.mk' (S:=fun k=>w.heap.size≤k) (w:=w1) (E:=52) (t:=compT) (l:=[]) (g:=w.heap.size) (c:=0) (cur:=⟨[]⟩) (Nat.le_refl _) B1 (Nat.le_refl _) (Nat.zero_le _) rfl rfl
 refine appI (s:=⟨some ⟨w.heap.size,0,none⟩,0,0⟩) (s2:=s) (S':=fun k=>w.heap.size≤k) Z35 own (hS.fr0 f1) (by simp; omega) (by rw [Zn]; simp; omega) (fun _ h=>h) (by show _≤_; omega) fun r w2 ho f2 s2=>?_
 rw [List.nil_append] at ho
 exact hk r w2 ho (f1.newer f2 (fun x e=>by simp only [Sl.v,Value.ownBlock,Option.some.injEq] at e; omega))
theorem Zu0 {x y:Comp}:(x.1 == y.1 && (((x.2.1 == y.2.1 && (x.2.2.1 == y.2.2.1 && (x.2.2.2 == y.2.2.2 && true)))) && true))=decide (x=y):=by
 rw [Bool.eq_iff_iff]
 simp [Prod.ext_iff]
theorem Zov (x y:Comp):eqV Tryz.prog 9 52 (.agg ⟨compC x⟩) (.agg ⟨compC y⟩)=some (decide (x=y)):=by
 rw [← Zu0]
 kernel_rfl
theorem Zot:Tryz.prog.eqGuardType Tryz.prog.depth 52=false:=by kernel_rfl
def findM (l:List Comp) (k:Int):Int:=match l.findIdx? (fun c=>c.1 == k) with
 | some i=>i
 | none=>-1
theorem Zca {ok:Nat→Prop} {s:Sl} {l:List Comp} (hS:SlT ok w compT s l) (hm:Small l) {k:Int} {K:Res [.sc (.int .i64)]→W R} (hk:∀ w',Fr None w w'→K (findM l k) Q w') :
  callW Tryz.prog Z2j [.slice s.a s.n s.c,.int .u8 k] [.sc (.int .i64)] K Q w:=by
 refine Zdb s k K Q w ?_
 unfold Z82
 have hlen:=hS.len
 refine forI (N:=s.n) (fun s:Int=>s) (fun j i w'=>i=j∧Fr None w w'∧∀ q y,q < j→l[q]?=some y→y.1≠k) ⟨rfl,Fr.refl _ _,by omega⟩ (fun j s w' h=>h.1) ?_ ?_
 ·rintro j i w1 K' hj ⟨rfl,f1,hno⟩ - hK
  refine (hS.fr0 f1).get rfl rfl (by omega) fun x hx=>?_
  refine locI rfl rfl fun w2 B2 f2 s2=>?_
  refine fldI B2 (x:=x.1) rfl ?_
  refine condE (fun h=>?_) fun h=>?_
  ·have:l.findIdx? (fun c=>c.1 == k)=some j:=by
    rw [List.findIdx?_eq_some_iff_getElem]
    obtain ⟨hl,he⟩:=List.getElem?_eq_some_iff.1 hx
    refine ⟨hl,by rw [he]; simpa using h,fun q hq=>?_⟩
    have:=hno q _ hq (List.getElem?_eq_getElem (by omega))
    simpa using this
   have e:=hk w2 (f1.then0 f2)
   rw [findM,this] at e
   exact e
  ·refine hK _ _ ⟨wsucc hj (by omega),f1.then0 f2,fun q y hq hy=>?_⟩
   rcases Nat.lt_succ_iff_lt_or_eq.1 hq with h1 | h1
   ·exact hno q y h1 hy
   ·subst h1; rw [hx] at hy; cases hy; exact h
 ·rintro i w1 ⟨rfl,f1,hno⟩
  have:l.findIdx? (fun c=>c.1 == k)=none:=by
   rw [List.findIdx?_eq_none_iff]
   intro x hx
   obtain ⟨q,hq⟩:=List.mem_iff_getElem?.1 hx
   have:=hno q x (by rw [hlen]; exact (List.getElem?_eq_some_iff.1 hq).1) hq
   simpa using this
  have e:=hk w1 f1
  rw [findM,this] at e
  exact e
def withG (c:Comp):Bool→List Comp→List Comp
 | done,[]=>if done then [] else [c]
 | done,x :: r=>(if !done && decide (x.1 ≥ c.1) then [c] else []) ++ ((if x.1≠c.1 then [x] else []) ++ withG c (done || decide (x.1 ≥ c.1)) r)
def withM (l:List Comp) (c:Comp):List Comp:=withG c false l
theorem Zn5 {ok:Nat→Prop} {s:Sl} {l:List Comp} (hS:SlT ok w compT s l) (hm:Small l) {c:Comp} {K:Res [.sc .sl]→W R}
  (hk:∀ r w',Den.Own (fun k=>w.heap.size≤k) w' 52 compT r (withM l c)→Fr None w w'→K r Q w') :
  callW Tryz.prog Z59 [.slice s.a s.n s.c,.agg ⟨compC c⟩] [.sc .sl] K Q w:=by
 refine Zdf s c K Q w ?_
 unfold Z86
 refine newI fun w0 B0 f0 s0=>?_
 have hlen:=hS.len
 have hS0:=hS.fr0 f0
 refine forI (N:=s.n) (fun s:Sl × Bool × Int=>s.2.2) (fun j i w'=>∃ (o:Sl) (d:Bool) (lo:List Comp),i=(o,d,(j:Int))∧Den.Own (Up w0.heap.size) w' 52 compT o lo∧Fr (Up w0.heap.size) w0 w'∧lo.length≤2 * j∧lo ++ withG c d (l.drop j)=withM l c)
  ⟨⟨none,0,0⟩,false,[],rfl,Den.Own.nil _ _ _ _,Fr.refl _ _,by simp,rfl⟩ (fun j s w' h=>by obtain ⟨o,d,lo,h,_⟩:=h; rw [h]) ?_ ?_
 ·rintro j i w1 K' hj ⟨o,d,lo,rfl,ho,f1,hll,he⟩ - hK
  refine (hS0.frUp f1 (Nat.le_refl _)).get rfl rfl (by omega) fun x hx=>?_
  refine locI rfl rfl fun w2 B2 f2 s2=>?_
  have f12:=f1.then0 f2
  have hB:=B0.frUp f12 (by omega)
  have ho2:=ho.none f2
  rw [Zqr hx,withG] at he
  have done:∀ b:Bool,b=(!d && decide (x.1 ≥ c.1))→(d || decide (x.1 ≥ c.1))=(d || b):=by intro b h; subst h; cases d <;> simp
  refine joinI (fun b w'=>b=(!d && decide (x.1 ≥ c.1))∧w'=w2) ?_ ?_
  ·refine condI (fun h=>?_) fun h=>?_
   ·refine fldI B2 (x:=x.1) rfl ?_
    refine fldI hB (x:=c.1) rfl ?_
    exact ⟨by simp at h; simp [h],rfl⟩
   ·exact ⟨by simp at h; simp [h],rfl⟩
  ·rintro b w3 ⟨hb,rfl⟩
   rw [← hb,done b hb] at he
   refine joinI (fun z w'=>∃ (o':Sl) (lo':List Comp),z=(o',(d || b))∧Den.Own (Up w0.heap.size) w' 52 compT o' lo'∧Fr (Up w0.heap.size) w3 w'∧lo'=lo ++ (if b then [c] else [])∧Blk w' w1.heap.size 52 (compC x)∧(∀ k,o'.v.ownBlock=some k→k≠w1.heap.size)) ?_ ?_
   ·refine condI (fun h=>?_) fun h=>?_
    ·refine aggI hB (x:=c) rfl ?_
     have hne:∀ k,o.v.ownBlock=some k→k≠w1.heap.size:=fun k e=>by have:=ho.lt e; omega
     refine appF Z35 (x:=c) rfl ho2 (by have:=f12.size; omega) (by omega) (by omega) fun r w4 o4 f4 hr=>?_
     exact ⟨r,_,by rw [h,Bool.or_true],o4,ho2.upFr f4,by rw [if_pos h],B2.fr f4 (fun e=>hne _ e rfl),fun k e=>by rcases hr k e with h | h; exact hne k h; omega⟩
    ·exact ⟨o,lo,by rw [h,Bool.or_false],ho2,Fr.refl _ _,by rw [if_neg (by simp [h])]; simp,B2,fun k e=>by have:=ho.lt e; omega⟩
   ·rintro z w4 ⟨o',lo',rfl,ho',f4,hlo',B4,hne⟩
    have f14:=f12.then f4
    have hB4:=B0.frUp f14 (by omega)
    have hlo2:lo'.length≤2 * j+1:=by rw [hlo']; simp; split <;> simp <;> omega
    refine fldI B4 (x:=x.1) rfl ?_
    refine fldI hB4 (x:=c.1) rfl ?_
    refine joinK ?_
    refine condN (fun h=>?_) fun h=>?_
    ·refine aggI B4 (x:=x) rfl ?_
     refine appF Z35 (x:=x) rfl ho' (by have:=f14.size; omega) (by omega) (by omega) fun r w5 o5 f5 _=>?_
     refine hK _ _ ⟨r,d || b,lo' ++ [x],by rw [wsucc hj (by omega)],o5,f14.thenOwn ho' f5,by simp; omega,?_⟩
     rw [if_pos h] at he
     rw [hlo',← he]
     simp
    ·refine hK _ _ ⟨o',d || b,lo',by rw [wsucc hj (by omega)],ho',f14,by omega,?_⟩
     rw [if_neg (c:=x.1≠c.1) (fun e=>e h)] at he
     rw [hlo',← he]
     simp
 ·rintro i w1 ⟨o,d,lo,rfl,ho,f1,hll,he⟩
  rw [hlen,List.drop_length,withG] at he
  have hB:=B0.frUp f1 (by omega)
  refine joinK ?_
  refine condI (fun h=>?_) fun h=>?_
  ·refine aggI hB (x:=c) rfl ?_
   refine appF Z35 (x:=c) rfl ho f1.size (by omega) (by omega) fun r w5 o5 f5 _=>?_
   have hd:d=false:=by simpa using h
   rw [hd] at he
   have he:lo ++ [c]=withM l c:=by simpa using he
   rw [he] at o5
   exact hk r w5 (o5.up (by omega)) (f0.thenUp (f1.thenOwn ho f5) (by omega))
  ·have hd:d=true:=by simpa using h
   rw [hd] at he
   have he:lo=withM l c:=by simpa using he
   rw [he] at ho
   exact hk o w1 (ho.up (by omega)) (f0.thenUp f1 (by omega))
end Go.Proofs.YtoiahhpgkoknfaaGreat
namespace Go.Proofs.YtoiahhpgkoknfaaGreat.Den
open Go Go.RowKit Go.ChangeShapes Go.WideShapes Go.ChangeAt Go.Deep
variable {H:Type} {enc:TypeId × Value→H} {P:Program} {w:World}
def LeafOk (enc:TypeId × Value→H) (P:Program) (w:World) (t:TypeId) (c:Value):Prop:=∃ fuel x,DataW.trod enc P w 0 (fun _=>true) true fuel t [c]=some x
def leafSc (P:Program) (t:TypeId):Option Sc:=match P.underlying t with
 | some (.int k)=>some (.int k)
 | some .bool=>some .bool
 | some .string=>some .str
 | some (.slice _)=>some .sl
 | _=>none
def leavesF (P:Program) (rec:TypeId→Option (List TypeId)):Nat→List Field→Option (List TypeId)
 | _,[]=>some []
 | acc,f :: fs=>bif Nat.beq f.offset acc then match rec f.type with
  | none=>none
  | some l=>bif Nat.beq l.length (P.cellsOf f.type) then match leavesF P rec (acc+l.length) fs with
   | none=>none
   | some r=>some (l ++ r)
   else none
  else none
def leaves (P:Program):Nat→TypeId→Option (List TypeId)
 | 0,_=>none
 | n+1,t=>match P.underlying t with
  | some (.struct fs)=>(match leavesF P (leaves P n) 0 fs.toList with
   | none=>none
   | some l=>bif Nat.beq l.length (P.cellsOf t) then some l else none)
  | some (.array k e)=>(match leaves P n e with
   | none=>none
   | some l=>bif Nat.beq l.length (P.cellsOf e) && Nat.beq (k * l.length) (P.cellsOf t) then some ((List.range k).flatMap fun _=>l) else none)
  | _=>bif (leafSc P t).isSome then some [t] else none
theorem Zkb {rec:TypeId→Option (List TypeId)} {fuel:Nat}
  (hr:∀ (t:TypeId) (ts:List TypeId) (cs:List Value) (x:DataW H × List MemPlace),rec t=some ts→DataW.trod enc P w 0 (fun _=>true) true fuel t cs=some x→cs.length=ts.length∧∀ (i:Nat) (ti:TypeId) (c:Value),ts[i]?=some ti→cs[i]?=some c→LeafOk enc P w ti c) (cs:List Value) :
  ∀ (fs:List Field) (acc:Nat) (ts:List TypeId),leavesF P rec acc fs=some ts→(∀ f∈fs,∃ y,DataW.trod enc P w 0 (fun _=>true) true fuel f.type ((cs.drop f.offset).take (P.cellsOf f.type))=some y) →
   ∀ (i:Nat) (ti:TypeId) (c:Value),ts[i]?=some ti→cs[acc+i]?=some c→LeafOk enc P w ti c
 | [],_,ts,h,_,i,ti,c,hi,_=>by simp only [leavesF] at h; cases h; simp at hi
 | f :: fs,acc,ts,h,hf,i,ti,c,hi,hc=>by
  simp only [leavesF] at h
  cases ho:Nat.beq f.offset acc with
  | false=>rw [ho] at h; cases h
  | true =>
   rw [ho,cond_true] at h
   have ho:=Nat.eq_of_beq_eq_true ho
   split at h
   ·cases h
   ·rename_i l hl
    cases hn:Nat.beq l.length (P.cellsOf f.type) with
    | false=>rw [hn] at h; cases h
    | true =>
     rw [hn,cond_true] at h
     have hn:=Nat.eq_of_beq_eq_true hn
     split at h
     ·cases h
     ·rename_i r hrr
      cases h
      obtain ⟨y,hy⟩:=hf f List.mem_cons_self
      obtain ⟨h1,h2⟩:=hr _ _ _ _ hl hy
      by_cases hil:i < l.length
      ·rw [List.getElem?_append_left hil] at hi
       refine h2 i ti c hi ?_
       rw [List.getElem?_take,if_pos (by omega),List.getElem?_drop,ho]
       exact hc
      ·rw [List.getElem?_append_right (by omega)] at hi
       exact Zkb hr cs fs (acc+l.length) r hrr (fun g hg=>hf g (List.mem_cons_of_mem _ hg)) (i - l.length) ti c hi (by rw [show acc+l.length+(i - l.length)=acc+i by omega]; exact hc)
theorem Zd5 {α:Type} (l:List α) (k:Nat):((List.range k).flatMap fun _=>l).length=k * l.length:=by
 induction k with
 | zero=>simp
 | succ k ih=>rw [List.range_succ,List.flatMap_append,List.length_append,ih,Nat.add_mul]; simp
theorem Zkk {α:Type} (l:List α):∀ (k i:Nat) (x:α),((List.range k).flatMap fun _=>l)[i]?=some x→0 < l.length∧i < k * l.length∧l[i % l.length]?=some x
 | 0,i,x,h=>by simp at h
 | k+1,i,x,h=>by
  rw [List.range_succ,List.flatMap_append] at h
  have hlen:=Zd5 l k
  by_cases hi:i < k * l.length
  ·rw [List.getElem?_append_left (by omega)] at h
   obtain ⟨h1,h2,h3⟩:=Zkk l k i x h
   exact ⟨h1,by rw [Nat.add_mul]; omega,h3⟩
  ·rw [List.getElem?_append_right (by omega),hlen] at h
   simp only [List.flatMap_cons,List.flatMap_nil,List.append_nil] at h
   have hlt:=(List.getElem?_eq_some_iff.1 h).1
   refine ⟨by omega,by rw [Nat.add_mul]; omega,?_⟩
   have:i % l.length=i - k * l.length:=by
    rw [show i=(i - k * l.length)+k * l.length by omega,Nat.add_mul_mod_self_right,Nat.mod_eq_of_lt hlt]
    omega
   rw [this]
   exact h
theorem Zid:∀ (n:Nat) (fuel:Nat) (t:TypeId) (ts:List TypeId) (cs:List Value) (x:DataW H × List MemPlace),leaves P n t=some ts→DataW.trod enc P w 0 (fun _=>true) true fuel t cs=some x →
  cs.length=ts.length∧∀ (i:Nat) (ti:TypeId) (c:Value),ts[i]?=some ti→cs[i]?=some c→LeafOk enc P w ti c
 | 0,_,_,_,_,_,h,_=>by simp [leaves] at h
 | n+1,0,_,_,_,_,_,h=>by simp [DataW.trod] at h
 | n+1,fuel+1,t,ts,cs,x,h,ht=>by
  have one:∀ c,cs=[c]→ts=[t]→cs.length=ts.length∧∀ (i:Nat) (ti:TypeId) (c:Value),ts[i]?=some ti→cs[i]?=some c→LeafOk enc P w ti c:=by
   intro c hc hts
   subst hc; subst hts
   refine ⟨rfl,fun i ti c' hi hc=>?_⟩
   rcases i with _ | i
   ·simp at hi hc
    subst hi; subst hc
    exact ⟨_,x,ht⟩
   ·simp at hi
  have ht0:=ht
  simp only [leaves] at h
  split at h
  ·rename_i fs hu
   obtain ⟨xs,m,hm,_,hlen,hxl,hxs⟩:=DataW.trod_struct hu ht
   cases hm
   split at h
   ·cases h
   ·rename_i l hl
    cases hn:Nat.beq l.length (P.cellsOf t) with
    | false=>rw [hn] at h; cases h
    | true =>
     rw [hn,cond_true] at h
     cases h
     have hn:=Nat.eq_of_beq_eq_true hn
     refine ⟨by omega,fun i ti c hi hc=>?_⟩
     refine Zkb (fun t ts cs x h1 h2=>Zid n fuel t ts cs x h1 h2) cs fs.toList 0 ts hl (fun f hf=>?_) i ti c hi (by rw [Nat.zero_add]; exact hc)
     obtain ⟨q,hq⟩:=List.mem_iff_getElem?.1 hf
     rw [Array.getElem?_toList] at hq
     rw [hxs q f hq]
     exact ⟨_,List.getElem?_eq_getElem (by rw [hxl]; exact (Array.getElem?_eq_some_iff.1 hq).1)⟩
  ·rename_i k e hu
   obtain ⟨xs,m,hm,_,hlen,hxl,hxs⟩:=DataW.trod_array hu ht
   cases hm
   split at h
   ·cases h
   ·rename_i l hl
    cases hn:(Nat.beq l.length (P.cellsOf e) && Nat.beq (k * l.length) (P.cellsOf t)) with
    | false=>rw [hn] at h; cases h
    | true =>
     rw [hn,cond_true] at h
     cases h
     rw [Bool.and_eq_true] at hn
     have hn1:=Nat.eq_of_beq_eq_true hn.1
     have hn2:=Nat.eq_of_beq_eq_true hn.2
     refine ⟨by rw [Zd5,hlen,hn2],fun i ti c hi hc=>?_⟩
     obtain ⟨h1,h2,h3⟩:=Zkk l k i ti hi
     have hq:i / l.length < k:=Nat.div_lt_of_lt_mul (by rw [Nat.mul_comm]; exact h2)
     have hy:=hxs (i / l.length) hq
     rw [List.getElem?_eq_getElem (by rw [hxl]; exact hq)] at hy
     refine (Zid n fuel e l _ _ hl hy).2 (i % l.length) ti c h3 ?_
     rw [List.getElem?_take,if_pos (by rw [← hn1]; exact Nat.mod_lt _ h1),List.getElem?_drop,← hn1,Nat.mul_comm,Nat.div_add_mod]
     exact hc
  ·rename_i h1 h2
   cases hsc:leafSc P t with
   | none=>rw [hsc] at h; cases h
   | some s =>
    rw [hsc] at h
    cases h
    have:∃ c,cs=[c]:=by
     unfold leafSc at hsc
     split at hsc
     ·rename_i hu; obtain ⟨n,hc,_⟩:=DataW.trod_int hu ht0; exact ⟨_,hc⟩
     ·rename_i hu; obtain ⟨n,hc,_⟩:=DataW.trod_bool hu ht0; exact ⟨_,hc⟩
     ·rename_i hu; obtain ⟨n,hc,_⟩:=DataW.trod_string hu ht0; exact ⟨_,hc⟩
     ·rename_i hu
      rcases DataW.trod_slice hu ht0 with ⟨hc,_⟩ | ⟨a,len,cap,_,_,_,_,hc,_⟩
      ·exact ⟨_,hc⟩
      ·exact ⟨_,hc⟩
     ·cases hsc
    obtain ⟨c,hc⟩:=this
    exact one c hc rfl
theorem LeafOk.int {t:TypeId} {c:Value} {k:IntKind} (h:LeafOk enc P w t c) (hu:P.underlying t=some (.int k)):∃ n,c=.int k n∧(Lit.int k n).wf=true:=by
 obtain ⟨fuel,x,h⟩:=h
 obtain ⟨n,hc,_,hw⟩:=DataW.trod_int hu h
 exact ⟨n,by simpa using hc,hw⟩
theorem LeafOk.bool {t:TypeId} {c:Value} (h:LeafOk enc P w t c) (hu:P.underlying t=some .bool):∃ b,c=.bool b:=by
 obtain ⟨fuel,x,h⟩:=h
 obtain ⟨n,hc,_⟩:=DataW.trod_bool hu h
 exact ⟨n,by simpa using hc⟩
theorem LeafOk.str {t:TypeId} {c:Value} (h:LeafOk enc P w t c) (hu:P.underlying t=some .string):∃ b,c=.string b:=by
 obtain ⟨fuel,x,h⟩:=h
 obtain ⟨n,hc,_⟩:=DataW.trod_string hu h
 exact ⟨n,by simpa using hc⟩
theorem LeafOk.sc {t:TypeId} {c:Value} {s:Sc} (h:LeafOk enc P w t c) (hs:leafSc P t=some s):∃ x:s.T,c=s.e x:=by
 unfold leafSc at hs
 split at hs
 ·rename_i hu; cases hs; obtain ⟨n,hc,_⟩:=h.int hu; exact ⟨n,hc⟩
 ·rename_i hu; cases hs; obtain ⟨n,hc⟩:=h.bool hu; exact ⟨n,hc⟩
 ·rename_i hu; cases hs; obtain ⟨n,hc⟩:=h.str hu; exact ⟨n,hc⟩
 ·rename_i hu
  cases hs
  obtain ⟨fuel,x,h⟩:=h
  rcases DataW.trod_slice hu h with ⟨hc,_⟩ | ⟨a,len,cap,_,_,_,_,hc,_⟩
  ·exact ⟨⟨none,0,0⟩,by simpa using hc⟩
  ·exact ⟨⟨some a,len,cap⟩,by simpa using hc⟩
 ·cases hs
theorem Ztt:∀ {ts:List TypeId} {ss:List Sc} {cs:List Value},ts.map (leafSc P)=ss.map some→cs.length=ts.length→(∀ (i:Nat) (ti:TypeId) (c:Value),ts[i]?=some ti→cs[i]?=some c→LeafOk enc P w ti c) →
  ∃ x:Tup Sc.T ss,cs=Tup.e Sc.e ss x
 | [],[],[],_,_,_=>⟨(),rfl⟩
 | [],_ :: _,_,h,_,_=>by simp at h
 | _ :: _,[],_,h,_,_=>by simp at h
 | [],[],_ :: _,_,h,_=>by simp at h
 | t :: ts,s :: ss,[],_,h,_=>by simp at h
 | t :: ts,s :: ss,c :: cs,h,hl,ho=>by
  simp only [List.map_cons,List.cons.injEq] at h
  obtain ⟨x,hx⟩:=(ho 0 t c rfl rfl).sc h.1
  obtain ⟨y,hy⟩:=Ztt (cs:=cs) h.2 (by simpa using hl) (fun i ti c hi hc=>ho (i+1) ti c (by simpa using hi) (by simpa using hc))
  rcases ss with _ | ⟨s2,ss⟩
  ·rcases ts with _ | ⟨t2,ts⟩
   ·rcases cs with _ | ⟨c2,cs⟩
    ·exact ⟨x,by rw [hx]; rfl⟩
    ·simp at hl
   ·simp at h
  ·exact ⟨(x,y),by rw [hx,hy]; rfl⟩
def AllLeaf (enc:TypeId × Value→H) (P:Program) (w:World) (ts:List TypeId) (cs:List Value):Prop:=cs.length=ts.length∧∀ (i:Nat) (ti:TypeId) (c:Value),ts[i]?=some ti→cs[i]?=some c→LeafOk enc P w ti c
theorem Zr7 {α:Type} {p:Nat→α→Prop}:∀ (n:Nat),(∀ i,i < n→∃ x,p i x)→∃ l:List α,l.length=n∧∀ i x,l[i]?=some x→p i x
 | 0,_=>⟨[],rfl,fun i x h=>by simp at h⟩
 | n+1,h=>by
  obtain ⟨l,hl,hp⟩:=Zr7 n fun i hi=>h i (by omega)
  obtain ⟨x,hx⟩:=h n (by omega)
  refine ⟨l ++ [x],by simp [hl],fun i y hy=>?_⟩
  by_cases hi:i < l.length
  ·rw [List.getElem?_append_left hi] at hy; exact hp i y hy
  ·rw [List.getElem?_append_right (by omega)] at hy
   have:i - l.length=0:=by
    have:=(List.getElem?_eq_some_iff.1 hy).1
    simp at this
    omega
   rw [this] at hy
   simp at hy
   subst hy
   rw [show i=n by omega]
   exact hx
theorem Zuj {a:Addr} {v:Value} (h:w.cell? a=some v):a=⟨a.block,a.off,none⟩:=by
 obtain ⟨b,o,s⟩:=a
 cases s with
 | none=>rfl
 | some x =>
  exfalso
  simp only [World.cell?] at h
  split at h
  ·cases h
  ·cases h
theorem add0 (a:Addr):a.add 0=a:=by unfold Addr.add; simp
theorem Zsd {base:Nat} {a:Addr} {n:Nat} {cs:List Value} (h:w.cells? base a n=some cs):cs.length=n∧CellsAt w a cs:=by
 unfold World.cells? at h
 split at h
 ·refine ⟨?_,fun j u hj=>?_⟩
  ·have:=congrArg (Option.map List.length) (rfl:(List.range n).mapM (fun i=>w.cell? (a.add i))=_)
   rw [h] at this
   clear this
   have key:∀ (l:List Nat) (ys:List Value),l.mapM (fun i=>w.cell? (a.add i))=some ys→ys.length=l.length:=by
    intro l
    induction l with
    | nil=>intro ys h; simp at h; subst h; rfl
    | cons x l ih =>
     intro ys h
     rw [List.mapM_cons] at h
     obtain ⟨y,hy,h2⟩:=Option.bind_eq_some_iff.1 h
     obtain ⟨ys',hys,h3⟩:=Option.bind_eq_some_iff.1 h2
     cases h3
     simp [ih ys' hys]
   rw [key _ _ h]
   simp
  ·have key:∀ (l:List Nat) (ys:List Value),l.mapM (fun i=>w.cell? (a.add i))=some ys→∀ (j:Nat) (u:Value) (k:Nat),ys[j]?=some u→l[j]?=some k→w.cell? (a.add k)=some u:=by
    intro l
    induction l with
    | nil=>intro ys h j u k _ hk; simp at hk
    | cons x l ih =>
     intro ys h j u k hj hk
     rw [List.mapM_cons] at h
     obtain ⟨y,hy,h2⟩:=Option.bind_eq_some_iff.1 h
     obtain ⟨ys',hys,h3⟩:=Option.bind_eq_some_iff.1 h2
     cases h3
     rcases j with _ | j
     ·simp at hj hk
      subst hj; subst hk
      exact hy
     ·exact ih ys' hys j u k (by simpa using hj) (by simpa using hk)
   have hjl:j < n:=by
    have key2:∀ (l:List Nat) (ys:List Value),l.mapM (fun i=>w.cell? (a.add i))=some ys→ys.length=l.length:=by
     intro l
     induction l with
     | nil=>intro ys h; simp at h; subst h; rfl
     | cons x l ih =>
      intro ys h
      rw [List.mapM_cons] at h
      obtain ⟨y,hy,h2⟩:=Option.bind_eq_some_iff.1 h
      obtain ⟨ys',hys,h3⟩:=Option.bind_eq_some_iff.1 h2
      cases h3
      simp [ih ys' hys]
    have:=key2 _ _ h
    have:=(List.getElem?_eq_some_iff.1 hj).1
    simp at *
    omega
   exact key _ _ h j u j hj (by simp [hjl])
 ·cases h
structure SlArg (P:Program) (t e:TypeId) (ty:Ty) (ts:List TypeId):Prop where
 under:P.underlying t=some (.slice e)
 size:P.cellsOf e=ty.size
 pos:0 < ty.size
 leaf:leaves P 9 e=some ts
 sorts:∃ ss:List Sc,ts.map (leafSc P)=ss.map some∧((ty=.agg ss)∨∃ s,ty=.sc s∧ss=[s])
theorem LeafOk.slice {t e:TypeId} {ty:Ty} {ts:List TypeId} (A:SlArg P t e ty ts) {c:Value} (h:LeafOk enc P w t c) :
  ∃ (s:Sl) (l:List ty.T),c=s.v∧SlT (fun k=>k < w.heap.size) w ty s l∧s.c≤maxLen∧∀ x∈l,AllLeaf enc P w ts (ty.cells x):=by
 obtain ⟨fuel,x,h⟩:=h
 rcases open_slice A.under h with ⟨hc,_⟩ | ⟨a,len,cap,m,n,D,Pl,hc,hb,hl,hm,hmm,_,hel⟩
 ·exact ⟨⟨none,0,0⟩,[],by simpa [Sl.v] using hc,SlT.nil _,Nat.zero_le _,by simp⟩
 ·have hmc:m=cap:=by simpa using hmm
  subst hmc
  obtain ⟨ss,hss,hty⟩:=A.sorts
  have each:∀ i,i < len→∃ x:ty.T,CellsAt w (a.add (i * ty.size)) (ty.cells x)∧AllLeaf enc P w ts (ty.cells x):=by
   intro i hi
   obtain ⟨cs',h1,h2⟩:=hel i (by omega)
   obtain ⟨h3,h4⟩:=Zsd h1
   obtain ⟨h5,h6⟩:=Zid 9 n e ts cs' _ A.leaf h2
   obtain ⟨x,hx⟩:=Ztt hss h5 h6
   rw [A.size] at h4
   rcases hty with rfl | ⟨s,rfl,rfl⟩
   ·exact ⟨x,by rw [show Ty.cells (.agg ss) x=cs' from hx.symm]; exact h4,by rw [show Ty.cells (.agg ss) x=cs' from hx.symm]; exact ⟨h5,h6⟩⟩
   ·exact ⟨x,by rw [show Ty.cells (.sc s) x=cs' from hx.symm]; exact h4,by rw [show Ty.cells (.sc s) x=cs' from hx.symm]; exact ⟨h5,h6⟩⟩
  obtain ⟨l,hll,hlp⟩:=Zr7 len each
  refine ⟨⟨some a,len,m⟩,l,by simpa [Sl.v] using hc,⟨hll.symm,hl,?_⟩,hm,fun x hx=>?_⟩
  ·by_cases h0:l=[]
   ·exact .inl h0
   ·right
    have hpos:0 < l.length:=List.length_pos_iff.2 h0
    have hx0:=List.getElem?_eq_getElem hpos
    have hc0:=(hlp 0 _ hx0).1
    rw [Nat.zero_mul,add0] at hc0
    have hcl:=ty.cells_len l[0]
    have hp:=A.pos
    have hcell:=hc0 0 _ (List.getElem?_eq_getElem (by omega))
    rw [add0] at hcell
    have ha:=Zuj hcell
    refine ⟨a.block,a.off,by rw [ha],World.block_lt_of_cell? w a hcell,World.block_lt_of_cell? w a hcell,fun i x hx=>?_⟩
    refine Rd.cells.2 ?_
    have:=(hlp i x hx).1
    rw [ha,Z3] at this
    exact this
  ·obtain ⟨i,hi⟩:=List.mem_iff_getElem?.1 hx
   exact (hlp i x hi).2
theorem Zfr {P:Program} (hl:laidOutB P=true) {W W':World} (hb:Below W.heap.size W W'):∀ {ts:List TypeId} {vs:List Value} {ds:List (DataW H)} {ps:List MemPlace},(∀ t∈ts,P.readableRec t=true∧t < P.types.size) →
  DataW.TrodAll enc P W 0 (fun _=>true) true ts vs ds ps→(∀ x∈ps,x.block < W.heap.size)→DataW.TrodAll enc P W' 0 (fun b=>decide (b < W.heap.size)) true ts vs ds ps
 | [],[],[],_,_,h,_=>h
 | [],[],_ :: _,_,_,h,_=>h.elim
 | [],_ :: _,_,_,_,h,_=>h.elim
 | _ :: _,[],_,_,_,h,_=>h.elim
 | _ :: _,_ :: _,[],_,_,h,_=>h.elim
 | t :: ts,v :: vs,d :: ds,ps,hr,⟨p,q,h1,h2,e⟩,hlt=>by
  subst e
  exact ⟨p,q,Below.trod hl (hr t List.mem_cons_self).1 (hr t List.mem_cons_self).2 h1 hb (fun x hx=>hlt x (List.mem_append_left _ hx)),
   Zfr hl hb (fun u hu=>hr u (List.mem_cons_of_mem _ hu)) h2 (fun x hx=>hlt x (List.mem_append_right _ hx)),rfl⟩
theorem law_post {P:Program} (hl:laidOutB P=true) {f:Func} {s:ChangeSpec} {W W':World} {args:Array Value} {ds gs:List (DataW H)} {before:List MemPlace} {tb:TypeId} (hbool:P.underlying tb=some .bool) (hres:f.resultTypes=#[tb])
  (hr:∀ t∈f.params.toList,P.readableRec t=true∧t < P.types.size) (hvars:s.vars=[]) (hs:(s.fn H (ds ++ [])).results=[.lit (.bool true)]∧(s.fn H (ds ++ [])).args=ds∧(s.fn H (ds ++ [])).vars=[])
  (hW:DataW.Whole enc P f.params.toList s.vars false W args.toList ds gs before) (hf:Fr None W W'):s.post enc P f false true false false W args (.bool true) W':=by
 have hlt:=hW.lt
 have hW2:=hW
 obtain ⟨p,q,hA,hV,rfl,hfz,hnd⟩:=hW2
 rw [hvars] at hV
 obtain ⟨hgs,hq⟩:gs=[]∧q=[]:=by
  cases gs with
  | nil=>exact ⟨rfl,hV⟩
  | cons _ _=>exact hV.elim
 subst hq; subst hgs
 refine ⟨ds,[],p ++ [],[],p,[],hW,?_,?_,?_,hf.below.frame _,fun h=>by cases h⟩
 ·rw [hs.1,hres]
  exact trodAll_mk1 (shut_bool hbool true)
 ·rw [hs.2.1]
  exact Zfr hl hf.below hr hA (fun x hx=>hlt x (by simpa using hx))
 ·rw [hs.2.2,hvars]
  rfl
theorem arg_slice {t e:TypeId} {ty:Ty} {ts:List TypeId} (A:SlArg P t e ty ts) {v:Value} {d:DataW H} {p:List MemPlace} (hval:Value.okWide P w .any 0 t v) (h:DataW.Trod enc P w 0 (fun _=>true) true t v d p) :
  ∃ (s:Sl) (l:List ty.T),v=s.v∧SlT (fun k=>k < w.heap.size) w ty s l∧s.c≤maxLen∧∀ x∈l,AllLeaf enc P w ts (ty.cells x):=by
 obtain ⟨a0,len,cap,rfl⟩:=okWide_slice A.under hval
 obtain ⟨fuel,hf⟩:=h
 exact LeafOk.slice A ⟨fuel,_,hf⟩
end Go.Proofs.YtoiahhpgkoknfaaGreat.Den
namespace Go.Proofs.YtoiahhpgkoknfaaGreat
open Go Go.RowKit Go.ChangeShapes Go.WideShapes Go.ChangeAt Go.Proofs.YtoiahhpgkoknfaaGreat.Den
variable {R:Type} {Q:R→World→Prop} {w:World}
theorem Den.SlT.slc0 {ok:Nat→Prop} {t:Ty} {s:Sl} {l:List t.T} (h:SlT ok w t s l) {sz:Nat} {hi:Int} {n:Nat} (hn:hi=(n:Int)) (hl:n≤l.length) {K:Sl→W R} (hk:∀ s',SlT ok w t s' (l.take n)→K s' Q w):slcW s.a s.n s.c sz none (some hi) K Q w:=by
 subst hn
 have hlen:=h.len
 have hcap:=h.cap
 refine chkI (by simp only [Option.getD_some,Option.getD_none]; omega) ?_
 simp only [Option.getD_some,Option.getD_none]
 refine hk _ ⟨by simp; omega,by simp; omega,?_⟩
 rcases h.at_ with rfl | ⟨b,o,ha,h1,h2,h3⟩
 ·left; simp
 ·right
  refine ⟨b,o,?_,h1,h2,fun i x hx=>?_⟩
  ·rw [ha]
   split
   ·rfl
   ·simp [Addr.add]
  ·rw [List.getElem?_take] at hx
   split at hx
   ·exact h3 i x hx
   ·cases hx
theorem Zsc {f:Nat} {args:List Value} {W:World} (h:callW Tryz.prog f args [.sc .bool] (fun (r:Bool) (_:Unit→World→Prop) w'=>r=true∧Fr None W w') (fun _ _=>True) W):Calls Tryz.prog f ⟨args⟩ W (fun e w'=>e=.returned (.bool true)∧Fr None W w') :=
 Calls.mono h fun _ w' ⟨r,he,hr,hf⟩=>⟨by rw [he,hr]; rfl,hf⟩
theorem own_knob:ownKnob Tryz.prog.godebug=none:=by kernel_rfl
theorem laid_out:laidOutB Tryz.prog=true:=by kernel_rfl
theorem Zqp:SlArg Tryz.prog 35 52 compT [5,21,21,21] :=
 ⟨by kernel_rfl,by kernel_rfl,by decide,by kernel_rfl,⟨[.int .u8,.int .i32,.int .i32,.int .i32],by kernel_rfl,.inl rfl⟩⟩
theorem wf_u8 {n:Int} (h:(Lit.int .u8 n).wf=true):0≤n∧n≤255:=by simpa [Lit.wf,IntKind.min,IntKind.max,IntKind.bits,IntKind.signed] using h
theorem Ztw {n:Int} (h:(Lit.int .u32 n).wf=true):0≤n∧n≤4294967295:=by simpa [Lit.wf,IntKind.min,IntKind.max,IntKind.bits,IntKind.signed] using h
theorem Zs1 {n:Int} (h:(Lit.int .i32 n).wf=true):-2147483648≤n∧n≤2147483647:=by simpa [Lit.wf,IntKind.min,IntKind.max,IntKind.bits,IntKind.signed] using h
theorem Zjf:Tryz.prog.underlying 5=some (.int .u8):=by kernel_rfl
theorem Znz:Tryz.prog.underlying 21=some (.int .i32):=by kernel_rfl
theorem bool_und:Tryz.prog.underlying 4=some .bool:=by kernel_rfl
theorem Zu1 {H:Type} {enc:TypeId × Value→H} {c:Comp} (h:AllLeaf enc Tryz.prog w [5,21,21,21] (compT.cells c)):CompOk c:=by
 obtain ⟨_,h⟩:=h
 obtain ⟨_,e,h0⟩:=(h 0 _ _ rfl rfl).int Zjf
 cases e
 obtain ⟨_,e,h1⟩:=(h 1 _ _ rfl rfl).int Znz
 cases e
 obtain ⟨_,e,h2⟩:=(h 2 _ _ rfl rfl).int Znz
 cases e
 obtain ⟨_,e,h3⟩:=(h 3 _ _ rfl rfl).int Znz
 cases e
 exact ⟨wf_u8 h0,Zs1 h1,Zs1 h2,Zs1 h3⟩
abbrev u8T:Ty:=.sc (.int .u8)
theorem Den.Rd.fld {a:Addr} {l:List Sc} {x:Tup Sc.T l} (h:Rd w a (.agg l) x) {i:Nat} {s:Sc} {y:s.T} (hy:(Tup.e Sc.e l x)[i]?=some (s.e y)) {K:s.T→W R} (hk:K y Q w):ld (.sc s) (a.add i) K Q w:=⟨y,h i _ hy,hk⟩
theorem idxA {a:Addr} {n sz:Nat} {i:Int} (h0:0≤i) (h1:i < n) {K:Addr→W R} (hk:K (a.add (i.toNat * sz)) Q w):idxW (some a) n sz i K Q w:=⟨a,rfl,h0,h1,hk⟩
theorem addA (a:Addr) (i j:Nat):(a.add i).add j=a.add (i+j):=Go.Deep.add_add a i j
end Go.Proofs.YtoiahhpgkoknfaaGreat
namespace Go.Proofs.YtoiahhpgkoknfaaGreat.Den
open Go Go.RowKit
variable {R:Type} {Q:R→World→Prop} {w:World}
abbrev OB:=(Nat→Prop)→World→Prop
def St (A:OB):Prop:=∀ {F F' S:Nat→Prop} {w w':World},A F w→Fr S w w'→(∀ k,k < w.heap.size→F k→¬ S k∧F' k)→A F' w'
abbrev Ex (F:Nat→Prop) (w:World):Nat→Prop:=fun k=>F k∨w.heap.size≤k
theorem St.fr {A:OB} (h:St A) {F S:Nat→Prop} {w w':World} (a:A F w) (f:Fr S w w') (hn:∀ k,F k→¬ S k):A F w':=h a f fun k _ e=>⟨hn k e,e⟩
theorem St.fr0 {A:OB} (h:St A) {F:Nat→Prop} {w w':World} (a:A F w) (f:Fr None w w'):A F w':=h a f fun _ _ e=>⟨fun h=>h,e⟩
theorem St.mono {A:OB} (h:St A) {F F':Nat→Prop} {w:World} (a:A F w) (hf:∀ k,k < w.heap.size→F k→F' k):A F' w:=h a (Fr.refl None w) fun k hk e=>⟨fun h=>h,hf k hk e⟩
def relab (lab:Nat→Nat) (n n' c:Nat):Nat→Nat:=fun k=>if k < n then lab k else if k < n' then c else 0
theorem Z4 {lab:Nat→Nat} {n n' c k:Nat} (h:k < n):relab lab n n' c k=lab k:=by simp [relab,h]
theorem Z4c {lab:Nat→Nat} {n n' c k:Nat} (h:n≤k) (h2:k < n'):relab lab n n' c k=c:=by simp [relab,show ¬ k < n by omega,h2]
theorem Z2a {lab:Nat→Nat} {n n' c k:Nat} (h:relab lab n n' c k≠0):(lab k≠0∧k < n)∨(n≤k∧k < n'):=by
 unfold relab at h
 split at h
 ·exact .inl ⟨h,by assumption⟩
 ·split at h
  ·exact .inr ⟨by omega,by assumption⟩
  ·exact absurd rfl h
theorem St.other {A:OB} (h:St A) {lab:Nat→Nat} {i j c:Nat} {w w':World} (a:A (fun k=>lab k=i) w) (f:Fr (fun k=>lab k=j) w w') (hij:i≠j):A (fun k=>relab lab w.heap.size w'.heap.size c k=i) w' :=
 h a f fun k hk e=>⟨by omega,by show relab _ _ _ _ _=_; rw [Z4 hk]; exact e⟩
theorem St.grown {A:OB} (h:St A) {lab:Nat→Nat} {i:Nat} {w w':World} (a:A (Ex (fun k=>lab k=i) w) w'):A (fun k=>relab lab w.heap.size w'.heap.size i k=i) w' :=
 h.mono a fun k hk e=>by
  rcases Nat.lt_or_ge k w.heap.size with hl | hg
  ·rw [Z4 hl]
   rcases e with e | e
   ·exact e
   ·omega
  ·exact Z4c hg hk
theorem Zp9 {lab:Nat→Nat} {F:Nat→Prop} {n n' c:Nat} (h:∀ k,lab k≠0→F k):∀ k,relab lab n n' c k≠0→F k∨n≤k:=fun k e=>by
 rcases Z2a e with ⟨e,_⟩ | ⟨e,_⟩
 ·exact .inl (h k e)
 ·exact .inr e
def cut (lab:Nat→Nat) (n:Nat):Nat→Nat:=fun k=>if k < n then lab k else 0
theorem Zma {lab:Nat→Nat} {n k:Nat} (h:k < n):cut lab n k=lab k:=by simp [cut,h]
theorem Zam {lab:Nat→Nat} {n k:Nat} (h:cut lab n k≠0):lab k≠0∧k < n:=by
 unfold cut at h
 split at h
 ·exact ⟨h,by assumption⟩
 ·exact absurd rfl h
theorem St.cut {A:OB} (h:St A) {lab:Nat→Nat} {i:Nat} {S:Nat→Prop} {w w':World} (a:A (fun k=>lab k=i) w) (f:Fr S w w') (hi:i≠0) (hs:∀ k,k < w.heap.size→lab k≠0→¬ S k):A (fun k=>cut lab w.heap.size k=i) w' :=
 h a f fun k hk e=>⟨hs k hk (by omega),by show Den.cut _ _ _=_; rw [Zma hk]; exact e⟩
def Bl (b:Nat) (T:TypeId) (cs:List Value):OB:=fun F w=>F b∧Blk w b T cs
theorem Bl.st {b:Nat} {T:TypeId} {cs:List Value}:St (Bl b T cs):=fun ⟨h1,h2⟩ f hs=>⟨(hs b h2.lt h1).2,h2.fr f (hs b h2.lt h1).1⟩
theorem Own.st {E:TypeId} {t:Ty} {s:Sl} {l:List t.T}:St fun F w=>Own F w E t s l:=fun {F F' S w w'} h f hs=>by
 rcases h.cases with ⟨rfl,rfl⟩ | ⟨g,c,cur,rfl,hg,h3,h4,h5,h6,h7⟩
 ·exact Own.nil _ _ _ _
 ·have hl:=(Array.getElem?_eq_some_iff.1 h3).1
  exact Own.mk' (hs g hl hg).2 ((f.block g hl (hs g hl hg).1).trans h3) h4 h5 h6 h7
theorem SlT.st {t:Ty} {s:Sl} {l:List t.T}:St fun F w=>SlT F w t s l:=fun {F F' S w w'} h f hs=>by
 refine ⟨h.len,h.cap,h.at_.imp id ?_⟩
 rintro ⟨b,o,h1,h2,h3,h4⟩
 exact ⟨b,o,h1,(hs b h3 h2).2,Nat.lt_of_lt_of_le h3 f.size,fun i x hx=>(h4 i x hx).keep (f.block b h3 (hs b h3 h2).1)⟩
def Mp {κ:Type} (P:Program) (k:TypeId) (ke:κ→Value) (b:Nat) (f:κ→Option Value):OB:=fun F w=>F b∧MapB P k ke w b f
theorem Mp.st {κ:Type} {P:Program} {k:TypeId} {ke:κ→Value} {b:Nat} {f:κ→Option Value}:St (Mp P k ke b f):=fun ⟨h1,h2⟩ fr hs=>⟨(hs b h2.lt h1).2,h2.fr fr (hs b h2.lt h1).1⟩
theorem both2 {X:W R} (h:X Q w):bothW X X Q w:=⟨h,h⟩
theorem Fr.ex {F:Nat→Prop} {a b c:World} (h:Fr F a b) (k:Fr (Ex F a) b c):Fr F a c:=h.trans k (fun _ h=>h) fun x hx e=>by
 rcases e with e | e
 ·exact e
 ·omega
theorem Fr.exS {F S:Nat→Prop} {a b c:World} (h:Fr F a b) (k:Fr S b c) (hs:∀ x,S x→F x∨a.heap.size≤x):Fr F a c:=h.ex (k.mono fun x _ e=>hs x e)
theorem Fr.sub {S T:Nat→Prop} {a b:World} (h:Fr S a b) (hs:∀ x,S x→T x):Fr T a b:=h.mono fun x _ e=>hs x e
theorem Fr.any {S:Nat→Prop} {a b:World} (h:Fr None a b):Fr S a b:=h.mono fun _ _ e=>e.elim
theorem Fr.lab {lab:Nat→Nat} {j:Nat} {a b:World} (h:Fr (fun k=>lab k=j) a b) (hj:j≠0):Fr (fun k=>lab k≠0) a b:=h.mono fun k _ e=>by omega
theorem makeI {P:Program} {T E:TypeId} {t:Ty} {bytes:Nat} (H:SlTy P T E t bytes) {z:t.T} {zv:Value} (hz:(P.info? E).bind (·.zero)=some zv) (hzc:zv.cells.toList=t.cells z) {i:Int} {n:Nat} (hi:i=(n:Int)) (hb:n * bytes≤140737488355328) (hm:n≤9223372036854775807)
  {K:Sl→W R} (hk:∀ w',Own (fun k=>k=w.heap.size) w' E t ⟨some ⟨w.heap.size,0,none⟩,n,n⟩ (List.replicate n z)→Fr None w w'→w'.heap.size=w.heap.size+1→K ⟨some ⟨w.heap.size,0,none⟩,n,n⟩ Q w') :
  rawW P (Instr.makeSlice T (.int .i64 i) (.int .i64 i)) [.sc .sl] K Q w:=by
 subst hi
 obtain ⟨i,z',h1,h2,h3,h4,h5⟩:=H.info
 rw [h1] at hz
 simp only [Option.bind_some,h2,Option.some.injEq] at hz
 subst hz
 have hbi:(i.bytes:Int) * (n:Int)≤281474976710656:=by
  have:i.bytes * n≤140737488355328:=by rw [h4,Nat.mul_comm]; exact hb
  have h:((i.bytes * n:Nat):Int)≤140737488355328:=by omega
  rw [Int.natCast_mul] at h
  omega
 have hr:=run_make (P:=P) w T E i z' H.under h1 h2 .i64 .i64 n n (by omega) (Int.le_refl _) hbi (by omega)
 simp only [Int.toNat_natCast] at hr
 have hcells:(madeCells z'.cells (n * i.size)).toList=(List.replicate n z).flatMap t.cells:=by
  apply List.ext_getElem?
  intro j
  have hpos:=H.pos
  have hzs:z'.cells=⟨t.cells z⟩:=by rw [← hzc]
  have hsz:(t.cells z).length=t.size:=t.cells_len z
  by_cases hj:j < n * t.size
  ·have hq:j / t.size < n:=Nat.div_lt_of_lt_mul (by rw [Nat.mul_comm]; exact hj)
   have hml:j % t.size < (t.cells z).length:=by rw [hsz]; exact Nat.mod_lt _ hpos
   have e1:=Zga (l:=List.replicate n z) (i:=j / t.size) (x:=z) (by simp [hq]) (j % t.size) _ (List.getElem?_eq_getElem hml)
   rw [Nat.mul_comm,Nat.div_add_mod] at e1
   rw [e1,hzs,h3]
   have hj':j < (madeCells ⟨t.cells z⟩ (n * t.size)).size:=by rw [size_madeCells]; exact hj
   rw [Array.getElem?_toList,Array.getElem?_eq_getElem hj']
   simp only [madeCells,Array.getElem_map,Array.getElem_range,List.size_toArray,hsz]
   congr 1
   rw [getElem!_pos (c:=(⟨t.cells z⟩:Array Value)) (i:=j % t.size) (by simpa using hml)]
   simp
  ·rw [List.getElem?_eq_none,List.getElem?_eq_none]
   ·rw [Z27]; simp; omega
   ·rw [Array.length_toList,size_madeCells,h3]; omega
 refine ⟨⟨_,_,_⟩,_,hr,hk _ ?_ ((Fr.refl _ _).alloc _) (by simp)⟩
 have hl:(List.replicate n z).length=n:=List.length_replicate
 have:=Own.mk' (S:=fun k=>k=w.heap.size) (w:=w.alloc (.cells (madeCells z'.cells (n * i.size)) E)) (E:=E) (t:=t) (l:=List.replicate n z) (g:=w.heap.size) (c:=n) (cur:=madeCells z'.cells (n * i.size)) rfl (heap_alloc_new w _) (by rw [hl]; exact Nat.le_refl _) (by rw [Zn]; exact hm) (by rw [size_madeCells,h3]) (by
  rw [hl,hcells,List.take_of_length_le]
  rw [Z27,hl]; exact Nat.le_refl _)
 rw [hl] at this
 exact this
theorem appP {P:Program} {T E ty:TypeId} {t:Ty} {bytes:Nat} (H:SlTy P T E t bytes) {S:Nat→Prop} {o:Sl} {lo:List t.T} {x:t.T} {cs:List Value} (hc:cs=t.cells x) (ho:Own S w E t o lo) (hS:∀ k,w.heap.size≤k→S k)
  (hb:(lo.length+1) * bytes≤140737488355328) (hm:lo.length+1≤9223372036854775807) {K:Sl→W R}
  (hk:∀ r w',Own S w' E t r (lo ++ [x])→Fr (fun k=>o.v.ownBlock=some k) w w'→K r Q w'):newW E cs (fun a=>rawW P (Builtin.append_ #[T,T] ty #[.slice o.a o.n o.c,.slice (some a) 1 1]) [.sc .sl] K) Q w:=by
 subst hc
 refine newI fun w2 B2 f2 s2=>?_
 refine app1 (S':=S) H (ho.none f2) B2 rfl hb (by rw [Zn]; exact hm) (fun _ h=>h) (hS _ (by omega)) fun r w3 o3 f3 s3=>?_
 exact hk r w3 o3 (f2.any.then f3)
theorem rangeI {ok:Nat→Prop} {t:Ty} {sl:Sl} {l:List t.T} {σ:Type} {s0:σ} {sz:Nat} {body:(σ→W R)→σ→t.T→W R} {done:σ→W R} (idx:σ→Int) (P:Nat→σ→World→Prop)
  (hsz:sz=t.size) (h0:P 0 s0 w) (hi:∀ j s w',P j s w'→idx s=j) (hS:∀ j s w',P j s w'→SlT ok w' t sl l)
  (hs:∀ j x s w' K,l[j]?=some x→P j s w'→idx s=j→(∀ s' w'',P (j+1) s' w''→K s' Q w'')→body K s x Q w') (hd:∀ s w',P l.length s w'→done s Q w') :
  loopW (fun K s=>cond (decide (idx s < (sl.n:Int))) (idxW sl.a sl.n sz (idx s) fun a=>ld t a fun x=>body K s x) (done s)) s0 Q w:=by
 have hn:sl.n=l.length:=(hS 0 s0 w h0).len
 rw [hn]
 refine forI (N:=l.length) idx P h0 hi ?_ hd
 intro j s w' K hj hp e hK
 rw [← hn]
 refine (hS j s w' hp).get hsz e hj fun x hx=>?_
 exact hs j x s w' K hx hp e hK
theorem rangeC {ok:Nat→Prop} {t:Ty} {sl:Sl} {l:List t.T} {σ:Type} {s0:σ} {sz:Nat} {T:TypeId} {zs:List Value} {body:(σ→W R)→σ→t.T→Addr→W R} {done:σ→W R} (idx:σ→Int) (P:Nat→σ→World→Prop)
  (hsz:sz=t.size) (hz:zs.length=t.size) (hf:t.fine=true) (h0:P 0 s0 w) (hi:∀ j s w',P j s w'→idx s=j) (hS:∀ j s w',P j s w'→SlT ok w' t sl l)
  (hs:∀ j x s w' w2 K,l[j]?=some x→P j s w'→idx s=j→Blk w2 w'.heap.size T (t.cells x)→Fr None w' w2→w2.heap.size=w'.heap.size+1→(∀ s' w'',P (j+1) s' w''→K s' Q w'')→body K s x ⟨w'.heap.size,0,none⟩ Q w2)
  (hd:∀ s w',P l.length s w'→done s Q w') :
  loopW (fun K s=>cond (decide (idx s < (sl.n:Int))) (idxW sl.a sl.n sz (idx s) fun a=>ld t a fun x=>newW T zs fun e=>stoL e (t.cells x) 0 (body K s x e)) (done s)) s0 Q w:=by
 refine rangeI idx P hsz h0 hi hS ?_ hd
 intro j x s w' K hx hp e hK
 refine newI fun w1 B1 f1 s1=>stoBlk (T:=T) (t.cells x) 0 B1 (by rw [t.cells_len,hz]; omega) (t.one x hf) fun w2 B2 f2 s2=>?_
 rw [Nat.add_zero,Zin (by rw [t.cells_len,hz])] at B2
 exact hs j x s w' w2 K hx hp e B2 (f1.newer f2 fun k e=>by omega) (by omega) hK
end Go.Proofs.YtoiahhpgkoknfaaGreat.Den
namespace Go.Proofs.YtoiahhpgkoknfaaGreat.Den
open Go Go.RowKit
variable {R:Type} {Q:R→World→Prop} {w:World} {P:Program} {T E ty:TypeId} {t:Ty} {bytes:Nat} {ok S:Nat→Prop} {s:Sl} {l:List t.T}
theorem Addr.add0' (a:Addr):a.add 0=a:=by unfold Addr.add; simp
theorem SlT.from (h:SlT ok w t s l) {sz:Nat} (hsz:sz=t.size) {i:Int} {n:Nat} (hi:i=(n:Int)) (hl:n≤l.length) {K:Sl→W R} (hk:∀ r,SlT ok w t r (l.drop n)→r.c=s.c - n→K r Q w):slcW s.a s.n s.c sz (some i) none K Q w:=by
 subst hi; subst hsz
 have hlen:=h.len
 have hcap:=h.cap
 refine chkI (by simp only [Option.getD_some,Option.getD_none]; omega) ?_
 simp only [Option.getD_some,Option.getD_none,Int.toNat_natCast]
 refine hk _ ⟨by simp; omega,by simp; omega,?_⟩ rfl
 rcases h.at_ with rfl | ⟨b,o,ha,h1,h2,h3⟩
 ·left; simp
 ·by_cases hc:s.c=n
  ·left
   exact List.drop_eq_nil_of_le (by omega)
  ·right
   refine ⟨b,o+n * t.size,by simp only [if_neg hc,ha,Option.map_some,Z3],h1,h2,fun i x hx=>?_⟩
   rw [List.getElem?_drop] at hx
   have:=h3 (n+i) x hx
   rwa [Nat.add_mul,← Nat.add_assoc] at this
theorem SlT.cutI (h:SlT ok w t s l) {sz:Nat} {hi:Int} {n:Nat} (hn:hi=(n:Int)) (hl:n≤l.length) {K:Sl→W R} (hk:∀ s',s'.c=s.c→(∀ ok' w',SlT ok' w' t s l→SlT ok' w' t s' (l.take n))→K s' Q w):slcW s.a s.n s.c sz none (some hi) K Q w:=by
 subst hn
 have hlen:=h.len
 have hcap:=h.cap
 refine chkI (by simp only [Option.getD_some,Option.getD_none]; omega) ?_
 simp only [Option.getD_some,Option.getD_none]
 refine hk _ (by simp) fun ok' w' h'=>⟨by simp; omega,by simp; omega,?_⟩
 rcases h'.at_ with rfl | ⟨b,o,ha,h1,h2,h3⟩
 ·left; simp
 ·right
  refine ⟨b,o,?_,h1,h2,fun i x hx=>?_⟩
  ·rw [ha]
   split
   ·rfl
   ·simp [Addr.add]
  ·rw [List.getElem?_take] at hx
   split at hx
   ·exact h3 i x hx
   ·cases hx
theorem clipI (H:SlTy P T E t bytes) (h:SlT ok w t s l) {K:Sl→W R} (hk:∀ r,SlT ok w t r l→r.n=s.n→K r Q w) :
  rawQ P (Instr.sliceAt T (.slice s.a s.n s.c) none (some (.int .i64 (s.n:Int))) (some (.int .i64 (s.n:Int)))) [.sc .sl] K Q w:=by
 obtain ⟨i,z,hi,hz,hs,hby,hzs⟩:=H.info
 have hcap:=h.cap
 refine ⟨⟨if s.n=0 then s.a else s.a.map (·.add (0 * i.size)),s.n - 0,s.n - 0⟩,?_,hk _ ⟨h.len,Nat.le_refl _,?_⟩ rfl⟩
 ·have hb1:∀ c:BoundsCode,(Instr.sliceBound (.int .i64 (s.n:Int)) s.c c).run P w=.ok s.n w:=fun c=>by simp [Instr.sliceBound,asIntOf]; omega
  have hb2:∀ c:BoundsCode,(Instr.sliceBound (.int .i64 (s.n:Int)) s.n c).run P w=.ok s.n w:=fun c=>by simp [Instr.sliceBound,asIntOf]
  simp [Instr.sliceAt,Instr.slice,Instr.sliceBounds,run_underlying H.under,hb1,hb2,sizeOf,typeInfo,hi]
  rfl
 ·rcases h.at_ with rfl | ⟨b,o,ha,h1,h2,h3⟩
  ·exact .inl rfl
  ·refine .inr ⟨b,o,?_,h1,h2,h3⟩
   simp only [Nat.zero_mul,ha,Option.map_some]
   split
   ·rfl
   ·rw [Addr.add0']
theorem cloneI (H:SlTy P T E t bytes) (h:SlT ok w t s l) (hb:l.length * bytes≤140737488355328) (hm:l.length≤9223372036854775807) {K:Sl→W R} (hk:∀ r w',Own (Up w.heap.size) w' E t r l→Fr None w w'→K r Q w') :
  newW E [] (fun a=>rawW P (Builtin.append_ #[T,T] ty #[.slice (some a) 0 0,.slice s.a s.n s.c]) [.sc .sl] K) Q w:=by
 refine newI fun w1 B1 f1 s1=>?_
 have own:=Own.mk' (S:=Up w.heap.size) (w:=w1) (E:=E) (t:=t) (l:=[]) (g:=w.heap.size) (c:=0) (cur:=⟨[]⟩) (Nat.le_refl _) B1 (Nat.le_refl _) (Nat.zero_le _) (by simp) (by simp)
 refine appI (s:=⟨some ⟨w.heap.size,0,none⟩,0,0⟩) (s2:=s) (S':=Up w.heap.size) H own (h.fr0 f1) (by simpa using hb) (by rw [Zn]; simpa using hm) (fun _ h=>h) (by show _≤_; omega) fun r w2 o2 f2 s2=>?_
 rw [List.nil_append] at o2
 exact hk r w2 o2 (f1.newer f2 (fun x e=>own.own x e))
theorem copyI (hu:P.underlying T=some (.slice E)) {i:TypeInfo} (hi:P.info? E=some i) {U:TypeId} {g o dn dc:Nat} {Tb:TypeId} {cs vs:List Value} (B:Blk w g Tb cs) {a:Addr} {sn sc n:Nat} (hn:n=Nat.min sn dn) (hv:vs.length=n * i.size) (hsrc:CellsAt w a vs)
  (hfit:o+vs.length≤cs.length) (h1:∀ v∈vs,v.oneCell'=true) {K:Int→W R} (hk:∀ w',Blk w' g Tb (putAt cs o vs)→Fr (fun k=>k=g) w w'→w'.heap.size=w.heap.size→K (n:Int) Q w') :
  rawW P (Builtin.copy_ #[T,U] ty #[.slice (some ⟨g,o,none⟩) dn dc,.slice (some a) sn sc]) [.sc (.int .i64)] K Q w:=by
 obtain ⟨w',hr,hK⟩:=Zcg (P:=P) ⟨g,o,none⟩ vs 0 (fun (_:R→World→Prop) w'=>Blk w' g Tb (putAt cs o vs)∧Fr (fun k=>k=g) w w'∧w'.heap.size=w.heap.size) (fun _ _=>True) w (stoBlk vs 0 B (by omega) h1 fun w' hb hf hs=>⟨by simpa using hb,hf,hs⟩)
 have hl:=run_loadCells_list (P:=P) w a vs hsrc
 refine ⟨(n:Int),w',?_,hk w' hK.1 hK.2.1 hK.2.2⟩
 rw [hv] at hl
 simp [Builtin.copy_,run_underlying hu,Builtin.lenOf,Builtin.firstCells,sizeOf,typeInfo,hi,← hn,hl,hr]
 rfl
theorem clear0 (hu:P.underlying T=some (.slice E)) {a:Option Addr} {c:Nat}:(Builtin.clear_ #[T] ty #[.slice a 0 c]).run P w=.ok (resE [] ()) w:=by
 rcases a with _ | a <;> simp [Builtin.clear_,run_underlying hu] <;> rfl
theorem clearI (H:SlTy P T E t bytes) {z:t.T} {zv:Value} (hz:(P.info? E).bind (·.zero)=some zv) (hzc:zv.cells.toList=t.cells z) {g o n c:Nat} {Tb:TypeId} {cs:List Value} (B:Blk w g Tb cs) (hfit:o+n * t.size≤cs.length)
  {K:Unit→W R} (hk:∀ w',Blk w' g Tb (putAt cs o ((List.replicate n z).flatMap t.cells))→Fr (fun k=>k=g) w w'→w'.heap.size=w.heap.size→K () Q w') :
  rawW P (Builtin.clear_ #[T] ty #[.slice (some ⟨g,o,none⟩) n c]) [] K Q w:=by
 obtain ⟨i,z',h1,h2,h3,h4,h5⟩:=H.info
 rw [h1] at hz
 simp only [Option.bind_some,h2,Option.some.injEq] at hz
 subst hz
 rcases n with _ | n
 ·refine ⟨(),w,?_,hk w ?_ (Fr.refl _ _) rfl⟩
  ·simp [Builtin.clear_,run_underlying H.under]; rfl
  ·simpa [putAt] using B
 ·have hcells:(Builtin.zeroCells z'.cells (n+1)).toList=(List.replicate (n+1) z).flatMap t.cells:=by
   apply List.ext_getElem?
   intro j
   have hpos:=H.pos
   have hzs:z'.cells=⟨t.cells z⟩:=by rw [← hzc]
   have hsz:(t.cells z).length=t.size:=t.cells_len z
   by_cases hj:j < (n+1) * t.size
   ·have hq:j / t.size < n+1:=Nat.div_lt_of_lt_mul (by rw [Nat.mul_comm]; exact hj)
    have hml:j % t.size < (t.cells z).length:=by rw [hsz]; exact Nat.mod_lt _ hpos
    have e1:=Zga (l:=List.replicate (n+1) z) (i:=j / t.size) (x:=z) (by simp [hq]) (j % t.size) _ (List.getElem?_eq_getElem hml)
    rw [Nat.mul_comm,Nat.div_add_mod] at e1
    rw [e1,hzs]
    have hj':j < (Builtin.zeroCells ⟨t.cells z⟩ (n+1)).size:=by rw [size_zeroCells]; simp [hsz]; exact hj
    rw [Array.getElem?_toList,Array.getElem?_eq_getElem hj']
    simp only [Builtin.zeroCells,Array.getElem_map,Array.getElem_range,List.size_toArray,hsz]
    congr 1
    rw [getElem!_pos (c:=(⟨t.cells z⟩:Array Value)) (i:=j % t.size) (by simpa using hml)]
    simp
   ·rw [List.getElem?_eq_none,List.getElem?_eq_none]
    ·rw [Z27]; simp; omega
    ·rw [Array.length_toList,size_zeroCells,h5]; omega
  have h1c:∀ v∈(List.replicate (n+1) z).flatMap t.cells,v.oneCell'=true:=fun u hu=>by
   obtain ⟨x,_,hx⟩:=List.mem_flatMap.1 hu
   exact t.one x H.fine u hx
  obtain ⟨w',hr,hK⟩:=Zcg (P:=P) ⟨g,o,none⟩ ((List.replicate (n+1) z).flatMap t.cells) 0 (fun (_:R→World→Prop) w'=>Blk w' g Tb (putAt cs o ((List.replicate (n+1) z).flatMap t.cells))∧Fr (fun k=>k=g) w w'∧w'.heap.size=w.heap.size) (fun _ _=>True) w
   (stoBlk _ 0 B (by rw [Z27]; simpa using hfit) h1c fun w' hb hf hs=>⟨by simpa using hb,hf,hs⟩)
  refine ⟨(),w',?_,hk w' hK.1 hK.2.1 hK.2.2⟩
  simp only [Builtin.clear_]
  simp [run_underlying H.under,zeroValue,typeInfo,h1,h2,hcells,hr]
  rfl
def idxF {α:Type} (p:α→Bool) (l:List α):Int:=match l.findIdx? p with
 | some i=>(i:Int)
 | none=>-1
theorem idxFuncI {Q:Int→World→Prop} {callp:t.T→(Bool→W Int)→W Int} {sz:Nat} (p:t.T→Bool) (hS:SlT ok w t s l) (hsz:sz=t.size) (hm:l.length≤4611686018427387904)
  (hcall:∀ x∈l,∀ (X:Bool→W Int) w',Fr None w w'→(∀ w'',Fr None w' w''→X (p x) Q w'')→callp x X Q w') (hk:∀ w',Fr None w w'→Q (idxF p l) w') :
  loopW (fun K i=>cond (decide (i < (s.n:Int))) (idxW s.a s.n sz i fun a=>ld t a fun x=>callp x fun b=>cond b (retW i) (K (IntKind.wrap .i64 (i+1)))) (retW (-1))) 0 Q w:=by
 refine rangeI (body:=fun K i x=>callp x fun b=>cond b (retW i) (K (IntKind.wrap .i64 (i+1)))) (done:=fun _=>retW (-1)) (fun s:Int=>s) (fun j i w'=>i=(j:Int)∧Fr None w w'∧∀ q y,q < j→l[q]?=some y→p y=false) hsz ⟨rfl,Fr.refl _ _,by omega⟩ (fun j s w' h=>h.1) (fun j s w' h=>hS.fr0 h.2.1) ?_ ?_
 ·rintro j x i w' K hx ⟨rfl,f,hno⟩ - hK
  obtain ⟨hj,hxe⟩:=List.getElem?_eq_some_iff.1 hx
  refine hcall x (List.mem_of_getElem? hx) _ w' f fun w'' f2=>?_
  refine condI (fun hp=>?_) fun hp=>?_
  ·have e:idxF p l=(j:Int):=by
    have:l.findIdx? p=some j:=by
     rw [List.findIdx?_eq_some_iff_getElem]
     exact ⟨hj,by rw [hxe]; exact hp,fun q hq=>by rw [hno q _ hq (List.getElem?_eq_getElem (by omega))]; simp⟩
    rw [idxF,this]
   have:=hk w'' (f.then0 f2)
   rw [e] at this
   exact this
  ·refine hK _ _ ⟨wsucc (N:=l.length) hj (by omega),f.then0 f2,fun q y hq hy=>?_⟩
   rcases Nat.lt_succ_iff_lt_or_eq.1 hq with h | h
   ·exact hno q y h hy
   ·subst h; rw [hx] at hy; cases hy; exact hp
 ·rintro i w' ⟨_,f,hno⟩
  have e:idxF p l=-1:=by
   have:l.findIdx? p=none:=by
    rw [List.findIdx?_eq_none_iff]
    intro y hy
    obtain ⟨q,hq⟩:=List.mem_iff_getElem?.1 hy
    exact hno q y (List.getElem?_eq_some_iff.1 hq).1 hq
   rw [idxF,this]
  have:=hk w' f
  rw [e] at this
  exact this
theorem Zr1 {α:Type} {p:α→Bool} {l:List α} {i:Nat} (h:idxF p l=(i:Int)):∃ x,l[i]?=some x∧p x=true∧∀ q y,q < i→l[q]?=some y→p y=false:=by
 unfold idxF at h
 split at h
 ·rename_i j hj
  have:j=i:=by omega
  subst this
  rw [List.findIdx?_eq_some_iff_getElem] at hj
  obtain ⟨h1,h2,h3⟩:=hj
  refine ⟨l[j],List.getElem?_eq_getElem h1,h2,fun q y hq hy=>?_⟩
  obtain ⟨_,rfl⟩:=List.getElem?_eq_some_iff.1 hy
  simpa using h3 q hq
 ·omega
theorem Zk9 {α:Type} (p:α→Bool) (l:List α):(idxF p l=-1∧∀ y∈l,p y=false)∨∃ i:Nat,idxF p l=(i:Int):=by
 unfold idxF
 cases h:l.findIdx? p with
 | none=>left; rw [List.findIdx?_eq_none_iff] at h; exact ⟨rfl,h⟩
 | some i=>right; exact ⟨i,rfl⟩
theorem Zjd {α:Type} {p:α→Bool} {l:List α} {i:Nat} (hno:∀ q y,q < i→l[q]?=some y→p y=false):(l.take i).filter (fun x=>!p x)=l.take i:=by
 rw [List.filter_eq_self]
 intro y hy
 obtain ⟨q,hq⟩:=List.mem_iff_getElem?.1 hy
 rw [List.getElem?_take] at hq
 split at hq
 ·rename_i hlt; rw [hno q y hlt hq]; rfl
 ·cases hq
theorem delFuncI {Q:Sl→World→Prop} {callp:t.T→(Bool→W Sl)→W Sl} {sz:Nat} {z:t.T} {zv:Value} {Tv:TypeId} {zs:List Value} (p:t.T→Bool) (H:SlTy P T E t bytes) (hz:(P.info? E).bind (·.zero)=some zv) (hzc:zv.cells.toList=t.cells z) (hzl:zs.length=t.size)
  (ho:Own S w E t s l) (hsz:sz=t.size) (hm:l.length≤4611686018427387904) {i:Nat} (hi:idxF p l=(i:Int))
  (hcall:∀ x∈l,∀ (X:Bool→W Sl) w',Fr (Ex S w) w w'→(∀ w'',Fr None w' w''→X (p x) Q w'')→callp x X Q w')
  (hk:∀ n w',Own S w' E t ⟨s.a,n,s.c⟩ (l.filter fun x=>!p x)→Fr S w w'→Q ⟨s.a,n,s.c⟩ w') :
  loopW (σ:=Int × Int) (fun K s3=>cond (decide (s3.2 < (s.n:Int))) (idxW s.a s.n sz s3.2 fun a=>ld t a fun x=>newW Tv zs fun v=>stoL v (t.cells x) 0 <| ld t v fun y=>callp y fun b =>
    joinW (σ:=Int) (fun J=>cond (!b) (ld t v fun y2=>idxW s.a s.n sz s3.1 fun a2=>stoL a2 (t.cells y2) 0 <| J (IntKind.wrap .i64 (s3.1+1))) (J s3.1)) fun s12=>K (s12,IntKind.wrap .i64 (s3.2+1)))
   (slcW s.a s.n s.c sz (some s3.1) none fun x13=>rawW P (Builtin.clear_ #[T] 0 #[.slice x13.a x13.n x13.c]) [] fun (_:Unit)=>slcW s.a s.n s.c sz none (some s3.1) fun x15=>retW x15))
   ((i:Int),IntKind.wrap .i64 ((i:Int)+1)) Q w:=by
 subst hsz
 obtain ⟨x0,hx0,hp0,hno⟩:=Zr1 hi
 have hil:=(List.getElem?_eq_some_iff.1 hx0).1
 have hn:=ho.len
 let flt:List t.T→List t.T:=fun l=>l.filter fun x=>!p x
 have inv0:∃ L:List t.T,L.length=l.length∧L.drop (i+1)=l.drop (i+1)∧L.take (flt (l.take (i+1))).length=flt (l.take (i+1))∧(flt (l.take (i+1))).length=i∧Own S w E t s L:=by
  have e:flt (l.take (i+1))=l.take i:=by
   show List.filter _ _=_
   rw [Z1q hx0,List.filter_append,Zjd hno]
   simp [hp0]
  rw [e]
  have hl:(l.take i).length=i:=by simp; omega
  exact ⟨l,rfl,rfl,by rw [hl],hl,ho⟩
 have le:∀ j,(flt (l.take j)).length≤j:=fun j=>Nat.le_trans (List.length_filter_le _ _) (by simp; omega)
 refine loopI (fun s3 w'=>∃ j:Nat,i+1≤j∧j≤l.length∧s3=(((flt (l.take j)).length:Int),(j:Int))∧Fr S w w'∧∃ L:List t.T,L.length=l.length∧L.drop j=l.drop j∧L.take (flt (l.take j)).length=flt (l.take j)∧Own S w' E t s L) (fun s3 _=>l.length - s3.2.toNat) ?_ ?_
 ·obtain ⟨L,h1,h2,h3,h4,h5⟩:=inv0
  refine ⟨i+1,Nat.le_refl _,hil,?_,Fr.refl _ _,L,h1,h2,h3,h5⟩
  rw [h4,w64 (by omega)]; rfl
 ·rintro s3 w' ⟨j,hij,hjl,rfl,f,L,hL,hdrop,htake,hoL⟩
  have hle:=le j
  refine condD (fun hlt=>?_) fun hge=>?_
  ·have hj:j < l.length:=by have:(j:Int) < (s.n:Int):=hlt; omega
   have hxj:L[j]?=l[j]?:=by
    have:=congrArg (·[0]?) hdrop
    simpa using this
   obtain ⟨x,hx⟩:∃ x,l[j]?=some x:=⟨_,List.getElem?_eq_getElem hj⟩
   refine hoL.sl.get rfl rfl (by omega) fun x' hx'=>?_
   rw [hxj,hx] at hx'
   cases hx'
   refine newI fun w1 B1 f1 s1=>stoBlk (T:=Tv) (t.cells x) 0 B1 (by rw [t.cells_len,hzl]; omega) (t.one x H.fine) fun w2 B2 f2 s2=>?_
   rw [Nat.add_zero,Zin (by rw [t.cells_len,hzl])] at B2
   have f12:Fr None w' w2:=f1.newer f2 fun k e=>by omega
   have ldx:∀ {w3:World} {K:t.T→W Sl},Blk w3 w'.heap.size Tv (t.cells x)→K x Q w3→ld t ⟨w'.heap.size,0,none⟩ K Q w3:=fun B hk=>ldI x (Rd.cells.2 (B.cells 0 _ fun j u h=>by rw [Nat.zero_add]; exact h)) hk
   refine ldx B2 ?_
   refine hcall x (List.mem_of_getElem? hx) _ w2 ((f.then0 f12).sub fun _ h=>.inl h) fun w3 f3=>?_
   have B3:=B2.fr f3 fun h=>h
   have f13:=f12.then0 f3
   have hsn:flt (l.take (j+1))=flt (l.take j) ++ (if p x then [] else [x]):=by
    show List.filter _ _=_
    rw [Z1q hx,List.filter_append]
    cases hpx:p x <;> simp [hpx]
    rfl
    rfl
   refine joinI (fun s12 w''=>s12=((flt (l.take (j+1))).length:Int)∧Fr S w w''∧∃ L:List t.T,L.length=l.length∧L.drop (j+1)=l.drop (j+1)∧L.take (flt (l.take (j+1))).length=flt (l.take (j+1))∧Own S w'' E t s L) ?_ ?_
   ·have hd1:∀ L':List t.T,L'.drop j=l.drop j→L'.drop (j+1)=l.drop (j+1):=fun L' h=>by
     have:=congrArg (List.drop 1) h
     simpa [List.drop_drop,Nat.add_comm] using this
    have o3:=hoL.none f13
    refine condI (fun hpf=>?_) fun hpt=>?_
    ·have hpf:p x=false:=by simpa using hpf
     rw [hpf] at hsn
     simp only [Bool.false_eq_true,if_false] at hsn
     refine ldx B3 ?_
     refine o3.idx rfl (by omega) (by omega) fun g y hg hy _=>?_
     rw [Int.toNat_natCast]
     refine o3.set H.fine (i:=(flt (l.take j)).length) (by omega) hg x fun w4 o4 f4 s4=>?_
     refine ⟨?_,(f.then0 f13).then (f4.mono fun k _ e=>o3.own k e),L.set (flt (l.take j)).length x,by rw [List.length_set]; exact hL,?_,?_,o4⟩
     ·rw [hsn,w64 (by omega)]; simp
     ·rw [List.drop_set_of_lt (by omega)]
      exact hd1 L hdrop
     ·rw [hsn,List.length_append,List.length_singleton]
      have hx2:(L.set (flt (l.take j)).length x)[(flt (l.take j)).length]?=some x:=by rw [List.getElem?_set_self (by omega)]
      rw [Z1q hx2,List.take_set_of_le (Nat.le_refl _),htake]
    ·have hpt:p x=true:=by simpa using hpt
     rw [hpt] at hsn
     simp only [if_true,List.append_nil] at hsn
     refine ⟨by rw [hsn],f.then0 f13,L,hL,hd1 L hdrop,by rw [hsn]; exact htake,o3⟩
   ·rintro s12 w5 ⟨rfl,f5,L',h1,h2,h3,h4⟩
    refine ⟨⟨j+1,by omega,hj,?_,f5,L',h1,h2,h3,h4⟩,?_⟩
    ·rw [w64 (by omega)]; rfl
    ·simp only []
     rw [w64 (by omega)]
     omega
  ·have hjl:j=l.length:=by have:¬ (j:Int) < (s.n:Int):=hge; omega
   subst hjl
   rw [List.take_length] at htake hle ⊢
   have fin:∀ {w1:World},Own S w1 E t ⟨s.a,(flt l).length,s.c⟩ (flt l)→Fr S w w1→slcW s.a s.n s.c t.size none (some ((flt l).length:Int)) (fun x15=>retW x15) Q w1:=fun {w1} o1 f1=>by
    have hc:=hoL.cap
    refine chkI (by simp only [Option.getD_some,Option.getD_none]; omega) ?_
    simp only [Option.getD_some,Option.getD_none,Int.toNat_natCast]
    have e:(if s.c=Int.toNat 0 then s.a else s.a.map (·.add ((Int.toNat 0) * t.size)))=s.a:=by
     split
     ·rfl
     ·cases s.a with
      | none=>rfl
      | some a=>simp [Addr.add]
    rw [e]
    exact hk (flt l).length w1 o1 f1
   have otake:Own S w' E t ⟨s.a,(flt l).length,s.c⟩ (flt l):=by
    have:=hoL.take (n:=(flt l).length) (by omega)
    rwa [htake] at this
   rcases hoL.cases with ⟨rfl,rfl⟩ | ⟨g,c,cur,hs,hg,h3,h4,h5,h6,h7⟩
   ·simp at hL; omega
   ·have hcs:s.c=c:=by rw [hs]
    have hcl:cur.toList.length=c * t.size:=by rw [Array.length_toList]; exact h6
    have han:s.a=some ⟨g,0,none⟩:=by rw [hs]
    refine chkI (by simp only [Option.getD_some,Option.getD_none]; omega) ?_
    simp only [Option.getD_some,Option.getD_none,Int.toNat_natCast]
    by_cases hk0:(flt l).length=l.length
    ·refine ⟨(),w',?_,fin otake f⟩
     have:s.n - (flt l).length=0:=by omega
     rw [this]
     exact clear0 H.under
    ·rw [if_neg (by omega),han,Option.map_some,Z3,Nat.zero_add]
     refine clearI H hz hzc (n:=s.n - (flt l).length) (show Blk w' g E cur.toList from h3) ?_ fun w1 B1 f1 s1=>?_
     ·rw [hcl,← Nat.add_mul]
      exact Nat.mul_le_mul_right _ (by omega)
     ·rw [← han]
      refine fin ?_ (f.then (f1.mono fun k _ e=>by rw [e]; exact hg))
      have hlen:((List.replicate (s.n - (flt l).length) z).flatMap t.cells).length=(s.n - (flt l).length) * t.size:=by rw [Z27]; simp
      rw [han,hcs]
      refine Own.mk' (cur:=⟨putAt cur.toList ((flt l).length * t.size) ((List.replicate (s.n - (flt l).length) z).flatMap t.cells)⟩) hg B1 (by omega) h5 (by simp [Z2b,h6]) ?_
      have hfit:(flt l).length * t.size+(s.n - (flt l).length) * t.size≤cur.toList.length:=by rw [hcl,← Nat.add_mul]; exact Nat.mul_le_mul_right _ (by omega)
      rw [Z53 _ (by rw [hlen]; exact hfit),List.append_assoc,List.take_append_of_le_length (by simp; omega),List.take_take,Nat.min_self]
      have:cur.toList.take ((flt l).length * t.size)=(cur.toList.take (L.length * t.size)).take ((flt l).length * t.size):=by
       rw [List.take_take,Nat.min_eq_left (Nat.mul_le_mul_right _ (by omega))]
      rw [this,h7,← Zf6,htake]
theorem Zc8 (w:World) (tn:TypeId) (i:TypeInfo) (z:Value) (k kn:IntKind) (ht:P.underlying T=some (.slice E)) (htn:P.underlying tn=some (.int kn)) (hi:P.info? E=some i) (hz:i.zero=some z)
  (b:Addr) (sLen sCap:Nat) (olds:List Value) (hlo:olds.length=sLen * i.size) (holds:∀ j v,olds[j]?=some v→w.cell? (b.add j)=some v) (n:Nat) (h0:0 < n * i.size)
  (hg:sCap < sLen+n) (h63:((sLen+n:Nat):Int)≤9223372036854775807) (hfit:Builtin.nextslicecap (sLen+n) sCap * i.bytes≤281474976710656) (h48:n * i.bytes≤281474976710656) :
  (Builtin.append_ #[T,tn] ty #[.slice (some b) sLen sCap,.int k n]).run P w =
   .ok (.slice (some ⟨w.heap.size,0,none⟩) (sLen+n) (grownCap w (sLen+n) sCap E))
    (w.drew.alloc (.cells (olds.toArray ++ Builtin.zeroCells z.cells n ++ Builtin.zeroCells z.cells (grownCap w (sLen+n) sCap E - (sLen+n))) E)):=by
 have hn:¬ (sLen+n≤sCap):=by omega
 have hw:IntKind.i64.wrap (n:Int)=n:=by rw [IntKind.wrap_i64]; omega
 have h63':¬ (9223372036854775807 < ((sLen:Int)+(n:Int))):=by omega
 have h48':¬ (281474976710656 < Builtin.nextslicecap (sLen+n) sCap * i.bytes):=by omega
 have h48i:¬ (281474976710656 < (n:Int) * (i.bytes:Int)):=by rw [← Int.natCast_mul]; omega
 have hns:¬ (n * i.size=0):=by omega
 have hns':¬ (n=0∨i.size=0):=by
  rintro (h | h)
  ·rw [h] at h0; simp at h0
  ·rw [h] at h0; simp at h0
 have hfo:=run_firstCells_some (P:=P) w.drew i.size sLen b sLen sCap olds hlo (by simpa using holds)
 simp [Builtin.append_,run_underlying ht,run_underlying htn,sizeOf,typeInfo,zeroValue,hi,hz,asInt,asIntOf,hw,hn,h63',h48',h48i,hns,show ¬ ((n:Int) < 0) by omega,Question.forced,hfo,newRow,grownCap]
theorem Zr2 {z:Nat} {A X D cs:List Value} {i d:Nat} (hA:cs.take (i * z)=A) (hAl:A.length=i * z) (hX:X.length=z) (hD:D.length=d * z) (hfit:(i+1+d) * z≤cs.length) :
  (putAt (putAt cs (i * z) X) ((i+1) * z) D).take ((i+1+d) * z)=A ++ X ++ D:=by
 have e1:(i+1) * z=i * z+z:=by rw [Nat.add_mul]; omega
 have e2:(i+1+d) * z=i * z+z+d * z:=by rw [Nat.add_mul,e1]
 rw [e2] at hfit ⊢
 rw [e1,Z53 D (by rw [Z2b,hD]; exact hfit),Z53 X (by omega),hA]
 have h1:List.take (i * z+z) (A ++ X ++ List.drop (i * z+X.length) cs)=A ++ X:=by
  rw [show i * z+z=(A ++ X).length by simp; omega,List.take_left]
 rw [h1,show i * z+z+d * z=(A ++ X ++ D).length by simp; omega,List.take_left]
theorem Zpt {z:Nat} {A X D cs:List Value} {i d:Nat} (hA:cs.take (i * z)=A) (hAl:A.length=i * z) (hX:X.length=z) (hD:D.length=d * z) (hfit:(i+1+d) * z≤cs.length) :
  (putAt (putAt cs ((i+1) * z) D) (i * z) X).take ((i+1+d) * z)=A ++ X ++ D:=by
 have e1:(i+1) * z=i * z+z:=by rw [Nat.add_mul]; omega
 have e2:(i+1+d) * z=i * z+z+d * z:=by rw [Nat.add_mul,e1]
 rw [e2] at hfit ⊢
 rw [e1,Z53 X (by rw [Z2b]; omega),Z53 D (by omega)]
 have h0:(List.take (i * z+z) cs).length=i * z+z:=by simp; omega
 have h1:List.take (i * z) (List.take (i * z+z) cs ++ D ++ List.drop (i * z+z+D.length) cs)=A:=by
  rw [List.append_assoc,List.take_append_of_le_length (by omega),List.take_take,Nat.min_eq_left (by omega),hA]
 have h2:List.drop (i * z+X.length) (List.take (i * z+z) cs ++ D ++ List.drop (i * z+z+D.length) cs)=D ++ List.drop (i * z+z+D.length) cs:=by
  rw [List.append_assoc,show i * z+X.length=(List.take (i * z+z) cs).length by omega,List.drop_left]
 rw [h1,h2,← List.append_assoc,show i * z+z+d * z=(A ++ X ++ D).length by simp; omega,List.take_left]
end Go.Proofs.YtoiahhpgkoknfaaGreat.Den
namespace Go.Proofs.YtoiahhpgkoknfaaGreat
open Go Go.RowKit Go.Proofs.YtoiahhpgkoknfaaGreat.Den
abbrev Ent:=Int × List Comp
def kindsOf (m:Nat):List Int:=((List.range 6).filter (Nat.testBit m)).map fun (k:Nat)=>(k:Int)
abbrev F3:=Int × Int × Int
def fieldsOf (l:List Comp) (k:Int):F3:=match l.find? (fun c=>c.1 == k) with
 | some c=>c.2
 | none=>(0,0,0)
structure Valid (m:Nat) (l:List Comp):Prop where
 list:listE l=0
 mask:maskN l=m
abbrev Rising (l:List Int):Prop:=l.Pairwise (· < ·)
theorem Zkl:∀ {l k:List Int},Rising l→Rising k→(∀ x,x∈l↔x∈k)→l=k
 | [],[],_,_,_=>rfl
 | [],y :: k,_,_,h=>by have:=(h y).2 List.mem_cons_self; simp at this
 | x :: l,[],_,_,h=>by have:=(h x).1 List.mem_cons_self; simp at this
 | x :: l,y :: k,hl,hk,h=>by
  rw [Rising,List.pairwise_cons] at hl hk
  have hxy:x=y:=by
   rcases List.mem_cons.1 ((h x).1 List.mem_cons_self) with e | e
   ·exact e
   ·rcases List.mem_cons.1 ((h y).2 List.mem_cons_self) with e2 | e2
    ·exact e2.symm
    ·have h1:=hk.1 x e
     have h2:=hl.1 y e2
     omega
  subst hxy
  congr 1
  refine Zkl hl.2 hk.2 fun z=>⟨fun hz=>?_,fun hz=>?_⟩
  ·rcases List.mem_cons.1 ((h z).1 (List.mem_cons_of_mem _ hz)) with e | e
   ·have:=hl.1 z hz; omega
   ·exact e
  ·rcases List.mem_cons.1 ((h z).2 (List.mem_cons_of_mem _ hz)) with e | e
   ·have:=hk.1 z hz; omega
   ·exact e
theorem Zr6:∀ {l:List Comp} {last:Int},listM last l=0↔(∀ c∈l,checkM c=0∧last < c.1)∧Rising (l.map (·.1))
 | [],_=>by simp [listM]
 | c :: r,last=>by
  rw [listM]
  by_cases h1:checkM c=0
  ·rw [if_neg (by simpa using h1)]
   by_cases h2:c.1≤last
   ·rw [if_pos h2]
    simp
    intro h3
    omega
   ·rw [if_neg h2,Zr6,List.map_cons,Rising,Rising,List.pairwise_cons]
    constructor
    ·rintro ⟨h3,h4⟩
     refine ⟨fun x hx=>?_,fun y hy=>?_,h4⟩
     ·rcases List.mem_cons.1 hx with rfl | hx
      ·exact ⟨h1,by omega⟩
      ·have:=h3 x hx; exact ⟨this.1,by omega⟩
     ·obtain ⟨x,hx,rfl⟩:=List.mem_map.1 hy
      exact (h3 x hx).2
    ·rintro ⟨h3,h4,h5⟩
     exact ⟨fun x hx=>⟨(h3 x (List.mem_cons_of_mem _ hx)).1,h4 _ (List.mem_map_of_mem hx)⟩,h5⟩
  ·rw [if_pos (by simpa using h1)]
   constructor
   ·intro h; exact absurd h h1
   ·rintro ⟨h3,_⟩; exact absurd (h3 c List.mem_cons_self).1 h1
theorem Z3x {l:List Comp}:listE l=0↔(∀ c∈l,checkM c=0)∧Rising (l.map (·.1)):=by
 unfold listE
 rw [Zr6]
 constructor
 ·rintro ⟨h1,h2⟩; exact ⟨fun c hc=>(h1 c hc).1,h2⟩
 ·rintro ⟨h1,h2⟩; exact ⟨fun c hc=>⟨h1 c hc,by have:=Z49 (h1 c hc); omega⟩,h2⟩
theorem Zny {l:List Comp} {k:Nat}:has l k=true↔(k:Int)∈l.map (·.1):=by
 simp [has]
theorem Z1i {m:Nat} {x:Int}:x∈kindsOf m↔∃ k:Nat,k < 6∧Nat.testBit m k=true∧x=(k:Int):=by
 simp only [kindsOf,List.mem_map,List.mem_filter,List.mem_range]
 constructor
 ·rintro ⟨k,⟨h1,h2⟩,rfl⟩; exact ⟨k,h1,h2,rfl⟩
 ·rintro ⟨k,h1,h2,rfl⟩; exact ⟨k,⟨h1,h2⟩,rfl⟩
theorem Z6n (m:Nat):Rising (kindsOf m):=by
 unfold kindsOf Rising
 rw [List.pairwise_map]
 refine (List.Pairwise.filter _ List.pairwise_lt_range).imp fun h=>?_
 exact Int.ofNat_lt.2 h
theorem Zlc {m:Nat} {x:Int} (h:x∈kindsOf m):0≤x∧x < 6:=by
 obtain ⟨k,hk,_,rfl⟩:=Z1i.1 h
 omega
theorem Valid.kinds {m:Nat} {l:List Comp} (h:Valid m l):l.map (·.1)=kindsOf m:=by
 obtain ⟨h1,h2⟩:=Z3x.1 h.list
 refine Zkl h2 (Z6n m) fun x=>?_
 rw [Z1i]
 constructor
 ·intro hx
  obtain ⟨c,hc,rfl⟩:=List.mem_map.1 hx
  have hk:=Z49 (h1 c hc)
  refine ⟨c.1.toNat,by omega,?_,by omega⟩
  rw [← h.mask,Zfa l (by omega),Zny,show ((c.1.toNat:Nat):Int)=c.1 by omega]
  exact List.mem_map_of_mem hc
 ·rintro ⟨k,hk,hb,rfl⟩
  rw [← h.mask,Zfa l hk,Zny] at hb
  exact hb
theorem Z9n {l:List Comp} (hr:Rising (l.map (·.1))) {c:Comp} (hc:c∈l):fieldsOf l c.1=c.2:=by
 unfold fieldsOf
 have:l.find? (fun x=>x.1 == c.1)=some c:=by
  induction l with
  | nil=>simp at hc
  | cons x r ih =>
   rw [List.map_cons,Rising,List.pairwise_cons] at hr
   rcases List.mem_cons.1 hc with h | h
   ·subst h; simp
   ·have:=hr.1 c.1 (List.mem_map_of_mem h)
    rw [List.find?_cons_of_neg (by simp; omega)]
    exact ih hr.2 h
 rw [this]
theorem Valid.rising {m:Nat} {l:List Comp} (h:Valid m l):Rising (l.map (·.1)):=(Z3x.1 h.list).2
theorem Valid.eq {m:Nat} {l:List Comp} (h:Valid m l):l=(kindsOf m).map fun k=>(k,fieldsOf l k):=by
 have e1:(kindsOf m).map (fun k=>(k,fieldsOf l k))=l.map fun c=>(c.1,fieldsOf l c.1):=by
  rw [← h.kinds,List.map_map]; rfl
 rw [e1]
 have:l.map (fun c=>(c.1,fieldsOf l c.1))=l.map id:=List.map_congr_left fun c hc=>by rw [Z9n h.rising hc]; rfl
 rw [this,List.map_id]
theorem Valid.mk' {m:Nat} (hm:m < 64) {g:Int→F3} (hc:∀ k∈kindsOf m,checkM (k,g k)=0):Valid m ((kindsOf m).map fun k=>(k,g k)):=by
 have e:((kindsOf m).map fun k=>((k,g k):Comp)).map (·.1)=kindsOf m:=by rw [List.map_map]; exact List.map_id _
 constructor
 ·rw [Z3x,e]
  refine ⟨fun c hc'=>?_,Z6n m⟩
  obtain ⟨k,hk,rfl⟩:=List.mem_map.1 hc'
  exact hc k hk
 ·refine Zp4 (Z66 _) hm fun k hk=>?_
  rw [Zfa _ hk,Bool.eq_iff_iff,Zny,e,Z1i]
  constructor
  ·rintro ⟨q,_,hb,he⟩
   have:q=k:=by omega
   subst this; exact hb
  ·intro hb; exact ⟨k,hk,hb,rfl⟩
theorem Valid.small {m:Nat} {l:List Comp} (h:Valid m l):l.length≤6:=by
 have:(l.map (·.1)).length=l.length:=List.length_map _
 rw [← this,h.kinds,kindsOf,List.length_map]
 exact List.length_filter_le _ (List.range 6)
theorem Zkr {c:Comp}:∀ {l:List Comp},(∀ x∈l,x.1≠c.1)→withG c true l=l
 | [],_=>rfl
 | x :: r,h=>by
  rw [withG,Bool.true_or,Zkr fun y hy=>h y (List.mem_cons_of_mem _ hy)]
  simp [h x List.mem_cons_self]
theorem Znh {c:Comp}:∀ {l:List Comp},Rising (l.map (·.1))→c.1∈l.map (·.1)→withM l c=l.map fun x=>if x.1=c.1 then c else x
 | [],_,h=>by simp at h
 | x :: r,hr,hm=>by
  rw [List.map_cons,Rising,List.pairwise_cons] at hr
  rw [withM,withG]
  by_cases h:x.1=c.1
  ·have hno:∀ y∈r,y.1≠c.1:=fun y hy e=>by have:=hr.1 y.1 (List.mem_map_of_mem hy); omega
   rw [List.map_cons,if_pos h]
   have:r.map (fun x=>if x.1=c.1 then c else x)=r:=by
    have e:r.map (fun x=>if x.1=c.1 then c else x)=r.map id:=List.map_congr_left fun y hy=>by rw [if_neg (hno y hy)]; rfl
    rw [e,List.map_id]
   rw [this]
   have hge:decide (x.1 ≥ c.1)=true:=decide_eq_true (by omega)
   rw [hge,Bool.or_true,Zkr (by simpa using hno)]
   simp [h]
  ·have hm':c.1∈r.map (·.1):=by
    rcases List.mem_cons.1 hm with e | e
    ·exact absurd e.symm h
    ·exact e
   have hlt:=hr.1 c.1 hm'
   have hge:decide (x.1 ≥ c.1)=false:=decide_eq_false (by omega)
   rw [hge,List.map_cons,if_neg h]
   have ih:=Znh hr.2 hm'
   rw [withM] at ih
   simp [h,ih]
theorem Zjh {m:Nat} (hm:m < 64) {l:List Comp} {c:Comp} (h:Valid m l) (hc:checkM c=0) (hk:c.1∈kindsOf m):Valid m (withM l c)∧∀ k∈kindsOf m,fieldsOf (withM l c) k=if k=c.1 then c.2 else fieldsOf l k:=by
 have e1:=Znh h.rising (c:=c) (by rw [h.kinds]; exact hk)
 have e2:withM l c=(kindsOf m).map fun k=>(k,if k=c.1 then c.2 else fieldsOf l k):=by
  rw [e1]
  conv=>lhs; rw [h.eq]
  rw [List.map_map]
  refine List.map_congr_left fun k _=>?_
  simp only [Function.comp]
  split
  ·rename_i e; rw [e]
  ·rfl
 have hv:Valid m ((kindsOf m).map fun k=>(k,if k=c.1 then c.2 else fieldsOf l k)):=Valid.mk' hm fun k hk2=>by
  split
  ·rename_i e; subst e; exact hc
  ·have:((k,fieldsOf l k):Comp)∈l:=by rw [h.eq]; exact List.mem_map.2 ⟨k,hk2,by rw [← h.eq]⟩
   exact (Z3x.1 h.list).1 _ this
 rw [e2]
 refine ⟨hv,fun k hk2=>?_⟩
 exact Z9n hv.rising (c:=(k,if k=c.1 then c.2 else fieldsOf l k)) (List.mem_map.2 ⟨k,hk2,rfl⟩)
def rowM (L:List Ent) (id:Int):Option Nat:=L.findIdx? (fun e=>e.1 == id)
theorem Z4d {L:List Ent} {id:Int} {i:Nat} (h:rowM L id=some i):i < L.length∧∃ e,L[i]?=some e∧e.1=id:=by
 unfold rowM at h
 rw [List.findIdx?_eq_some_iff_getElem] at h
 obtain ⟨h1,h2,_⟩:=h
 exact ⟨h1,L[i],List.getElem?_eq_getElem h1,by simpa using h2⟩
theorem Zio {L:List Ent} {id:Int}:rowM L id=none↔∀ e∈L,e.1≠id:=by
 unfold rowM
 rw [List.findIdx?_eq_none_iff]
 simp
theorem Ze2 {L:List Ent} (hn:(L.map (·.1)).Nodup) {i:Nat} {e:Ent} (h:L[i]?=some e):rowM L e.1=some i:=by
 unfold rowM
 rw [List.findIdx?_eq_some_iff_getElem]
 obtain ⟨hl,he⟩:=List.getElem?_eq_some_iff.1 h
 refine ⟨hl,by simp [he],fun j hj=>?_⟩
 have hp:=List.pairwise_iff_getElem.1 hn j i (by simp; omega) (by simp; omega) hj
 simp only [List.getElem_map,he] at hp
 simpa using hp
def addM (m:Nat) (L:List Ent) (id:Int) (l:List Comp):Int:=if listE l≠0 then listE l else if maskN l≠m then 4 else if (rowM L id).isSome then 9 else 0
def compM (L:List Ent) (i:Nat) (k:Int):Comp:=(k,fieldsOf ((L[i]?.map (·.2)).getD []) k)
def getM (m:Nat) (L:List Ent) (id k:Int):Comp × Int:=match rowM L id with
 | none=>((0,0,0,0),7)
 | some i=>if k∈kindsOf m then (compM L i k,0) else ((0,0,0,0),10)
def setM (m:Nat) (L:List Ent) (id:Int) (c:Comp):Int:=if checkM c≠0 then checkM c else match rowM L id with
 | none=>7
 | some _=>if c.1∈kindsOf m then 0 else 10
def setL (L:List Ent) (i:Nat) (c:Comp):List Ent:=L.modify i fun e=>(e.1,withM e.2 c)
def dropI {α:Type} (l:List α) (i:Nat):List α:=(match l[l.length - 1]? with
 | some z=>l.set i z
 | none=>l).take (l.length - 1)
theorem Zf5 {α β:Type} (f:α→β) (l:List α) (i:Nat):(dropI l i).map f=dropI (l.map f) i:=by
 unfold dropI
 rw [List.length_map,List.getElem?_map]
 cases l[l.length - 1]? <;> simp [List.map_take,List.map_set]
theorem Zl4 {α:Type} {l:List α} {i:Nat} {z:α} (h:l[l.length - 1]?=some z):dropI l i=(l.set i z).take (l.length - 1):=by rw [dropI,h]
theorem Z8j {α:Type} (l:List α) (i:Nat):(dropI l i).length=l.length - 1:=by
 unfold dropI
 cases l[l.length - 1]? <;> simp
structure TabOk (m:Nat) (L:List Ent):Prop where
 mask:m < 64
 nodup:(L.map (·.1)).Nodup
 ids:∀ e∈L,0≤e.1∧e.1≤4294967295
 valid:∀ e∈L,Valid m e.2
 small:L.length≤1048576
theorem TabOk.nil {m:Nat} (h:m < 64):TabOk m []:=⟨h,by simp,by simp,by simp,by simp⟩
theorem TabOk.add {m:Nat} {L:List Ent} (h:TabOk m L) {id:Int} {l:List Comp} (hid:0≤id∧id≤4294967295) (ha:addM m L id l=0) (hs:L.length < 1048576):TabOk m (L ++ [(id,l)]):=by
 unfold addM at ha
 split at ha
 ·rename_i h1; exact absurd ha h1
 ·rename_i h1
  split at ha
  ·cases ha
  ·rename_i h2
   split at ha
   ·cases ha
   ·rename_i h3
    have hr:rowM L id=none:=by simpa using h3
    refine ⟨h.mask,?_,?_,?_,by simp; omega⟩
    ·rw [List.map_append,List.nodup_append]
     refine ⟨h.nodup,by simp,fun x hx y hy=>?_⟩
     simp at hy
     subst hy
     obtain ⟨e,he,rfl⟩:=List.mem_map.1 hx
     exact Zio.1 hr e he
    ·intro e he
     rcases List.mem_append.1 he with he | he
     ·exact h.ids e he
     ·simp at he; subst he; exact hid
    ·intro e he
     rcases List.mem_append.1 he with he | he
     ·exact h.valid e he
     ·simp at he; subst he; exact ⟨by simpa using h1,by simpa using h2⟩
theorem Zpb (L:List Ent) (id:Int):rowM L id=(L.map (·.1)).findIdx? (fun x=>x == id):=by
 unfold rowM
 rw [List.findIdx?_map]
 rfl
theorem Zkm {L L':List Ent} (h:L'.map (·.1)=L.map (·.1)):rowM L'=rowM L:=by
 funext id
 rw [Zpb,Zpb,h]
theorem Zpa {L:List Ent} (hn:(L.map (·.1)).Nodup) {id:Int} {q:Nat}:rowM L id=some q↔∃ x,L[q]?=some x∧x.1=id:=by
 constructor
 ·intro h; exact (Z4d h).2
 ·rintro ⟨x,hx,rfl⟩; exact Ze2 hn hx
theorem Z6w {α:Type} {l:List α} {i q:Nat} {z:α} (hz:l[l.length - 1]?=some z):(dropI l i)[q]?=if q < l.length - 1 then (if q=i then some z else l[q]?) else none:=by
 rw [Zl4 hz,List.getElem?_take]
 by_cases hq:q < l.length - 1
 ·rw [if_pos hq,if_pos hq,List.getElem?_set]
  by_cases hi:i=q
  ·subst hi
   rw [if_pos rfl,if_pos rfl,if_pos (by omega)]
  ·rw [if_neg hi,if_neg (fun e=>hi e.symm)]
 ·rw [if_neg hq,if_neg hq]
theorem Zmb {α:Type} {l:List α} {i:Nat} {x:α} (h:x∈dropI l i):x∈l:=by
 unfold dropI at h
 split at h
 ·rename_i z hz
  have:=List.mem_of_mem_take h
  rcases List.mem_or_eq_of_mem_set this with h | h
  ·exact h
  ·subst h; exact List.mem_of_getElem? hz
 ·exact List.mem_of_mem_take h
theorem Zi3 {α:Type} {l:List α} {i:Nat} (hn:l.Nodup) (hi:i < l.length):(dropI l i).Nodup:=by
 obtain ⟨z,hz⟩:∃ z,l[l.length - 1]?=some z:=⟨_,List.getElem?_eq_getElem (by omega)⟩
 have uniq:∀ (a b:Nat) (x:α),l[a]?=some x→l[b]?=some x→a=b:=by
  intro a b x ha hb
  obtain ⟨ha1,ha2⟩:=List.getElem?_eq_some_iff.1 ha
  obtain ⟨hb1,hb2⟩:=List.getElem?_eq_some_iff.1 hb
  rcases Nat.lt_trichotomy a b with h | h | h
  ·exact absurd (ha2.trans hb2.symm) (List.pairwise_iff_getElem.1 hn a b ha1 hb1 h)
  ·exact h
  ·exact absurd (hb2.trans ha2.symm) (List.pairwise_iff_getElem.1 hn b a hb1 ha1 h)
 rw [List.Nodup,List.pairwise_iff_getElem]
 intro a b ha hb hab he
 have ha':=List.getElem?_eq_getElem ha
 have hb':=List.getElem?_eq_getElem hb
 rw [he] at ha'
 have hl:=Z8j l i
 rw [Z6w hz,if_pos (by omega)] at ha' hb'
 by_cases h1:a=i
 ·rw [if_pos h1] at ha'
  rw [if_neg (by omega)] at hb'
  have:=uniq b (l.length - 1) _ hb' (by rw [hz,ha'])
  omega
 ·rw [if_neg h1] at ha'
  by_cases h2:b=i
  ·rw [if_pos h2] at hb'
   have:=uniq a (l.length - 1) _ ha' (by rw [hz,hb'])
   omega
  ·rw [if_neg h2] at hb'
   have:=uniq a b _ ha' hb'
   omega
theorem TabOk.drop {m:Nat} {L:List Ent} (h:TabOk m L) {i:Nat} (hi:i < L.length):TabOk m (dropI L i) :=
 ⟨h.mask,by rw [Zf5]; exact Zi3 h.nodup (by simpa using hi),fun e he=>h.ids e (Zmb he),fun e he=>h.valid e (Zmb he),by rw [Z8j]; have:=h.small; omega⟩
theorem Zmu {L:List Ent} (hn:(L.map (·.1)).Nodup) {i:Nat} {e z:Ent} (hi:L[i]?=some e) (hz:L[L.length - 1]?=some z) (j:Int) :
  rowM (dropI L i) j=if j=e.1 then none else if j=z.1 then some i else rowM L j:=by
 obtain ⟨hil,_⟩:=List.getElem?_eq_some_iff.1 hi
 have hn2:((dropI L i).map (·.1)).Nodup:=by rw [Zf5]; exact Zi3 hn (by simpa using hil)
 have uniq:∀ (a b:Nat) (x y:Ent),L[a]?=some x→L[b]?=some y→x.1=y.1→a=b:=by
  intro a b x y ha hb he
  have h1:=Ze2 hn ha
  have h2:=Ze2 hn hb
  rw [he,h2] at h1
  exact (Option.some.inj h1).symm
 apply Option.ext
 intro q
 rw [Zpa hn2]
 constructor
 ·rintro ⟨x,hx,rfl⟩
  rw [Z6w hz] at hx
  by_cases hq:q < L.length - 1
  ·rw [if_pos hq] at hx
   by_cases hqi:q=i
   ·subst hqi
    rw [if_pos rfl] at hx
    cases hx
    by_cases he:z.1=e.1
    ·have:=uniq _ _ _ _ hz hi he
     omega
    ·rw [if_neg he,if_pos rfl]
   ·rw [if_neg hqi] at hx
    have h1:x.1≠e.1:=fun he=>hqi (uniq _ _ _ _ hx hi he)
    have h2:x.1≠z.1:=fun he=>by have:=uniq _ _ _ _ hx hz he; omega
    rw [if_neg h1,if_neg h2]
    exact Ze2 hn hx
  ·rw [if_neg hq] at hx; cases hx
 ·intro h
  by_cases h1:j=e.1
  ·rw [if_pos h1] at h; cases h
  ·rw [if_neg h1] at h
   by_cases h2:j=z.1
   ·rw [if_pos h2] at h
    cases h
    have hne:i≠L.length - 1:=by
     intro he
     rw [← he,hi] at hz
     cases hz
     exact h1 h2
    exact ⟨z,by rw [Z6w hz,if_pos (by omega),if_pos rfl],h2.symm⟩
   ·rw [if_neg h2] at h
    obtain ⟨x,hx,rfl⟩:=(Zpa hn).1 h
    have hq:q < L.length:=(List.getElem?_eq_some_iff.1 hx).1
    have h3:q≠L.length - 1:=fun he=>by rw [he,hz] at hx; cases hx; exact h2 rfl
    have h4:q≠i:=fun he=>by rw [he,hi] at hx; cases hx; exact h1 rfl
    exact ⟨x,by rw [Z6w hz,if_pos (by omega),if_neg h4]; exact hx,rfl⟩
theorem Zgf {L:List Ent} {i:Nat} {e:Ent} {c:Comp} (h:L[i]?=some e):setL L i c=L.set i (e.1,withM e.2 c):=by
 unfold setL
 apply List.ext_getElem?
 intro q
 rw [List.getElem?_modify,List.getElem?_set]
 by_cases hq:i=q
 ·subst hq
  have:=(List.getElem?_eq_some_iff.1 h).1
  have e2:=(List.getElem?_eq_some_iff.1 h).2
  simp [this,e2]
 ·simp [hq]
theorem Zhk {L:List Ent} {i:Nat} {e:Ent} {c:Comp} (h:L[i]?=some e):(setL L i c).map (·.1)=L.map (·.1):=by
 rw [Zgf h,List.map_set]
 apply List.ext_getElem?
 intro q
 rw [List.getElem?_set]
 by_cases hq:i=q
 ·subst hq
  have:=(List.getElem?_eq_some_iff.1 h).1
  have e2:=(List.getElem?_eq_some_iff.1 h).2
  simp [this,e2]
 ·simp [hq]
theorem Zt7 {L:List Ent} {i:Nat} {c:Comp}:(setL L i c).length=L.length:=by simp [setL]
theorem TabOk.set {m:Nat} {L:List Ent} (h:TabOk m L) {i:Nat} {e:Ent} {c:Comp} (hi:L[i]?=some e) (hc:checkM c=0) (hk:c.1∈kindsOf m):TabOk m (setL L i c):=by
 have hv:=h.valid e (List.mem_of_getElem? hi)
 refine ⟨h.mask,by rw [Zhk hi]; exact h.nodup,fun x hx=>?_,fun x hx=>?_,by rw [Zt7]; exact h.small⟩
 ·rw [Zgf hi] at hx
  rcases List.mem_or_eq_of_mem_set hx with hx | rfl
  ·exact h.ids x hx
  ·exact h.ids e (List.mem_of_getElem? hi)
 ·rw [Zgf hi] at hx
  rcases List.mem_or_eq_of_mem_set hx with hx | rfl
  ·exact h.valid x hx
  ·exact (Zjh h.mask hv hc hk).1
end Go.Proofs.YtoiahhpgkoknfaaGreat
namespace Go.Proofs.YtoiahhpgkoknfaaGreat
open Go Go.RowKit Go.Proofs.YtoiahhpgkoknfaaGreat.Den
variable {R:Type} {Q:R→World→Prop} {w:World}
abbrev idT:Ty:=.sc (.int .u32)
abbrev f3T:Ty:=.agg [.int .i32,.int .i32,.int .i32]
abbrev f3C (x:F3):List Value:=[.int .i32 x.1,.int .i32 x.2.1,.int .i32 x.2.2]
theorem Zk8:SlTy Tryz.prog 62 34 idT 4:=slTy (by kernel_rfl)
theorem Zv7:SlTy Tryz.prog 326 5 u8T 1:=slTy (by kernel_rfl)
theorem Zuu:SlTy Tryz.prog 323 322 f3T 12:=slTy (by kernel_rfl)
theorem Zoy:Tryz.prog.underlying 34=some (.int .u32):=by kernel_rfl
theorem Z7t:Go.Maps.Keyed Tryz.prog 34:=Go.Maps.int_keyed Zoy
theorem Zll:Tryz.prog.underlying 330=some (.map 34 3):=by kernel_rfl
theorem Zsu:(Tryz.prog.info? 3).bind (·.zero)=some (.int .i64 0):=by kernel_rfl
def IdOk (i:Int):Prop:=0≤i∧i≤4294967295
theorem Zf9 {i:Int} (h:IdOk i):keyOf Tryz.prog 34 (.int .u32 i)=some (.int .u32 i):=Go.Maps.keyOf_int_mk Zoy (by obtain ⟨h1,h2⟩:=h; simp [Lit.wf,IntKind.min,IntKind.max,IntKind.bits,IntKind.signed]; omega)
section
variable {b o:Nat} {T:TypeId} {cs:List Value} {s:Sl} {S:Nat→Prop}
theorem Zjs {l:List Int} {x:Int} (B:Blk w b T cs) (hc:cs[o]?=some s.v) (ho:Den.Own S w 34 idT s l) (hb:¬ S b) (hm:Small l) {K:Res []→W R}
  (hk:∀ s' w',Blk w' b T (cs.set o s'.v)→Den.Own (fun k=>S k∨w.heap.size≤k) w' 34 idT s' (l ++ [x])→Fr (fun k=>k=b∨S k) w w'→K () Q w') :
  callW Tryz.prog Z30 [.pointer (some ⟨b,o,none⟩),.int .u32 x] [] K Q w:=by
 refine Zbo _ _ K Q w ?_
 unfold Z6t
 have hol:o < cs.length:=(List.getElem?_eq_some_iff.1 hc).1
 refine ptrI ?_
 rw [Z3,Nat.add_zero]
 refine fld0 B (x:=s) hc ?_
 refine newI fun w1 B1 f1 s1=>?_
 refine app1 (S':=fun k=>S k∨w.heap.size≤k) Zk8 (ho.none f1) B1 rfl (by omega) (by rw [Zn]; omega) (fun _ h=>.inl h) (.inr (by omega)) fun r w2 o2 f2 s2=>?_
 have f2':Fr S w1 w2:=f2.mono fun k _ e=>ho.own k e
 have B2:=(B.fr f1 (fun h=>h)).fr f2' hb
 refine ptrI ?_
 refine setI B2 hol rfl fun w3 B3 f3 s3=>?_
 refine hk r w3 B3 (o2.fr f3 fun k hS e=>?_) ?_
 ·rcases hS with hS | hS
  ·rw [e] at hS; exact hb hS
  ·have:=B.lt; omega
 ·exact (f1.trans f2' (U:=fun k=>k=b∨S k) (fun _ h=>h.elim) (fun _ _ h=>.inr h)).trans f3 (fun _ h=>h) (fun _ _ h=>.inl h)
theorem Zlq {l:List F3} {x:F3} (B:Blk w b T cs) (hc:cs[o]?=some s.v) (ho:Den.Own S w 322 f3T s l) (hb:¬ S b) (hm:Small l) {K:Res []→W R}
  (hk:∀ s' w',Blk w' b T (cs.set o s'.v)→Den.Own (fun k=>S k∨w.heap.size≤k) w' 322 f3T s' (l ++ [x])→Fr (fun k=>k=b∨S k) w w'→K () Q w') :
  callW Tryz.prog Z1r [.pointer (some ⟨b,o,none⟩),.agg ⟨f3C x⟩] [] K Q w:=by
 refine Z9u _ _ K Q w ?_
 unfold Z52
 have hol:o < cs.length:=(List.getElem?_eq_some_iff.1 hc).1
 refine newI fun w0 B0 f0 s0=>?_
 have f0:=f0.drew
 refine ptrI ?_
 rw [Z3,Nat.add_zero]
 refine fld0 (B.fr f0 (fun h=>h)) (x:=s) hc ?_
 refine aggI B0.drew (x:=x) rfl ?_
 refine newI fun w1 B1 f1 s1=>?_
 have s1:w1.heap.size=w0.heap.size+1:=s1
 have f01:=f0.then0 f1
 refine app1 (x:=x) (S':=fun k=>S k∨w.heap.size≤k) Zuu (ho.none f01) B1 rfl (by omega) (by rw [Zn]; omega) (fun _ h=>.inl h) (.inr (by omega)) fun r w2 o2 f2 s2=>?_
 have f2':Fr S w1 w2:=f2.mono fun k _ e=>ho.own k e
 have B2:=(B.fr f01 (fun h=>h)).fr f2' hb
 refine ptrI ?_
 refine setI B2 hol rfl fun w3 B3 f3 s3=>?_
 refine hk r w3 B3 (o2.fr f3 fun k hS e=>?_) ?_
 ·rcases hS with hS | hS
  ·rw [e] at hS; exact hb hS
  ·have:=B.lt; omega
 ·exact (f01.trans f2' (U:=fun k=>k=b∨S k) (fun _ h=>h.elim) (fun _ _ h=>.inr h)).trans f3 (fun _ h=>h) (fun _ _ h=>.inl h)
theorem Ziu {l:List Int} {x:Int} {i:Nat} (B:Blk w b T cs) (hc:cs[o]?=some s.v) (ho:Den.Own S w 34 idT s l) (hb:¬ S b) (hm:Small l) (hx:l[i]?=some x) {K:Res [.sc (.int .u32)]→W R}
  (hk:∀ s' w',Blk w' b T (cs.set o s'.v)→Den.Own S w' 34 idT s' (dropI l i)→Fr (fun k=>k=b∨S k) w w'→K x Q w') :
  callW Tryz.prog Z2n [.pointer (some ⟨b,o,none⟩),.int .i64 (i:Int)] [.sc (.int .u32)] K Q w:=by
 refine Zbg _ _ K Q w ?_
 unfold Z6c
 have hol:o < cs.length:=(List.getElem?_eq_some_iff.1 hc).1
 obtain ⟨hil,hxe⟩:=List.getElem?_eq_some_iff.1 hx
 have hlen:=ho.len
 refine ptrI ?_
 rw [Z3,Nat.add_zero]
 refine fld0 B (x:=s) hc ?_
 refine ho.sl.get rfl rfl hil fun x' hx'=>?_
 rw [hx] at hx'
 cases hx'
 refine ptrI ?_
 refine fld0 B (x:=s) hc ?_
 refine ptrI ?_
 refine fld0 B.drew (x:=s) hc ?_
 refine ptrI ?_
 refine fld0 B.drew (x:=s) hc ?_
 rw [w64 (by omega)]
 have hod:Den.Own S w.drew 34 idT s l:=ho.none (Fr.refl None w).drew
 have hlast:(s.n:Int) - 1=((l.length - 1:Nat):Int):=by omega
 rw [hlast]
 refine hod.sl.get rfl rfl (by omega) fun z hz=>?_
 refine hod.idx rfl (by omega) (by omega) fun g _ hg _ _=>?_
 rw [Int.toNat_natCast]
 refine hod.set rfl hil hg z fun w2 o2 f2 s2=>?_
 have f2':Fr S w w2:=((Fr.refl None w).drew.trans f2 (U:=S) (fun _ h=>h.elim) fun k _ e=>ho.own k e)
 have B2:=B.fr f2' hb
 refine ptrI ?_
 refine fld0 B2 (x:=s) hc ?_
 refine chkI (by have:=ho.cap; simp only [Option.getD_some,Option.getD_none]; omega) ?_
 simp only [Option.getD_some,Option.getD_none]
 refine ptrI ?_
 refine setI B2 hol rfl fun w3 B3 f3 s3=>?_
 have o3:=(o2.fr f3 (fun k hS e=>hb (by rw [e] at hS; exact hS))).take (n:=l.length - 1) (by simp)
 rw [← Zl4 hz] at o3
 have e:(if s.c=Int.toNat 0 then s.a else s.a.map (·.add ((Int.toNat 0) * 1)))=s.a:=by
  split
  ·rfl
  ·cases s.a with
   | none=>rfl
   | some a=>simp [Addr.add]
 rw [e] at B3
 refine hk ⟨s.a,l.length - 1,s.c⟩ w3 B3 o3 ?_
 exact (f2'.trans f3 (U:=fun k=>k=b∨S k) (fun _ h=>.inr h) (fun _ _ h=>.inl h))
theorem Zjr {l:List F3} {x:F3} {i:Nat} (B:Blk w b T cs) (hc:cs[o]?=some s.v) (ho:Den.Own S w 322 f3T s l) (hb:¬ S b) (hm:Small l) (hx:l[i]?=some x) {K:Res [.agg [.int .i32,.int .i32,.int .i32]]→W R}
  (hk:∀ s' w',Blk w' b T (cs.set o s'.v)→Den.Own S w' 322 f3T s' (dropI l i)→Fr (fun k=>k=b∨S k) w w'→K x Q w') :
  callW Tryz.prog Z1m [.pointer (some ⟨b,o,none⟩),.int .i64 (i:Int)] [.agg [.int .i32,.int .i32,.int .i32]] K Q w:=by
 refine Z8y _ _ K Q w ?_
 unfold Z4p
 have hol:o < cs.length:=(List.getElem?_eq_some_iff.1 hc).1
 obtain ⟨hil,hxe⟩:=List.getElem?_eq_some_iff.1 hx
 have hlen:=ho.len
 refine newI fun wa Ba fa sa=>?_
 refine ptrI ?_
 rw [Z3,Nat.add_zero]
 refine fld0 (B.fr fa (fun h=>h)) (x:=s) hc ?_
 refine (ho.sl.fr0 fa).get rfl rfl hil fun x' hx'=>?_
 rw [hx] at hx'
 cases hx'
 refine locI rfl rfl fun wb Bb fb sb=>?_
 have fab:=fa.then0 fb
 have B1:=B.fr fab (fun h=>h)
 have ho1:=ho.none fab
 refine ptrI ?_
 refine fld0 B1 (x:=s) hc ?_
 refine ptrI ?_
 refine fld0 B1.drew (x:=s) hc ?_
 refine ptrI ?_
 refine fld0 B1.drew (x:=s) hc ?_
 rw [w64 (by omega)]
 have hod:Den.Own S wb.drew 322 f3T s l:=ho1.none (Fr.refl None wb).drew
 have hlast:(s.n:Int) - 1=((l.length - 1:Nat):Int):=by omega
 rw [hlast]
 refine hod.sl.get rfl rfl (by omega) fun z hz=>?_
 refine hod.idx rfl (by omega) (by omega) fun g _ hg _ _=>?_
 rw [Int.toNat_natCast]
 refine hod.set rfl hil hg z fun w2 o2 f2 s2=>?_
 have f2':Fr S wb w2:=((Fr.refl None wb).drew.trans f2 (U:=S) (fun _ h=>h.elim) fun k _ e=>ho.own k e)
 have B2:=B1.fr f2' hb
 have hblt:=B.lt
 refine ptrI ?_
 refine fld0 B2 (x:=s) hc ?_
 refine chkI (by have:=ho.cap; simp only [Option.getD_some,Option.getD_none]; omega) ?_
 simp only [Option.getD_some,Option.getD_none]
 refine ptrI ?_
 refine setI B2 hol rfl fun w3 B3 f3 s3=>?_
 have o3:=(o2.fr f3 (fun k hS e=>hb (by rw [e] at hS; exact hS))).take (n:=l.length - 1) (by simp)
 rw [← Zl4 hz] at o3
 have e:(if s.c=Int.toNat 0 then s.a else s.a.map (·.add ((Int.toNat 0) * 3)))=s.a:=by
  split
  ·rfl
  ·cases s.a with
   | none=>rfl
   | some a=>simp [Addr.add]
 rw [e] at B3
 have own2:∀ k,s.v.ownBlock=some k→k < w.heap.size:=fun k e=>ho.lt e
 have fb3:Fr (fun k=>k=b∨s.v.ownBlock=some k) wb w3:=((Fr.refl None wb).drew.trans f2 (U:=fun k=>k=b∨s.v.ownBlock=some k) (fun _ h=>h.elim) (fun k _ e=>.inr e)).trans f3 (fun _ h=>h) (fun _ _ h=>.inl h)
 have Bb3:=Bb.fr fb3 (fun h=>by rcases h with h | h; omega; have:=own2 _ h; omega)
 have Ba3:=(Ba.fr fb (fun h=>h)).fr fb3 (fun h=>by rcases h with h | h; omega; have:=own2 _ h; omega)
 refine aggI Bb3 (x:=x) rfl ?_
 refine stoAll Ba3 rfl rfl fun w4 B4 f4 s4=>?_
 refine aggI B4 (x:=x) rfl ?_
 have f04:Fr (fun k=>k=b∨S k) w w3:=(fab.trans f2' (U:=fun k=>k=b∨S k) (fun _ h=>h.elim) (fun _ _ h=>.inr h)).trans f3 (fun _ h=>h) (fun _ _ h=>.inl h)
 have o4:Den.Own (fun k=>S k∧k < w.heap.size) w3 322 f3T ⟨s.a,l.length - 1,s.c⟩ (dropI l i):=⟨o3.row,fun k e=>by
  rw [Sl.own] at e
  have e':s.v.ownBlock=some k:=by rw [Sl.own]; exact e
  exact ⟨ho.own k e',ho.lt e'⟩⟩
 refine hk ⟨s.a,l.length - 1,s.c⟩ w4 (B3.fr f4 (fun e=>by omega)) ((o4.fr f4 (fun k hk e=>by omega)).mono fun k _ h=>h.1) (f04.thenNew f4 fun x e=>by omega)
end
abbrev tabC (m:Int) (kinds ids:Sl) (cols:Nat→Sl) (mp:Nat):List Value :=
 [.int .u8 m,kinds.v,ids.v,(cols 0).v,(cols 1).v,(cols 2).v,(cols 3).v,(cols 4).v,(cols 5).v,.map (some mp)]
theorem lt6 {k:Nat} (h:k < 6):k=0∨k=1∨k=2∨k=3∨k=4∨k=5:=by omega
theorem Zhl {m:Int} {kinds ids:Sl} {cols:Nat→Sl} {mp k:Nat} (hk:k < 6):(tabC m kinds ids cols mp)[3+k]?=some (cols k).v:=by
 rcases lt6 hk with rfl | rfl | rfl | rfl | rfl | rfl <;> rfl
def updS (cols:Nat→Sl) (k:Nat) (s:Sl):Nat→Sl:=fun i=>if i=k then s else cols i
theorem Zjc {m:Int} {kinds ids:Sl} {cols:Nat→Sl} {mp k:Nat} (hk:k < 6) (s:Sl):(tabC m kinds ids cols mp).set (3+k) s.v=tabC m kinds ids (updS cols k s) mp:=by
 rcases lt6 hk with rfl | rfl | rfl | rfl | rfl | rfl <;> rfl
def colM (m:Nat) (L:List Ent) (k:Nat):List F3:=if Nat.testBit m k then L.map (fun e=>fieldsOf e.2 (k:Int)) else []
theorem Zsh (m:Nat) (L:List Ent) (k:Nat):(colM m L k).length≤L.length:=by
 unfold colM
 split <;> simp
structure TabR (lab:Nat→Nat) (w:World) (b m:Nat) (kinds ids:Sl) (cols:Nat→Sl) (mp:Nat) (ks:List Int) (is:List Int) (cl:Nat→List F3) (rows:Int→Option Nat):Prop where
 blk:Blk w b 332 (tabC (m:Int) kinds ids cols mp)
 lb:lab b=1
 lm:lab mp=2
 kinds:Den.Own (fun k=>lab k=3) w 5 u8T kinds ks
 ids:Den.Own (fun k=>lab k=4) w 34 idT ids is
 cols:∀ k,k < 6→Den.Own (fun x=>lab x=5+k) w 322 f3T (cols k) (cl k)
 map:MapB Tryz.prog 34 (Value.int .u32) w mp fun i=>(rows i).map fun r=>.int .i64 (r:Int)
 lt:∀ k,lab k≠0→k < w.heap.size
theorem TabR.fr {lab:Nat→Nat} {b m:Nat} {kinds ids:Sl} {cols:Nat→Sl} {mp:Nat} {ks is:List Int} {cl:Nat→List F3} {rows:Int→Option Nat} (h:TabR lab w b m kinds ids cols mp ks is cl rows)
  {S:Nat→Prop} {w':World} (f:Fr S w w') (hn:∀ k,lab k≠0→¬ S k):TabR lab w' b m kinds ids cols mp ks is cl rows :=
 ⟨h.blk.fr f (hn b (by rw [h.lb]; omega)),h.lb,h.lm,h.kinds.fr f (fun k e=>hn k (by omega)),h.ids.fr f (fun k e=>hn k (by omega)),fun k hk=>(h.cols k hk).fr f (fun x e=>hn x (by omega)),
  h.map.fr f (hn mp (by rw [h.lm]; omega)),fun k e=>Nat.lt_of_lt_of_le (h.lt k e) f.size⟩
structure Tab (lab:Nat→Nat) (w:World) (b m:Nat) (L:List Ent):Prop where
 ok:TabOk m L
 rep:∃ kinds ids cols mp,TabR lab w b m kinds ids cols mp (kindsOf m) (L.map (·.1)) (colM m L) (rowM L)
theorem Tab.fr {lab:Nat→Nat} {b m:Nat} {L:List Ent} (h:Tab lab w b m L) {S:Nat→Prop} {w':World} (f:Fr S w w') (hn:∀ k,lab k≠0→¬ S k):Tab lab w' b m L:=by
 obtain ⟨kinds,ids,cols,mp,r⟩:=h.rep
 exact ⟨h.ok,kinds,ids,cols,mp,r.fr f hn⟩
theorem Tab.fr0 {lab:Nat→Nat} {b m:Nat} {L:List Ent} (h:Tab lab w b m L) {w':World} (f:Fr None w w'):Tab lab w' b m L:=h.fr f fun _ _ h=>h
theorem Tab.lt {lab:Nat→Nat} {b m:Nat} {L:List Ent} (h:Tab lab w b m L) {k:Nat} (e:lab k≠0):k < w.heap.size:=by
 obtain ⟨kinds,ids,cols,mp,r⟩:=h.rep
 exact r.lt k e
section
variable {lab:Nat→Nat} {b m:Nat} {L:List Ent}
theorem Z9s (h:Tab lab w b m L) {id:Int} (hid:IdOk id) {K:Res [.sc (.int .i64),.sc .bool]→W R} (hk:K ((((rowM L id).getD 0:Nat):Int),(rowM L id).isSome) Q w) :
  callW Tryz.prog Z2e [.pointer (some ⟨b,0,none⟩),.int .u32 id] [.sc (.int .i64),.sc .bool] K Q w:=by
 obtain ⟨kinds,ids,cols,mp,r⟩:=h.rep
 refine Zg6 _ _ K Q w ?_
 unfold Zai
 refine condF rfl (ptrI ?_)
 refine fldI r.blk (x:=some mp) rfl ?_
 refine ⟨((((rowM L id).getD 0:Nat):Int),(rowM L id).isSome),?_,hk⟩
 rw [r.map.look Z7t Zll Zsu (Zf9 hid) true]
 cases rowM L id <;> rfl
theorem Zh2 (h:Tab lab w b m L) {K:Res [.sc (.int .i64)]→W R} (hk:K ((L.length:Nat):Int) Q w):callW Tryz.prog Z4j [.pointer (some ⟨b,0,none⟩)] [.sc (.int .i64)] K Q w:=by
 obtain ⟨kinds,ids,cols,mp,r⟩:=h.rep
 refine Zg5 _ K Q w ?_
 unfold Zah
 refine condF rfl (ptrI ?_)
 rw [Z3,Z3]
 refine fld0 r.blk (x:=ids) rfl ?_
 have:=r.ids.len
 rw [List.length_map] at this
 rw [this]
 exact hk
theorem Zlv (h:Tab lab w b m L) {K:Res [.sc (.int .u8)]→W R} (hk:K ((m:Nat):Int) Q w):callW Tryz.prog Z2z [.pointer (some ⟨b,0,none⟩)] [.sc (.int .u8)] K Q w:=by
 obtain ⟨kinds,ids,cols,mp,r⟩:=h.rep
 refine Zep _ K Q w ?_
 exact fldI r.blk (x:=(m:Int)) rfl hk
theorem Zln {S:Nat→Prop} {s:Sl} {l:List Int} (ho:Den.Own S w 34 idT s l) (hm:Small l) {K:Res [.sc .sl]→W R} (hk:∀ r w',Den.Own (Up w.heap.size) w' 34 idT r l→Fr None w w'→K r Q w') :
  callW Tryz.prog Z6h [.slice s.a s.n s.c] [.sc .sl] K Q w:=by
 refine Zfv _ K Q w ?_
 unfold Za7
 rcases ho.cases with ⟨rfl,rfl⟩ | ⟨g,c,cur,rfl,_⟩
 ·exact hk _ w (Den.Own.nil _ _ _ _) (Fr.refl _ _)
 ·refine condF rfl ?_
  refine newI fun w1 B1 f1 s1=>?_
  have own:=Den.Own.mk' (S:=Up w.heap.size) (w:=w1) (E:=34) (t:=idT) (l:=[]) (g:=w.heap.size) (c:=0) (cur:=⟨[]⟩) (Nat.le_refl _) B1 (Nat.le_refl _) (Nat.zero_le _) rfl rfl
  refine appI (s:=⟨some ⟨w.heap.size,0,none⟩,0,0⟩) (s2:=⟨_,_,_⟩) (S':=Up w.heap.size) Zk8 own (ho.sl.fr0 f1) (by simp; omega) (by rw [Zn]; simp; omega) (fun _ h=>h) (by show _≤_; omega) fun r w2 o2 f2 s2=>?_
  rw [List.nil_append] at o2
  exact hk r w2 o2 (f1.newer f2 (fun x e=>own.own x e))
theorem Znb (h:Tab lab w b m L) {K:Res [.sc .sl]→W R} (hk:∀ r w',Den.Own (Up w.heap.size) w' 34 idT r (L.map (·.1))→Fr None w w'→K r Q w') :
  callW Tryz.prog Z6j [.pointer (some ⟨b,0,none⟩)] [.sc .sl] K Q w:=by
 obtain ⟨kinds,ids,cols,mp,r⟩:=h.rep
 refine Zg4 _ K Q w ?_
 unfold Zag
 refine condF rfl (ptrI ?_)
 rw [Z3,Z3]
 refine fld0 r.blk (x:=ids) rfl ?_
 refine Zln r.ids (by simpa using h.ok.small) fun r w1 o1 f1=>?_
 exact hk r w1 o1 f1
theorem Zfo (h:Tab lab w b m L) {i k:Nat} {e:Ent} (hi:L[i]?=some e) (hk6:k < 6) (hb:Nat.testBit m k=true) {K:Res [.agg [.int .u8,.int .i32,.int .i32,.int .i32]]→W R} (hk:∀ w',Fr None w w'→K ((k:Int),fieldsOf e.2 (k:Int)) Q w') :
  callW Tryz.prog Z43 [.pointer (some ⟨b,0,none⟩),.int .i64 (i:Int),.int .u8 (k:Int)] [.agg [.int .u8,.int .i32,.int .i32,.int .i32]] K Q w:=by
 obtain ⟨kinds,ids,cols,mp,r⟩:=h.rep
 refine Zeq _ _ _ K Q w ?_
 unfold Z9g
 refine newI fun w1 B1 f1 s1=>?_
 refine ptrI ?_
 rw [Z3]
 refine idxB (by omega) (by omega) ?_
 rw [Z3]
 have hc:(tabC (m:Int) kinds ids cols mp)[0+3+(k:Int).toNat * 1+0]?=some (cols k).v:=by
  rw [show 0+3+(k:Int).toNat * 1+0=3+k by simp]
  exact Zhl hk6
 refine fld0 (r.blk.fr f1 (fun h=>h)) (x:=cols k) hc ?_
 have hcol:=(r.cols k hk6).none f1
 have hx:(colM m L k)[i]?=some (fieldsOf e.2 (k:Int)):=by rw [colM,if_pos hb,List.getElem?_map,hi]; rfl
 refine hcol.sl.get rfl rfl (List.getElem?_eq_some_iff.1 hx).1 fun x hx'=>?_
 rw [hx] at hx'
 cases hx'
 refine stoAll B1 rfl rfl fun w2 B2 f2 s2=>?_
 exact aggI B2 (x:=((k:Int),fieldsOf e.2 (k:Int))) rfl (hk _ (f1.newer f2 fun x e=>by omega))
end
theorem Den.Own.relab {lab:Nat→Nat} {E:TypeId} {t:Ty} {s:Sl} {l:List t.T} {j:Nat} (h:Den.Own (fun x=>lab x=j) w E t s l) (n' c:Nat):Den.Own (fun x=>relab lab w.heap.size n' c x=j) w E t s l :=
 h.mono fun k hk e=>by rw [Z4 hk]; exact e
section
variable {lab:Nat→Nat} {b m:Nat} {kinds ids:Sl} {cols:Nat→Sl} {mp:Nat} {ks is:List Int} {cl:Nat→List F3} {rows:Int→Option Nat}
theorem TabR.colF_add (r:TabR lab w b m kinds ids cols mp ks is cl rows) {k:Nat} (hk6:k < 6) (hm:Small (cl k)) {x:F3} {K:Res []→W R}
  (hk:∀ lab' cols' w',TabR lab' w' b m kinds ids cols' mp ks is (fun q=>if q=k then cl k ++ [x] else cl q) rows→(∀ k,lab' k≠0→lab k≠0∨w.heap.size≤k)→Fr (fun k=>lab k≠0) w w'→K () Q w') :
  callW Tryz.prog Z1r [.pointer (some ⟨b,3+k,none⟩),.agg ⟨f3C x⟩] [] K Q w:=by
 have hbl:=r.blk.lt
 refine Zlq r.blk (Zhl hk6) (r.cols k hk6) (by rw [r.lb]; omega) hm fun s' w1 B1 o1 f1=>?_
 rw [Zjc hk6] at B1
 have f1':Fr (fun k=>lab k≠0) w w1:=f1.mono fun x _ h=>by
  rcases h with rfl | h
  ·rw [r.lb]; omega
  ·omega
 refine hk (relab lab w.heap.size w1.heap.size (5+k)) (updS cols k s') w1 ⟨B1,by rw [Z4 hbl,r.lb],by rw [Z4 r.map.lt,r.lm],?_,?_,?_,?_,?_⟩ (fun q h=>?_) f1'
 ·exact (r.kinds.relab _ _).fr f1 fun q e h=>by
   rcases h with rfl | h
   ·rw [Z4 hbl,r.lb] at e; omega
   ·have:=r.lt q (by omega); rw [Z4 this] at e; omega
 ·exact (r.ids.relab _ _).fr f1 fun q e h=>by
   rcases h with rfl | h
   ·rw [Z4 hbl,r.lb] at e; omega
   ·have:=r.lt q (by omega); rw [Z4 this] at e; omega
 ·intro q hq
  by_cases hqk:q=k
  ·subst hqk
   simp only [updS,if_true]
   refine o1.mono fun y hy h=>?_
   rcases h with h | h
   ·rw [Z4 (r.lt y (by omega))]; exact h
   ·exact Z4c h hy
  ·simp only [updS,if_neg hqk]
   exact ((r.cols q hq).relab _ _).fr f1 fun y e h=>by
    rcases h with rfl | h
    ·rw [Z4 hbl,r.lb] at e; omega
    ·have:=r.lt y (by omega); rw [Z4 this] at e; omega
 ·exact r.map.fr f1 (by rw [r.lm]; rintro (h | h); (have h1:=r.lb; have h2:=r.lm; rw [h] at h2; omega); omega)
 ·intro q h
  rcases Z2a h with ⟨_,h⟩ | ⟨_,h⟩
  ·exact Nat.lt_of_lt_of_le h f1.size
  ·exact h
 ·rcases Z2a h with ⟨h,_⟩ | ⟨h,_⟩
  ·exact .inl h
  ·exact .inr h
theorem TabR.colID_add (r:TabR lab w b m kinds ids cols mp ks is cl rows) (hm:Small is) {x:Int} {K:Res []→W R}
  (hk:∀ lab' ids' w',TabR lab' w' b m kinds ids' cols mp ks (is ++ [x]) cl rows→(∀ k,lab' k≠0→lab k≠0∨w.heap.size≤k)→Fr (fun k=>lab k≠0) w w'→K () Q w') :
  callW Tryz.prog Z30 [.pointer (some ⟨b,2,none⟩),.int .u32 x] [] K Q w:=by
 have hbl:=r.blk.lt
 refine Zjs r.blk (o:=2) (s:=ids) rfl r.ids (by rw [r.lb]; omega) hm fun s' w1 B1 o1 f1=>?_
 have f1':Fr (fun k=>lab k≠0) w w1:=f1.mono fun x _ h=>by
  rcases h with rfl | h
  ·rw [r.lb]; omega
  ·omega
 refine hk (relab lab w.heap.size w1.heap.size 4) s' w1 ⟨B1,by rw [Z4 hbl,r.lb],by rw [Z4 r.map.lt,r.lm],?_,?_,?_,?_,?_⟩ (fun q h=>?_) f1'
 ·exact (r.kinds.relab _ _).fr f1 fun q e h=>by
   rcases h with rfl | h
   ·rw [Z4 hbl,r.lb] at e; omega
   ·have:=r.lt q (by omega); rw [Z4 this] at e; omega
 ·refine o1.mono fun y hy h=>?_
  rcases h with h | h
  ·rw [Z4 (r.lt y (by omega))]; exact h
  ·exact Z4c h hy
 ·intro q hq
  exact ((r.cols q hq).relab _ _).fr f1 fun y e h=>by
   rcases h with rfl | h
   ·rw [Z4 hbl,r.lb] at e; omega
   ·have:=r.lt y (by omega); rw [Z4 this] at e; omega
 ·exact r.map.fr f1 (by rw [r.lm]; rintro (h | h); (have h1:=r.lb; have h2:=r.lm; rw [h] at h2; omega); omega)
 ·intro q h
  rcases Z2a h with ⟨_,h⟩ | ⟨_,h⟩
  ·exact Nat.lt_of_lt_of_le h f1.size
  ·exact h
 ·rcases Z2a h with ⟨h,_⟩ | ⟨h,_⟩
  ·exact .inl h
  ·exact .inr h
theorem TabR.colF_take (r:TabR lab w b m kinds ids cols mp ks is cl rows) {k:Nat} (hk6:k < 6) (hm:Small (cl k)) {i:Nat} (hi:i < (cl k).length) {K:Res [.agg [.int .i32,.int .i32,.int .i32]]→W R}
  (hk:∀ x cols' w',TabR lab w' b m kinds ids cols' mp ks is (fun q=>if q=k then dropI (cl k) i else cl q) rows→Fr (fun k=>lab k≠0) w w'→K x Q w') :
  callW Tryz.prog Z1m [.pointer (some ⟨b,3+k,none⟩),.int .i64 (i:Int)] [.agg [.int .i32,.int .i32,.int .i32]] K Q w:=by
 refine Zjr r.blk (Zhl hk6) (r.cols k hk6) (by rw [r.lb]; omega) hm (List.getElem?_eq_getElem hi) fun s' w1 B1 o1 f1=>?_
 rw [Zjc hk6] at B1
 have f1':Fr (fun k=>lab k≠0) w w1:=f1.mono fun x _ h=>by
  rcases h with rfl | h
  ·rw [r.lb]; omega
  ·omega
 have ne:∀ j,j≠1→j≠5+k→∀ q,lab q=j→¬ (q=b∨lab q=5+k):=fun j h1 h2 q e h=>by
  rcases h with rfl | h
  ·rw [r.lb] at e; omega
  ·omega
 refine hk _ (updS cols k s') w1 ⟨B1,r.lb,r.lm,r.kinds.fr f1 (ne 3 (by omega) (by omega)),r.ids.fr f1 (ne 4 (by omega) (by omega)),?_,r.map.fr f1 (ne 2 (by omega) (by omega) mp r.lm),fun q h=>Nat.lt_of_lt_of_le (r.lt q h) f1.size⟩ f1'
 intro q hq
 by_cases hqk:q=k
 ·subst hqk
  simp only [updS,if_true]
  exact o1
 ·simp only [updS,if_neg hqk]
  exact (r.cols q hq).fr f1 (ne _ (by omega) (by omega))
theorem TabR.colID_take (r:TabR lab w b m kinds ids cols mp ks is cl rows) (hm:Small is) {i:Nat} {x:Int} (hi:is[i]?=some x) {K:Res [.sc (.int .u32)]→W R}
  (hk:∀ ids' w',TabR lab w' b m kinds ids' cols mp ks (dropI is i) cl rows→Fr (fun k=>lab k≠0) w w'→K x Q w') :
  callW Tryz.prog Z2n [.pointer (some ⟨b,2,none⟩),.int .i64 (i:Int)] [.sc (.int .u32)] K Q w:=by
 refine Ziu r.blk (o:=2) (s:=ids) rfl r.ids (by rw [r.lb]; omega) hm hi fun s' w1 B1 o1 f1=>?_
 have f1':Fr (fun k=>lab k≠0) w w1:=f1.mono fun x _ h=>by
  rcases h with rfl | h
  ·rw [r.lb]; omega
  ·omega
 have ne:∀ j,j≠1→j≠4→∀ q,lab q=j→¬ (q=b∨lab q=4):=fun j h1 h2 q e h=>by
  rcases h with rfl | h
  ·rw [r.lb] at e; omega
  ·omega
 exact hk s' w1 ⟨B1,r.lb,r.lm,r.kinds.fr f1 (ne 3 (by omega) (by omega)),o1,fun q hq=>(r.cols q hq).fr f1 (ne _ (by omega) (by omega)),r.map.fr f1 (ne 2 (by omega) (by omega) mp r.lm),fun q h=>Nat.lt_of_lt_of_le (r.lt q h) f1.size⟩ f1'
theorem TabR.mapPut (r:TabR lab w b m kinds ids cols mp ks is cl rows) {id:Int} (hid:IdOk id) (n:Nat) {K:W R}
  (hk:∀ w',TabR lab w' b m kinds ids cols mp ks is cl (fun j=>if j=id then some n else rows j)→Fr (fun k=>lab k≠0) w w'→w'.heap.size=w.heap.size→K Q w') :
  rawU Tryz.prog (Instr.mapUpdate 330 (.map (some mp)) (.int .u32 id) (.int .i64 (n:Int))) K Q w:=by
 obtain ⟨w1,h1,h2,h3,h4⟩:=r.map.put Z7t (fun i j h=>by cases h; rfl) Zll (Zf9 hid) (.int .i64 (n:Int))
 have ne:∀ j,j≠2→∀ q,lab q=j→¬ (q=mp):=fun j h1 q e h=>by subst h; rw [r.lm] at e; omega
 refine ⟨w1,h1,hk w1 ⟨r.blk.fr h3 (ne 1 (by omega) b r.lb),r.lb,r.lm,r.kinds.fr h3 (ne 3 (by omega)),r.ids.fr h3 (ne 4 (by omega)),fun q hq=>(r.cols q hq).fr h3 (ne _ (by omega)),?_,fun q h=>by rw [h4]; exact r.lt q h⟩ (h3.mono fun k _ e=>by subst e; rw [r.lm]; omega) h4⟩
 exact h2.congr fun i=>by by_cases h:i=id <;> simp [h]
theorem TabR.mapDel (r:TabR lab w b m kinds ids cols mp ks is cl rows) {id:Int} (hid:IdOk id) {ty:TypeId} {K:Res []→W R}
  (hk:∀ w',TabR lab w' b m kinds ids cols mp ks is cl (fun j=>if j=id then none else rows j)→Fr (fun k=>lab k≠0) w w'→w'.heap.size=w.heap.size→K () Q w') :
  rawW Tryz.prog (Builtin.delete_ #[330,34] ty #[.map (some mp),.int .u32 id]) [] K Q w:=by
 obtain ⟨w1,h1,h2,h3,h4⟩:=r.map.del Z7t (fun i j h=>by cases h; rfl) Zll (ty:=ty) (Zf9 hid)
 have ne:∀ j,j≠2→∀ q,lab q=j→¬ (q=mp):=fun j h1 q e h=>by subst h; rw [r.lm] at e; omega
 refine ⟨(),w1,h1,hk w1 ⟨r.blk.fr h3 (ne 1 (by omega) b r.lb),r.lb,r.lm,r.kinds.fr h3 (ne 3 (by omega)),r.ids.fr h3 (ne 4 (by omega)),fun q hq=>(r.cols q hq).fr h3 (ne _ (by omega)),?_,fun q h=>by rw [h4]; exact r.lt q h⟩ (h3.mono fun k _ e=>by subst e; rw [r.lm]; omega) h4⟩
 exact h2.congr fun i=>by by_cases h:i=id <;> simp [h]
end
end Go.Proofs.YtoiahhpgkoknfaaGreat
namespace Go.Proofs.YtoiahhpgkoknfaaGreat
open Go Go.RowKit Go.Proofs.YtoiahhpgkoknfaaGreat.Den
variable {R:Type} {Q:R→World→Prop} {w:World}
theorem Zpu {m j:Nat}:((List.range (j+1)).filter (Nat.testBit m)).map (fun (k:Nat)=>(k:Int))=((List.range j).filter (Nat.testBit m)).map (fun (k:Nat)=>(k:Int)) ++ (if Nat.testBit m j then [(j:Int)] else []):=by
 rw [List.range_succ,List.filter_append,List.map_append]
 congr 1
 by_cases h:Nat.testBit m j <;> simp [h]
theorem Znc {m:Int} (hm:0≤m∧m≤255) {K:Res [.sc .ptr,.sc (.int .i64)]→W R} (h1:64≤m→K (none,1) Q w)
  (h2:∀ lab b w',m < 64→Tab lab w' b m.toNat []→(∀ k,lab k≠0→w.heap.size≤k)→Fr None w w'→K (some ⟨b,0,none⟩,0) Q w') :
  callW Tryz.prog Zb2 [.int .u8 m] [.sc .ptr,.sc (.int .i64)] K Q w:=by
 refine Znp _ K Q w ?_
 unfold Zhy
 refine condD (fun h=>h1 h) fun h=>?_
 obtain ⟨n,rfl⟩:∃ n:Nat,m=(n:Int):=⟨m.toNat,by omega⟩
 rw [Int.toNat_natCast] at h2
 refine mapNewI ?_
 have mb0:MapB Tryz.prog 34 (Value.int .u32) (w.alloc (.map #[] 0)) w.heap.size (fun _=>none):=MapB.made w
 have fa:Fr None w (w.alloc (.map #[] 0)):=(Fr.refl _ _).alloc _
 have sa:(w.alloc (.map #[] 0)).heap.size=w.heap.size+1:=by simp
 generalize w.alloc (.map #[] 0)=wa at mb0 fa sa
 refine newI fun w1 B1 f1 s1=>?_
 rw [sa] at B1 ⊢
 have f01:=fa.then0 f1
 have mb1:=mb0.fr f1 (fun h=>h)
 refine forI (N:=6) (fun s:Int=>s) (fun j s w'=>s=(j:Int)∧∃ kn:Sl,Blk w' (w.heap.size+1) 332 (tabC (n:Int) kn ⟨none,0,0⟩ (fun _=>⟨none,0,0⟩) w.heap.size) ∧
   Den.Own (Up w1.heap.size) w' 5 u8T kn (((List.range j).filter (Nat.testBit n)).map fun (k:Nat)=>(k:Int))∧Fr (Up (w.heap.size+1)) w1 w')
  ⟨rfl,⟨none,0,0⟩,B1,Den.Own.nil _ _ _ _,Fr.refl _ _⟩ (fun j s w' h=>h.1) ?_ ?_
 ·rintro j s w2 K' hj ⟨rfl,kn,B2,o2,f2⟩ - hK
  have hsz:=f2.size
  refine chkI (by omega) ?_
  have hb:=Zoq ⟨n,by omega⟩ ⟨j,hj⟩
  simp only [] at hb
  rw [hb]
  have hlen:(((List.range j).filter (Nat.testBit n)).map fun (k:Nat)=>(k:Int)).length≤6:=by
   rw [List.length_map]
   exact Nat.le_trans (List.length_filter_le _ _) (by simp; omega)
  have hst:=Zpu (m:=n) (j:=j)
  refine joinK ?_
  refine condI (fun hb=>?_) fun hb=>?_
  ·refine fldI B2 (x:=kn) rfl ?_
   refine appF Zv7 (x:=(j:Int)) rfl o2 hsz (by omega) (by omega) fun r w3 o3 f3 _=>?_
   rw [Z3]
   refine setI (i:=0+1) (B2.frUp (o2.upFr f3) (by omega)) (by simp) rfl fun w4 B4 f4 s4=>?_
   rw [if_pos hb] at hst
   refine hK _ _ ⟨by rw [wu8 (by omega)]; rfl,r,B4,?_,?_⟩
   ·rw [hst]
    exact o3.fr f4 fun k hk e=>by have:w1.heap.size≤k:=hk; omega
   ·exact (f2.then ((o2.upFr f3).upLe (by omega))).trans f4 (fun _ h=>h) (fun x _ e=>by show _≤_; omega)
  ·rw [if_neg (by simp [hb]),List.append_nil] at hst
   exact hK _ _ ⟨by rw [wu8 (by omega)]; rfl,kn,B2,by rw [hst]; exact o2,f2⟩
 ·rintro s w2 ⟨rfl,kn,B2,o2,f2⟩
  have hsz:=f2.size
  refine h2 (fun k=>if k=w.heap.size then 2 else if k=w.heap.size+1 then 1 else if w1.heap.size≤k∧k < w2.heap.size then 3 else 0) (w.heap.size+1) w2 (by omega)
   ⟨TabOk.nil (by omega),kn,⟨none,0,0⟩,fun _=>⟨none,0,0⟩,w.heap.size,⟨B2,by simp,by simp,?_,Den.Own.nil _ _ _ _,?_,?_,?_⟩⟩ ?_ (f01.thenUp f2 (by omega))
  ·refine o2.mono fun k hk h=>?_
   have h:w1.heap.size≤k:=h
   show (if _ then _ else _)=3
   rw [if_neg (by omega),if_neg (by omega),if_pos ⟨h,hk⟩]
  ·intro k _
   have:colM n [] k=[]:=by unfold colM; split <;> rfl
   rw [this]
   exact Den.Own.nil _ _ _ _
  ·exact (mb1.fr f2 fun h=>by have:w.heap.size+1≤w.heap.size:=h; omega).congr fun i=>rfl
  ·intro k hk
   by_cases h1:k=w.heap.size
   ·omega
   ·by_cases h2:k=w.heap.size+1
    ·omega
    ·simp only [if_neg h1,if_neg h2] at hk
     split at hk
     ·rename_i h3; exact h3.2
     ·exact absurd rfl hk
  ·intro k hk
   by_cases h1:k=w.heap.size
   ·omega
   ·by_cases h2:k=w.heap.size+1
    ·omega
    ·simp only [if_neg h1,if_neg h2] at hk
     split at hk
     ·rename_i h3; omega
     ·exact absurd rfl hk
section
variable {lab:Nat→Nat} {b m:Nat} {L:List Ent}
theorem Zlo {ok:Nat→Prop} {s:Sl} {l:List Int} (hS:SlT ok w u8T s l) (hm:Small l) {k:Int} {K:Res [.sc .bool]→W R} (hk:K (decide (k∈l)) Q w) :
  callW Tryz.prog Z3w [.slice s.a s.n s.c,.int .u8 k] [.sc .bool] K Q w:=by
 refine Zbe _ _ K Q w ?_
 unfold Z6a
 refine Zdp _ _ _ _ w ?_
 unfold Z8g
 have hlen:=hS.len
 refine forI (N:=s.n) (fun s:Int=>s) (fun j i w'=>i=j∧w'=w∧∀ q y,q < j→l[q]?=some y→y≠k) ⟨rfl,rfl,by omega⟩ (fun j s w' h=>h.1) ?_ ?_
 ·rintro j i w1 K' hj ⟨rfl,rfl,hno⟩ - hK
  refine hS.get rfl rfl (by omega) fun x hx=>?_
  refine condE (fun h=>?_) fun h=>?_
  ·have:decide (k∈l)=true:=decide_eq_true (by subst h; exact List.mem_of_getElem? hx)
   rw [this] at hk
   show K (decide ((j:Int) ≥ 0)) Q w1
   rw [decide_eq_true (by omega)]
   exact hk
  ·refine hK _ _ ⟨wsucc hj (by omega),rfl,fun q y hq hy=>?_⟩
   rcases Nat.lt_succ_iff_lt_or_eq.1 hq with h1 | h1
   ·exact hno q y h1 hy
   ·subst h1; rw [hx] at hy; cases hy; exact fun e=>h e.symm
 ·rintro i w1 ⟨rfl,rfl,hno⟩
  have:decide (k∈l)=false:=decide_eq_false fun hm=>by
   obtain ⟨q,hq⟩:=List.mem_iff_getElem?.1 hm
   exact hno q k (by rw [hlen]; exact (List.getElem?_eq_some_iff.1 hq).1) hq rfl
  rw [this] at hk
  exact hk
theorem Zdy (m:Nat):(kindsOf m).length≤6:=by
 rw [kindsOf,List.length_map]
 exact List.length_filter_le _ (List.range 6)
theorem Zj6 (h:Tab lab w b m L) {i:Int} {K:Res [.agg [.int .u32,.sl],.sc .bool]→W R} (h0:(i < 0∨(L.length:Int)≤i)→∀ w',Fr None w w'→K ((0,⟨none,0,0⟩),false) Q w')
  (hk:∀ (j:Nat) e s w',i=(j:Int)→L[j]?=some e→Den.Own (Up w.heap.size) w' 52 compT s e.2→Fr None w w'→K ((e.1,s),true) Q w') :
  callW Tryz.prog Z55 [.pointer (some ⟨b,0,none⟩),.int .i64 i] [.agg [.int .u32,.sl],.sc .bool] K Q w:=by
 refine Zh7 _ _ K Q w ?_
 unfold Zb8
 refine newI fun w1 B1 f1 s1=>?_
 have hsm:=h.ok.small
 have h1:=h.fr0 f1
 refine joinI (fun z w'=>z=decide (i < 0∨(L.length:Int)≤i)∧w'=w1) ?_ ?_
 ·refine condD (fun h=>⟨by simp [h],rfl⟩) fun hi=>?_
  refine Zh2 h1 ⟨?_,rfl⟩
  by_cases hl:(L.length:Int)≤i
  ·simp [hi,hl]
  ·simp [hi,hl]
 ·rintro z w2 ⟨rfl,rfl⟩
  refine condD (fun ho=>?_) fun hin=>?_
  ·refine stoAll B1 rfl rfl fun w3 B3 f3 s3=>?_
   refine aggI B3 (x:=(0,⟨none,0,0⟩)) rfl ?_
   exact h0 ho w3 (f1.newer f3 fun x e=>by omega)
  ·obtain ⟨j,rfl⟩:∃ j:Nat,i=(j:Int):=⟨i.toNat,by omega⟩
   have hj:j < L.length:=by omega
   obtain ⟨e,he⟩:∃ e,L[j]?=some e:=⟨_,List.getElem?_eq_getElem hj⟩
   have hv:=h.ok.valid e (List.mem_of_getElem? he)
   obtain ⟨kinds,ids,cols,mp,r⟩:=h1.rep
   refine ptrI ?_
   rw [Z3,Z3]
   refine fld0 r.blk (x:=ids) rfl ?_
   refine r.ids.sl.get rfl rfl (by rw [List.length_map]; exact hj) fun x hx=>?_
   have hx1:x=e.1:=by rw [List.getElem?_map,he] at hx; exact (Option.some.inj hx).symm
   subst hx1
   refine newI fun w3 B3 f3 s3=>?_
   refine stoAll B3 rfl rfl fun w4 B4 f4 s4=>?_
   have f14:Fr None w2 w4:=f3.newer f4 fun x e=>by omega
   have r4:=r.fr f14 (fun _ _ h=>h)
   have h4:=h1.fr0 f14
   refine ptrI ?_
   refine fldI r4.blk (x:=kinds) rfl ?_
   have hkl:=Zdy m
   have hnk:=r4.kinds.len
   refine forI (N:=kinds.n) (fun s:Int=>s) (fun q s w'=>s=(q:Int)∧∃ o:Sl,Blk w' w2.heap.size 49 [.int .u32 e.1,o.v] ∧
     Den.Own (Up w4.heap.size) w' 52 compT o (((kindsOf m).take q).map fun k=>(k,fieldsOf e.2 k))∧Fr (Up w2.heap.size) w4 w')
    ⟨rfl,⟨none,0,0⟩,B4,Den.Own.nil _ _ _ _,Fr.refl _ _⟩ (fun j s w' h=>h.1) ?_ ?_
   ·rintro q s w5 K' hq ⟨rfl,o,B5,o5,f5⟩ - hK
    have h5:=h4.fr f5 fun k hk hu=>by have:=h1.lt hk; have hu:w2.heap.size≤k:=hu; omega
    have r5:=r4.fr f5 fun k hk hu=>by have:=h1.lt hk; have hu:w2.heap.size≤k:=hu; omega
    have hsz:=f5.size
    refine r5.kinds.sl.get rfl rfl (by omega) fun x hx=>?_
    obtain ⟨k,hk6,hkb,rfl⟩:=Z1i.1 (List.mem_of_getElem? hx)
    have f5d:Fr None w5 w5.drew:=(Fr.refl _ _).drew
    refine fldI B5.drew (x:=o) rfl ?_
    refine Zfo (h5.fr0 f5d) he hk6 hkb fun w6 f6=>?_
    have f56:=f5d.then0 f6
    have B6:=B5.fr f56 (fun h=>h)
    refine ⟨?_,?_⟩
    ·rw [Z3]
     exact B6.cell 1
    have o6:=o5.none f56
    have hsz6:=f56.size
    refine appF Z35 (x:=((k:Int),fieldsOf e.2 (k:Int))) rfl o6 (by omega) (by rw [List.length_map,List.length_take]; omega) (by rw [List.length_map,List.length_take]; omega) fun r7 w7 o7 f7 _=>?_
    rw [Z3]
    refine setI (i:=0+1) (B6.frUp (o6.upFr f7) (by omega)) (by simp) rfl fun w8 B8 f8 s8=>?_
    refine hK _ _ ⟨wsucc hq (by omega),r7,B8,?_,?_⟩
    ·have:=o7.fr f8 fun k hk e=>by have:w4.heap.size≤k:=hk; omega
     rw [Z1q hx,List.map_append]
     exact this
    ·exact (f5.then (f56.up.then ((o6.upFr f7).upLe (by omega)))).trans f8 (fun _ h=>h) (fun x _ e=>by show _≤_; omega)
   ·rintro s w5 ⟨rfl,o,B5,o5,f5⟩
    refine aggI B5 (x:=(e.1,o)) rfl ?_
    rw [hnk,List.take_length,← hv.eq] at o5
    have hsz:=f5.size
    have B15:=(B1.fr f14 (fun h=>h)).frUp f5 (by omega)
    refine stoAll B15 rfl rfl fun w6 B6 f6 s6=>?_
    refine aggI B6 (x:=(e.1,o)) rfl ?_
    refine hk j e o w6 rfl he ((o5.fr f6 fun k hk e=>by have:w4.heap.size≤k:=hk; omega).up (by omega)) (((f1.then0 f14).thenUp f5 (by omega)).newer f6 fun x e=>by omega)
end
section
variable {lab:Nat→Nat} {b m:Nat} {L:List Ent}
def findT (m:Nat) (L:List Ent) (id k:Int):Int × Int:=match rowM L id with
 | none=>(0,7)
 | some i=>if k∈kindsOf m then ((i:Int),0) else (0,10)
theorem Zfp (h:Tab lab w b m L) {id k:Int} (hid:IdOk id) {K:Res [.sc (.int .i64),.sc (.int .i64)]→W R} (hk:K (findT m L id k) Q w) :
  callW Tryz.prog Z44 [.pointer (some ⟨b,0,none⟩),.int .u32 id,.int .u8 k] [.sc (.int .i64),.sc (.int .i64)] K Q w:=by
 refine Zer _ _ _ K Q w ?_
 unfold Z9h
 refine Z9s h hid ?_
 refine condF rfl ?_
 unfold findT at hk
 cases hr:rowM L id with
 | none=>rw [hr] at hk; exact hk
 | some i =>
  rw [hr] at hk
  refine condF rfl ?_
  obtain ⟨kinds,ids,cols,mp,r⟩:=h.rep
  refine ptrI ?_
  refine fldI r.blk (x:=kinds) rfl ?_
  refine Zlo r.kinds.sl (by have:=Zdy m; omega) ?_
  by_cases hm:k∈kindsOf m
  ·simp only [if_pos hm] at hk
   rw [decide_eq_true hm]
   exact hk
  ·simp only [if_neg hm] at hk
   rw [decide_eq_false hm]
   exact hk
theorem Zos {L:List Ent} {i:Nat} {e:Ent} (h:L[i]?=some e) (k:Int):compM L i k=(k,fieldsOf e.2 k):=by simp [compM,h]
theorem Zna (h:Tab lab w b m L) {id k:Int} (hid:IdOk id) {K:Res [.agg [.int .u8,.int .i32,.int .i32,.int .i32],.sc (.int .i64)]→W R} (hk:∀ w',Fr None w w'→K (getM m L id k) Q w') :
  callW Tryz.prog Z4i [.pointer (some ⟨b,0,none⟩),.int .u32 id,.int .u8 k] [.agg [.int .u8,.int .i32,.int .i32,.int .i32],.sc (.int .i64)] K Q w:=by
 refine Zg3 _ _ _ K Q w ?_
 unfold Zaf
 refine newI fun w1 B1 f1 s1=>?_
 have h1:=h.fr0 f1
 refine Zfp h1 hid ?_
 have no:∀ {z:Int},z≠0→getM m L id k=((0,0,0,0),z)→findT m L id k=(0,z)→(cond (z != 0)
  (stoL ⟨w.heap.size,0,none⟩ [.int .u8 0,.int .i32 0,.int .i32 0,.int .i32 0] 0 <|
  ld (.agg [.int .u8,.int .i32,.int .i32,.int .i32]) ⟨w.heap.size,0,none⟩ fun (x_3:(Int × Int × Int × Int)) =>
  retW (x_3,z)) (fun _ _=>False):W ((Int × Int × Int × Int) × Int)) (fun r w=>K r Q w) w1:=by
  intro z hz hg _
  refine condT (by simpa using hz) ?_
  refine stoAll B1 rfl rfl fun w2 B2 f2 s2=>?_
  refine aggI B2 (x:=(0,0,0,0)) rfl ?_
  have e:=hk w2 (f1.newer f2 fun x e=>by omega)
  rw [hg] at e
  exact e
 unfold findT getM at *
 cases hr:rowM L id with
 | none =>
  simp only [hr] at no ⊢
  exact no (z:=7) (by omega) rfl rfl
 | some i =>
  simp only [hr] at no hk ⊢
  by_cases hm:k∈kindsOf m
  ·simp only [if_pos hm] at hk ⊢
   refine condF rfl ?_
   obtain ⟨q,hq6,hqb,rfl⟩:=Z1i.1 hm
   obtain ⟨_,e,he,_⟩:=Z4d hr
   refine Zfo h1 he hq6 hqb fun w2 f2=>?_
   refine stoAll (B1.fr f2 fun h=>h) rfl rfl fun w3 B3 f3 s3=>?_
   refine aggI B3 (x:=((q:Int),fieldsOf e.2 (q:Int))) rfl ?_
   have e2:=hk w3 ((f1.then0 f2).newer f3 fun x e=>by omega)
   rw [Zos he] at e2
   exact e2
  ·simp only [if_neg hm] at no ⊢
   exact no (z:=10) (by omega) rfl rfl
theorem TabR.upd {kinds ids:Sl} {cols:Nat→Sl} {mp:Nat} {ks is:List Int} {cl:Nat→List F3} {rows:Int→Option Nat} (r:TabR lab w b m kinds ids cols mp ks is cl rows) {k:Nat} {l:List F3} {w':World}
  (o:Den.Own (fun x=>lab x=5+k) w' 322 f3T (cols k) l) (f:Fr (fun x=>lab x=5+k) w w'):TabR lab w' b m kinds ids cols mp ks is (fun q=>if q=k then l else cl q) rows:=by
 have ne:∀ j,j < 5∨j≠5+k→∀ q,lab q=j→¬ (lab q=5+k):=fun j h q e h=>by omega
 refine ⟨r.blk.fr f (ne 1 (by omega) b r.lb),r.lb,r.lm,r.kinds.fr f (ne 3 (by omega)),r.ids.fr f (ne 4 (by omega)),fun q hq=>?_,r.map.fr f (ne 2 (by omega) mp r.lm),fun q h=>Nat.lt_of_lt_of_le (r.lt q h) f.size⟩
 show Den.Own (fun x=>lab x=5+q) w' 322 f3T (cols q) (if q=k then l else cl q)
 by_cases h:q=k
 ·subst h; rw [if_pos rfl]; exact o
 ·rw [if_neg h]; exact (r.cols q hq).fr f (ne _ (by omega))
theorem Zsi {m:Nat} {L:List Ent} (h:TabOk m L) {i:Nat} {e:Ent} {c:Comp} (hi:L[i]?=some e) (hc:checkM c=0) {k:Nat} (hk6:k < 6) (hck:c.1=(k:Int)) (hb:Nat.testBit m k=true) {q:Nat} (hq:q < 6) :
  colM m (setL L i c) q=if q=k then (colM m L k).set i c.2 else colM m L q:=by
 have hv:=h.valid e (List.mem_of_getElem? hi)
 have hkm:c.1∈kindsOf m:=Z1i.2 ⟨k,hk6,hb,hck⟩
 have hf:=(Zjh h.mask hv hc hkm).2
 rw [Zgf hi]
 by_cases hqk:q=k
 ·subst hqk
  rw [if_pos rfl,colM,colM,if_pos hb,if_pos hb,List.map_set]
  congr 1
  rw [hf _ (by rw [← hck]; exact hkm),if_pos hck.symm]
 ·rw [if_neg hqk]
  unfold colM
  split
  ·rename_i hbq
   rw [List.map_set]
   have:fieldsOf (withM e.2 c) (q:Int)=fieldsOf e.2 (q:Int):=by
    rw [hf _ (Z1i.2 ⟨q,hq,hbq,rfl⟩),if_neg (by omega)]
   rw [this]
   apply List.ext_getElem?
   intro p
   rw [List.getElem?_set]
   by_cases hp:i=p
   ·subst hp
    have h1:=(List.getElem?_eq_some_iff.1 hi).1
    simp [h1]
    rw [(List.getElem?_eq_some_iff.1 hi).2]
   ·rw [if_neg hp]
  ·rfl
def setT (m:Nat) (L:List Ent) (id:Int) (c:Comp):List Ent:=if setM m L id c=0 then setL L ((rowM L id).getD 0) c else L
theorem Znd (h:Tab lab w b m L) {id:Int} {c:Comp} (hid:IdOk id) {K:Res [.sc (.int .i64)]→W R}
  (hk:∀ w',Tab lab w' b m (setT m L id c)→Fr (fun k=>lab k≠0) w w'→K (setM m L id c) Q w') :
  callW Tryz.prog Z4k [.pointer (some ⟨b,0,none⟩),.int .u32 id,.agg ⟨compC c⟩] [.sc (.int .i64)] K Q w:=by
 refine Zg7 _ _ _ K Q w ?_
 unfold Zaj
 refine newI fun w1 B1 f1 s1=>?_
 refine condF rfl ?_
 refine aggI B1 (x:=c) rfl ?_
 refine Z3a (c:=c) fun w2 f2=>?_
 have B2:=B1.fr f2 fun h=>h
 have f12:=f1.then0 f2
 have fin:∀ {z:Int} {w':World},Fr None w w'→z≠0→setM m L id c=z→K z Q w':=by
  intro z w' f hz hs
  have e:=hk w' (by rw [setT,hs,if_neg hz]; exact h.fr0 f) (f.mono fun _ _ h=>h.elim)
  rw [hs] at e
  exact e
 refine condN (fun hc=>?_) fun hc=>?_
 ·exact fin f12 hc (by rw [setM,if_pos hc])
 ·refine fldI B2 (x:=c.1) rfl ?_
  have h2:=h.fr0 f12
  refine Zfp h2 hid ?_
  unfold findT
  refine joinK ?_
  cases hr:rowM L id with
  | none =>
   have hs:setM m L id c=7:=by rw [setM,if_neg (by simpa using hc),hr]
   exact condF rfl (fin (z:=7) f12 (by omega) hs)
  | some i =>
   have hs:setM m L id c=if c.1∈kindsOf m then 0 else 10:=by rw [setM,if_neg (by simpa using hc),hr]
   by_cases hm:c.1∈kindsOf m
   ·rw [if_pos hm] at hs
    simp only [if_pos hm]
    refine condT rfl ?_
    have fd:Fr None w2 w2.drew:=(Fr.refl _ _).drew
    refine fldI B2.drew (x:=c.1) rfl ?_
    obtain ⟨k,hk6,hkb,hck⟩:=Z1i.1 hm
    obtain ⟨_,e,he,_⟩:=Z4d hr
    have h2d:=h2.fr0 fd
    obtain ⟨kinds,ids,cols,mp,r⟩:=h2d.rep
    refine ptrI ?_
    rw [hck,Z3]
    refine idxB (by omega) (by omega) ?_
    rw [Z3]
    refine fld0 r.blk (x:=cols k) (by rw [show 0+3+(k:Int).toNat * 1+0=3+k by simp]; exact Zhl hk6) ?_
    rw [Z3]
    refine aggI' B2.drew (x:=c.2) (fun j u hj=>by rw [show 0+1+j=j+1 by omega]; exact hj) ?_
    have hcl:i < (colM m L k).length:=by rw [colM,if_pos hkb,List.length_map]; exact (List.getElem?_eq_some_iff.1 he).1
    refine (r.cols k hk6).idx rfl (by omega) (by omega) fun g x hg _ _=>?_
    rw [Int.toNat_natCast]
    refine (r.cols k hk6).set rfl hcl hg c.2 fun w3 o3 f3 s3=>?_
    have f3':Fr (fun x=>lab x=5+k) w2.drew w3:=f3.mono fun x _ e=>(r.cols k hk6).own x e
    have r3:=r.upd o3 f3'
    have hL:setT m L id c=setL L i c:=by rw [setT,hs,if_pos rfl,hr]; rfl
    have e2:=hk w3 (by
     rw [hL]
     refine ⟨h.ok.set he (by simpa using hc) hm,kinds,ids,cols,mp,?_⟩
     rw [Zhk he,Zkm (Zhk he)]
     refine ⟨r3.blk,r3.lb,r3.lm,r3.kinds,r3.ids,fun q hq=>?_,r3.map,r3.lt⟩
     rw [Zsi h.ok he (by simpa using hc) hk6 hck hkb hq]
     exact r3.cols q hq) ((f12.then0 fd).trans f3' (fun _ h=>h.elim) (fun x _ e=>by omega))
    rw [hs] at e2
    exact e2
   ·rw [if_neg hm] at hs
    simp only [if_neg hm]
    exact condF rfl (fin (z:=10) f12 (by omega) hs)
end
end Go.Proofs.YtoiahhpgkoknfaaGreat
namespace Go.Proofs.YtoiahhpgkoknfaaGreat
open Go Go.RowKit Go.Proofs.YtoiahhpgkoknfaaGreat.Den
variable {R:Type} {Q:R→World→Prop} {w:World}
section
variable {lab:Nat→Nat} {b m:Nat} {L:List Ent}
def addT (m:Nat) (L:List Ent) (id:Int) (l:List Comp):List Ent:=if addM m L id l=0 then L ++ [(id,l)] else L
def colJ (m:Nat) (L:List Ent) (l:List Comp) (j:Nat) (k:Nat):List F3:=if (k:Int)∈(l.take j).map (·.1) then colM m L k ++ [fieldsOf l (k:Int)] else colM m L k
theorem Zqo {m:Nat} {L:List Ent} {l:List Comp} (hr:Rising (l.map (·.1))) {j k:Nat} {x:Comp} (hx:l[j]?=some x) (hk:x.1=(k:Int)) (q:Nat) :
  colJ m L l (j+1) q=if q=k then colJ m L l j k ++ [x.2] else colJ m L l j q:=by
 have hm:∀ q:Nat,(q:Int)∈(l.take (j+1)).map (·.1)↔(q:Int)∈(l.take j).map (·.1)∨q=k:=by
  intro q
  rw [Z1q hx,List.map_append,List.mem_append,List.map_cons,List.map_nil,List.mem_singleton,hk]
  exact or_congr Iff.rfl ⟨fun h=>by omega,fun h=>by omega⟩
 by_cases hq:q=k
 ·subst hq
  have hno:(q:Int) ∉ (l.take j).map (·.1):=by
   intro h
   rw [List.map_take] at h
   obtain ⟨p,hp⟩:=List.mem_iff_getElem?.1 h
   rw [List.getElem?_take] at hp
   split at hp
   ·rename_i hpj
    rw [Rising,List.pairwise_iff_getElem] at hr
    have hxj:(l.map (·.1))[j]?=some x.1:=by rw [List.getElem?_map,hx]; rfl
    obtain ⟨h1,h2⟩:=List.getElem?_eq_some_iff.1 hp
    obtain ⟨h3,h4⟩:=List.getElem?_eq_some_iff.1 hxj
    have:=hr p j h1 h3 hpj
    rw [h2,h4,hk] at this
    omega
   ·cases hp
  rw [if_pos rfl,colJ,if_pos ((hm q).2 (.inr rfl)),colJ,if_neg hno,← hk,Z9n hr (List.mem_of_getElem? hx)]
 ·rw [if_neg hq,colJ,colJ]
  by_cases h:(q:Int)∈(l.take j).map (·.1)
  ·rw [if_pos ((hm q).2 (.inl h)),if_pos h]
  ·rw [if_neg (fun h2=>((hm q).1 h2).elim h hq),if_neg h]
theorem Zsg {m:Nat} {L:List Ent} {l:List Comp} (hv:Valid m l) {id:Int} {q:Nat} (hq:q < 6):colJ m L l l.length q=colM m (L ++ [(id,l)]) q:=by
 rw [colJ,List.take_length,hv.kinds]
 unfold colM
 by_cases hb:Nat.testBit m q
 ·rw [if_pos (Z1i.2 ⟨q,hq,hb,rfl⟩),if_pos hb,if_pos hb,List.map_append]
  rfl
 ·rw [if_neg (fun h => by obtain ⟨k, _, hk, e⟩ := Z1i.1 h; have : q = k := by omega
                          subst this; exact hb hk),if_neg hb,if_neg hb]
theorem Zt6 {L:List Ent} {id:Int} {l:List Comp} (h:rowM L id=none) (j:Int):rowM (L ++ [(id,l)]) j=if j=id then some L.length else rowM L j:=by
 unfold rowM at *
 rw [List.findIdx?_append]
 by_cases hj:j=id
 ·subst hj
  rw [if_pos rfl,h]
  simp
 ·rw [if_neg hj]
  have:List.findIdx? (fun e:Ent=>e.1 == j) [(id,l)]=none:=by simp; exact fun e=>hj e.symm
  rw [this]
  cases List.findIdx? (fun e:Ent=>e.1 == j) L <;> rfl
theorem Zn9 (h:Tab lab w b m L) {id:Int} (hid:IdOk id) {ok:Nat→Prop} {s:Sl} {l:List Comp} (hS:SlT ok w compT s l) (hd:∀ k,ok k→lab k=0) (hm:Small l) (hl:∀ c∈l,CompOk c) (hroom:L.length < 1048576) {K:Res [.sc (.int .i64)]→W R}
  (hk:∀ lab' w',Tab lab' w' b m (addT m L id l)→(∀ k,lab' k≠0→lab k≠0∨w.heap.size≤k)→Fr (fun k=>lab k≠0) w w'→K (addM m L id l) Q w') :
  callW Tryz.prog Z4h [.pointer (some ⟨b,0,none⟩),.int .u32 id,.slice s.a s.n s.c] [.sc (.int .i64)] K Q w:=by
 refine Zg2 _ _ _ K Q w ?_
 unfold Zae
 refine condF rfl ?_
 have fin:∀ {z:Int} {w':World},Fr None w w'→z≠0→addM m L id l=z→K z Q w':=by
  intro z w' f hz hs
  have e:=hk lab w' (by rw [addT,hs,if_neg hz]; exact h.fr0 f) (fun k e=>.inl e) (f.mono fun _ _ h=>h.elim)
  rw [hs] at e
  exact e
 refine Z77 hS hm fun w1 f1=>?_
 refine condN (fun hc=>fin f1 hc (by rw [addM,if_pos hc])) fun hc=>?_
 have fd:Fr None w w1.drew:=f1.drew
 have hd1:=h.fr0 fd
 obtain ⟨kinds,ids,cols,mp,r⟩:=hd1.rep
 refine ptrI ?_
 refine fldI r.blk (x:=(m:Int)) rfl ?_
 refine Zbb (hS.fr0 fd) hm hl fun w2 f2=>?_
 have f02:=fd.then0 f2
 have h2:=h.fr0 f02
 refine ⟨by rw [Z3]; exact (r.blk.fr f2 (fun h=>h)).cell 0,?_⟩
 refine condN (fun hmask=>fin (z:=4) f02 (by omega) (by rw [addM,if_neg (by simpa using hc),if_pos (by omega)])) fun hmask=>?_
 have hmask':maskN l=m:=by omega
 refine Z9s h2 hid ?_
 refine condI (fun hrow=>fin (z:=9) f02 (by omega) (by rw [addM,if_neg (by simpa using hc),if_neg (by omega),if_pos hrow])) fun hrow=>?_
 have hrow':rowM L id=none:=by simpa using hrow
 have hadd:addM m L id l=0:=by rw [addM,if_neg (by simpa using hc),if_neg (by omega),if_neg (by simp [hrow'])]
 have hv:Valid m l:=⟨hc,hmask'⟩
 have f03:Fr None w w2.drew:=f02.drew
 have h3:=h.fr0 f03
 clear r h2 hd1 kinds ids cols mp
 obtain ⟨kinds,ids,cols,mp,r⟩:=h3.rep
 refine ptrI ?_
 refine fldI r.blk (x:=some mp) rfl ?_
 refine ptrI ?_
 rw [Z3,Z3]
 refine fld0 r.blk (x:=ids) rfl ?_
 have hidn:ids.n=L.length:=by rw [r.ids.len,List.length_map]
 rw [hidn]
 refine r.mapPut hid L.length fun w4 r4 f4 s4=>?_
 refine ptrI ?_
 rw [Z3]
 refine r4.colID_add (by simpa using h.ok.small) fun lab5 ids5 w5 r5 hn5 f5=>?_
 have f45:Fr (fun k=>lab k≠0) w w5:=(f03.trans f4 (U:=fun k=>lab k≠0) (fun _ h=>h.elim) (fun _ _ h=>h)).then f5
 have hsz4:w.heap.size≤w4.heap.size:=by have:=f03.size; omega
 have hcn:∀ k,colM m L k=colJ m L l 0 k:=fun k=>by simp [colJ]
 have hlen:=hS.len
 refine forI (N:=s.n) (fun s:Int=>s) (fun j i w'=>i=(j:Int)∧∃ lab' cols',TabR lab' w' b m kinds ids5 cols' mp (kindsOf m) (L.map (·.1) ++ [id]) (colJ m L l j) (fun i=>if i=id then some L.length else rowM L i) ∧
   (∀ k,lab' k≠0→lab k≠0∨w.heap.size≤k)∧Fr (fun k=>lab k≠0) w w')
  ⟨rfl,lab5,cols,by rw [show colJ m L l 0=colM m L from funext fun k=>(hcn k).symm]; exact r5,fun k e=>(hn5 k e).imp (fun h=>h) (fun h=>by omega),f45⟩ (fun j s w' h=>h.1) ?_ ?_
 ·rintro j i w6 K' hj ⟨rfl,lab6,cols6,r6,hn6,f6⟩ - hK
  refine (hS.fr f6 (fun k hk e=>e (hd k hk))).get rfl rfl (by omega) fun x hx=>?_
  have hxl:=List.mem_of_getElem? hx
  have hxk:=Z49 ((Z3x.1 hc).1 x hxl)
  obtain ⟨k,hkk⟩:∃ k:Nat,x.1=(k:Int):=⟨x.1.toNat,(Int.toNat_of_nonneg hxk.1).symm⟩
  have hk6:k < 6:=by have h2:=hxk.2; rw [hkk] at h2; omega
  refine locI rfl rfl fun w7 B7 f7 s7=>?_
  refine fldI B7.drew (x:=x.1) rfl ?_
  refine ptrI ?_
  rw [hkk,Z3]
  refine idxB (by omega) (by omega) ?_
  rw [Z3]
  refine aggI' B7.drew (x:=x.2) (fun q u hq=>by rw [show 0+1+q=q+1 by omega]; exact hq) ?_
  rw [show 0+3+(k:Int).toNat * 1=3+k by simp]
  have fd7:Fr None w6 w7.drew:=f7.drew
  have r7:=r6.fr fd7 (fun _ _ h=>h)
  have hsm:Small (colJ m L l j k):=by
   have:=Zsh m L k
   have hst:=h.ok.small
   unfold colJ Small
   split <;> simp <;> omega
  refine r7.colF_add (x:=x.2) hk6 hsm fun lab8 cols8 w8 r8 hn8 f8=>?_
  refine hK _ _ ⟨wsucc hj (by omega),lab8,cols8,?_,fun q hq=>?_,?_⟩
  ·rw [show colJ m L l (j+1)=fun q=>if q=k then colJ m L l j k ++ [x.2] else colJ m L l j q from funext fun q=>Zqo (Z3x.1 hc).2 hx hkk q]
   exact r8
  ·rcases hn8 q hq with h | h
   ·exact hn6 q h
   ·have:=f6.size; have:=fd7.size; exact .inr (by omega)
  ·refine (f6.trans fd7 (U:=fun k=>lab k≠0) (fun _ h=>h) (fun _ _ h=>h.elim)).trans f8 (fun _ h=>h) fun q hq hl=>?_
   rcases hn6 q hl with h | h
   ·exact h
   ·omega
 ·rintro i w6 ⟨rfl,lab6,cols6,r6,hn6,f6⟩
  have e:=hk lab6 w6 (by
   rw [addT,hadd,if_pos rfl]
   refine ⟨h.ok.add hid hadd hroom,kinds,ids5,cols6,mp,?_⟩
   rw [List.map_append,show rowM (L ++ [(id,l)])=fun i=>if i=id then some L.length else rowM L i from funext fun j=>Zt6 hrow' j]
   refine ⟨r6.blk,r6.lb,r6.lm,r6.kinds,r6.ids,fun q hq=>?_,r6.map,r6.lt⟩
   rw [← Zsg hv hq,← hlen]
   exact r6.cols q hq) hn6 f6
  rw [hadd] at e
  exact e
def colD (m:Nat) (L:List Ent) (i j:Nat) (k:Nat):List F3:=if (k:Int)∈(kindsOf m).take j then dropI (colM m L k) i else colM m L k
theorem Zqn {m:Nat} {L:List Ent} {i j k:Nat} (hx:(kindsOf m)[j]?=some (k:Int)) (q:Nat):colD m L i (j+1) q=if q=k then dropI (colD m L i j k) i else colD m L i j q:=by
 have hm:∀ q:Nat,(q:Int)∈(kindsOf m).take (j+1)↔(q:Int)∈(kindsOf m).take j∨q=k:=by
  intro q
  rw [Z1q hx,List.mem_append,List.mem_singleton]
  exact or_congr Iff.rfl ⟨fun h=>by omega,fun h=>by omega⟩
 by_cases hq:q=k
 ·subst hq
  have hno:(q:Int) ∉ (kindsOf m).take j:=by
   intro h
   obtain ⟨p,hp⟩:=List.mem_iff_getElem?.1 h
   rw [List.getElem?_take] at hp
   split at hp
   ·rename_i hpj
    have hr:=Z6n m
    rw [Rising,List.pairwise_iff_getElem] at hr
    obtain ⟨h1,h2⟩:=List.getElem?_eq_some_iff.1 hp
    obtain ⟨h3,h4⟩:=List.getElem?_eq_some_iff.1 hx
    have:=hr p j h1 h3 hpj
    rw [h2,h4] at this
    omega
   ·cases hp
  rw [if_pos rfl,colD,if_pos ((hm q).2 (.inr rfl)),colD,if_neg hno]
 ·rw [if_neg hq,colD,colD]
  by_cases h:(q:Int)∈(kindsOf m).take j
  ·rw [if_pos ((hm q).2 (.inl h)),if_pos h]
  ·rw [if_neg (fun h2=>((hm q).1 h2).elim h hq),if_neg h]
theorem Zsf {m:Nat} {L:List Ent} {i q:Nat} (hq:q < 6):colD m L i (kindsOf m).length q=colM m (dropI L i) q:=by
 rw [colD,List.take_length]
 unfold colM
 by_cases hb:Nat.testBit m q
 ·rw [if_pos (Z1i.2 ⟨q,hq,hb,rfl⟩),if_pos hb,if_pos hb,Zf5]
 ·rw [if_neg (fun h => by obtain ⟨k, _, hk, e⟩ := Z1i.1 h; have : q = k := by omega
                          subst this; exact hb hk),if_neg hb,if_neg hb]
theorem Zj7 (h:Tab lab w b m L) {id:Int} (hid:IdOk id) {K:Res [.sc .sl,.sc (.int .i64)]→W R}
  (h0:rowM L id=none→K (⟨none,0,0⟩,7) Q w)
  (hk:∀ (i:Nat) e (s:Sl) w',rowM L id=some i→L[i]?=some e→Tab lab w' b m (dropI L i)→Den.Own (fun k=>w.heap.size≤k∧lab k=0) w' 52 compT s e.2→Fr (fun k=>lab k≠0) w w'→K (s,0) Q w') :
  callW Tryz.prog Z1j [.pointer (some ⟨b,0,none⟩),.int .u32 id] [.sc .sl,.sc (.int .i64)] K Q w:=by
 refine Zcx _ _ K Q w ?_
 unfold Z7m
 refine Z9s h hid ?_
 refine condF rfl ?_
 cases hr:rowM L id with
 | none=>exact condT rfl (h0 hr)
 | some i =>
  refine condF rfl ?_
  obtain ⟨hil,e,he,heid⟩:=Z4d hr
  have hsm:=h.ok.small
  show callW _ _ [.pointer (some ⟨b,0,none⟩),.int .i64 (i:Int)] _ _ _ _
  refine Zj6 h (fun ho=>by omega) fun j e' s1 w1 hj he' o1 f1=>?_
  have:j=i:=by omega
  subst this
  rw [he] at he'
  cases he'
  refine newI fun w2 B2 f2 s2=>?_
  refine stoAll B2 rfl rfl fun w3 B3 f3 s3=>?_
  have f13:Fr None w1 w3:=f2.newer f3 fun x e=>by omega
  have f03:=f1.then0 f13
  have h3:=h.fr0 f03
  have o3:=o1.none f13
  have hlt:∀ k,lab k≠0→k < w.heap.size:=fun k hk=>h.lt hk
  obtain ⟨kinds,ids,cols,mp,r⟩:=h3.rep
  refine ptrI ?_
  rw [Z3]
  refine r.colID_take (i:=j) (x:=e.1) (by simpa using hsm) (by rw [List.getElem?_map,he]; rfl) fun ids4 w4 r4 f4=>?_
  have f04:Fr (fun k=>lab k≠0) w w4:=f03.trans f4 (fun _ h=>h.elim) (fun _ _ h=>h)
  refine ptrI ?_
  refine fldI r4.blk (x:=kinds) rfl ?_
  have hnk:=r4.kinds.len
  have hkl:=Zdy m
  refine forI (N:=kinds.n) (fun s:Int=>s) (fun q s w'=>s=(q:Int)∧∃ cols',TabR lab w' b m kinds ids4 cols' mp (kindsOf m) (dropI (L.map (·.1)) j) (colD m L j q) (rowM L)∧Fr (fun k=>lab k≠0) w w'∧Fr (fun k=>lab k≠0) w3 w')
   ⟨rfl,cols,by rw [show colD m L j 0=colM m L from funext fun k=>by simp [colD]]; exact r4,f04,f4⟩ (fun j s w' h=>h.1) ?_ ?_
  ·rintro q s w5 K' hq ⟨rfl,cols5,r5,f5,f35⟩ - hK
   refine r5.kinds.sl.get rfl rfl (by omega) fun x hx=>?_
   obtain ⟨k,hk6,hkb,rfl⟩:=Z1i.1 (List.mem_of_getElem? hx)
   refine ptrI ?_
   rw [Z3]
   refine idxB (by omega) (by omega) ?_
   rw [show 0+3+(k:Int).toNat * 1=3+k by simp]
   have hcl:(colD m L j q k).length=L.length:=by
    have hno:(k:Int) ∉ (kindsOf m).take q:=by
     intro h
     obtain ⟨p,hp⟩:=List.mem_iff_getElem?.1 h
     rw [List.getElem?_take] at hp
     split at hp
     ·rename_i hpj
      have hr:=Z6n m
      rw [Rising,List.pairwise_iff_getElem] at hr
      obtain ⟨h1,h2⟩:=List.getElem?_eq_some_iff.1 hp
      obtain ⟨h3,h4⟩:=List.getElem?_eq_some_iff.1 hx
      have:=hr p q h1 h3 hpj
      rw [h2,h4] at this
      omega
     ·cases hp
    rw [colD,if_neg hno,colM,if_pos hkb,List.length_map]
   refine r5.colF_take hk6 (by rw [Small,hcl]; exact hsm) (i:=j) (by omega) fun x cols6 w6 r6 f6=>?_
   refine hK _ _ ⟨wsucc hq (by omega),cols6,?_,f5.then f6,f35.then f6⟩
   rw [show colD m L j (q+1)=fun p=>if p=k then dropI (colD m L j q k) j else colD m L j q p from funext fun p=>Zqn hx p]
   exact r6
  ·rintro s w5 ⟨rfl,cols5,r5,f5,f35⟩
   refine ptrI ?_
   rw [Z3,Z3]
   refine fld0 r5.blk (x:=ids4) rfl ?_
   have hidn:ids4.n=L.length - 1:=by rw [r5.ids.len,Z8j,List.length_map]
   obtain ⟨z,hz⟩:∃ z,L[L.length - 1]?=some z:=⟨_,List.getElem?_eq_getElem (by omega)⟩
   have hzi:IdOk z.1:=h.ok.ids z (List.mem_of_getElem? hz)
   refine joinI (fun _ w'=>∃ rows,TabR lab w' b m kinds ids4 cols5 mp (kindsOf m) (dropI (L.map (·.1)) j) (colD m L j kinds.n) rows∧(∀ q,q≠e.1→rows q=if q=z.1 then some j else rowM L q)∧Fr (fun k=>lab k≠0) w w'∧Fr (fun k=>lab k≠0) w3 w') ?_ ?_
   ·rw [hidn]
    refine condD (fun hlt2=>?_) fun hge=>?_
    ·have hlt2:(j:Int) < ((L.length - 1:Nat):Int):=hlt2
     have fd:Fr None w5 w5.drew:=(Fr.refl _ _).drew
     have r5d:=r5.fr fd (fun _ _ h=>h)
     refine ptrI ?_
     refine fldI r5d.blk (x:=some mp) rfl ?_
     refine ptrI ?_
     rw [Z3,Z3]
     refine fld0 r5d.blk (x:=ids4) rfl ?_
     have hzl:(dropI (L.map (·.1)) j)[j]?=some z.1:=by
      rw [Z6w (z:=z.1) (by rw [List.length_map,List.getElem?_map,hz]; rfl),List.length_map,if_pos (by omega),if_pos rfl]
     refine r5d.ids.sl.get rfl rfl (List.getElem?_eq_some_iff.1 hzl).1 fun x hx=>?_
     rw [hzl] at hx
     cases hx
     refine r5d.mapPut hzi j fun w6 r6 f6 s6=>?_
     have fd6:Fr (fun k=>lab k≠0) w5 w6:=fd.trans f6 (fun _ h=>h.elim) (fun _ _ h=>h)
     exact ⟨_,r6,fun q hq=>rfl,f5.then fd6,f35.then fd6⟩
    ·refine ⟨_,r5,fun q hq=>?_,f5,f35⟩
     have hge:¬ (j:Int) < ((L.length - 1:Nat):Int):=hge
     have:j=L.length - 1:=by omega
     rw [← this,he] at hz
     cases hz
     rw [if_neg hq]
   ·rintro _ w6 ⟨rows,r6,hrows,f6,f36⟩
    refine ptrI ?_
    refine fldI r6.blk (x:=some mp) rfl ?_
    refine r6.mapDel hid fun w7 r7 f7 s7=>?_
    have f37:=f36.then f7
    have f07:=f6.then f7
    have hnew:∀ k,w.heap.size≤k→¬ (lab k≠0):=fun k hk e=>by have:=hlt k e; omega
    have hw2:w.heap.size≤w2.heap.size:=by have:=f1.size; omega
    refine fldI (B3.fr f37 (hnew _ (by have:=f1.size; omega))) (x:=s1) rfl ?_
    refine hk j e s1 w7 hr he ⟨h.ok.drop hil,kinds,ids4,cols5,mp,?_⟩ ((o3.fr f37 fun k hk=>hnew k hk).mono fun k _ hk=>⟨hk,by
     have:=hnew k hk; omega⟩) f07
    rw [Zf5,show rowM (dropI L j)=fun q=>if q=id then none else rows q from funext fun q=>by
     rw [Zmu h.ok.nodup he hz q,heid]
     by_cases hq:q=id
     ·rw [if_pos hq,if_pos hq]
     ·rw [if_neg hq,if_neg hq,hrows q (by rw [heid]; exact hq)]]
    refine ⟨r7.blk,r7.lb,r7.lm,r7.kinds,r7.ids,fun q hq=>?_,r7.map,r7.lt⟩
    rw [← Zsf hq,← hnk]
    exact r7.cols q hq
end
end Go.Proofs.YtoiahhpgkoknfaaGreat
namespace Go.Proofs.YtoiahhpgkoknfaaGreat
open Go Go.RowKit Go.Proofs.YtoiahhpgkoknfaaGreat.Den
variable {R:Type} {Q:R→World→Prop} {w:World}
structure SM where
 first:Int
 gen:List Int
 used:List Bool
 free:List Int
 fresh:Nat
def idOf (slot gen:Int):Int:=gen * 1024+slot
def slotOf (id:Int):Int:=id % 1024
def genOf (id:Int):Int:=id / 1024
def SM.n (s:SM):Nat:=s.gen.length
def SM.count (s:SM):Nat:=s.used.countP (fun b=>b)
def SM.new (n:Nat) (first:Int):SM:=⟨first,List.replicate n 0,List.replicate n false,[],0⟩
def SM.use (s:SM) (i:Nat) (g:Int):SM:={ s with gen:=s.gen.set i g,used:=s.used.set i true }
def SM.take (s:SM):Option (Int × SM):=match s.free.getLast? with
 | some x=>match s.gen[x.toNat]? with
  | some g=>some (idOf x (g+1),{ s.use x.toNat (g+1) with free:=s.free.dropLast })
  | none=>none
 | none=>if s.fresh < s.n then some (idOf s.fresh s.first,{ s.use s.fresh s.first with fresh:=s.fresh+1 }) else none
def SM.live (s:SM) (id:Int):Bool:=s.used[(slotOf id).toNat]? == some true && s.gen[(slotOf id).toNat]? == some (genOf id)
def SM.freed (s:SM) (id:Int):SM:={ s with used:=s.used.set (slotOf id).toNat false,free:=if genOf id < 4194303 then s.free ++ [slotOf id] else s.free }
def SM.ids (s:SM):Nat→List Int
 | 0=>[]
 | j+1=>s.ids j ++ (match s.used[j]?,s.gen[j]? with
  | some true,some g=>[idOf j g]
  | _,_=>[])
def SM.list (s:SM):List Int:=s.ids s.n
structure SMOk (s:SM):Prop where
 pos:1≤s.n
 le:s.n≤1024
 len:s.used.length=s.n
 first:1≤s.first∧s.first≤4194303
 fresh:s.fresh≤s.n
 old:∀ i g,s.gen[i]?=some g→i < s.fresh→1≤g∧g≤4194303
 new:∀ i g,s.gen[i]?=some g→s.fresh≤i→g=0
 unused:∀ i,s.used[i]?=some true→i < s.fresh
 free:∀ x,x∈s.free↔∃ i:Nat,x=(i:Int)∧i < s.fresh∧s.used[i]?=some false∧∃ g,s.gen[i]?=some g∧g < 4194303
 nodup:s.free.Nodup
theorem Zpe {n:Nat} {first:Int} (h1:1≤n) (h2:n≤1024) (hf:1≤first∧first≤4194303):SMOk (SM.new n first):=by
 refine ⟨by simp [SM.n,SM.new]; omega,by simp [SM.n,SM.new]; omega,by simp [SM.n,SM.new],hf,by simp [SM.new],fun i g h hi=>by simp [SM.new] at hi,fun i g h _=>?_,fun i h=>?_,fun x=>?_,by simp [SM.new]⟩
 ·simp only [SM.new,List.getElem?_replicate] at h
  split at h
  ·cases h; rfl
  ·cases h
 ·simp only [SM.new,List.getElem?_replicate] at h
  split at h
  ·cases h
  ·cases h
 ·simp [SM.new]
theorem SMOk.use {s:SM} (h:SMOk s) {i:Nat} {g:Int} (hi:i < s.n) (hg:1≤g∧g≤4194303) {fr:Nat} (hfr:fr≤s.n) (hge:s.fresh≤fr) (hif:i < fr) (hle:∀ j,s.fresh≤j→j < fr→j=i) {free:List Int} (hfree:∀ x,x∈free↔x∈s.free∧x≠(i:Int)) (hnd:free.Nodup) :
  SMOk { s.use i g with fresh:=fr,free:=free }:=by
 refine ⟨?_,?_,?_,h.first,?_,fun j g' h1 h2=>?_,fun j g' h1 h2=>?_,fun j h1=>?_,fun x=>?_,hnd⟩
 ·simpa [SM.n,SM.use] using h.pos
 ·simpa [SM.n,SM.use] using h.le
 ·simpa [SM.n,SM.use] using h.len
 ·simpa [SM.n,SM.use] using hfr
 ·simp only [SM.use,List.getElem?_set] at h1
  split at h1
  ·split at h1
   ·cases h1; exact hg
   ·cases h1
  ·rename_i hne
   rcases Nat.lt_or_ge j s.fresh with hj | hj
   ·exact h.old j g' h1 hj
   ·exact absurd (hle j hj h2).symm hne
 ·simp only [SM.use,List.getElem?_set] at h1
  split at h1
  ·rename_i e; subst e; simp only at h2; omega
  ·exact h.new j g' h1 (Nat.le_trans hge h2)
 ·simp only [SM.use,List.getElem?_set] at h1
  split at h1
  ·rename_i e; subst e; exact hif
  ·exact Nat.lt_of_lt_of_le (h.unused j h1) hge
 ·rw [hfree,h.free]
  simp only [SM.use]
  constructor
  ·rintro ⟨⟨j,rfl,h1,h2,h3⟩,hne⟩
   have hji:¬ i=j:=fun e=>hne (by rw [e])
   exact ⟨j,rfl,Nat.lt_of_lt_of_le h1 hge,by rw [List.getElem?_set_ne hji]; exact h2,by rw [List.getElem?_set_ne hji]; exact h3⟩
  ·rintro ⟨j,rfl,h1,h2,h3⟩
   have hji:¬ i=j:=fun e=>by
    subst e
    rw [List.getElem?_set_self (by rw [h.len]; exact hi)] at h2
    cases h2
   rw [List.getElem?_set_ne hji] at h2 h3
   refine ⟨⟨j,rfl,?_,h2,h3⟩,fun e=>hji (by omega)⟩
   rcases Nat.lt_or_ge j s.fresh with hj | hj
   ·exact hj
   ·exact absurd (hle j hj h1).symm hji
theorem Zax {α:Type} {l:List α} {x:α} (h:l.getLast?=some x):l=l.dropLast ++ [x]:=by
 obtain ⟨ys,rfl⟩:=List.getLast?_eq_some_iff.1 h
 simp
theorem SMOk.freeGet {s:SM} (h:SMOk s) {x:Int} (hx:x∈s.free):∃ i:Nat,x=(i:Int)∧i < s.n∧s.used[i]?=some false∧∃ g,s.gen[i]?=some g∧1≤g∧g < 4194303:=by
 obtain ⟨i,rfl,h1,h2,g,h3,h4⟩:=(h.free x).1 hx
 exact ⟨i,rfl,Nat.lt_of_lt_of_le h1 h.fresh,h2,g,h3,(h.old i g h3 h1).1,h4⟩
theorem SMOk.free_le {s:SM} (h:SMOk s):s.free.length≤1024:=by
 have h2:s.free.length≤((List.range s.n).map fun (k:Nat)=>(k:Int)).length:=h.nodup.length_le_of_subset fun z hz=>by
  obtain ⟨q,rfl,hq,_⟩:=h.freeGet hz
  exact List.mem_map.2 ⟨q,by simpa using hq,rfl⟩
 have:=h.le
 simp at h2
 omega
theorem SMOk.take {s s':SM} {id:Int} (h:SMOk s) (ht:s.take=some (id,s')):SMOk s':=by
 unfold SM.take at ht
 split at ht
 ·rename_i x hx
  have hmem:x∈s.free:=List.mem_of_getLast? hx
  obtain ⟨i,rfl,hi,hu,g,hg,h1,h2⟩:=h.freeGet hmem
  rw [Int.toNat_natCast,hg] at ht
  simp only [Option.some.injEq,Prod.mk.injEq] at ht
  obtain ⟨_,rfl⟩:=ht
  have hsp:=Zax hx
  have hnd:=h.nodup
  rw [hsp] at hnd
  have hif:=(h.free _).1 hmem
  obtain ⟨i',e,hif,_⟩:=hif
  have:i'=i:=by omega
  subst this
  refine h.use (fr:=s.fresh) hi ⟨by omega,by omega⟩ h.fresh (Nat.le_refl _) hif (fun j h1 h2=>by omega) (fun y=>?_) (List.nodup_append.1 hnd).1
  conv=>rhs; rw [hsp]
  rw [List.mem_append,List.mem_singleton]
  constructor
  ·intro hy
   exact ⟨.inl hy,fun e=>(List.nodup_append.1 hnd).2.2 y hy _ (by simp) e⟩
  ·rintro ⟨hy | hy,hne⟩
   ·exact hy
   ·exact absurd hy hne
 ·rename_i hn
  have hfe:s.free=[]:=by simpa using hn
  split at ht
  ·rename_i hlt
   simp only [Option.some.injEq,Prod.mk.injEq] at ht
   obtain ⟨_,rfl⟩:=ht
   refine h.use (fr:=s.fresh+1) (free:=s.free) hlt h.first hlt (by omega) (by omega) (fun j h1 h2=>by omega) (fun y=>?_) h.nodup
   rw [hfe]; simp
  ·cases ht
theorem Ze3 {i:Nat} {g:Int} (hi:i < 1024):slotOf (idOf i g)=(i:Int):=by unfold slotOf idOf; omega
theorem Zuw {i:Nat} {g:Int} (hi:i < 1024):genOf (idOf i g)=g:=by unfold genOf idOf; omega
theorem Zl8 {i:Nat} {g:Int} (hi:i < 1024) (h1:1≤g) (h2:g≤4194303):1024≤idOf i g∧idOf i g≤4294967295:=by unfold idOf; omega
theorem id_eq {id:Int}:idOf (slotOf id) (genOf id)=id:=by unfold idOf slotOf genOf; omega
theorem Z6l (id:Int):0≤slotOf id∧slotOf id < 1024:=by unfold slotOf; omega
theorem SM.live_iff {s:SM} {id:Int}:s.live id=true↔s.used[(slotOf id).toNat]?=some true∧s.gen[(slotOf id).toNat]?=some (genOf id):=by
 simp [SM.live]
theorem SMOk.freed {s:SM} (h:SMOk s) {id:Int} (hl:s.live id=true):SMOk (s.freed id):=by
 obtain ⟨h1,h2⟩:=SM.live_iff.1 hl
 have hr:=Z6l id
 have hx:((slotOf id).toNat:Int)=slotOf id:=by omega
 have hfr:=h.unused _ h1
 have hul:(slotOf id).toNat < s.used.length:=(List.getElem?_eq_some_iff.1 h1).1
 have hg:=h.old _ _ h2 hfr
 have hnot:slotOf id ∉ s.free:=fun hm=>by
  obtain ⟨i,e,_,hu,_⟩:=(h.free _).1 hm
  rw [show (slotOf id).toNat=i by omega,hu] at h1
  cases h1
 refine ⟨h.pos,h.le,List.length_set.trans h.len,h.first,h.fresh,h.old,h.new,fun i hi=>?_,fun x=>?_,?_⟩
 ·simp only [SM.freed,List.getElem?_set] at hi
  split at hi
  ·first | (cases hi; done) | (split at hi <;> cases hi)
  ·exact h.unused i hi
 ·have key:(∃ i:Nat,x=(i:Int)∧i < s.fresh∧(s.used.set (slotOf id).toNat false)[i]?=some false∧∃ g,s.gen[i]?=some g∧g < 4194303)↔(x∈s.free∨(x=slotOf id∧genOf id < 4194303)):=by
   rw [h.free]
   constructor
   ·rintro ⟨i,rfl,a1,a2,g,a3,a4⟩
    rw [List.getElem?_set] at a2
    split at a2
    ·rename_i e
     subst e
     rw [h2] at a3
     cases a3
     exact .inr ⟨hx,a4⟩
    ·exact .inl ⟨i,rfl,a1,a2,g,a3,a4⟩
   ·rintro (⟨i,rfl,a1,a2,g,a3,a4⟩ | ⟨rfl,a4⟩)
    ·refine ⟨i,rfl,a1,?_,g,a3,a4⟩
     rw [List.getElem?_set]
     split
     ·rename_i e; subst e; simp
     ·exact a2
    ·exact ⟨_,hx.symm,hfr,by simp [hul],_,h2,a4⟩
  show x∈(if genOf id < 4194303 then s.free ++ [slotOf id] else s.free)↔_
  refine Iff.trans ?_ key.symm
  split
  ·rename_i hlt; simp [hlt]
  ·rename_i hlt; simp [hlt]
 ·show (if genOf id < 4194303 then s.free ++ [slotOf id] else s.free).Nodup
  split
  ·rw [List.nodup_append]
   exact ⟨h.nodup,by simp,fun a ha b hb e=>by simp at hb; subst hb; subst e; exact hnot ha⟩
  ·exact h.nodup
theorem Zk6 {l:List Bool} {i:Nat} {a b:Bool} (h:l[i]?=some a):(l.set i b).countP (fun b=>b)+(if a then 1 else 0)=l.countP (fun b=>b)+(if b then 1 else 0):=by
 induction l generalizing i with
 | nil=>simp at h
 | cons x r ih =>
  cases i with
  | zero=>simp at h; subst h; simp only [List.set_cons_zero,List.countP_cons]; omega
  | succ i=>simp at h; have:=ih h; simp only [List.set_cons_succ,List.countP_cons]; omega
theorem SM.count_use {s:SM} {i:Nat} {g:Int} (hu:s.used[i]?=some false):(s.use i g).count=s.count+1:=by
 have:=Zk6 (b:=true) hu
 simpa [SM.count,SM.use] using this
theorem SM.count_le {s:SM} (h2:s.n≤1024) (h3:s.used.length=s.n):s.count≤1024:=by
 have:=List.countP_le_length (p:=fun b=>b) (l:=s.used)
 unfold SM.count
 omega
theorem SM.count_freed {s:SM} {id:Int} (hl:s.live id=true):(s.freed id).count+1=s.count:=by
 have:=Zk6 (b:=false) (SM.live_iff.1 hl).1
 simpa [SM.count,SM.freed] using this
abbrev intT:Ty:=.sc (.int .i64)
abbrev boolT:Ty:=.sc .bool
theorem Zo0:SlTy Tryz.prog 273 3 intT 8:=slTy (by kernel_rfl)
theorem Zor:SlTy Tryz.prog 274 4 boolT 1:=slTy (by kernel_rfl)
abbrev sloC (s:SM) (g u f:Sl):List Value:=[.int .i64 s.first,g.v,u.v,f.v,.int .i64 (s.fresh:Int),.int .i64 (s.count:Int)]
structure SlotsR (lab:Nat→Nat) (w:World) (b:Nat) (g u f:Sl) (s:SM):Prop where
 blk:Bl b 276 (sloC s g u f) (fun k=>lab k=1) w
 gen:Den.Own (fun k=>lab k=2) w 3 intT g s.gen
 used:Den.Own (fun k=>lab k=3) w 4 boolT u s.used
 free:Den.Own (fun k=>lab k=4) w 3 intT f s.free
def Slots (b:Nat) (s:SM):OB:=fun F w=>SMOk s∧∃ lab g u f,(∀ k,lab k≠0→F k)∧SlotsR lab w b g u f s
theorem Slots.st {b:Nat} {s:SM}:St (Slots b s):=fun {F F' S w w'} ⟨ok,lab,g,u,f,hF,h⟩ fr hs=>by
 have ne:∀ k,k < w.heap.size→lab k≠0→¬ S k:=fun k hk e=>(hs k hk (hF k e)).1
 exact ⟨ok,cut lab w.heap.size,g,u,f,fun k e=>(hs k (Zam e).2 (hF k (Zam e).1)).2,Bl.st.cut h.blk fr (by decide) ne,Den.Own.st.cut h.gen fr (by decide) ne,Den.Own.st.cut h.used fr (by decide) ne,Den.Own.st.cut h.free fr (by decide) ne⟩
theorem Z3b {id:Int} (h:0≤id∧id≤4294967295) {K:Res [.sc (.int .i64)]→W R} (hk:K (slotOf id) Q w):callW Tryz.prog Z15 [.int .u32 id] [.sc (.int .i64)] K Q w:=by
 refine Zbl id K Q w ?_
 unfold Zgq
 have:IntKind.wrap .i64 (Int.tmod id 1024)=slotOf id:=by rw [Int.tmod_eq_emod_of_nonneg h.1,w64 (by omega)]; rfl
 rw [this]
 exact hk
theorem Zd8 {id:Int} (h:0≤id∧id≤4294967295) {K:Res [.sc (.int .i64)]→W R} (hk:K (genOf id) Q w):callW Tryz.prog Z8o [.int .u32 id] [.sc (.int .i64)] K Q w:=by
 refine Znm id K Q w ?_
 unfold Zhv
 have:IntKind.wrap .i64 (IntKind.wrap .u32 (Int.tdiv id 1024))=genOf id:=by rw [Int.tdiv_eq_ediv_of_nonneg h.1,wu32 (by omega),w64 (by omega)]; rfl
 rw [this]
 exact hk
theorem Zcb {i:Nat} {g:Int} (hi:i < 1024) (hg:1≤g∧g≤4194303) {K:Res [.sc (.int .u32),.sc (.int .i64)]→W R} (hk:K (idOf i g,0) Q w):callW Tryz.prog Z9o [.int .i64 (i:Int),.int .i64 g] [.sc (.int .u32),.sc (.int .i64)] K Q w:=by
 refine Zm5 _ _ K Q w ?_
 unfold Zgp
 refine joinI (fun b w'=>b=false∧w'=w) ?_ ?_
 ·refine condF (decide_eq_false (by omega)) (condF (decide_eq_false (by omega)) (condF (decide_eq_false (by omega)) ⟨decide_eq_false (by omega),rfl⟩))
 ·rintro b w' ⟨rfl,rfl⟩
  refine condF rfl ?_
  have:=Zl8 hi hg.1 hg.2
  have:IntKind.wrap .u32 (IntKind.wrap .i64 ((IntKind.wrap .i64 (g * 1024))+i))=idOf i g:=by
   rw [w64 (x:=g * 1024) (by omega),w64 (by omega)]
   exact wu32 (by unfold idOf at this; omega)
  rw [this]
  exact hk
theorem Zjz {n first:Int} {K:Res [.sc .ptr,.sc (.int .i64)]→W R} (h1:¬ (1≤n∧n≤1024∧1≤first∧first≤4194303)→K (none,1) Q w)
  (h2:∀ b w',1≤n∧n≤1024∧1≤first∧first≤4194303→Slots b (SM.new n.toNat first) (Up w.heap.size) w'→Fr None w w'→K (some ⟨b,0,none⟩,0) Q w') :
  callW Tryz.prog Zdw [.int .i64 n,.int .i64 first] [.sc .ptr,.sc (.int .i64)] K Q w:=by
 refine Znn n first K Q w ?_
 unfold Zhw
 refine joinI (fun b w'=>b=!decide (1≤n∧n≤1024∧1≤first∧first≤4194303)∧w'=w) ?_ ?_
 ·refine condD (fun h=>⟨by rw [decide_eq_false (by omega)]; rfl,rfl⟩) fun a1=>condD (fun h=>⟨by rw [decide_eq_false (by omega)]; rfl,rfl⟩) fun a2=>condD (fun h=>⟨by rw [decide_eq_false (by omega)]; rfl,rfl⟩) fun a3=>⟨?_,rfl⟩
  by_cases h:first > 4194303
  ·rw [decide_eq_true h,decide_eq_false (by omega)]; rfl
  ·rw [decide_eq_false h,decide_eq_true (by omega)]; rfl
 rintro b w' ⟨rfl,rfl⟩
 refine condI (fun h=>h1 (by intro h2; rw [decide_eq_true h2] at h; cases h)) fun h=>?_
 have h:1≤n∧n≤1024∧1≤first∧first≤4194303:=by simpa using h
 obtain ⟨m,rfl⟩:∃ m:Nat,n=(m:Int):=⟨n.toNat,by omega⟩
 rw [Int.toNat_natCast] at h2
 have fin:∀ (g u:Sl) (wa wb:World) (a1 a2:Nat),Den.Own (fun k=>k=a1) wa 3 intT g (List.replicate m 0)→Den.Own (fun k=>k=a2) wa 4 boolT u (List.replicate m false)→a1≠a2→Fr None w' wa→w'.heap.size≤a1→w'.heap.size≤a2→a1 < wa.heap.size→a2 < wa.heap.size →
   newW 276 [.int .i64 first,.slice g.a g.n g.c,.slice u.a u.n u.c,.slice none 0 0,.int .i64 0,.int .i64 0] (fun x=>K (some x,0)) Q wa:=by
  intro g u wa wb a1 a2 og ou hne fa l1 l2 s1 s2
  refine newI fun wc Bc fc sc=>?_
  refine h2 wa.heap.size wc h ⟨Zpe (by omega) (by omega) h.2.2,fun k=>if k=wa.heap.size then 1 else if k=a1 then 2 else if k=a2 then 3 else 0,g,u,⟨none,0,0⟩,fun k e=>?_,⟨⟨by simp,?_⟩,?_,?_,Den.Own.nil _ _ _ _⟩⟩ (fa.then0 fc)
  ·have:=fa.size
   show w'.heap.size≤k
   by_cases e1:k=wa.heap.size
   ·omega
   ·by_cases e2:k=a1
    ·omega
    ·by_cases e3:k=a2
     ·omega
     ·simp [e1,e2,e3] at e
  ·have:(SM.new m first).count=0:=by simp [SM.count,SM.new]
   show Blk wc wa.heap.size _ [_,_,_,_,.int .i64 ((0:Nat):Int),.int .i64 ((SM.new m first).count:Int)]
   rw [this]
   exact Bc
  ·exact (og.none fc).mono fun k _ e=>by
    have:¬ k=wa.heap.size:=by omega
    exact (if_neg this).trans (if_pos e)
  ·exact (ou.none fc).mono fun k _ e=>by
    have h1:¬ k=wa.heap.size:=by omega
    have h2:¬ k=a1:=by omega
    exact (if_neg h1).trans ((if_neg h2).trans (if_pos e))
 have hnb:m≤1024:=by omega
 refine joinK ?_
 refine bothI ?_ ?_
 ·refine makeI Zo0 (z:=(0:Int)) (zv:=.int .i64 0) (by kernel_rfl) rfl rfl (by omega) (by omega) fun w1 o1 f1 s1=>?_
  refine makeI Zor (z:=false) (zv:=.bool false) (by kernel_rfl) rfl rfl (by omega) (by omega) fun w2 o2 f2 s2=>?_
  have hd:w'.drew.heap.size=w'.heap.size:=rfl
  exact fin _ _ w2 w2 _ _ (o1.none f2) o2 (by omega) ((Fr.refl None w').drew.then0 (f1.then0 f2)) (by omega) (by omega) (by omega) (by omega)
 ·refine makeI Zor (z:=false) (zv:=.bool false) (by kernel_rfl) rfl rfl (by omega) (by omega) fun w1 o1 f1 s1=>?_
  refine makeI Zo0 (z:=(0:Int)) (zv:=.int .i64 0) (by kernel_rfl) rfl rfl (by omega) (by omega) fun w2 o2 f2 s2=>?_
  have hd:w'.drew.heap.size=w'.heap.size:=rfl
  exact fin _ _ w2 w2 _ _ o2 (o1.none f2) (by omega) ((Fr.refl None w').drew.then0 (f1.then0 f2)) (by omega) (by omega) (by omega) (by omega)
section
variable {lab:Nat→Nat} {b:Nat} {g u f:Sl} {s:SM}
theorem SlotsR.fr0 (h:SlotsR lab w b g u f s) {w':World} (fr:Fr None w w'):SlotsR lab w' b g u f s:=⟨Bl.st.fr0 h.blk fr,Den.Own.st.fr0 h.gen fr,Den.Own.st.fr0 h.used fr,Den.Own.st.fr0 h.free fr⟩
theorem Zd9 (h:SlotsR lab w b g u f s) (hle:s.n≤1024) (hsl:s.used.length=s.n) {i:Nat} {x:Int} (hi:i < s.n) (hu:s.used[i]?=some false) (hx:1≤x∧x≤4194303) {K:Res [.sc (.int .u32),.sc (.int .i64)]→W R}
  (hk:∀ w',SlotsR lab w' b g u f (s.use i x)→Fr (fun k=>lab k≠0) w w'→K (idOf i x,0) Q w'):callW Tryz.prog Z4f [.pointer (some ⟨b,0,none⟩),.int .i64 (i:Int),.int .i64 x] [.sc (.int .u32),.sc (.int .i64)] K Q w:=by
 refine Zfw _ _ _ K Q w ?_
 unfold Za8
 have fd:Fr None w w.drew:=(Fr.refl _ _).drew
 have h:=h.fr0 fd
 refine ptrI (fldI h.blk.2 (x:=g) rfl (ptrI (fldI h.blk.2 (x:=u) rfl ?_)))
 refine h.gen.idx rfl (by omega) (by unfold SM.n at hi; omega) fun gb y hg hy _=>?_
 rw [Int.toNat_natCast]
 refine h.gen.set rfl hi hg x fun w1 o1 f1 s1=>?_
 have f1':Fr (fun k=>lab k=2) w.drew w1:=f1.mono fun k _ e=>h.gen.own k e
 have u1:=h.used.fr f1' fun k e=>by omega
 have B1:=h.blk.2.fr f1' fun e=>by have:=h.blk.1; omega
 refine u1.idx rfl (by omega) (by omega) fun ub z hub hz _=>?_
 rw [Int.toNat_natCast]
 refine u1.set rfl (by omega) hub true fun w2 o2 f2 s2=>?_
 have f2':Fr (fun k=>lab k=3) w1 w2:=f2.mono fun k _ e=>u1.own k e
 have B2:=B1.fr f2' fun e=>by have:=h.blk.1; omega
 refine ptrI (fldI B2 (x:=(s.count:Int)) rfl (ptrI ?_))
 have hc:=s.count_use (g:=x) hu
 have hcl:=SM.count_le hle hsl
 have:IntKind.wrap .i64 ((s.count:Int)+1)=(((s.use i x).count:Nat):Int):=by rw [w64 (by omega),hc]; rfl
 rw [this]
 refine setA B2 (by simp) rfl fun w3 B3 f3 s3=>?_
 have f3':Fr (fun k=>lab k=1) w2 w3:=f3.mono fun k _ e=>by rw [e]; exact h.blk.1
 refine Zcb (by omega) hx ?_
 refine hk w3 ⟨⟨h.blk.1,B3⟩,(o1.fr f2' fun k e=>by omega).fr f3' fun k e=>by omega,o2.fr f3' fun k e=>by omega,((h.free.fr f1' fun k e=>by omega).fr f2' fun k e=>by omega).fr f3' fun k e=>by omega⟩ ?_
 exact ((fd.any.then (f1'.lab (by decide))).then (f2'.lab (by decide))).then (f3'.lab (by decide))
end
section
variable {F:Nat→Prop} {b:Nat} {s:SM}
theorem Zj3 (h:Slots b s F w) {K:Res [.sc (.int .u32),.sc (.int .i64)]→W R} (hk0:s.take=none→∀ w',Fr None w w'→K (0,8) Q w')
  (hk:∀ id s' w',s.take=some (id,s')→Slots b s' F w'→Fr F w w'→K (id,0) Q w'):callW Tryz.prog Z61 [.pointer (some ⟨b,0,none⟩)] [.sc (.int .u32),.sc (.int .i64)] K Q w:=by
 obtain ⟨ok,lab,g,u,f,hF,h⟩:=h
 refine Zen _ K Q w ?_
 unfold Z9f
 have hle:=ok.le
 refine condF rfl (ptrI (fldI h.blk.2 (x:=f) rfl ?_))
 have hfn:f.n=s.free.length:=h.free.len
 refine condD (fun hpos=>?_) fun hpos=>?_
 ·have fd:Fr None w w.drew:=(Fr.refl _ _).drew
  have h:=h.fr0 fd
  obtain ⟨x,hx⟩:∃ x,s.free.getLast?=some x:=by
   cases hl:s.free.getLast? with
   | some x=>exact ⟨x,rfl⟩
   | none=>have:=List.getLast?_eq_none_iff.1 hl; rw [this] at hfn; have:(f.n:Int) > 0:=hpos; simp at hfn; omega
  obtain ⟨i,rfl,hi,hu,y,hy,hy1,hy2⟩:=ok.freeGet (List.mem_of_getLast? hx)
  have hsm:=ok.free_le
  have hlast:(IntKind.wrap .i64 ((f.n:Int) - 1))=((s.free.length - 1:Nat):Int):=by have:(f.n:Int) > 0:=hpos; rw [w64 (by omega)]; omega
  refine ptrI (fldI h.blk.2 (x:=f) rfl (ptrI (fldI h.blk.2 (x:=f) rfl ?_)))
  rw [hlast]
  have hp:0 < s.free.length:=by have:(f.n:Int) > 0:=hpos; omega
  refine h.free.sl.get rfl rfl (by omega) fun z hz=>?_
  rw [← List.getLast?_eq_getElem?,hx] at hz
  cases hz
  have fd2:Fr None w w.drew.drew:=fd.drew
  have h:=h.fr0 ((Fr.refl None w.drew).drew)
  refine ptrI (fldI h.blk.2 (x:=f) rfl (ptrI (fldI h.blk.2 (x:=f) rfl ?_)))
  rw [hlast]
  have hcap:=h.free.cap
  refine chkI (by simp only [Option.getD_some,Option.getD_none]; omega) ?_
  simp only [Option.getD_some,Option.getD_none,Int.toNat_natCast]
  refine ptrI ?_
  have e:(if f.c=Int.toNat 0 then f.a else f.a.map (·.add ((Int.toNat 0) * 1)))=f.a:=by
   split
   ·rfl
   ·cases f.a with
    | none=>rfl
    | some a=>simp [Addr.add]
  rw [e]
  refine setA h.blk.2 (by simp) rfl fun w1 B1 f1 s1=>?_
  have f1':Fr (fun k=>lab k=1) w.drew.drew w1:=f1.mono fun k _ e=>by rw [e]; exact h.blk.1
  have ofree:Den.Own (fun k=>lab k=4) w1 3 intT ⟨f.a,s.free.length - Int.toNat 0 - 1,f.c - Int.toNat 0⟩ s.free.dropLast:=by
   have:=(h.free.fr f1' fun k e=>by omega).take (n:=s.free.length - 1) (by omega)
   rw [List.dropLast_eq_take]
   simpa using this
  refine ptrI (fldI B1 (x:=g) rfl ?_)
  have g1:=h.gen.fr f1' fun k e=>by omega
  refine g1.sl.get rfl rfl hi fun y' hy'=>?_
  rw [hy] at hy'
  cases hy'
  rw [w64 (by omega)]
  have hR:SlotsR lab w1 b g u ⟨f.a,s.free.length - Int.toNat 0 - 1,f.c - Int.toNat 0⟩ { s with free:=s.free.dropLast }:=⟨⟨h.blk.1,B1⟩,g1,h.used.fr f1' fun k e=>by omega,ofree⟩
  refine Zd9 hR ok.le ok.len hi hu (by omega) fun w2 h2 f2=>?_
  have e2:s.take=some (idOf i (y+1),{ s.use i (y+1) with free:=s.free.dropLast }):=by simp [SM.take,hx,hy]
  exact hk _ _ w2 e2 ⟨ok.take e2,lab,g,u,_,hF,h2⟩ (((fd2.any.then (f1'.lab (by decide))).then f2).sub hF)
 ·have fd:Fr None w w.drew:=(Fr.refl _ _).drew
  have h:=h.fr0 fd
  have hnone:s.free.getLast?=none:=by
   have:s.free=[]:=List.eq_nil_of_length_eq_zero (by have:¬ (f.n:Int) > 0:=hpos; omega)
   rw [this]; rfl
  have hgn:g.n=s.n:=h.gen.len
  refine ptrI (fldI h.blk.2 (x:=(s.fresh:Int)) rfl (ptrI (fldI h.blk.2 (x:=g) rfl ?_)))
  refine condD (fun hlt=>?_) fun hlt=>?_
  ·have hlt:s.fresh < s.n:=by omega
   refine ptrI (fldI h.blk.2 (x:=(s.fresh:Int)) rfl (ptrI ?_))
   refine setA h.blk.2 (by simp) rfl fun w1 B1 f1 s1=>?_
   have f1':Fr (fun k=>lab k=1) w.drew w1:=f1.mono fun k _ e=>by rw [e]; exact h.blk.1
   have ew:IntKind.wrap .i64 ((s.fresh:Int)+1)=((s.fresh+1:Nat):Int):=by rw [w64 (by omega)]; rfl
   rw [ew] at B1
   have hR:SlotsR lab w1 b g u f { s with fresh:=s.fresh+1 }:=⟨⟨h.blk.1,B1⟩,h.gen.fr f1' fun k e=>by omega,h.used.fr f1' fun k e=>by omega,h.free.fr f1' fun k e=>by omega⟩
   have fd1:Fr None w1 w1.drew:=(Fr.refl _ _).drew
   have hR:=hR.fr0 fd1
   refine ptrI (fldI hR.blk.2 (x:=((s.fresh+1:Nat):Int)) rfl (ptrI (fldI hR.blk.2 (x:=s.first) rfl ?_)))
   have e3:IntKind.wrap .i64 (((s.fresh+1:Nat):Int) - 1)=(s.fresh:Int):=by rw [w64 (by omega)]; omega
   rw [e3]
   have hu:s.used[s.fresh]?=some false:=by
    have hl:s.fresh < s.used.length:=by rw [ok.len]; exact hlt
    cases hb:s.used[s.fresh] with
    | false=>rw [List.getElem?_eq_getElem hl,hb]
    | true=>exact absurd (ok.unused s.fresh (by rw [List.getElem?_eq_getElem hl,hb])) (by omega)
   refine Zd9 hR ok.le ok.len hlt hu ok.first fun w2 h2 f2=>?_
   have e2:s.take=some (idOf s.fresh s.first,{ s.use s.fresh s.first with fresh:=s.fresh+1 }):=by simp [SM.take,hnone,hlt]
   exact hk _ _ w2 e2 ⟨ok.take e2,lab,g,u,_,hF,h2⟩ ((((fd.any.then (f1'.lab (by decide))).then0 fd1).then f2).sub hF)
  ·exact hk0 (by simp [SM.take,hnone]; omega) _ fd
theorem Zj2 (h:Slots b s F w) {id:Int} (hid:0≤id∧id≤4294967295) {K:Res [.sc .bool]→W R} (hk:∀ w',Fr None w w'→K (s.live id) Q w'):callW Tryz.prog Z60 [.pointer (some ⟨b,0,none⟩),.int .u32 id] [.sc .bool] K Q w:=by
 obtain ⟨ok,lab,g,u,f,hF,h⟩:=h
 refine Zem _ _ K Q w ?_
 unfold Z9e
 have fd:Fr None w w.drew:=(Fr.refl _ _).drew
 have h:=h.fr0 fd
 have hr:=Z6l id
 have hgn:g.n=s.n:=h.gen.len
 have hlen:=ok.len
 refine joinK ?_
 have e:=hk w.drew fd
 refine both2 ?_
 ·refine condT rfl (ptrI (fldI h.blk.2 (x:=g) rfl (Z3b hid (andI (h.blk.2.rd (s:=.sl) (i:=1) (x:=g) rfl) ?_))))
  refine condD (fun hlt=>?_) fun hge=>?_
  ·obtain ⟨i,hi⟩:∃ i:Nat,slotOf id=(i:Int):=⟨(slotOf id).toNat,by omega⟩
   have hit:(slotOf id).toNat=i:=by omega
   refine ptrI (fldI h.blk.2 (x:=u) rfl (Z3b hid (andI (h.blk.2.rd (s:=.sl) (i:=2) (x:=u) rfl) ?_)))
   refine h.used.sl.get rfl hi (by omega) fun z hz=>?_
   refine condI (fun hzt=>?_) fun hzf=>?_
   ·subst hzt
    refine ptrI (fldI h.blk.2 (x:=g) rfl (Z3b hid (andI (h.blk.2.rd (s:=.sl) (i:=1) (x:=g) rfl) ?_)))
    refine h.gen.idx rfl (by omega) (by unfold SM.n at hgn; omega) fun gb y hg hy hrd=>?_
    refine ldI y hrd (Zd8 hid (andI hrd (andI (h.blk.2.rd (s:=.sl) (i:=1) (x:=g) rfl) ?_)))
    have:s.live id=(y == genOf id):=by unfold SM.live; rw [hit,hz,← hit,hy]; rfl
    rw [← this]
    exact e
   ·subst hzf
    have:s.live id=false:=by simp [SM.live,hit,hz]
    rw [this] at e
    exact e
  ·have:s.live id=false:=by
    have:s.used[(slotOf id).toNat]?=none:=List.getElem?_eq_none (by omega)
    simp [SM.live,this]
   rw [this] at e
   exact e
theorem Zj0 (h:Slots b s F w) {id:Int} (hid:0≤id∧id≤4294967295) {K:Res [.sc (.int .i64)]→W R} (hk0:s.live id=false→∀ w',Fr None w w'→K 7 Q w')
  (hk:∀ w',s.live id=true→Slots b (s.freed id) (Ex F w) w'→Fr F w w'→K 0 Q w'):callW Tryz.prog Z5y [.pointer (some ⟨b,0,none⟩),.int .u32 id] [.sc (.int .i64)] K Q w:=by
 refine Zek _ _ K Q w ?_
 unfold Z9c
 refine condF rfl (Zj2 h hid fun w0 f0=>?_)
 refine condI (fun hl=>hk0 (by simpa using hl) _ f0) fun hl=>?_
 have hl:s.live id=true:=by simpa using hl
 obtain ⟨ok,lab,g,u,f,hF,h⟩:=Slots.st.fr0 h f0
 have fd:Fr None w0 w0.drew:=(Fr.refl _ _).drew
 have h:=h.fr0 fd
 obtain ⟨hl1,hl2⟩:=SM.live_iff.1 hl
 have hr:=Z6l id
 have hrg:1≤genOf id∧genOf id≤4194303:=ok.old _ _ hl2 (ok.unused _ hl1)
 obtain ⟨i,hi⟩:∃ i:Nat,slotOf id=(i:Int):=⟨(slotOf id).toNat,by omega⟩
 have hit:(slotOf id).toNat=i:=by omega
 rw [hit] at hl1 hl2
 have hil:i < s.used.length:=(List.getElem?_eq_some_iff.1 hl1).1
 refine ptrI (fldI h.blk.2 (x:=u) rfl (Z3b hid (andI (h.blk.2.rd (s:=.sl) (i:=2) (x:=u) rfl) ?_)))
 refine h.used.idx rfl (by omega) (by omega) fun ub z hub hz _=>?_
 rw [hit]
 refine h.used.set rfl hil hub false fun w1 o1 f1 s1=>?_
 have f1':Fr (fun k=>lab k=3) w0.drew w1:=f1.mono fun k _ e=>h.used.own k e
 have B1:=h.blk.2.fr f1' fun e=>by have:=h.blk.1; omega
 have hc:=SM.count_freed hl
 have hcl:=SM.count_le ok.le ok.len
 refine ptrI (fldI B1 (x:=(s.count:Int)) rfl (ptrI ?_))
 have ew:IntKind.wrap .i64 ((s.count:Int) - 1)=(((s.freed id).count:Nat):Int):=by rw [w64 (by omega)]; omega
 rw [ew]
 refine setA B1 (by simp) rfl fun w2 B2 f2 s2=>?_
 have f2':Fr (fun k=>lab k=1) w1 w2:=f2.mono fun k _ e=>by rw [e]; exact h.blk.1
 have g2:=(h.gen.fr f1' fun k e=>by omega).fr f2' fun k e=>by omega
 have u2:=o1.fr f2' fun k e=>by omega
 have fr2:=(h.free.fr f1' fun k e=>by omega).fr f2' fun k e=>by omega
 have f02:Fr (fun k=>lab k≠0) w w2:=(((f0.then0 fd).any.then (f1'.lab (by decide))).then (f2'.lab (by decide)))
 refine Zd8 hid ?_
 refine joinI (fun _ w'=>∃ f',∃ lab',(∀ k,lab' k≠0→lab k≠0∨w.heap.size≤k)∧SlotsR lab' w' b g u f' (s.freed id)∧Fr (fun k=>lab k≠0) w w') ?_ ?_
 ·refine condD (fun hlt=>?_) fun hge=>?_
  ·have fd2:Fr None w2 w2.drew:=(Fr.refl _ _).drew
   refine ptrI (fldI B2.drew (x:=f) rfl (Z3b hid (andI (B2.drew.rd (s:=.sl) (i:=3) (x:=f) rfl) ?_)))
   have hs3:=ok.free_le
   refine newI fun w3 B3 f3 s3=>?_
   have s3:w3.heap.size=w2.heap.size+1:=s3
   have fr3:=(fr2.none fd2).none f3
   refine app1 (x:=slotOf id) (S':=fun k=>lab k=4∨w2.heap.size≤k) Zo0 fr3 B3 rfl (by omega) (by rw [Zn]; omega) (fun _ h=>.inl h) (.inr (by omega)) fun r w4 o4 f4 s4=>?_
   have f4':Fr (fun k=>lab k=4) w3 w4:=f4.mono fun k _ e=>fr3.own k e
   have f24:Fr (fun k=>lab k=4) w2 w4:=(fd2.then0 f3).any.then f4'
   have B4:=B2.fr f24 fun e=>by have:=h.blk.1; omega
   refine ptrI (setA B4 (by simp) rfl fun w5 B5 f5 s5=>?_)
   have f5':Fr (fun k=>lab k=1) w4 w5:=f5.mono fun k _ e=>by rw [e]; exact h.blk.1
   have hbl:=B2.lt
   have hs2:=f02.size
   have hs24:=f24.size
   have hs5:=f5.size
   have o5:=o4.fr f5 fun k e e2=>by subst e2; have:=h.blk.1; rcases e with e | e; omega; omega
   refine ⟨r,relab lab w2.heap.size w5.heap.size 4,fun k e=>?_,⟨⟨?_,?_⟩,?_,?_,?_⟩,(f02.then (f24.lab (by decide))).then (f5'.lab (by decide))⟩
   ·rcases Z2a e with ⟨e,_⟩ | ⟨e,_⟩
    ·exact .inl e
    ·exact .inr (by omega)
   ·show relab _ _ _ _ b=1; rw [Z4 hbl]; exact h.blk.1
   ·exact B5
   ·exact Den.Own.st (F:=fun k=>lab k=2) g2 (f24.trans f5' (U:=fun k=>lab k=4∨lab k=1) (fun _ e=>.inl e) (fun _ _ e=>.inr e)) fun k hk e=>⟨by rintro (h | h) <;> omega,by rw [Z4 hk]; exact e⟩
   ·have:=Den.Own.st (F:=fun k=>lab k=3) u2 (f24.trans f5' (U:=fun k=>lab k=4∨lab k=1) (fun _ e=>.inl e) (fun _ _ e=>.inr e)) (F':=fun k=>relab lab w2.heap.size w5.heap.size 4 k=3) fun k hk e=>⟨by rintro (h | h) <;> omega,by rw [Z4 hk]; exact e⟩
    simpa [SM.freed,hit] using this
   ·have:Den.Own (fun k=>relab lab w2.heap.size w5.heap.size 4 k=4) w5 3 intT r (s.free ++ [slotOf id]):=o5.mono fun k hk e=>by
     rcases Nat.lt_or_ge k w2.heap.size with hl | hg
     ·rw [Z4 hl]; rcases e with e | e; exact e; omega
     ·exact Z4c hg hk
    simpa [SM.freed,hlt] using this
  ·refine ⟨f,lab,fun k e=>.inl e,⟨⟨h.blk.1,B2⟩,g2,by simpa [SM.freed,hit] using u2,?_⟩,f02⟩
   simpa [SM.freed,show ¬ genOf id < 4194303 from hge] using fr2
 ·rintro _ w3 ⟨f',lab',hl3,h3,f3⟩
  exact hk w3 hl ⟨ok.freed hl,lab',g,u,f',fun k e=>(hl3 k e).imp (hF k) fun h=>h,h3⟩ (f3.sub hF)
theorem Zmw {ok:Nat→Prop} {r:Sl} {l:List Int} (hS:SlT ok w idT r l) {K:Res [.sc .sl]→W R} (hk:∀ r',SlT ok w idT r' l→K r' Q w):callW Tryz.prog Z76 [.slice r.a r.n r.c] [.sc .sl] K Q w:=by
 refine Zh5 _ K Q w ?_
 exact clipI Zk8 hS fun r' h' _=>hk r' h'
theorem SM.ids_len {s:SM} (hs:s.used.length=s.n):∀ {j:Nat},j≤s.n→(s.ids j).length=(s.used.take j).countP (fun b=>b)
 | 0,_=>by simp [SM.ids]
 | j+1,h=>by
  obtain ⟨u,hu⟩:∃ u,s.used[j]?=some u:=⟨_,List.getElem?_eq_getElem (by omega)⟩
  obtain ⟨g,hg⟩:∃ g,s.gen[j]?=some g:=⟨_,List.getElem?_eq_getElem (by unfold SM.n at h; omega)⟩
  rw [SM.ids,List.length_append,SM.ids_len hs (by omega),Z1q hu,List.countP_append,hu,hg]
  cases u <;> simp
theorem SM.list_len {s:SM} (hs:s.used.length=s.n):s.list.length=s.count:=by
 rw [SM.list,SM.ids_len hs (Nat.le_refl _),← hs,List.take_length]; rfl
theorem Zj1 (h:Slots b s F w) {K:Res [.sc .sl]→W R} (hk:∀ r w',SlT (Up w.heap.size) w' idT r s.list→Fr None w w'→K r Q w'):callW Tryz.prog Z5z [.pointer (some ⟨b,0,none⟩)] [.sc .sl] K Q w:=by
 obtain ⟨ok,lab,g,u,f,hF,h⟩:=h
 refine Zel _ K Q w ?_
 unfold Z9d
 have hle:=ok.le
 have hlen:=ok.len
 refine condF rfl (ptrI (fldI h.blk.2 (x:=u) rfl ?_))
 refine rangeI (fun s:Sl × Int=>s.2) (fun j st w'=>st.2=(j:Int)∧Den.Own (Up w.heap.size) w' 34 idT st.1 (s.ids j)∧Fr None w w') rfl ⟨rfl,Den.Own.nil _ _ _ _,Fr.refl _ _⟩ (fun j st w' h=>h.1) (fun j st w' hp=>h.used.sl.fr0 hp.2.2) ?_ ?_
 ·rintro j x ⟨o,_⟩ w1 K' hx ⟨rfl,ho,f1⟩ - hK
  obtain ⟨hj,_⟩:=List.getElem?_eq_some_iff.1 hx
  have hjn:j < s.n:=by omega
  obtain ⟨y,hy⟩:∃ y,s.gen[j]?=some y:=⟨_,List.getElem?_eq_getElem hjn⟩
  have hil:=SM.ids_len hlen (j:=j) (by omega)
  have hcl:=List.countP_le_length (p:=fun b=>b) (l:=s.used.take j)
  have hidl:(s.ids j).length≤1024:=by simp at hcl; omega
  refine joinI (fun o' w'=>Den.Own (Up w.heap.size) w' 34 idT o' (s.ids (j+1))∧Fr None w w') ?_ ?_
  ·refine condI (fun hxt=>?_) fun hxf=>?_
   ·subst hxt
    have h1:=h.fr0 f1
    refine ptrI (fldI h1.blk.2 (x:=g) rfl ?_)
    refine h1.gen.sl.get rfl rfl hjn fun y' hy'=>?_
    rw [hy] at hy'
    cases hy'
    refine Zcb (by omega) (ok.old j y hy (ok.unused j hx)) ?_
    refine appF (x:=idOf j y) Zk8 rfl ho f1.size (by omega) (by omega) fun r w2 o2 f2 _=>⟨?_,(f1.up.thenOwn ho f2).ofUp (Nat.le_refl _)⟩
    rw [SM.ids,hx,hy]
    exact o2
   ·subst hxf
    refine ⟨?_,f1⟩
    rw [SM.ids,hx,hy]
    simpa using ho
  ·rintro o' w2 ⟨o2,f2⟩
   exact hK _ _ ⟨wsucc (N:=s.n) hjn (by omega),o2,f2⟩
 ·rintro ⟨o,i⟩ w1 ⟨_,ho,f1⟩
  refine Zmw ho.sl fun r hr=>?_
  rw [hlen] at hr
  exact hk r w1 hr f1
end
end Go.Proofs.YtoiahhpgkoknfaaGreat
namespace Go.Proofs.YtoiahhpgkoknfaaGreat
open Go Go.RowKit Go.Proofs.YtoiahhpgkoknfaaGreat.Den
theorem Znv (k:Int):∀ p∈fieldsM k,i32 p.2.1∧i32 p.2.2:=by
 rcases Zav k with rfl | rfl | rfl | rfl | rfl | rfl | ⟨h0,h1,h2,h3,h4,h5⟩ <;> simp [fieldsM,i32, *]
theorem Zf4 {c:Comp} (h:checkM c=0):CompOk c:=by
 have hk:=Z49 h
 have hall:(List.range 3).all (inR c)=true:=by
  unfold checkM at h
  split at h
  ·cases h
  ·split at h
   ·cases h
   ·split at h
    ·assumption
    ·cases h
 have key:∀ i,i < 3→i32 (fl c i):=fun i hi=>by
  have h1:=List.all_eq_true.1 hall i (List.mem_range.2 hi)
  unfold inR at h1
  split at h1
  ·rename_i p hp
   have h2:=Znv c.1 p (List.mem_of_getElem? hp)
   simp only [Bool.and_eq_true,decide_eq_true_eq] at h1
   unfold i32 at h2 ⊢
   omega
  ·have:fl c i=0:=by simpa using h1
   rw [this]; unfold i32; omega
 exact ⟨⟨by omega,by omega⟩,key 0 (by omega),key 1 (by omega),key 2 (by omega)⟩
structure StM where
 s:SM
 tab:Nat→List Ent
abbrev inT (T:Nat→List Ent) (m:Nat) (id:Int):Prop:=(rowM (T m) id).isSome=true
def homeT (T:Nat→List Ent) (id:Int):Option Nat:=(List.range 64).find? fun m=>(rowM (T m) id).isSome
def upd (T:Nat→List Ent) (m:Nat) (L:List Ent):Nat→List Ent:=fun k=>if k=m then L else T k
theorem Z4l (T:Nat→List Ent) (m:Nat) (L:List Ent):upd T m L m=L:=if_pos rfl
theorem Z1w {T:Nat→List Ent} {m k:Nat} {L:List Ent} (h:k≠m):upd T m L k=T k:=if_neg h
structure StOk (x:StM):Prop where
 s:SMOk x.s
 tab:∀ m,m < 64→TabOk m (x.tab m)
 uniq:∀ m m' id,m < 64→m' < 64→inT x.tab m id→inT x.tab m' id→m=m'
 live:∀ id,(∃ m,m < 64∧inT x.tab m id)↔x.s.live id=true
theorem Z9w {T:Nat→List Ent} {m:Nat} {id:Int}:inT T m id↔∃ e∈T m,e.1=id:=by
 unfold inT
 cases h:rowM (T m) id with
 | none =>
  simp only [Option.isSome_none,Bool.false_eq_true,false_iff]
  rintro ⟨e,he,h2⟩
  exact Zio.1 h e he h2
 | some i =>
  obtain ⟨_,e,he,h2⟩:=Z4d h
  simp only [Option.isSome_some,true_iff]
  exact ⟨e,List.mem_of_getElem? he,h2⟩
theorem Z6x {T:Nat→List Ent} {id:Int} {m:Nat} (h:homeT T id=some m):m < 64∧inT T m id:=by
 unfold homeT at h
 have h1:=List.find?_some h
 have h2:=List.mem_of_find?_eq_some h
 exact ⟨by simpa using h2,h1⟩
theorem Z3p {T:Nat→List Ent} {id:Int}:homeT T id=none↔∀ m,m < 64→¬ inT T m id:=by
 unfold homeT
 rw [List.find?_eq_none]
 simp
theorem StOk.home_at {x:StM} (h:StOk x) {m:Nat} {id:Int} (hm:m < 64) (hi:inT x.tab m id):homeT x.tab id=some m:=by
 cases he:homeT x.tab id with
 | none=>exact absurd hi (Z3p.1 he m hm)
 | some k =>
  obtain ⟨h1,h2⟩:=Z6x he
  rw [h.uniq k m id h1 hm h2 hi]
theorem StOk.home_live {x:StM} (h:StOk x) (id:Int):(homeT x.tab id).isSome=x.s.live id:=by
 cases hl:x.s.live id with
 | true =>
  obtain ⟨m,h1,h2⟩:=(h.live id).2 hl
  rw [h.home_at h1 h2]; rfl
 | false =>
  cases he:homeT x.tab id with
  | none=>rfl
  | some m=>have:=(h.live id).1 ⟨m,(Z6x he).1,(Z6x he).2⟩; rw [hl] at this; cases this
theorem Zl9 {T:Nat→List Ent} {m:Nat} {e:Ent} (k:Nat) (id:Int):inT (upd T m (T m ++ [e])) k id↔inT T k id∨(k=m∧id=e.1):=by
 rw [Z9w,Z9w]
 by_cases h:k=m
 ·subst h
  rw [Z4l]
  simp only [List.mem_append,List.mem_singleton,true_and]
  constructor
  ·rintro ⟨x,hx | rfl,rfl⟩
   ·exact .inl ⟨x,hx,rfl⟩
   ·exact .inr rfl
  ·rintro (⟨x,hx,rfl⟩ | rfl)
   ·exact ⟨x,.inl hx,rfl⟩
   ·exact ⟨e,.inr rfl,rfl⟩
 ·rw [Z1w h]
  simp [h]
theorem Zla {T:Nat→List Ent} {m i:Nat} {e:Ent} (hn:((T m).map (·.1)).Nodup) (hi:(T m)[i]?=some e) (k:Nat) (id:Int):inT (upd T m (dropI (T m) i)) k id↔inT T k id∧¬ (k=m∧id=e.1):=by
 by_cases h:k=m
 ·subst h
  obtain ⟨hl,_⟩:=List.getElem?_eq_some_iff.1 hi
  obtain ⟨z,hz⟩:∃ z,(T k)[(T k).length - 1]?=some z:=⟨_,List.getElem?_eq_getElem (by omega)⟩
  unfold inT
  rw [Z4l,Zmu hn hi hz]
  simp only [true_and]
  by_cases h1:id=e.1
  ·simp [h1]
  ·rw [if_neg h1]
   by_cases h2:id=z.1
   ·rw [if_pos h2,h2,Ze2 hn hz]
    simp [h2 ▸ h1]
   ·rw [if_neg h2]; simp [h1]
 ·unfold inT
  rw [Z1w h]
  simp [h]
theorem Zia {T:Nat→List Ent} {m i:Nat} {e:Ent} {c:Comp} (hi:(T m)[i]?=some e) (k:Nat) (id:Int):inT (upd T m (setL (T m) i c)) k id↔inT T k id:=by
 unfold inT
 by_cases h:k=m
 ·subst h; rw [Z4l,Zkm (Zhk hi)]
 ·rw [Z1w h]
theorem Zox {T:Nat→List Ent} {m:Nat} {e:Ent} (hm:m < 64) (hno:∀ k,k < 64→¬ inT T k e.1) (id:Int):homeT (upd T m (T m ++ [e])) id=if id=e.1 then some m else homeT T id:=by
 by_cases h:id=e.1
 ·subst h
  rw [if_pos rfl]
  cases he:homeT (upd T m (T m ++ [e])) e.1 with
  | none=>exact absurd ((Zl9 m e.1).2 (.inr ⟨rfl,rfl⟩)) (Z3p.1 he m hm)
  | some k =>
   obtain ⟨h1,h2⟩:=Z6x he
   rcases (Zl9 k e.1).1 h2 with h3 | h3
   ·exact absurd h3 (hno k h1)
   ·rw [h3.1]
 ·rw [if_neg h]
  unfold homeT
  congr 1
  funext k
  rw [Bool.eq_iff_iff]
  refine (Zl9 k id).trans ?_
  simp [h]
theorem Zst {T:Nat→List Ent} {m i:Nat} {e:Ent} {c:Comp} (hi:(T m)[i]?=some e):homeT (upd T m (setL (T m) i c))=homeT T:=by
 funext id
 unfold homeT
 congr 1
 funext k
 rw [Bool.eq_iff_iff]
 exact Zia hi k id
theorem Zbx {x:StM} (h:StOk x) {m i:Nat} {e:Ent} (hm:m < 64) (hi:(x.tab m)[i]?=some e) (id:Int):homeT (upd x.tab m (dropI (x.tab m) i)) id=if id=e.1 then none else homeT x.tab id:=by
 have hin:inT x.tab m e.1:=Z9w.2 ⟨e,List.mem_of_getElem? hi,rfl⟩
 by_cases hid:id=e.1
 ·subst hid
  rw [if_pos rfl,Z3p]
  intro k hk hin2
  obtain ⟨h1,h2⟩:=(Zla (h.tab m hm).nodup hi k e.1).1 hin2
  exact h2 ⟨h.uniq k m _ hk hm h1 hin,rfl⟩
 ·rw [if_neg hid]
  unfold homeT
  congr 1
  funext k
  rw [Bool.eq_iff_iff]
  refine (Zla (h.tab m hm).nodup hi k id).trans ?_
  simp [hid]
theorem Zb3 {s:SM} {id:Int}:s.live id=true↔∃ (i:Nat) (g:Int),id=idOf i g∧i < 1024∧s.used[i]?=some true∧s.gen[i]?=some g:=by
 rw [SM.live_iff]
 have hr:=Z6l id
 constructor
 ·rintro ⟨h1,h2⟩
  refine ⟨(slotOf id).toNat,genOf id,?_,by omega,h1,h2⟩
  rw [show (((slotOf id).toNat:Nat):Int)=slotOf id by omega,id_eq]
 ·rintro ⟨i,g,rfl,hi,h1,h2⟩
  rw [Ze3 hi,Zuw hi]
  exact ⟨h1,h2⟩
theorem SM.live_use {s:SM} {i:Nat} {g:Int} (hs:s.used.length=s.n) (hi:i < s.n) (hn:s.n≤1024) (hu:s.used[i]?=some false) (id:Int):(s.use i g).live id=true↔s.live id=true∨id=idOf i g:=by
 rw [Zb3,Zb3]
 constructor
 ·rintro ⟨j,g',rfl,hj,h1,h2⟩
  simp only [SM.use,List.getElem?_set] at h1 h2
  by_cases e:i=j
  ·subst e
   rw [if_pos rfl,if_pos (show i < s.gen.length from hi)] at h2
   cases h2
   exact .inr rfl
  ·rw [if_neg e] at h1 h2
   exact .inl ⟨j,g',rfl,hj,h1,h2⟩
 ·rintro (⟨j,g',rfl,hj,h1,h2⟩ | rfl)
  ·have e:i≠j:=fun e=>by subst e; rw [hu] at h1; cases h1
   exact ⟨j,g',rfl,hj,by simp only [SM.use,List.getElem?_set_ne e]; exact h1,by simp only [SM.use,List.getElem?_set_ne e]; exact h2⟩
  ·exact ⟨i,g,rfl,by omega,by simp only [SM.use]; rw [List.getElem?_set_self (by omega)],by simp only [SM.use]; rw [List.getElem?_set_self hi]⟩
theorem SMOk.take_live {s s':SM} {id:Int} (h:SMOk s) (ht:s.take=some (id,s')):s.live id=false∧(∀ j,s'.live j=true↔s.live j=true∨j=id)∧IdOk id∧1024≤id:=by
 have key:∀ (i:Nat) (g:Int),i < s.n→s.used[i]?=some false→1≤g∧g≤4194303→s.live (idOf i g)=false∧(∀ j,(s.use i g).live j=true↔s.live j=true∨j=idOf i g)∧IdOk (idOf i g)∧1024≤idOf i g:=fun i g hi hu hg=>by
  have hr:=Zl8 (i:=i) (g:=g) (by have:=h.le; omega) hg.1 hg.2
  refine ⟨?_,SM.live_use h.len hi h.le hu,⟨by omega,by omega⟩,hr.1⟩
  have:=h.le
  simp [SM.live,Ze3 (show i < 1024 by omega),hu]
 unfold SM.take at ht
 split at ht
 ·rename_i x hx
  obtain ⟨i,rfl,hi,hu,g,hg,h1,h2⟩:=h.freeGet (List.mem_of_getLast? hx)
  rw [Int.toNat_natCast,hg] at ht
  simp only [Option.some.injEq,Prod.mk.injEq] at ht
  obtain ⟨rfl,rfl⟩:=ht
  exact key i (g+1) hi hu ⟨by omega,by omega⟩
 ·split at ht
  ·rename_i hlt
   simp only [Option.some.injEq,Prod.mk.injEq] at ht
   obtain ⟨rfl,rfl⟩:=ht
   have hl:s.fresh < s.used.length:=by rw [h.len]; exact hlt
   have hu:s.used[s.fresh]?=some false:=by
    cases hb:s.used[s.fresh] with
    | false=>rw [List.getElem?_eq_getElem hl,hb]
    | true=>exact absurd (h.unused s.fresh (by rw [List.getElem?_eq_getElem hl,hb])) (by omega)
   exact key s.fresh s.first hlt hu h.first
  ·cases ht
theorem SMOk.freed_live {s:SM} (_h:SMOk s) {id:Int} (hl:s.live id=true) (j:Int):(s.freed id).live j=true↔s.live j=true∧j≠id:=by
 obtain ⟨i,g,rfl,hi,hu,hg⟩:=Zb3.1 hl
 rw [Zb3,Zb3]
 have hul:i < s.used.length:=(List.getElem?_eq_some_iff.1 hu).1
 simp only [SM.freed,Ze3 hi,Int.toNat_natCast]
 constructor
 ·rintro ⟨q,g',rfl,hq,h1,h2⟩
  rw [List.getElem?_set] at h1
  by_cases e:i=q
  ·subst e; rw [if_pos rfl,if_pos hul] at h1; cases h1
  ·rw [if_neg e] at h1
   refine ⟨⟨q,g',rfl,hq,h1,h2⟩,fun e2=>e ?_⟩
   have:=congrArg slotOf e2
   rw [Ze3 hq,Ze3 hi] at this
   omega
 ·rintro ⟨⟨q,g',rfl,hq,h1,h2⟩,hne⟩
  have e:i≠q:=fun e=>by subst e; rw [hg] at h2; cases h2; exact hne rfl
  exact ⟨q,g',rfl,hq,by rw [List.getElem?_set_ne e]; exact h1,h2⟩
theorem SMOk.live_id {s:SM} (h:SMOk s) {id:Int} (hl:s.live id=true):IdOk id∧1024≤id:=by
 obtain ⟨i,g,rfl,hi,hu,hg⟩:=Zb3.1 hl
 have:=h.old i g hg (h.unused i hu)
 have:=Zl8 hi this.1 this.2
 exact ⟨⟨by omega,by omega⟩,this.1⟩
def putT (T:Nat→List Ent) (id:Int) (l:List Comp):Nat→List Ent:=upd T (maskN l) (T (maskN l) ++ [(id,l)])
def StM.spawn (x:StM) (l:List Comp):Int × Int × StM:=if listE l≠0 then (0,listE l,x) else match x.s.take with
 | none=>(0,8,x)
 | some (id,s')=>(id,0,⟨s',putT x.tab id l⟩)
def StM.at (x:StM) (id:Int):Option (Nat × Nat × Ent):=match homeT x.tab id with
 | none=>none
 | some m=>match rowM (x.tab m) id with
  | none=>none
  | some i=>match (x.tab m)[i]? with
   | none=>none
   | some e=>some (m,i,e)
def StM.despawn (x:StM) (id:Int):Int × StM:=match x.at id with
 | none=>(7,x)
 | some (m,i,_)=>(0,⟨x.s.freed id,upd x.tab m (dropI (x.tab m) i)⟩)
def StM.get (x:StM) (id k:Int):Comp × Int:=match x.at id with
 | none=>((0,0,0,0),7)
 | some (m,_,e)=>if k∈kindsOf m then ((k,fieldsOf e.2 k),0) else ((0,0,0,0),10)
def StM.set (x:StM) (id:Int) (c:Comp):Int × StM:=if checkM c≠0 then (checkM c,x) else match x.at id with
 | none=>(7,x)
 | some (m,i,_)=>if c.1∈kindsOf m then (0,⟨x.s,upd x.tab m (setL (x.tab m) i c)⟩) else (10,x)
def StM.turn (x:StM) (id:Int) (m i:Nat) (l:List Comp):StM:=⟨x.s,putT (upd x.tab m (dropI (x.tab m) i)) id l⟩
def insC (l:List Comp) (c:Comp):List Comp:=(l.takeWhile fun x=>!decide (x.1 > c.1)) ++ c :: (l.dropWhile fun x=>!decide (x.1 > c.1))
def StM.add (x:StM) (id:Int) (c:Comp):Int × StM:=if checkM c≠0 then (checkM c,x) else match x.at id with
 | none=>(7,x)
 | some (m,i,e)=>if c.1∈kindsOf m then (9,x) else (0,x.turn id m i (insC e.2 c))
def StM.remove (x:StM) (id k:Int):Int × StM:=match x.at id with
 | none=>(7,x)
 | some (m,i,e)=>if k∈kindsOf m then (0,x.turn id m i (e.2.filter fun c=>!(c.1 == k))) else (10,x)
def StM.ent (x:StM) (id:Int):Ent × Int:=match x.at id with
 | none=>((0,[]),7)
 | some (_,_,e)=>(e,0)
def StM.new (n:Nat) (first:Int):StM:=⟨SM.new n first,fun _=>[]⟩
theorem StOk.at_some {x:StM} (h:StOk x) {id:Int} {m i:Nat} {e:Ent} (ha:x.at id=some (m,i,e)):homeT x.tab id=some m∧m < 64∧rowM (x.tab m) id=some i∧(x.tab m)[i]?=some e∧e.1=id∧Valid m e.2∧x.s.live id=true:=by
 unfold StM.at at ha
 split at ha
 ·cases ha
 ·rename_i m' hm
  split at ha
  ·cases ha
  ·rename_i i' hi
   split at ha
   ·cases ha
   ·rename_i e' he
    cases ha
    obtain ⟨h1,h2⟩:=Z6x hm
    obtain ⟨_,e2,he2,h3⟩:=Z4d hi
    rw [he] at he2
    cases he2
    exact ⟨hm,h1,hi,he,h3,(h.tab m h1).valid e (List.mem_of_getElem? he),(h.live id).1 ⟨m,h1,h2⟩⟩
theorem StOk.at_none {x:StM} (_h:StOk x) {id:Int}:x.at id=none↔homeT x.tab id=none:=by
 unfold StM.at
 cases hm:homeT x.tab id with
 | none=>simp
 | some m =>
  obtain ⟨h1,h2⟩:=Z6x hm
  simp only [reduceCtorEq,iff_false]
  cases hi:rowM (x.tab m) id with
  | none=>unfold inT at h2; rw [hi] at h2; cases h2
  | some i =>
   obtain ⟨hl,e,he,_⟩:=Z4d hi
   simp [he]
theorem StOk.at_live {x:StM} (h:StOk x) (id:Int):(x.at id).isSome=x.s.live id:=by
 rw [← h.home_live]
 cases ha:x.at id with
 | none=>rw [h.at_none.1 ha]; rfl
 | some p =>
  obtain ⟨m,i,e⟩:=p
  rw [(h.at_some ha).1]; rfl
theorem Zpd {l:List Int} {s:SM} (_h:SMOk s) (hn:l.Nodup) (hl:∀ id∈l,s.live id=true):l.length≤s.n:=by
 have hm:(l.map slotOf).Nodup:=by
  rw [List.Nodup,List.pairwise_map]
  refine List.Pairwise.imp_of_mem ?_ hn
  intro a b ha hb hne e
  obtain ⟨h1,h2⟩:=SM.live_iff.1 (hl a ha)
  obtain ⟨h3,h4⟩:=SM.live_iff.1 (hl b hb)
  rw [e,h4] at h2
  have:genOf a=genOf b:=(Option.some.inj h2).symm
  have e1:=id_eq (id:=a)
  have e2:=id_eq (id:=b)
  rw [e,this] at e1
  exact hne (e1.symm.trans e2)
 have hs:(l.map slotOf) ⊆ (List.range s.n).map fun (k:Nat)=>(k:Int):=fun z hz=>by
  obtain ⟨a,ha,rfl⟩:=List.mem_map.1 hz
  obtain ⟨h1,h2⟩:=SM.live_iff.1 (hl a ha)
  have hr:=Z6l a
  have:=(List.getElem?_eq_some_iff.1 h2).1
  exact List.mem_map.2 ⟨(slotOf a).toNat,by simpa [SM.n] using this,by omega⟩
 have:=hm.length_le_of_subset hs
 simpa using this
theorem StOk.tab_le {x:StM} (h:StOk x) {m:Nat} (hm:m < 64):(x.tab m).length≤1024:=by
 have:=Zpd h.s (h.tab m hm).nodup fun id hid=>by
  obtain ⟨e,he,rfl⟩:=List.mem_map.1 hid
  exact (h.live e.1).1 ⟨m,hm,Z9w.2 ⟨e,he,rfl⟩⟩
 have h2:=h.s.le
 rw [List.length_map] at this
 omega
theorem Ztc {n:Nat} {first:Int} (h1:1≤n) (h2:n≤1024) (hf:1≤first∧first≤4194303):StOk (StM.new n first):=by
 refine ⟨Zpe h1 h2 hf,fun m hm=>TabOk.nil hm,fun m m' id _ _ h=>?_,fun id=>?_⟩
 ·simp [inT,StM.new,rowM] at h
 ·constructor
  ·rintro ⟨m,_,h⟩; simp [inT,StM.new,rowM] at h
  ·intro h
   obtain ⟨i,g,_,_,hu,_⟩:=Zb3.1 h
   simp only [StM.new,SM.new,List.getElem?_replicate] at hu
   split at hu <;> cases hu
theorem Znr {m:Nat} {L:List Ent} {id:Int} {l:List Comp} (hv:Valid m l) (hr:rowM L id=none):addM m L id l=0:=by
 rw [addM,if_neg (by simp [hv.list]),if_neg (by simp [hv.mask]),if_neg (by simp [hr])]
theorem StOk.put {x:StM} (h:StOk x) {s':SM} {id:Int} {l:List Comp} (hs:SMOk s') (hid:IdOk id) (hv:listE l=0) (hno:homeT x.tab id=none) (hl:∀ j,s'.live j=true↔x.s.live j=true∨j=id) (hroom:(x.tab (maskN l)).length < 1048576):StOk ⟨s',putT x.tab id l⟩:=by
 have hm:=Z66 l
 have hno':=Z3p.1 hno
 have hr:rowM (x.tab (maskN l)) id=none:=by
  have:=hno' _ hm
  unfold inT at this
  simpa using this
 have hin:∀ k j,inT (putT x.tab id l) k j↔inT x.tab k j∨(k=maskN l∧j=id):=fun k j=>Zl9 (e:=(id,l)) k j
 refine ⟨hs,fun k hk=>?_,fun k k' j hk hk' h1 h2=>?_,fun j=>?_⟩
 ·show TabOk k (upd _ _ _ k)
  by_cases e:k=maskN l
  ·subst e
   rw [Z4l]
   exact (h.tab _ hk).add hid (Znr ⟨hv,rfl⟩ hr) hroom
  ·rw [Z1w e]; exact h.tab k hk
 ·rcases (hin k j).1 h1 with a | a <;> rcases (hin k' j).1 h2 with b | b
  ·exact h.uniq k k' j hk hk' a b
  ·exact absurd (b.2 ▸ a) (hno' k hk)
  ·exact absurd (a.2 ▸ b) (hno' k' hk')
  ·rw [a.1,b.1]
 ·show (∃ m,m < 64∧inT (putT x.tab id l) m j)↔s'.live j=true
  rw [hl,← h.live]
  constructor
  ·rintro ⟨k,hk,h1⟩
   rcases (hin k j).1 h1 with a | a
   ·exact .inl ⟨k,hk,a⟩
   ·exact .inr a.2
  ·rintro (⟨k,hk,a⟩ | rfl)
   ·exact ⟨k,hk,(hin k j).2 (.inl a)⟩
   ·exact ⟨maskN l,hm,(hin _ _).2 (.inr ⟨rfl,rfl⟩)⟩
theorem StOk.spawn {x:StM} (h:StOk x) (l:List Comp):StOk (x.spawn l).2.2:=by
 unfold StM.spawn
 split
 ·exact h
 ·rename_i hl
  split
  ·exact h
  ·rename_i id s' ht
   obtain ⟨h1,h2,h3,_⟩:=h.s.take_live ht
   have hh:homeT x.tab id=none:=by
    have:=h.home_live id
    rw [h1] at this
    simpa using this
   exact h.put (h.s.take ht) h3 (by simpa using hl) hh h2 (by have:=h.tab_le (Z66 l); omega)
theorem StOk.drop {x:StM} (h:StOk x) {m i:Nat} {e:Ent} (hm:m < 64) (hi:(x.tab m)[i]?=some e):StOk ⟨x.s.freed e.1,upd x.tab m (dropI (x.tab m) i)⟩:=by
 have hin0:inT x.tab m e.1:=Z9w.2 ⟨e,List.mem_of_getElem? hi,rfl⟩
 have hl:=(h.live e.1).1 ⟨m,hm,hin0⟩
 have hin:=fun k j=>Zla (T:=x.tab) (h.tab m hm).nodup hi k j
 refine ⟨h.s.freed hl,fun k hk=>?_,fun k k' j hk hk' h1 h2=>h.uniq k k' j hk hk' ((hin k j).1 h1).1 ((hin k' j).1 h2).1,fun j=>?_⟩
 ·show TabOk k (upd _ _ _ k)
  by_cases e:k=m
  ·subst e; rw [Z4l]; exact (h.tab k hk).drop (List.getElem?_eq_some_iff.1 hi).1
  ·rw [Z1w e]; exact h.tab k hk
 ·show (∃ k,k < 64∧inT (upd x.tab m (dropI (x.tab m) i)) k j)↔_
  rw [h.s.freed_live hl,← h.live]
  constructor
  ·rintro ⟨k,hk,h1⟩
   obtain ⟨a,b⟩:=(hin k j).1 h1
   exact ⟨⟨k,hk,a⟩,fun e2=>b ⟨h.uniq k m j hk hm a (e2 ▸ hin0),e2⟩⟩
  ·rintro ⟨⟨k,hk,a⟩,hne⟩
   exact ⟨k,hk,(hin k j).2 ⟨a,fun b=>hne b.2⟩⟩
theorem StOk.despawn {x:StM} (h:StOk x) (id:Int):StOk (x.despawn id).2:=by
 unfold StM.despawn
 split
 ·exact h
 ·rename_i m i e ha
  obtain ⟨_,hm,_,hi,rfl,_⟩:=h.at_some ha
  exact h.drop hm hi
theorem StOk.set {x:StM} (h:StOk x) {m i:Nat} {e:Ent} {c:Comp} (hm:m < 64) (hi:(x.tab m)[i]?=some e) (hc:checkM c=0) (hk:c.1∈kindsOf m):StOk ⟨x.s,upd x.tab m (setL (x.tab m) i c)⟩:=by
 refine ⟨h.s,fun k hk2=>?_,fun k k' j a b h1 h2=>h.uniq k k' j a b ((Zia hi k j).1 h1) ((Zia hi k' j).1 h2),fun j=>?_⟩
 ·show TabOk k (upd _ _ _ k)
  by_cases e:k=m
  ·subst e; rw [Z4l]; exact (h.tab k hk2).set hi hc hk
  ·rw [Z1w e]; exact h.tab k hk2
 ·rw [← h.live]
  exact ⟨fun ⟨k,a,b⟩=>⟨k,a,(Zia hi k j).1 b⟩,fun ⟨k,a,b⟩=>⟨k,a,(Zia hi k j).2 b⟩⟩
theorem StOk.setM {x:StM} (h:StOk x) (id:Int) (c:Comp):StOk (x.set id c).2:=by
 unfold StM.set
 split
 ·exact h
 ·rename_i hc
  split
  ·exact h
  ·rename_i m i e ha
   split
   ·rename_i hk
    obtain ⟨_,hm,_,hi,rfl,_⟩:=h.at_some ha
    exact h.set hm hi (by simpa using hc) hk
   ·exact h
theorem StOk.turn {x:StM} (h:StOk x) {m i:Nat} {e:Ent} {l:List Comp} (hm:m < 64) (hi:(x.tab m)[i]?=some e) (hv:listE l=0):StOk (x.turn e.1 m i l):=by
 have hin0:inT x.tab m e.1:=Z9w.2 ⟨e,List.mem_of_getElem? hi,rfl⟩
 have hl:=(h.live e.1).1 ⟨m,hm,hin0⟩
 have hd:=h.drop hm hi
 refine hd.put h.s (h.s.live_id hl).1 hv (by rw [Zbx h hm hi,if_pos rfl]) (fun j=>?_) ?_
 ·show _↔(x.s.freed e.1).live j=true∨_
  rw [h.s.freed_live hl]
  constructor
  ·intro hj
   by_cases e2:j=e.1
   ·exact .inr e2
   ·exact .inl ⟨hj,e2⟩
  ·rintro (⟨a,_⟩ | rfl)
   ·exact a
   ·exact hl
 ·have:=hd.tab_le (Z66 l)
  omega
end Go.Proofs.YtoiahhpgkoknfaaGreat
