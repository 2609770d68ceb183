/-
  What the proof of packetOpens_holds leans on, laid together by a program of this session (wip/pack.py) out of its own texts; the last of these texts holds packetOpens_holds.
-/
import Derived.Test.YtchhhjlpnecjkaaGreatO2
set_option linter.unusedVariables false
set_option linter.unusedVariables false
namespace Go.Proofs.YtchhhjlpnecjkaaGreat
open Go Go.Proofs.YtchhhjlpnecjkaaGreat.Den
theorem Zgp {R:Type} (s0:Sl) (K:Res [.sc .sl]→W R) (Q:R→World→Prop) (w:World) (h:Z9o s0 (fun r w=>K r Q w) w):callW Tryz.prog Z5t [.slice s0.a s0.n s0.c] [.sc .sl] K Q w:=den_c (K:=K) mix Tryz.func159 {} trivial rfl (by kernel_rfl) h
def Z3q (r0:Option Addr) (c1:(Int × Int × Int × Int)) (one2c0:Option Addr) (one2c1:Option Addr):W ((Int × Int × Int × Int) × Int) :=
 newW 92 [.int .u8 c1.1,.int .i32 c1.2.1,.int .i32 c1.2.2.1,.int .i32 c1.2.2.2] fun c_1 =>
 newW 92 [.int .u8 0,.int .i32 0,.int .i32 0,.int .i32 0] fun x_2 =>
 ptrW r0 fun x_3 =>
 ld (.agg [.sl,.int .i64]) x_3 fun (x_4:(Sl × Int)) =>
 newW 173 [.slice none 0 0,.int .i64 0] fun was_5 =>
 stoL was_5 [.slice x_4.1.a x_4.1.n x_4.1.c,.int .i64 x_4.2] 0 <|
 ld (.sc (.int .u8)) (Addr.add c_1 0) fun (x_6:Int) =>
 callW Tryz.prog Z2g [.int .u8 x_6] [.sc (.int .i64)] fun (x_7:Int) =>
 loopW (σ:=Int) (fun K_8 s_9 =>
  cond (decide (s_9 < x_7))
   (callW Tryz.prog Zar [.int .i64 s_9,.pointer one2c0,.pointer one2c1] [.sc (.int .i32),.sc (.int .i64)] fun (x_10:Int × Int) =>
  cond (x_10.2 != 0)
   (ld (.agg [.sl,.int .i64]) was_5 fun (x_11:(Sl × Int)) =>
   ptrW r0 fun x_12 =>
   stoL x_12 [.slice x_11.1.a x_11.1.n x_11.1.c,.int .i64 x_11.2] 0 <|
   stoL x_2 [.int .u8 0,.int .i32 0,.int .i32 0,.int .i32 0] 0 <|
   ld (.agg [.int .u8,.int .i32,.int .i32,.int .i32]) x_2 fun (x_13:(Int × Int × Int × Int)) =>
   retW (x_13,x_10.2))
   (idxW (some (Addr.add c_1 1)) 3 1 s_9 fun x_14 =>
  stoL x_14 [.int .i32 x_10.1] 0 <|
  K_8 (IntKind.wrap .i64 (s_9+1))))
   (ld (.agg [.int .u8,.int .i32,.int .i32,.int .i32]) c_1 fun (x_15:(Int × Int × Int × Int)) =>
 stoL x_2 [.int .u8 x_15.1,.int .i32 x_15.2.1,.int .i32 x_15.2.2.1,.int .i32 x_15.2.2.2] 0 <|
 ld (.agg [.int .u8,.int .i32,.int .i32,.int .i32]) x_2 fun (x_16:(Int × Int × Int × Int)) =>
 retW (x_16,0)))
  0
theorem Z7s {R:Type} (r0:Option Addr) (c1:(Int × Int × Int × Int)) (one2c0:Option Addr) (one2c1:Option Addr) (K:Res [.agg [.int .u8,.int .i32,.int .i32,.int .i32],.sc (.int .i64)]→W R) (Q:R→World→Prop) (w:World) (h:Z3q r0 c1 one2c0 one2c1 (fun r w=>K r Q w) w):callW Tryz.prog Zb9 [.pointer r0,.agg ⟨[.int .u8 c1.1,.int .i32 c1.2.1,.int .i32 c1.2.2.1,.int .i32 c1.2.2.2]⟩,.func (.func 161) #[] #[.pointer one2c0,.pointer one2c1]] [.agg [.int .u8,.int .i32,.int .i32,.int .i32],.sc (.int .i64)] K Q w:=den_c (K:=K) mix Tryz.func160 { lop:=[(0,[(18,.sc (.int .i64))])] } ⟨by kernel_rfl,trivial⟩ rfl (by kernel_rfl) h
def Z5d (r0:Option Addr) (c1:(Int × Int × Int × Int)) (one2c0:Option Addr) (one2c1:Option Addr):W ((Int × Int × Int × Int) × Int) :=
 newW 92 [.int .u8 c1.1,.int .i32 c1.2.1,.int .i32 c1.2.2.1,.int .i32 c1.2.2.2] fun c_1 =>
 newW 92 [.int .u8 0,.int .i32 0,.int .i32 0,.int .i32 0] fun x_2 =>
 ptrW r0 fun x_3 =>
 ld (.agg [.sl,.int .i64]) x_3 fun (x_4:(Sl × Int)) =>
 newW 173 [.slice none 0 0,.int .i64 0] fun was_5 =>
 stoL was_5 [.slice x_4.1.a x_4.1.n x_4.1.c,.int .i64 x_4.2] 0 <|
 ld (.sc (.int .u8)) (Addr.add c_1 0) fun (x_6:Int) =>
 callW Tryz.prog Z2g [.int .u8 x_6] [.sc (.int .i64)] fun (x_7:Int) =>
 loopW (σ:=Int) (fun K_8 s_9 =>
  cond (decide (s_9 < x_7))
   (callW Tryz.prog Zhc [.int .i64 s_9,.pointer one2c0,.pointer one2c1] [.sc (.int .i32),.sc (.int .i64)] fun (x_10:Int × Int) =>
  cond (x_10.2 != 0)
   (ld (.agg [.sl,.int .i64]) was_5 fun (x_11:(Sl × Int)) =>
   ptrW r0 fun x_12 =>
   stoL x_12 [.slice x_11.1.a x_11.1.n x_11.1.c,.int .i64 x_11.2] 0 <|
   stoL x_2 [.int .u8 0,.int .i32 0,.int .i32 0,.int .i32 0] 0 <|
   ld (.agg [.int .u8,.int .i32,.int .i32,.int .i32]) x_2 fun (x_13:(Int × Int × Int × Int)) =>
   retW (x_13,x_10.2))
   (idxW (some (Addr.add c_1 1)) 3 1 s_9 fun x_14 =>
  stoL x_14 [.int .i32 x_10.1] 0 <|
  K_8 (IntKind.wrap .i64 (s_9+1))))
   (ld (.agg [.int .u8,.int .i32,.int .i32,.int .i32]) c_1 fun (x_15:(Int × Int × Int × Int)) =>
 stoL x_2 [.int .u8 x_15.1,.int .i32 x_15.2.1,.int .i32 x_15.2.2.1,.int .i32 x_15.2.2.2] 0 <|
 ld (.agg [.int .u8,.int .i32,.int .i32,.int .i32]) x_2 fun (x_16:(Int × Int × Int × Int)) =>
 retW (x_16,0)))
  0
theorem Zae {R:Type} (r0:Option Addr) (c1:(Int × Int × Int × Int)) (one2c0:Option Addr) (one2c1:Option Addr) (K:Res [.agg [.int .u8,.int .i32,.int .i32,.int .i32],.sc (.int .i64)]→W R) (Q:R→World→Prop) (w:World) (h:Z5d r0 c1 one2c0 one2c1 (fun r w=>K r Q w) w):callW Tryz.prog Zb9 [.pointer r0,.agg ⟨[.int .u8 c1.1,.int .i32 c1.2.1,.int .i32 c1.2.2.1,.int .i32 c1.2.2.2]⟩,.func (.func 175) #[] #[.pointer one2c0,.pointer one2c1]] [.agg [.int .u8,.int .i32,.int .i32,.int .i32],.sc (.int .i64)] K Q w:=den_c (K:=K) mix Tryz.func160 { lop:=[(0,[(18,.sc (.int .i64))])] } ⟨by kernel_rfl,trivial⟩ rfl (by kernel_rfl) h
def Zaj (i0:Int) (c1:Option Addr) (c2:Option Addr):W (Int × Int) :=
 ptrW c1 fun x_1 =>
 ld (.sc .ptr) x_1 fun (x_2:Option Addr) =>
 ptrW c2 fun x_3 =>
 ld (.agg [.int .u8,.int .i32,.int .i32,.int .i32]) x_3 fun (x_4:(Int × Int × Int × Int)) =>
 callW Tryz.prog Zcf [.pointer x_2,.agg ⟨[.int .u8 x_4.1,.int .i32 x_4.2.1,.int .i32 x_4.2.2.1,.int .i32 x_4.2.2.2]⟩,.int .i64 i0] [.sc (.int .i32),.sc (.int .i64)] fun (x_5:Int × Int) =>
 retW (x_5.1,x_5.2)
theorem Zi2 {R:Type} (i0:Int) (c1:Option Addr) (c2:Option Addr) (K:Res [.sc (.int .i32),.sc (.int .i64)]→W R) (Q:R→World→Prop) (w:World) (h:Zaj i0 c1 c2 (fun r w=>K r Q w) w):callW Tryz.prog Zar [.int .i64 i0,.pointer c1,.pointer c2] [.sc (.int .i32),.sc (.int .i64)] K Q w:=den_c (K:=K) mix Tryz.func161 {} trivial rfl (by kernel_rfl) h
def Zj2 (d0:Option Addr) (o1:(Int × Int × Int × Int)) (p2:Int):W (Int × Int) :=
 newW 92 [.int .u8 o1.1,.int .i32 o1.2.1,.int .i32 o1.2.2.1,.int .i32 o1.2.2.2] fun x_1 =>
 callW Tryz.prog Zv [.pointer d0,.int .i64 1] [.sc (.int .u64),.sc (.int .i64)] fun (x_2:Int × Int) =>
 joinW (σ:=Bool) (fun J_3 =>
  cond (x_2.2 != 0)
   (J_3 true)
   (J_3 (x_2.1 == 0)))
 <| fun s_4 =>
 cond s_4
  (idxW (some (Addr.add x_1 1)) 3 1 p2 fun x_5 =>
  ld (.sc (.int .i32)) x_5 fun (x_6:Int) =>
  retW (x_6,x_2.2))
  (callW Tryz.prog Zv [.pointer d0,.int .i64 1] [.sc (.int .u64),.sc (.int .i64)] fun (x_7:Int × Int) =>
 cond (x_7.2 != 0)
  (retW (0,x_7.2))
  (cond (x_7.1 == 0)
  (ld (.sc (.int .u8)) (Addr.add x_1 0) fun (x_8:Int) =>
  callW Tryz.prog Zhd [.pointer d0,.int .u8 x_8,.int .i64 p2] [.sc (.int .i32),.sc (.int .i64)] fun (x_9:Int × Int) =>
  joinW (σ:=Bool) (fun J_10 =>
   cond (x_9.2 == 0)
    (idxW (some (Addr.add x_1 1)) 3 1 p2 fun x_11 =>
        ld (.sc (.int .i32)) x_11 fun (x_12:Int) =>
         callW Tryz.prog Zdg [.int .i64 (IntKind.wrap .i64 ((IntKind.wrap .i64 x_9.1) - (IntKind.wrap .i64 x_12)))] [.sc (.int .u64)] fun (x_13 : Int) =>
            J_10 (decide (x_13≤16)))
    (J_10 false))
  <| fun s_14 =>
  cond s_14
   (retW (0,4))
   (retW (x_9.1,x_9.2)))
  (callW Tryz.prog Zv [.pointer d0,.int .i64 4] [.sc (.int .u64),.sc (.int .i64)] fun (x_15:Int × Int) =>
 cond (x_15.2 != 0)
  (retW (0,x_15.2))
  (drawW <|
 idxW (some (Addr.add x_1 1)) 3 1 p2 fun x_16 =>
 ld (.sc (.int .i32)) x_16 fun (x_17:Int) =>
 callW Tryz.prog Zij [.int .u64 (IntKind.wrap .u64 (x_15.1+1))] [.sc (.int .i64)] fun (x_18:Int) =>
 andW (fun w=>Rd w x_16 (.sc (.int .i32)) x_17) <|
 ld (.sc (.int .u8)) (Addr.add x_1 0) fun (x_19:Int) =>
 callW Tryz.prog Z4v [.int .u8 x_19,.int .i64 p2] [.sc (.int .i32),.sc (.int .i32),.sc (.int .i64)] fun (x_20:Int × Int × Int) =>
 joinW (σ:=Bool) (fun J_21 =>
  cond (decide ((IntKind.wrap .i64 ((IntKind.wrap .i64 x_17)+x_18)) < (IntKind.wrap .i64 x_20.1)))
   (J_21 true)
   (J_21 (decide ((IntKind.wrap .i64 ((IntKind.wrap .i64 x_17)+x_18)) > (IntKind.wrap .i64 x_20.2.1)))))
 <| fun s_22 =>
 cond s_22
  (retW (0,5))
  (retW (IntKind.wrap .i32 (IntKind.wrap .i64 ((IntKind.wrap .i64 x_17)+x_18)),0))))))
theorem Zpg {R:Type} (d0:Option Addr) (o1:(Int × Int × Int × Int)) (p2:Int) (K:Res [.sc (.int .i32),.sc (.int .i64)]→W R) (Q:R→World→Prop) (w:World) (h:Zj2 d0 o1 p2 (fun r w=>K r Q w) w):callW Tryz.prog Zcf [.pointer d0,.agg ⟨[.int .u8 o1.1,.int .i32 o1.2.1,.int .i32 o1.2.2.1,.int .i32 o1.2.2.2]⟩,.int .i64 p2] [.sc (.int .i32),.sc (.int .i64)] K Q w:=den_c (K:=K) mix Tryz.func162 { reg:=[(2,[(29,.sc .bool)]),(9,[(66,.sc .bool)]),(17,[(103,.sc .bool)])],dr:=[(15,([],[[(0,[]),(1,[]),(2,[]),(3,[]),(4,[]),(5,[]),(6,[]),(7,[3]),(8,[]),(9,[])]]))] } trivial rfl (by kernel_rfl) h
def Zj3 (c0:(Int × Int × Int × Int)):W (Sl) :=
 newW 92 [.int .u8 c0.1,.int .i32 c0.2.1,.int .i32 c0.2.2.1,.int .i32 c0.2.2.2] fun c_1 =>
 ld (.sc (.int .u8)) (Addr.add c_1 0) fun (x_2:Int) =>
 callW Tryz.prog Z2g [.int .u8 x_2] [.sc (.int .i64)] fun (x_3:Int) =>
 loopW (σ:=Sl × Int) (fun K_4 s_5 =>
  cond (decide (s_5.2 < x_3))
   (ld (.agg [.int .u8,.int .i32,.int .i32,.int .i32]) c_1 fun (x_6:(Int × Int × Int × Int)) =>
  callW Tryz.prog Z9t [.agg ⟨[.int .u8 x_6.1,.int .i32 x_6.2.1,.int .i32 x_6.2.2.1,.int .i32 x_6.2.2.2]⟩,.int .i64 s_5.2] [.agg [.int .u64,.int .i64]] fun (x_7:(Int × Int)) =>
  newW 231 [.int .u64 x_7.1,.int .i64 x_7.2] fun x_8 =>
  rawW Tryz.prog (Builtin.append_ #[202,202] 202 #[.slice s_5.1.a s_5.1.n s_5.1.c,.slice (some x_8) 1 1]) [.sc .sl] fun (x_9:Sl) =>
  K_4 (x_9,IntKind.wrap .i64 (s_5.2+1)))
   (retW s_5.1))
  ((⟨none,0,0⟩:Sl),0)
theorem Zph {R:Type} (c0:(Int × Int × Int × Int)) (K:Res [.sc .sl]→W R) (Q:R→World→Prop) (w:World) (h:Zj3 c0 (fun r w=>K r Q w) w):callW Tryz.prog Zcg [.agg ⟨[.int .u8 c0.1,.int .i32 c0.2.1,.int .i32 c0.2.2.1,.int .i32 c0.2.2.2]⟩] [.sc .sl] K Q w:=den_c (K:=K) mix Tryz.func164 { lop:=[(0,[(3,.sc .sl),(8,.sc (.int .i64))])] } trivial rfl (by kernel_rfl) h
def Zea (c0:(Int × Int × Int × Int)) (c1:Option Addr):W (Bool) :=
 newW 92 [.int .u8 c0.1,.int .i32 c0.2.1,.int .i32 c0.2.2.1,.int .i32 c0.2.2.2] fun c_1 =>
 ld (.sc (.int .u8)) (Addr.add c_1 0) fun (x_2:Int) =>
 ptrW c1 fun x_3 =>
 ld (.sc (.int .u8)) x_3 fun (x_4:Int) =>
 retW (x_2 == x_4)
theorem Zma {R:Type} (c0:(Int × Int × Int × Int)) (c1:Option Addr) (K:Res [.sc .bool]→W R) (Q:R→World→Prop) (w:World) (h:Zea c0 c1 (fun r w=>K r Q w) w):callW Tryz.prog Za7 [.agg ⟨[.int .u8 c0.1,.int .i32 c0.2.1,.int .i32 c0.2.2.1,.int .i32 c0.2.2.2]⟩,.pointer c1] [.sc .bool] K Q w:=den_c (K:=K) mix Tryz.func165 {} trivial rfl (by kernel_rfl) h
def Zkr (l0:Sl):W (Int) :=
 loopW (σ:=Int × Int) (fun K_1 s_2 =>
  cond (decide (s_2.2 < (l0.n:Int)))
   (idxW l0.a l0.n 2 s_2.2 fun x_3 =>
  ld (.agg [.int .u64,.int .i64]) x_3 fun (x_4:(Int × Int)) =>
  newW 231 [.int .u64 0,.int .i64 0] fun p_5 =>
  stoL p_5 [.int .u64 x_4.1,.int .i64 x_4.2] 0 <|
  ld (.sc (.int .i64)) (Addr.add p_5 1) fun (x_6:Int) =>
  K_1 (IntKind.wrap .i64 (s_2.1+x_6),IntKind.wrap .i64 (s_2.2+1)))
   (retW s_2.1))
  (0,0)
theorem Zr7 {R:Type} (l0:Sl) (K:Res [.sc (.int .i64)]→W R) (Q:R→World→Prop) (w:World) (h:Zkr l0 (fun r w=>K r Q w) w):callW Tryz.prog Zfs [.slice l0.a l0.n l0.c] [.sc (.int .i64)] K Q w:=den_c (K:=K) mix Tryz.func166 { lop:=[(0,[(3,.sc (.int .i64)),(8,.sc (.int .i64))])] } trivial rfl (by kernel_rfl) h
def Zkp (was0:(Int × Int × Int × Int)) (c1:(Int × Int × Int × Int)) (i2:Int):W (Int) :=
 newW 92 [.int .u8 was0.1,.int .i32 was0.2.1,.int .i32 was0.2.2.1,.int .i32 was0.2.2.2] fun was_1 =>
 newW 92 [.int .u8 c1.1,.int .i32 c1.2.1,.int .i32 c1.2.2.1,.int .i32 c1.2.2.2] fun c_2 =>
 drawW <|
 idxW (some (Addr.add c_2 1)) 3 1 i2 fun x_3 =>
 ld (.sc (.int .i32)) x_3 fun (x_4:Int) =>
 idxW (some (Addr.add was_1 1)) 3 1 i2 fun x_5 =>
 ld (.sc (.int .i32)) x_5 fun (x_6:Int) =>
 callW Tryz.prog Zdg [.int .i64 (IntKind.wrap .i64 ((IntKind.wrap .i64 x_4) - (IntKind.wrap .i64 x_6)))] [.sc (.int .u64)] fun (x_7:Int) =>
 retW x_7
theorem Zr5 {R:Type} (was0:(Int × Int × Int × Int)) (c1:(Int × Int × Int × Int)) (i2:Int) (K:Res [.sc (.int .u64)]→W R) (Q:R→World→Prop) (w:World) (h:Zkp was0 c1 i2 (fun r w=>K r Q w) w):callW Tryz.prog Zfq [.agg ⟨[.int .u8 was0.1,.int .i32 was0.2.1,.int .i32 was0.2.2.1,.int .i32 was0.2.2.2]⟩,.agg ⟨[.int .u8 c1.1,.int .i32 c1.2.1,.int .i32 c1.2.2.1,.int .i32 c1.2.2.2]⟩,.int .i64 i2] [.sc (.int .u64)] K Q w:=den_c (K:=K) mix Tryz.func168 { dr:=[(1,([],[[(0,[]),(1,[]),(2,[]),(3,[]),(4,[]),(5,[]),(6,[]),(7,[]),(8,[]),(9,[]),(10,[]),(11,[]),(12,[])]]))] } trivial rfl (by kernel_rfl) h
def Zj1 (c0:(Int × Int × Int × Int)) (i1:Int):W ((Int × Int)) :=
 newW 92 [.int .u8 c0.1,.int .i32 c0.2.1,.int .i32 c0.2.2.1,.int .i32 c0.2.2.2] fun c_1 =>
 newW 231 [.int .u64 0,.int .i64 0] fun x_2 =>
 ld (.sc (.int .u8)) (Addr.add c_1 0) fun (x_3:Int) =>
 callW Tryz.prog Z4v [.int .u8 x_3,.int .i64 i1] [.sc (.int .i32),.sc (.int .i32),.sc (.int .i64)] fun (x_4:Int × Int × Int) =>
 drawW <|
 idxW (some (Addr.add c_1 1)) 3 1 i1 fun x_5 =>
 ld (.sc (.int .i32)) x_5 fun (x_6:Int) =>
 callW Tryz.prog Z72 [.int .i64 (IntKind.wrap .i64 x_4.1),.int .i64 (IntKind.wrap .i64 x_4.2.1)] [.sc (.int .i64)] fun (x_7:Int) =>
 andW (fun w=>Rd w x_5 (.sc (.int .i32)) x_6) <|
 stoL x_2 [.int .u64 (IntKind.wrap .u64 (IntKind.wrap .i64 ((IntKind.wrap .i64 x_6) - (IntKind.wrap .i64 x_4.1)))),.int .i64 x_7] 0 <|
 ld (.agg [.int .u64,.int .i64]) x_2 fun (x_8:(Int × Int)) =>
 retW x_8
theorem Zpf {R:Type} (c0:(Int × Int × Int × Int)) (i1:Int) (K:Res [.agg [.int .u64,.int .i64]]→W R) (Q:R→World→Prop) (w:World) (h:Zj1 c0 i1 (fun r w=>K r Q w) w):callW Tryz.prog Z9t [.agg ⟨[.int .u8 c0.1,.int .i32 c0.2.1,.int .i32 c0.2.2.1,.int .i32 c0.2.2.2]⟩,.int .i64 i1] [.agg [.int .u64,.int .i64]] K Q w:=den_c (K:=K) mix Tryz.func169 { dr:=[(2,([],[[(0,[]),(1,[]),(2,[]),(3,[]),(4,[]),(5,[]),(6,[]),(7,[]),(8,[]),(9,[]),(10,[]),(11,[]),(12,[]),(13,[3]),(14,[]),(15,[])]]))] } ⟨by kernel_rfl,trivial⟩ rfl (by kernel_rfl) h
def Z11 (x0:Sl) (target1:Int):W (Int × Bool) :=
 loopW (σ:=Int × Int) (fun K_1 s_2 =>
  cond (decide (s_2.1 < s_2.2))
   (idxW x0.a x0.n 2 (IntKind.wrap .i64 (shR .u64 (IntKind.wrap .u64 (IntKind.wrap .i64 (s_2.1+s_2.2))) 1)) fun x_3 =>
  ld (.agg [.int .u32,.sl]) x_3 fun (x_4:(Int × Sl)) =>
  callW Tryz.prog Z6k [.agg ⟨[.int .u32 x_4.1,.slice x_4.2.a x_4.2.n x_4.2.c]⟩,.int .u32 target1] [.sc (.int .i64)] fun (x_5:Int) =>
  joinW (σ:=Int × Int) (fun J_6 =>
   cond (decide (x_5 < 0))
    (J_6 (IntKind.wrap .i64 ((IntKind.wrap .i64 (shR .u64 (IntKind.wrap .u64 (IntKind.wrap .i64 (s_2.1+s_2.2))) 1))+1),s_2.2))
    (J_6 (s_2.1,IntKind.wrap .i64 (shR .u64 (IntKind.wrap .u64 (IntKind.wrap .i64 (s_2.1+s_2.2))) 1))))
  <| fun s_7 =>
  K_1 (s_7.1,s_7.2))
   (joinW (σ:=Int × Bool) (fun J_8 =>
  cond (decide (s_2.1 < (x0.n:Int)))
   (idxW x0.a x0.n 2 s_2.1 fun x_9 =>
      ld (.agg [.int .u32,.sl]) x_9 fun (x_10:(Int × Sl)) =>
       callW Tryz.prog Z6k [.agg ⟨[.int .u32 x_10.1,.slice x_10.2.a x_10.2.n x_10.2.c]⟩,.int .u32 target1] [.sc (.int .i64)] fun (x_11:Int) =>
         J_8 (s_2.1,(x_11 == 0)))
   (J_8 (s_2.1,false)))
 <| fun s_12 =>
 retW (s_12.1,s_12.2)))
  (0,(x0.n:Int))
theorem Z2v {R:Type} (x0:Sl) (target1:Int) (K:Res [.sc (.int .i64),.sc .bool]→W R) (Q:R→World→Prop) (w:World) (h:Z11 x0 target1 (fun r w=>K r Q w) w):callW Tryz.prog Z3e [.slice x0.a x0.n x0.c,.int .u32 target1,.func (.func 171) #[] #[]] [.sc (.int .i64),.sc .bool] K Q w:=den_c (K:=K) mix Tryz.func170 { reg:=[(8,[(6,.sc (.int .i64)),(7,.sc .bool)])],con:=[(7031,[(9,.sc (.int .i64)),(10,.sc (.int .i64))])],lop:=[(0,[(9,.sc (.int .i64)),(10,.sc (.int .i64))])] } trivial rfl (by kernel_rfl) h
def Zej (e0:(Int × Sl)) (id1:Int):W (Int) :=
 newW 57 [.int .u32 e0.1,.slice e0.2.a e0.2.n e0.2.c] fun e_1 =>
 ld (.sc (.int .u32)) (Addr.add e_1 0) fun (x_2:Int) =>
 callW Tryz.prog Z4y [.int .u32 x_2,.int .u32 id1] [.sc (.int .i64)] fun (x_3:Int) =>
 retW x_3
theorem Zmj {R:Type} (e0:(Int × Sl)) (id1:Int) (K:Res [.sc (.int .i64)]→W R) (Q:R→World→Prop) (w:World) (h:Zej e0 id1 (fun r w=>K r Q w) w):callW Tryz.prog Z6k [.agg ⟨[.int .u32 e0.1,.slice e0.2.a e0.2.n e0.2.c]⟩,.int .u32 id1] [.sc (.int .i64)] K Q w:=den_c (K:=K) mix Tryz.func171 {} trivial rfl (by kernel_rfl) h
def Z9b (r0:Option Addr):W (Int) :=
 cond (Option.isNone r0)
  (retW 0)
  (drawW <|
 ptrW r0 fun x_1 =>
 ld (.sc .sl) (Addr.add x_1 0) fun (x_2:Sl) =>
 ptrW r0 fun x_3 =>
 ld (.sc (.int .i64)) (Addr.add x_3 1) fun (x_4:Int) =>
 retW (IntKind.wrap .i64 ((IntKind.wrap .i64 (8 * (x_2.n:Int))) - x_4)))
theorem Zga {R:Type} (r0:Option Addr) (K:Res [.sc (.int .i64)]→W R) (Q:R→World→Prop) (w:World) (h:Z9b r0 (fun r w=>K r Q w) w):callW Tryz.prog Z5n [.pointer r0] [.sc (.int .i64)] K Q w:=den_c (K:=K) mix Tryz.func172 { dr:=[(3,([],[[(0,[]),(1,[]),(2,[]),(3,[]),(4,[]),(5,[]),(6,[]),(7,[]),(8,[]),(9,[]),(10,[]),(11,[])]]))] } trivial rfl (by kernel_rfl) h
def Z2u (r0:Option Addr):W (Int × Int) :=
 cond (Option.isNone r0)
  (retW (0,10))
  (ptrW r0 fun x_1 =>
 ld (.agg [.sl,.int .i64]) x_1 fun (x_2:(Sl × Int)) =>
 newW 173 [.slice none 0 0,.int .i64 0] fun was_3 =>
 stoL was_3 [.slice x_2.1.a x_2.1.n x_2.1.c,.int .i64 x_2.2] 0 <|
 callW Tryz.prog Zbe [.pointer r0] [.sc (.int .u64),.sc (.int .i64)] fun (x_4:Int × Int) =>
 cond (x_4.2 != 0)
  (ld (.agg [.sl,.int .i64]) was_3 fun (x_5:(Sl × Int)) =>
  ptrW r0 fun x_6 =>
  stoL x_6 [.slice x_5.1.a x_5.1.n x_5.1.c,.int .i64 x_5.2] 0 <|
  retW (0,x_4.2))
  (retW (x_4.1,0)))
theorem Z6p {R:Type} (r0:Option Addr) (K:Res [.sc (.int .u64),.sc (.int .i64)]→W R) (Q:R→World→Prop) (w:World) (h:Z2u r0 (fun r w=>K r Q w) w):callW Tryz.prog Zas [.pointer r0,.func (.func 174) #[] #[]] [.sc (.int .u64),.sc (.int .i64)] K Q w:=den_c (K:=K) mix Tryz.func173 {} trivial rfl (by kernel_rfl) h
def Zgz (r0:Option Addr):W (Int × Int) :=
 loopW (σ:=Int × Int) (fun K_1 s_2 =>
  cond (decide (s_2.2 < 16))
   (callW Tryz.prog Zv [.pointer r0,.int .i64 5] [.sc (.int .u64),.sc (.int .i64)] fun (x_3:Int × Int) =>
  cond (x_3.2 != 0)
   (retW (0,x_3.2))
   (chkW (0≤(IntKind.wrap .i64 (4 * s_2.2))) <|
  cond ((shR .u64 x_3.1 4) == 0)
   (callW Tryz.prog Z7x [.int .u64 (bOr .u64 s_2.1 (shL .u64 (bAnd .u64 x_3.1 15) (IntKind.wrap .i64 (4 * s_2.2))))] [.sc (.int .i64)] fun (x_4:Int) =>
   cond (x_4 != (IntKind.wrap .i64 (s_2.2+1)))
    (retW (0,4))
    (retW (bOr .u64 s_2.1 (shL .u64 (bAnd .u64 x_3.1 15) (IntKind.wrap .i64 (4 * s_2.2))),0)))
   (K_1 (bOr .u64 s_2.1 (shL .u64 (bAnd .u64 x_3.1 15) (IntKind.wrap .i64 (4 * s_2.2))),IntKind.wrap .i64 (s_2.2+1)))))
   (retW (0,4)))
  (0,0)
theorem Zo0 {R:Type} (r0:Option Addr) (K:Res [.sc (.int .u64),.sc (.int .i64)]→W R) (Q:R→World→Prop) (w:World) (h:Zgz r0 (fun r w=>K r Q w) w):callW Tryz.prog Zbe [.pointer r0] [.sc (.int .u64),.sc (.int .i64)] K Q w:=den_c (K:=K) mix Tryz.func174 { lop:=[(0,[(4,.sc (.int .u64)),(8,.sc (.int .i64))])] } trivial rfl (by kernel_rfl) h
def Zgu (i0:Int) (c1:Option Addr) (c2:Option Addr):W (Int × Int) :=
 ptrW c1 fun x_1 =>
 ld (.sc .ptr) x_1 fun (x_2:Option Addr) =>
 ptrW c2 fun x_3 =>
 ld (.sc (.int .u8)) x_3 fun (x_4:Int) =>
 callW Tryz.prog Zhd [.pointer x_2,.int .u8 x_4,.int .i64 i0] [.sc (.int .i32),.sc (.int .i64)] fun (x_5:Int × Int) =>
 retW (x_5.1,x_5.2)
theorem Znv {R:Type} (i0:Int) (c1:Option Addr) (c2:Option Addr) (K:Res [.sc (.int .i32),.sc (.int .i64)]→W R) (Q:R→World→Prop) (w:World) (h:Zgu i0 c1 c2 (fun r w=>K r Q w) w):callW Tryz.prog Zhc [.int .i64 i0,.pointer c1,.pointer c2] [.sc (.int .i32),.sc (.int .i64)] K Q w:=den_c (K:=K) mix Tryz.func175 {} trivial rfl (by kernel_rfl) h
def Zpr (r0:Option Addr) (kind1:Int) (i2:Int):W (Int × Int) :=
 callW Tryz.prog Z4v [.int .u8 kind1,.int .i64 i2] [.sc (.int .i32),.sc (.int .i32),.sc (.int .i64)] fun (x_1:Int × Int × Int) =>
 callW Tryz.prog Zw [.pointer r0,.int .i64 (IntKind.wrap .i64 x_1.1),.int .i64 (IntKind.wrap .i64 x_1.2.1)] [.sc (.int .i64),.sc (.int .i64)] fun (x_2:Int × Int) =>
 retW (IntKind.wrap .i32 x_2.1,x_2.2)
theorem Zue {R:Type} (r0:Option Addr) (kind1:Int) (i2:Int) (K:Res [.sc (.int .i32),.sc (.int .i64)]→W R) (Q:R→World→Prop) (w:World) (h:Zpr r0 kind1 i2 (fun r w=>K r Q w) w):callW Tryz.prog Zhd [.pointer r0,.int .u8 kind1,.int .i64 i2] [.sc (.int .i32),.sc (.int .i64)] K Q w:=den_c (K:=K) mix Tryz.func176 {} trivial rfl (by kernel_rfl) h
def Z1f (data0:Sl) (n1:Int):W (Unit) :=
 loopW (σ:=Int × Int) (fun K_1 s_2 =>
  cond (decide (s_2.2≤n1))
   (callW Tryz.prog Zz [.slice data0.a data0.n data0.c,.int .i64 s_2.1,.int .i64 s_2.2,.func (.func 150) #[] #[]] [] fun (x_3:Unit) =>
  K_1 (s_2.2,IntKind.wrap .i64 (s_2.2+20)))
   (callW Tryz.prog Zz [.slice data0.a data0.n data0.c,.int .i64 s_2.1,.int .i64 n1,.func (.func 150) #[] #[]] [] fun (x_4:Unit) =>
 loopW (σ:=Int) (fun K_5 s_6 =>
  cond (decide (s_6 < n1))
   (loopW (σ:=Int × Int) (fun K_7 s_8 =>
   cond (decide (s_8.2≤n1))
    (callW Tryz.prog Z3f [.slice data0.a data0.n data0.c,.int .i64 s_8.1,.int .i64 (IntKind.wrap .i64 (s_8.1+s_6)),.int .i64 s_8.2,.func (.func 150) #[] #[]] [] fun (x_9:Unit) =>
   K_7 (s_8.2,IntKind.wrap .i64 (s_8.2+(IntKind.wrap .i64 (2 * s_6)))))
    (joinW (σ:=Unit) (fun J_10 =>
   cond (decide ((IntKind.wrap .i64 (s_8.1+s_6)) < n1))
    (callW Tryz.prog Z3f [.slice data0.a data0.n data0.c,.int .i64 s_8.1,.int .i64 (IntKind.wrap .i64 (s_8.1+s_6)),.int .i64 n1,.func (.func 150) #[] #[]] [] fun (x_11:Unit) =>
    J_10 ())
    (J_10 ()))
  <| fun s_12 =>
  K_5 (IntKind.wrap .i64 (s_6 * 2))))
   (0,IntKind.wrap .i64 (2 * s_6)))
   (retW ()))
  20))
  (0,20)
theorem Z3l {R:Type} (data0:Sl) (n1:Int) (K:Res []→W R) (Q:R→World→Prop) (w:World) (h:Z1f data0 n1 (fun r w=>K r Q w) w):callW Tryz.prog Z47 [.slice data0.a data0.n data0.c,.int .i64 n1,.func (.func 150) #[] #[]] [] K Q w:=den_c (K:=K) mix Tryz.func177 { con:=[(16054,[])],lop:=[(0,[(7,.sc (.int .i64)),(8,.sc (.int .i64))]),(2,[(6,.sc (.int .i64))]),(4,[(7,.sc (.int .i64)),(8,.sc (.int .i64))])] } trivial rfl (by kernel_rfl) h
def Zr (data0:Sl) (a1:Int) (b2:Int):W (Unit) :=
 loopW (σ:=Int) (fun K_1 s_2 =>
  cond (decide (s_2 < b2))
   (loopW (σ:=Int) (fun K_3 s_4 =>
   joinW (σ:=Bool) (fun J_5 =>
    drawW <|
    cond (decide (s_4 > a1))
     (idxW data0.a data0.n 2 s_4 fun x_6 =>
        ld (.agg [.int .u32,.sl]) x_6 fun (x_7:(Int × Sl)) =>
         idxW data0.a data0.n 2 (IntKind.wrap .i64 (s_4 - 1)) fun x_8 =>
             ld (.agg [.int .u32,.sl]) x_8 fun (x_9:(Int × Sl)) =>
              callW Tryz.prog Z1n [.agg ⟨[.int .u32 x_7.1,.slice x_7.2.a x_7.2.n x_7.2.c]⟩,.agg ⟨[.int .u32 x_9.1,.slice x_9.2.a x_9.2.n x_9.2.c]⟩] [.sc (.int .i64)] fun (x_10:Int) =>
               J_5 (decide (x_10 < 0)))
     (J_5 false))
   <| fun s_11 =>
   cond s_11
    (drawW <|
   idxW data0.a data0.n 2 (IntKind.wrap .i64 (s_4 - 1)) fun x_12 =>
   ld (.agg [.int .u32,.sl]) x_12 fun (x_13:(Int × Sl)) =>
   idxW data0.a data0.n 2 s_4 fun x_14 =>
   ld (.agg [.int .u32,.sl]) x_14 fun (x_15:(Int × Sl)) =>
   idxW data0.a data0.n 2 s_4 fun x_16 =>
   stoL x_16 [.int .u32 x_13.1,.slice x_13.2.a x_13.2.n x_13.2.c] 0 <|
   idxW data0.a data0.n 2 (IntKind.wrap .i64 (s_4 - 1)) fun x_17 =>
   stoL x_17 [.int .u32 x_15.1,.slice x_15.2.a x_15.2.n x_15.2.c] 0 <|
   K_3 (IntKind.wrap .i64 (s_4 - 1)))
    (K_1 (IntKind.wrap .i64 (s_2+1))))
   s_2)
   (retW ()))
  (IntKind.wrap .i64 (a1+1))
theorem Z2b {R:Type} (data0:Sl) (a1:Int) (b2:Int) (K:Res []→W R) (Q:R→World→Prop) (w:World) (h:Zr data0 a1 b2 (fun r w=>K r Q w) w):callW Tryz.prog Zj [.slice data0.a data0.n data0.c,.int .i64 a1,.int .i64 b2,.func (.func 121) #[] #[]] [] K Q w:=den_c (K:=K) mix Tryz.func179 { reg:=[(4,[(34,.sc .bool)])],lop:=[(0,[(8,.sc (.int .i64))]),(2,[(9,.sc (.int .i64))])],dr:=[(4,([],[[(0,[]),(1,[]),(2,[]),(3,[]),(4,[]),(5,[]),(6,[]),(7,[]),(8,[]),(9,[]),(10,[]),(11,[]),(12,[]),(13,[]),(14,[]),(15,[]),(16,[])]])),(6,([],[[(0,[]),(1,[]),(2,[]),(3,[]),(4,[]),(5,[]),(6,[]),(7,[]),(8,[]),(9,[]),(10,[]),(11,[]),(12,[]),(13,[]),(14,[]),(15,[]),(16,[]),(17,[])]]))] } trivial rfl (by kernel_rfl) h
def Z12 (d0:Sl) (o1:Int) (p2:Int) (p3:Int):W (Unit) :=
 cond ((IntKind.wrap .i64 (p2 - o1)) == 1)
  (loopW (σ:=Int × Int) (fun K_1 s_2 =>
   cond (decide (s_2.1 < s_2.2))
    (drawW <|
   idxW d0.a d0.n 2 (IntKind.wrap .i64 (shR .u64 (IntKind.wrap .u64 (IntKind.wrap .i64 (s_2.1+s_2.2))) 1)) fun x_3 =>
   ld (.agg [.int .u32,.sl]) x_3 fun (x_4:(Int × Sl)) =>
   idxW d0.a d0.n 2 o1 fun x_5 =>
   ld (.agg [.int .u32,.sl]) x_5 fun (x_6:(Int × Sl)) =>
   callW Tryz.prog Z1n [.agg ⟨[.int .u32 x_4.1,.slice x_4.2.a x_4.2.n x_4.2.c]⟩,.agg ⟨[.int .u32 x_6.1,.slice x_6.2.a x_6.2.n x_6.2.c]⟩] [.sc (.int .i64)] fun (x_7:Int) =>
   joinW (σ:=Int × Int) (fun J_8 =>
    cond (decide (x_7 < 0))
     (J_8 (IntKind.wrap .i64 ((IntKind.wrap .i64 (shR .u64 (IntKind.wrap .u64 (IntKind.wrap .i64 (s_2.1+s_2.2))) 1))+1),s_2.2))
     (J_8 (s_2.1,IntKind.wrap .i64 (shR .u64 (IntKind.wrap .u64 (IntKind.wrap .i64 (s_2.1+s_2.2))) 1))))
   <| fun s_9 =>
   K_1 (s_9.1,s_9.2))
    (loopW (σ:=Int) (fun K_10 s_11 =>
   cond (decide (s_11 < (IntKind.wrap .i64 (s_2.1 - 1))))
    (drawW <|
   idxW d0.a d0.n 2 (IntKind.wrap .i64 (s_11+1)) fun x_12 =>
   ld (.agg [.int .u32,.sl]) x_12 fun (x_13:(Int × Sl)) =>
   idxW d0.a d0.n 2 s_11 fun x_14 =>
   ld (.agg [.int .u32,.sl]) x_14 fun (x_15:(Int × Sl)) =>
   idxW d0.a d0.n 2 s_11 fun x_16 =>
   stoL x_16 [.int .u32 x_13.1,.slice x_13.2.a x_13.2.n x_13.2.c] 0 <|
   idxW d0.a d0.n 2 (IntKind.wrap .i64 (s_11+1)) fun x_17 =>
   stoL x_17 [.int .u32 x_15.1,.slice x_15.2.a x_15.2.n x_15.2.c] 0 <|
   K_10 (IntKind.wrap .i64 (s_11+1)))
    (retW ()))
   o1))
   (p2,p3))
  (cond ((IntKind.wrap .i64 (p3 - p2)) == 1)
  (loopW (σ:=Int × Int) (fun K_18 s_19 =>
   cond (decide (s_19.1 < s_19.2))
    (drawW <|
   idxW d0.a d0.n 2 p2 fun x_20 =>
   ld (.agg [.int .u32,.sl]) x_20 fun (x_21:(Int × Sl)) =>
   idxW d0.a d0.n 2 (IntKind.wrap .i64 (shR .u64 (IntKind.wrap .u64 (IntKind.wrap .i64 (s_19.1+s_19.2))) 1)) fun x_22 =>
   ld (.agg [.int .u32,.sl]) x_22 fun (x_23:(Int × Sl)) =>
   callW Tryz.prog Z1n [.agg ⟨[.int .u32 x_21.1,.slice x_21.2.a x_21.2.n x_21.2.c]⟩,.agg ⟨[.int .u32 x_23.1,.slice x_23.2.a x_23.2.n x_23.2.c]⟩] [.sc (.int .i64)] fun (x_24:Int) =>
   joinW (σ:=Int × Int) (fun J_25 =>
    cond (!(decide (x_24 < 0)))
     (J_25 (IntKind.wrap .i64 ((IntKind.wrap .i64 (shR .u64 (IntKind.wrap .u64 (IntKind.wrap .i64 (s_19.1+s_19.2))) 1))+1),s_19.2))
     (J_25 (s_19.1,IntKind.wrap .i64 (shR .u64 (IntKind.wrap .u64 (IntKind.wrap .i64 (s_19.1+s_19.2))) 1))))
   <| fun s_26 =>
   K_18 (s_26.1,s_26.2))
    (loopW (σ:=Int) (fun K_27 s_28 =>
   cond (decide (s_28 > s_19.1))
    (drawW <|
   idxW d0.a d0.n 2 (IntKind.wrap .i64 (s_28 - 1)) fun x_29 =>
   ld (.agg [.int .u32,.sl]) x_29 fun (x_30:(Int × Sl)) =>
   idxW d0.a d0.n 2 s_28 fun x_31 =>
   ld (.agg [.int .u32,.sl]) x_31 fun (x_32:(Int × Sl)) =>
   idxW d0.a d0.n 2 s_28 fun x_33 =>
   stoL x_33 [.int .u32 x_30.1,.slice x_30.2.a x_30.2.n x_30.2.c] 0 <|
   idxW d0.a d0.n 2 (IntKind.wrap .i64 (s_28 - 1)) fun x_34 =>
   stoL x_34 [.int .u32 x_32.1,.slice x_32.2.a x_32.2.n x_32.2.c] 0 <|
   K_27 (IntKind.wrap .i64 (s_28 - 1)))
    (retW ()))
   p2))
   (o1,p2))
  (joinW (σ:=Int × Int) (fun J_35 =>
  cond (decide (p2 > (IntKind.wrap .i64 (shR .u64 (IntKind.wrap .u64 (IntKind.wrap .i64 (o1+p3))) 1))))
   (J_35 (IntKind.wrap .i64 ((IntKind.wrap .i64 ((IntKind.wrap .i64 (shR .u64 (IntKind.wrap .u64 (IntKind.wrap .i64 (o1+p3))) 1))+p2)) - p3),IntKind.wrap .i64 (shR .u64 (IntKind.wrap .u64 (IntKind.wrap .i64 (o1+p3))) 1)))
   (J_35 (o1,p2)))
 <| fun s_36 =>
 loopW (σ:=Int × Int) (fun K_37 s_38 =>
  cond (decide (s_38.1 < s_38.2))
   (drawW <|
  idxW d0.a d0.n 2 (IntKind.wrap .i64 ((IntKind.wrap .i64 ((IntKind.wrap .i64 ((IntKind.wrap .i64 (shR .u64 (IntKind.wrap .u64 (IntKind.wrap .i64 (o1+p3))) 1))+p2)) - 1)) - (IntKind.wrap .i64 (shR .u64 (IntKind.wrap .u64 (IntKind.wrap .i64 (s_38.1+s_38.2))) 1)))) fun x_39 =>
  ld (.agg [.int .u32,.sl]) x_39 fun (x_40:(Int × Sl)) =>
  idxW d0.a d0.n 2 (IntKind.wrap .i64 (shR .u64 (IntKind.wrap .u64 (IntKind.wrap .i64 (s_38.1+s_38.2))) 1)) fun x_41 =>
  ld (.agg [.int .u32,.sl]) x_41 fun (x_42:(Int × Sl)) =>
  callW Tryz.prog Z1n [.agg ⟨[.int .u32 x_40.1,.slice x_40.2.a x_40.2.n x_40.2.c]⟩,.agg ⟨[.int .u32 x_42.1,.slice x_42.2.a x_42.2.n x_42.2.c]⟩] [.sc (.int .i64)] fun (x_43:Int) =>
  joinW (σ:=Int × Int) (fun J_44 =>
   cond (!(decide (x_43 < 0)))
    (J_44 (IntKind.wrap .i64 ((IntKind.wrap .i64 (shR .u64 (IntKind.wrap .u64 (IntKind.wrap .i64 (s_38.1+s_38.2))) 1))+1),s_38.2))
    (J_44 (s_38.1,IntKind.wrap .i64 (shR .u64 (IntKind.wrap .u64 (IntKind.wrap .i64 (s_38.1+s_38.2))) 1))))
  <| fun s_45 =>
  K_37 (s_45.1,s_45.2))
   (joinW (σ:=Bool) (fun J_46 =>
  cond (decide (s_38.1 < p2))
   (J_46 (decide (p2 < (IntKind.wrap .i64 ((IntKind.wrap .i64 ((IntKind.wrap .i64 (shR .u64 (IntKind.wrap .u64 (IntKind.wrap .i64 (o1+p3))) 1))+p2)) - s_38.1)))))
   (J_46 false))
 <| fun s_47 =>
 joinW (σ:=Unit) (fun J_48 =>
  cond s_47
   (callW Tryz.prog Z28 [.slice d0.a d0.n d0.c,.int .i64 s_38.1,.int .i64 p2,.int .i64 (IntKind.wrap .i64 ((IntKind.wrap .i64 ((IntKind.wrap .i64 (shR .u64 (IntKind.wrap .u64 (IntKind.wrap .i64 (o1+p3))) 1))+p2)) - s_38.1)),.func (.func 121) #[] #[]] [] fun (x_49:Unit) =>
   J_48 ())
   (J_48 ()))
 <| fun s_50 =>
 joinW (σ:=Bool) (fun J_51 =>
  cond (decide (o1 < s_38.1))
   (J_51 (decide (s_38.1 < (IntKind.wrap .i64 (shR .u64 (IntKind.wrap .u64 (IntKind.wrap .i64 (o1+p3))) 1)))))
   (J_51 false))
 <| fun s_52 =>
 joinW (σ:=Unit) (fun J_53 =>
  cond s_52
   (callW Tryz.prog Za [.slice d0.a d0.n d0.c,.int .i64 o1,.int .i64 s_38.1,.int .i64 (IntKind.wrap .i64 (shR .u64 (IntKind.wrap .u64 (IntKind.wrap .i64 (o1+p3))) 1)),.func (.func 121) #[] #[]] [] fun (x_54:Unit) =>
   J_53 ())
   (J_53 ()))
 <| fun s_55 =>
 joinW (σ:=Bool) (fun J_56 =>
  cond (decide ((IntKind.wrap .i64 (shR .u64 (IntKind.wrap .u64 (IntKind.wrap .i64 (o1+p3))) 1)) < (IntKind.wrap .i64 ((IntKind.wrap .i64 ((IntKind.wrap .i64 (shR .u64 (IntKind.wrap .u64 (IntKind.wrap .i64 (o1+p3))) 1))+p2)) - s_38.1))))
   (J_56 (decide ((IntKind.wrap .i64 ((IntKind.wrap .i64 ((IntKind.wrap .i64 (shR .u64 (IntKind.wrap .u64 (IntKind.wrap .i64 (o1+p3))) 1))+p2)) - s_38.1)) < p3)))
   (J_56 false))
 <| fun s_57 =>
 joinW (σ:=Unit) (fun J_58 =>
  cond s_57
   (callW Tryz.prog Za [.slice d0.a d0.n d0.c,.int .i64 (IntKind.wrap .i64 (shR .u64 (IntKind.wrap .u64 (IntKind.wrap .i64 (o1+p3))) 1)),.int .i64 (IntKind.wrap .i64 ((IntKind.wrap .i64 ((IntKind.wrap .i64 (shR .u64 (IntKind.wrap .u64 (IntKind.wrap .i64 (o1+p3))) 1))+p2)) - s_38.1)),.int .i64 p3,.func (.func 121) #[] #[]] [] fun (x_59:Unit) =>
   J_58 ())
   (J_58 ()))
 <| fun s_60 =>
 retW ()))
  (s_36.1,s_36.2)))
set_option maxRecDepth 100000 in
theorem Z2w {R:Type} (d0:Sl) (o1:Int) (p2:Int) (p3:Int) (K:Res []→W R) (Q:R→World→Prop) (w:World) (h:Z12 d0 o1 p2 p3 (fun r w=>K r Q w) w):callW Tryz.prog Za [.slice d0.a d0.n d0.c,.int .i64 o1,.int .i64 p2,.int .i64 p3,.func (.func 121) #[] #[]] [] K Q w:=den_c (K:=K) mix Tryz.func180 { reg:=[(39,[(185,.sc .bool)]),(41,[(199,.sc .bool)]),(43,[(213,.sc .bool)])],con:=[(7050,[(10,.sc (.int .i64)),(11,.sc (.int .i64))]),(19103,[(14,.sc (.int .i64)),(15,.sc (.int .i64))]),(29140,[(20,.sc (.int .i64)),(21,.sc (.int .i64))]),(37171,[(20,.sc (.int .i64)),(21,.sc (.int .i64))]),(41185,[]),(43199,[]),(45213,[])],lop:=[(0,[(10,.sc (.int .i64)),(11,.sc (.int .i64))]),(2,[(13,.sc (.int .i64))]),(4,[(14,.sc (.int .i64)),(15,.sc (.int .i64))]),(6,[(17,.sc (.int .i64))]),(8,[(20,.sc (.int .i64)),(21,.sc (.int .i64))])],dr:=[(5,([],[[(0,[]),(1,[]),(2,[]),(3,[]),(4,[]),(5,[]),(6,[]),(7,[]),(8,[]),(9,[]),(10,[])]])),(11,([],[[(0,[]),(1,[]),(2,[]),(3,[]),(4,[]),(5,[]),(6,[]),(7,[]),(8,[]),(9,[]),(10,[]),(11,[]),(12,[]),(13,[]),(14,[]),(15,[]),(16,[]),(17,[])]])),(17,([],[[(0,[]),(1,[]),(2,[]),(3,[]),(4,[]),(5,[]),(6,[]),(7,[]),(8,[]),(9,[]),(10,[]),(11,[])]])),(23,([],[[(0,[]),(1,[]),(2,[]),(3,[]),(4,[]),(5,[]),(6,[]),(7,[]),(8,[]),(9,[]),(10,[]),(11,[]),(12,[]),(13,[]),(14,[]),(15,[]),(16,[]),(17,[])]])),(35,([],[[(0,[]),(1,[]),(2,[]),(3,[]),(4,[]),(5,[]),(6,[]),(7,[]),(8,[]),(9,[]),(10,[]),(11,[]),(12,[]),(13,[])]]))] } trivial rfl (by kernel_rfl) h
def Z1x (s10:Sl) (s21:Sl):W (Bool) :=
 cond ((s10.n:Int) != (s21.n:Int))
  (retW false)
  (loopW (σ:=Int) (fun K_1 s_2 =>
  cond (decide (s_2 < (s10.n:Int)))
   (idxW s10.a s10.n 2 s_2 fun x_3 =>
  ld (.agg [.int .u32,.sl]) x_3 fun (x_4:(Int × Sl)) =>
  newW 57 [.int .u32 0,.slice none 0 0] fun v1_5 =>
  stoL v1_5 [.int .u32 x_4.1,.slice x_4.2.a x_4.2.n x_4.2.c] 0 <|
  idxW s21.a s21.n 2 s_2 fun x_6 =>
  ld (.agg [.int .u32,.sl]) x_6 fun (x_7:(Int × Sl)) =>
  newW 57 [.int .u32 0,.slice none 0 0] fun v2_8 =>
  stoL v2_8 [.int .u32 x_7.1,.slice x_7.2.a x_7.2.n x_7.2.c] 0 <|
  ld (.agg [.int .u32,.sl]) v1_5 fun (x_9:(Int × Sl)) =>
  ld (.agg [.int .u32,.sl]) v2_8 fun (x_10:(Int × Sl)) =>
  callW Tryz.prog Zab [.agg ⟨[.int .u32 x_9.1,.slice x_9.2.a x_9.2.n x_9.2.c]⟩,.agg ⟨[.int .u32 x_10.1,.slice x_10.2.a x_10.2.n x_10.2.c]⟩] [.sc .bool] fun (x_11:Bool) =>
  cond (!x_11)
   (retW false)
   (K_1 (IntKind.wrap .i64 (s_2+1))))
   (retW true))
  0)
theorem Z4t {R:Type} (s10:Sl) (s21:Sl) (K:Res [.sc .bool]→W R) (Q:R→World→Prop) (w:World) (h:Z1x s10 s21 (fun r w=>K r Q w) w):callW Tryz.prog Z65 [.slice s10.a s10.n s10.c,.slice s21.a s21.n s21.c,.func (.func 182) #[] #[]] [.sc .bool] K Q w:=den_c (K:=K) mix Tryz.func181 { lop:=[(0,[(17,.sc (.int .i64))])] } trivial rfl (by kernel_rfl) h
def Zek (x0:(Int × Sl)) (y1:(Int × Sl)):W (Bool) :=
 newW 57 [.int .u32 x0.1,.slice x0.2.a x0.2.n x0.2.c] fun x_1 =>
 newW 57 [.int .u32 y1.1,.slice y1.2.a y1.2.n y1.2.c] fun y_2 =>
 joinW (σ:=Bool) (fun J_3 =>
  ld (.sc (.int .u32)) (Addr.add x_1 0) fun (x_4:Int) =>
  ld (.sc (.int .u32)) (Addr.add y_2 0) fun (x_5:Int) =>
  cond (x_4 == x_5)
   (ld (.sc .sl) (Addr.add x_1 1) fun (x_6:Sl) =>
    ld (.sc .sl) (Addr.add y_2 1) fun (x_7:Sl) =>
      callW Tryz.prog Z24 [.slice x_6.a x_6.n x_6.c,.slice x_7.a x_7.n x_7.c] [.sc .bool] fun (x_8:Bool) =>
       J_3 x_8)
   (J_3 false))
 <| fun s_9 =>
 retW s_9
theorem Zmk {R:Type} (x0:(Int × Sl)) (y1:(Int × Sl)) (K:Res [.sc .bool]→W R) (Q:R→World→Prop) (w:World) (h:Zek x0 y1 (fun r w=>K r Q w) w):callW Tryz.prog Zab [.agg ⟨[.int .u32 x0.1,.slice x0.2.a x0.2.n x0.2.c]⟩,.agg ⟨[.int .u32 y1.1,.slice y1.2.a y1.2.n y1.2.c]⟩] [.sc .bool] K Q w:=den_c (K:=K) mix Tryz.func182 { reg:=[(1,[(4,.sc .bool)])] } trivial rfl (by kernel_rfl) h
def Zn9 (n0:Int):W (Int) :=
 retW (bXor .u64 (IntKind.wrap .u64 (shL .i64 n0 1)) (IntKind.wrap .u64 (shR .i64 n0 63)))
theorem Ztr {R:Type} (n0:Int) (K:Res [.sc (.int .u64)]→W R) (Q:R→World→Prop) (w:World) (h:Zn9 n0 (fun r w=>K r Q w) w):callW Tryz.prog Zdg [.int .i64 n0] [.sc (.int .u64)] K Q w:=den_c (K:=K) mix Tryz.func183 {} trivial rfl (by kernel_rfl) h
def Zn8 (v0:Int):W (Int) :=
 retW (bXor .i64 (IntKind.wrap .i64 (shR .u64 v0 1)) (IntKind.wrap .i64 (0 - (IntKind.wrap .i64 (bAnd .u64 v0 1)))))
theorem Ztq {R:Type} (v0:Int) (K:Res [.sc (.int .i64)]→W R) (Q:R→World→Prop) (w:World) (h:Zn8 v0 (fun r w=>K r Q w) w):callW Tryz.prog Zij [.int .u64 v0] [.sc (.int .i64)] K Q w:=den_c (K:=K) mix Tryz.func184 {} trivial rfl (by kernel_rfl) h
def Zq (data0:Sl) (a1:Int) (b2:Int):W (Unit) :=
 loopW (σ:=Int) (fun K_1 s_2 =>
  cond (decide (s_2 < b2))
   (loopW (σ:=Int) (fun K_3 s_4 =>
   joinW (σ:=Bool) (fun J_5 =>
    drawW <|
    cond (decide (s_4 > a1))
     (idxW data0.a data0.n 4 s_4 fun x_6 =>
        ld (.agg [.int .u8,.int .i32,.int .i32,.int .i32]) x_6 fun (x_7:(Int × Int × Int × Int)) =>
         idxW data0.a data0.n 4 (IntKind.wrap .i64 (s_4 - 1)) fun x_8 =>
             ld (.agg [.int .u8,.int .i32,.int .i32,.int .i32]) x_8 fun (x_9:(Int × Int × Int × Int)) =>
              callW Tryz.prog Z6h [.agg ⟨[.int .u8 x_7.1,.int .i32 x_7.2.1,.int .i32 x_7.2.2.1,.int .i32 x_7.2.2.2]⟩,.agg ⟨[.int .u8 x_9.1,.int .i32 x_9.2.1,.int .i32 x_9.2.2.1,.int .i32 x_9.2.2.2]⟩] [.sc (.int .i64)] fun (x_10:Int) =>
               J_5 (decide (x_10 < 0)))
     (J_5 false))
   <| fun s_11 =>
   cond s_11
    (drawW <|
   idxW data0.a data0.n 4 (IntKind.wrap .i64 (s_4 - 1)) fun x_12 =>
   ld (.agg [.int .u8,.int .i32,.int .i32,.int .i32]) x_12 fun (x_13:(Int × Int × Int × Int)) =>
   idxW data0.a data0.n 4 s_4 fun x_14 =>
   ld (.agg [.int .u8,.int .i32,.int .i32,.int .i32]) x_14 fun (x_15:(Int × Int × Int × Int)) =>
   idxW data0.a data0.n 4 s_4 fun x_16 =>
   stoL x_16 [.int .u8 x_13.1,.int .i32 x_13.2.1,.int .i32 x_13.2.2.1,.int .i32 x_13.2.2.2] 0 <|
   idxW data0.a data0.n 4 (IntKind.wrap .i64 (s_4 - 1)) fun x_17 =>
   stoL x_17 [.int .u8 x_15.1,.int .i32 x_15.2.1,.int .i32 x_15.2.2.1,.int .i32 x_15.2.2.2] 0 <|
   K_3 (IntKind.wrap .i64 (s_4 - 1)))
    (K_1 (IntKind.wrap .i64 (s_2+1))))
   s_2)
   (retW ()))
  (IntKind.wrap .i64 (a1+1))
theorem Z2a {R:Type} (data0:Sl) (a1:Int) (b2:Int) (K:Res []→W R) (Q:R→World→Prop) (w:World) (h:Zq data0 a1 b2 (fun r w=>K r Q w) w):callW Tryz.prog Zz [.slice data0.a data0.n data0.c,.int .i64 a1,.int .i64 b2,.func (.func 150) #[] #[]] [] K Q w:=den_c (K:=K) mix Tryz.func186 { reg:=[(4,[(34,.sc .bool)])],lop:=[(0,[(8,.sc (.int .i64))]),(2,[(9,.sc (.int .i64))])],dr:=[(4,([],[[(0,[]),(1,[]),(2,[]),(3,[]),(4,[]),(5,[]),(6,[]),(7,[]),(8,[]),(9,[]),(10,[]),(11,[]),(12,[]),(13,[]),(14,[]),(15,[]),(16,[])]])),(6,([],[[(0,[]),(1,[]),(2,[]),(3,[]),(4,[]),(5,[]),(6,[]),(7,[]),(8,[]),(9,[]),(10,[]),(11,[]),(12,[]),(13,[]),(14,[]),(15,[]),(16,[]),(17,[])]]))] } trivial rfl (by kernel_rfl) h
def Z1e (data0:Sl) (a1:Int) (m2:Int) (b3:Int):W (Unit) :=
 loopW (σ:=Int × Int) (fun K_1 s_2 =>
  cond (s_2.1 != s_2.2)
   (joinW (σ:=Int × Int) (fun J_3 =>
   cond (decide (s_2.1 > s_2.2))
    (callW Tryz.prog Zg [.slice data0.a data0.n data0.c,.int .i64 (IntKind.wrap .i64 (m2 - s_2.1)),.int .i64 m2,.int .i64 s_2.2,.func (.func 121) #[] #[]] [] fun (x_4:Unit) =>
    J_3 (IntKind.wrap .i64 (s_2.1 - s_2.2),s_2.2))
    (callW Tryz.prog Zg [.slice data0.a data0.n data0.c,.int .i64 (IntKind.wrap .i64 (m2 - s_2.1)),.int .i64 (IntKind.wrap .i64 ((IntKind.wrap .i64 (m2+s_2.2)) - s_2.1)),.int .i64 s_2.1,.func (.func 121) #[] #[]] [] fun (x_5:Unit) =>
    J_3 (s_2.1,IntKind.wrap .i64 (s_2.2 - s_2.1))))
  <| fun s_6 =>
  K_1 (s_6.1,s_6.2))
   (callW Tryz.prog Zg [.slice data0.a data0.n data0.c,.int .i64 (IntKind.wrap .i64 (m2 - s_2.1)),.int .i64 m2,.int .i64 s_2.1,.func (.func 121) #[] #[]] [] fun (x_7:Unit) =>
 retW ()))
  (IntKind.wrap .i64 (m2 - a1),IntKind.wrap .i64 (b3 - m2))
theorem Z3k {R:Type} (data0:Sl) (a1:Int) (m2:Int) (b3:Int) (K:Res []→W R) (Q:R→World→Prop) (w:World) (h:Z1e data0 a1 m2 b3 (fun r w=>K r Q w) w):callW Tryz.prog Z28 [.slice data0.a data0.n data0.c,.int .i64 a1,.int .i64 m2,.int .i64 b3,.func (.func 121) #[] #[]] [] K Q w:=den_c (K:=K) mix Tryz.func188 { con:=[(5023,[(10,.sc (.int .i64)),(11,.sc (.int .i64))])],lop:=[(0,[(10,.sc (.int .i64)),(11,.sc (.int .i64))])] } trivial rfl (by kernel_rfl) h
def Z10 (data0:Sl) (a1:Int) (b2:Int) (n3:Int):W (Unit) :=
 loopW (σ:=Int) (fun K_1 s_2 =>
  cond (decide (s_2 < n3))
   (drawW <|
  idxW data0.a data0.n 2 (IntKind.wrap .i64 (b2+s_2)) fun x_3 =>
  ld (.agg [.int .u32,.sl]) x_3 fun (x_4:(Int × Sl)) =>
  idxW data0.a data0.n 2 (IntKind.wrap .i64 (a1+s_2)) fun x_5 =>
  ld (.agg [.int .u32,.sl]) x_5 fun (x_6:(Int × Sl)) =>
  idxW data0.a data0.n 2 (IntKind.wrap .i64 (a1+s_2)) fun x_7 =>
  stoL x_7 [.int .u32 x_4.1,.slice x_4.2.a x_4.2.n x_4.2.c] 0 <|
  idxW data0.a data0.n 2 (IntKind.wrap .i64 (b2+s_2)) fun x_8 =>
  stoL x_8 [.int .u32 x_6.1,.slice x_6.2.a x_6.2.n x_6.2.c] 0 <|
  K_1 (IntKind.wrap .i64 (s_2+1)))
   (retW ()))
  0
theorem Z2t {R:Type} (data0:Sl) (a1:Int) (b2:Int) (n3:Int) (K:Res []→W R) (Q:R→World→Prop) (w:World) (h:Z10 data0 a1 b2 n3 (fun r w=>K r Q w) w):callW Tryz.prog Zg [.slice data0.a data0.n data0.c,.int .i64 a1,.int .i64 b2,.int .i64 n3,.func (.func 121) #[] #[]] [] K Q w:=den_c (K:=K) mix Tryz.func191 { lop:=[(0,[(10,.sc (.int .i64))])],dr:=[(3,([],[[(0,[]),(1,[]),(2,[]),(3,[]),(4,[]),(5,[]),(6,[]),(7,[]),(8,[]),(9,[]),(10,[]),(11,[]),(12,[]),(13,[]),(14,[]),(15,[]),(16,[]),(17,[]),(18,[]),(19,[]),(20,[]),(21,[]),(22,[]),(23,[])]]))] } trivial rfl (by kernel_rfl) h
end Go.Proofs.YtchhhjlpnecjkaaGreat
namespace Go.Proofs.YtchhhjlpnecjkaaGreat.Den
open Go Go.RowKit
variable {R:Type} {Q:R→World→Prop} {w:World} {P:Program} {T E ty:TypeId} {t:Ty} {bytes:Nat} {ok S:Nat→Prop} {s:Sl} {l:List t.T}
theorem SlT.from (h:SlT ok w t s l) {sz:Nat} (hsz:sz=t.size) {i:Int} {n:Nat} (hi:i=(n:Int)) (hl:n≤l.length) {K:Sl→W R} (hk:∀ r,SlT ok w t r (l.drop n)→r.c=s.c - n→K r Q w):slcW s.a s.n s.c sz (some i) none K Q w:=by
 subst hi; subst hsz
 have hlen:=h.len
 have hcap:=h.cap
 refine chkI (by simp only [Option.getD_some,Option.getD_none]; omega) ?_
 simp only [Option.getD_some,Option.getD_none,Int.toNat_natCast]
 refine hk _ ⟨by simp; omega,by simp; omega,?_⟩ rfl
 rcases h.at_ with rfl | ⟨b,o,ha,h1,h2,h3⟩
 ·left; simp
 ·by_cases hc:s.c=n
  ·left
   exact List.drop_eq_nil_of_le (by omega)
  ·right
   refine ⟨b,o+n * t.size,by simp only [if_neg hc,ha,Option.map_some,add_lit],h1,h2,fun i x hx=>?_⟩
   rw [List.getElem?_drop] at hx
   have:=h3 (n+i) x hx
   rwa [Nat.add_mul,← Nat.add_assoc] at this
theorem SlT.cutI (h:SlT ok w t s l) {sz:Nat} {hi:Int} {n:Nat} (hn:hi=(n:Int)) (hl:n≤l.length) {K:Sl→W R} (hk:∀ s',s'.c=s.c→(∀ ok' w',SlT ok' w' t s l→SlT ok' w' t s' (l.take n))→K s' Q w):slcW s.a s.n s.c sz none (some hi) K Q w:=by
 subst hn
 have hlen:=h.len
 have hcap:=h.cap
 refine chkI (by simp only [Option.getD_some,Option.getD_none]; omega) ?_
 simp only [Option.getD_some,Option.getD_none]
 refine hk _ (by simp) fun ok' w' h'=>⟨by simp; omega,by simp; omega,?_⟩
 rcases h'.at_ with rfl | ⟨b,o,ha,h1,h2,h3⟩
 ·left; simp
 ·right
  refine ⟨b,o,?_,h1,h2,fun i x hx=>?_⟩
  ·rw [ha]
   split
   ·rfl
   ·simp [Addr.add]
  ·rw [List.getElem?_take] at hx
   split at hx
   ·exact h3 i x hx
   ·cases hx
theorem cloneI (H:SlTy P T E t bytes) (h:SlT ok w t s l) (hb:l.length * bytes≤140737488355328) (hm:l.length≤9223372036854775807) {K:Sl→W R} (hk:∀ r w',Own (Up w.heap.size) w' E t r l→Fr None w w'→K r Q w') :
  newW E [] (fun a=>rawW P (Builtin.append_ #[T,T] ty #[.slice (some a) 0 0,.slice s.a s.n s.c]) [.sc .sl] K) Q w:=by
 refine newI fun w1 B1 f1 s1=>?_
 have own:=Own.mk' (S:=Up w.heap.size) (w:=w1) (E:=E) (t:=t) (l:=[]) (g:=w.heap.size) (c:=0) (cur:=⟨[]⟩) (Nat.le_refl _) B1 (Nat.le_refl _) (Nat.zero_le _) (by simp) (by simp)
 refine appI (s:=⟨some ⟨w.heap.size,0,none⟩,0,0⟩) (s2:=s) (S':=Up w.heap.size) H own (h.fr0 f1) (by simpa using hb) (by rw [Zm]; simpa using hm) (fun _ h=>h) (by show _≤_; omega) fun r w2 o2 f2 s2=>?_
 rw [List.nil_append] at o2
 exact hk r w2 o2 (f1.newer f2 (fun x e=>own.own x e))
def idxF {α:Type} (p:α→Bool) (l:List α):Int:=match l.findIdx? p with
 | some i=>(i:Int)
 | none=>-1
theorem Zcu (w:World) (tn:TypeId) (i:TypeInfo) (z:Value) (k kn:IntKind) (ht:P.underlying T=some (.slice E)) (htn:P.underlying tn=some (.int kn)) (hi:P.info? E=some i) (hz:i.zero=some z)
  (b:Addr) (sLen sCap:Nat) (olds:List Value) (hlo:olds.length=sLen * i.size) (holds:∀ j v,olds[j]?=some v→w.cell? (b.add j)=some v) (n:Nat) (h0:0 < n * i.size)
  (hg:sCap < sLen+n) (h63:((sLen+n:Nat):Int)≤9223372036854775807) (hfit:Builtin.nextslicecap (sLen+n) sCap * i.bytes≤281474976710656) (h48:n * i.bytes≤281474976710656) :
  (Builtin.append_ #[T,tn] ty #[.slice (some b) sLen sCap,.int k n]).run P w =
   .ok (.slice (some ⟨w.heap.size,0,none⟩) (sLen+n) (grownCap w (sLen+n) sCap E))
    (w.drew.alloc (.cells (olds.toArray ++ Builtin.zeroCells z.cells n ++ Builtin.zeroCells z.cells (grownCap w (sLen+n) sCap E - (sLen+n))) E)):=by
 have hn:¬ (sLen+n≤sCap):=by omega
 have hw:IntKind.i64.wrap (n:Int)=n:=by rw [IntKind.wrap_i64]; omega
 have h63':¬ (9223372036854775807 < ((sLen:Int)+(n:Int))):=by omega
 have h48':¬ (281474976710656 < Builtin.nextslicecap (sLen+n) sCap * i.bytes):=by omega
 have h48i:¬ (281474976710656 < (n:Int) * (i.bytes:Int)):=by rw [← Int.natCast_mul]; omega
 have hns:¬ (n * i.size=0):=by omega
 have hns':¬ (n=0∨i.size=0):=by
  rintro (h | h)
  ·rw [h] at h0; simp at h0
  ·rw [h] at h0; simp at h0
 have hfo:=run_firstCells_some (P:=P) w.drew i.size sLen b sLen sCap olds hlo (by simpa using holds)
 simp [Builtin.append_,run_underlying ht,run_underlying htn,sizeOf,typeInfo,zeroValue,hi,hz,asInt,asIntOf,hw,hn,h63',h48',h48i,hns,show ¬ ((n:Int) < 0) by omega,Question.forced,hfo,newRow,grownCap]
end Go.Proofs.YtchhhjlpnecjkaaGreat.Den
namespace Go.Proofs.YtchhhjlpnecjkaaGreat
open Go Go.RowKit Go.Proofs.YtchhhjlpnecjkaaGreat.Den
variable {R:Type} {Q:R→World→Prop} {w:World}
structure SM where
 first:Int
 gen:List Int
 used:List Bool
 free:List Int
 fresh:Nat
def idOf (slot gen:Int):Int:=gen * 1024+slot
def genOf (id:Int):Int:=id / 1024
def SM.n (s:SM):Nat:=s.gen.length
def SM.count (s:SM):Nat:=s.used.countP (fun b=>b)
def SM.new (n:Nat) (first:Int):SM:=⟨first,List.replicate n 0,List.replicate n false,[],0⟩
def SM.use (s:SM) (i:Nat) (g:Int):SM:={ s with gen:=s.gen.set i g,used:=s.used.set i true }
def SM.take (s:SM):Option (Int × SM):=match s.free.getLast? with
 | some x=>match s.gen[x.toNat]? with
  | some g=>some (idOf x (g+1),{ s.use x.toNat (g+1) with free:=s.free.dropLast })
  | none=>none
 | none=>if s.fresh < s.n then some (idOf s.fresh s.first,{ s.use s.fresh s.first with fresh:=s.fresh+1 }) else none
def SM.ids (s:SM):Nat→List Int
 | 0=>[]
 | j+1=>s.ids j ++ (match s.used[j]?,s.gen[j]? with
  | some true,some g=>[idOf j g]
  | _,_=>[])
def SM.list (s:SM):List Int:=s.ids s.n
structure SMOk (s:SM):Prop where
 pos:1≤s.n
 le:s.n≤1024
 len:s.used.length=s.n
 first:1≤s.first∧s.first≤4194303
 fresh:s.fresh≤s.n
 old:∀ i g,s.gen[i]?=some g→i < s.fresh→1≤g∧g≤4194303
 new:∀ i g,s.gen[i]?=some g→s.fresh≤i→g=0
 unused:∀ i,s.used[i]?=some true→i < s.fresh
 free:∀ x,x∈s.free↔∃ i:Nat,x=(i:Int)∧i < s.fresh∧s.used[i]?=some false∧∃ g,s.gen[i]?=some g∧g < 4194303
 nodup:s.free.Nodup
theorem SMOk.use {s:SM} (h:SMOk s) {i:Nat} {g:Int} (hi:i < s.n) (hg:1≤g∧g≤4194303) {fr:Nat} (hfr:fr≤s.n) (hge:s.fresh≤fr) (hif:i < fr) (hle:∀ j,s.fresh≤j→j < fr→j=i) {free:List Int} (hfree:∀ x,x∈free↔x∈s.free∧x≠(i:Int)) (hnd:free.Nodup) :
  SMOk { s.use i g with fresh:=fr,free:=free }:=by
 refine ⟨?_,?_,?_,h.first,?_,fun j g' h1 h2=>?_,fun j g' h1 h2=>?_,fun j h1=>?_,fun x=>?_,hnd⟩
 ·simpa [SM.n,SM.use] using h.pos
 ·simpa [SM.n,SM.use] using h.le
 ·simpa [SM.n,SM.use] using h.len
 ·simpa [SM.n,SM.use] using hfr
 ·simp only [SM.use,List.getElem?_set] at h1
  split at h1
  ·split at h1
   ·cases h1; exact hg
   ·cases h1
  ·rename_i hne
   rcases Nat.lt_or_ge j s.fresh with hj | hj
   ·exact h.old j g' h1 hj
   ·exact absurd (hle j hj h2).symm hne
 ·simp only [SM.use,List.getElem?_set] at h1
  split at h1
  ·rename_i e; subst e; simp only at h2; omega
  ·exact h.new j g' h1 (Nat.le_trans hge h2)
 ·simp only [SM.use,List.getElem?_set] at h1
  split at h1
  ·rename_i e; subst e; exact hif
  ·exact Nat.lt_of_lt_of_le (h.unused j h1) hge
 ·rw [hfree,h.free]
  simp only [SM.use]
  constructor
  ·rintro ⟨⟨j,rfl,h1,h2,h3⟩,hne⟩
   have hji:¬ i=j:=fun e=>hne (by rw [e])
   exact ⟨j,rfl,Nat.lt_of_lt_of_le h1 hge,by rw [List.getElem?_set_ne hji]; exact h2,by rw [List.getElem?_set_ne hji]; exact h3⟩
  ·rintro ⟨j,rfl,h1,h2,h3⟩
   have hji:¬ i=j:=fun e=>by
    subst e
    rw [List.getElem?_set_self (by rw [h.len]; exact hi)] at h2
    cases h2
   rw [List.getElem?_set_ne hji] at h2 h3
   refine ⟨⟨j,rfl,?_,h2,h3⟩,fun e=>hji (by omega)⟩
   rcases Nat.lt_or_ge j s.fresh with hj | hj
   ·exact hj
   ·exact absurd (hle j hj h1).symm hji
theorem Zoj {α:Type} {l:List α} {x:α} (h:l.getLast?=some x):l=l.dropLast ++ [x]:=by
 obtain ⟨ys,rfl⟩:=List.getLast?_eq_some_iff.1 h
 simp
theorem SMOk.freeGet {s:SM} (h:SMOk s) {x:Int} (hx:x∈s.free):∃ i:Nat,x=(i:Int)∧i < s.n∧s.used[i]?=some false∧∃ g,s.gen[i]?=some g∧1≤g∧g < 4194303:=by
 obtain ⟨i,rfl,h1,h2,g,h3,h4⟩:=(h.free x).1 hx
 exact ⟨i,rfl,Nat.lt_of_lt_of_le h1 h.fresh,h2,g,h3,(h.old i g h3 h1).1,h4⟩
theorem SMOk.take {s s':SM} {id:Int} (h:SMOk s) (ht:s.take=some (id,s')):SMOk s':=by
 unfold SM.take at ht
 split at ht
 ·rename_i x hx
  have hmem:x∈s.free:=List.mem_of_getLast? hx
  obtain ⟨i,rfl,hi,hu,g,hg,h1,h2⟩:=h.freeGet hmem
  rw [Int.toNat_natCast,hg] at ht
  simp only [Option.some.injEq,Prod.mk.injEq] at ht
  obtain ⟨_,rfl⟩:=ht
  have hsp:=Zoj hx
  have hnd:=h.nodup
  rw [hsp] at hnd
  have hif:=(h.free _).1 hmem
  obtain ⟨i',e,hif,_⟩:=hif
  have:i'=i:=by omega
  subst this
  refine h.use (fr:=s.fresh) hi ⟨by omega,by omega⟩ h.fresh (Nat.le_refl _) hif (fun j h1 h2=>by omega) (fun y=>?_) (List.nodup_append.1 hnd).1
  conv=>rhs; rw [hsp]
  rw [List.mem_append,List.mem_singleton]
  constructor
  ·intro hy
   exact ⟨.inl hy,fun e=>(List.nodup_append.1 hnd).2.2 y hy _ (by simp) e⟩
  ·rintro ⟨hy | hy,hne⟩
   ·exact hy
   ·exact absurd hy hne
 ·rename_i hn
  have hfe:s.free=[]:=by simpa using hn
  split at ht
  ·rename_i hlt
   simp only [Option.some.injEq,Prod.mk.injEq] at ht
   obtain ⟨_,rfl⟩:=ht
   refine h.use (fr:=s.fresh+1) (free:=s.free) hlt h.first hlt (by omega) (by omega) (fun j h1 h2=>by omega) (fun y=>?_) h.nodup
   rw [hfe]; simp
  ·cases ht
abbrev boolT:Ty:=.sc .bool
theorem Z6g:SlTy Tryz.prog 70 4 boolT 1:=slTy (by kernel_rfl)
theorem Zmz {id:Int} (h:0≤id∧id≤4294967295) {K:Res [.sc (.int .i64)]→W R} (hk:K (genOf id) Q w):callW Tryz.prog Zfx [.int .u32 id] [.sc (.int .i64)] K Q w:=by
 refine Zrg id K Q w ?_
 unfold Zl0
 have:IntKind.wrap .i64 (IntKind.wrap .u32 (Int.tdiv id 1024))=genOf id:=by rw [Int.tdiv_eq_ediv_of_nonneg h.1,wu32 (by omega),w64 (by omega)]; rfl
 rw [this]
 exact hk
end Go.Proofs.YtchhhjlpnecjkaaGreat
namespace Go.Proofs.YtchhhjlpnecjkaaGreat
open Go Go.RowKit Go.Proofs.YtchhhjlpnecjkaaGreat.Den
def bitN (b:Bool):Nat:=if b=true then 1 else 0
theorem Z3n (b:Bool):bitN b≤1:=by cases b <;> decide
def bitsOf (v:Nat):Nat→List Bool
 | 0=>[]
 | n+1=>bitsOf v n ++ [v.testBit n]
theorem Z4 (v:Nat):∀ n,(bitsOf v n).length=n
 | 0=>rfl
 | n+1=>by simp [bitsOf,Z4 v n]
def bitAt (L:List Bool) (k:Nat):Bool:=(L[k]?).getD false
def byteAt (L:List Bool) (j:Nat):Nat :=
 bitN (bitAt L (8 * j))+2 * bitN (bitAt L (8 * j+1))+4 * bitN (bitAt L (8 * j+2))+8 * bitN (bitAt L (8 * j+3))+16 * bitN (bitAt L (8 * j+4))+32 * bitN (bitAt L (8 * j+5))+64 * bitN (bitAt L (8 * j+6))+128 * bitN (bitAt L (8 * j+7))
def packM (L:List Bool):List Int:=(List.range ((L.length+7) / 8)).map fun j=>(byteAt L j:Int)
def packP (L:List Bool):List Int:=(List.range (L.length / 8+1)).map fun j=>(byteAt L j:Int)
theorem Zo9 {L:List Bool} {k:Nat} (h:L.length≤k):bitAt L k=false:=by
 unfold bitAt
 rw [List.getElem?_eq_none h]
 rfl
theorem Zi7 (L:List Bool) (b:Bool) (k:Nat):bitAt (L ++ [b]) k=if k=L.length then b else bitAt L k:=by
 unfold bitAt
 rcases Nat.lt_trichotomy k L.length with h | h | h
 ·rw [List.getElem?_append_left h,if_neg (by omega)]
 ·subst h
  rw [List.getElem?_append_right (Nat.le_refl _),if_pos rfl,Nat.sub_self]
  rfl
 ·rw [if_neg (by omega),List.getElem?_eq_none (by simp; omega),List.getElem?_eq_none (by omega)]
theorem Zjf {L:List Bool} {b:Bool} {j:Nat} (h:j≠L.length / 8):byteAt (L ++ [b]) j=byteAt L j:=by
 unfold byteAt
 simp only [Zi7]
 rw [if_neg (by omega),if_neg (by omega),if_neg (by omega),if_neg (by omega),if_neg (by omega),if_neg (by omega),if_neg (by omega),if_neg (by omega)]
theorem Z90 {L:List Bool} {b:Bool}:byteAt (L ++ [b]) (L.length / 8)=byteAt L (L.length / 8)+bitN b * 2 ^ (L.length % 8)∧byteAt L (L.length / 8) < 2 ^ (L.length % 8):=by
 obtain ⟨j,r,hr,hL,h1,h2⟩:∃ j r,r < 8∧L.length=8 * j+r∧L.length / 8=j∧L.length % 8=r:=⟨L.length / 8,L.length % 8,Nat.mod_lt _ (by decide),by omega,rfl,rfl⟩
 rw [h1,h2]
 have ge:∀ k,8 * j+r≤k→bitAt L k=false:=fun k hk=>Zo9 (by omega)
 have l0:=Z3n (bitAt L (8 * j))
 have l1:=Z3n (bitAt L (8 * j+1))
 have l2:=Z3n (bitAt L (8 * j+2))
 have l3:=Z3n (bitAt L (8 * j+3))
 have l4:=Z3n (bitAt L (8 * j+4))
 have l5:=Z3n (bitAt L (8 * j+5))
 have l6:=Z3n (bitAt L (8 * j+6))
 have z:bitN false=0:=rfl
 unfold byteAt
 simp only [Zi7,hL]
 have:r=0∨r=1∨r=2∨r=3∨r=4∨r=5∨r=6∨r=7:=by omega
 rcases this with rfl | rfl | rfl | rfl | rfl | rfl | rfl | rfl
 ·rw [ge (8 * j) (by omega),ge (8 * j+1) (by omega),ge (8 * j+2) (by omega),ge (8 * j+3) (by omega),ge (8 * j+4) (by omega),ge (8 * j+5) (by omega),ge (8 * j+6) (by omega),ge (8 * j+7) (by omega),z]
  simp [z]
 ·rw [ge (8 * j+1) (by omega),ge (8 * j+2) (by omega),ge (8 * j+3) (by omega),ge (8 * j+4) (by omega),ge (8 * j+5) (by omega),ge (8 * j+6) (by omega),ge (8 * j+7) (by omega),z]
  simp [z]; omega
 ·rw [ge (8 * j+2) (by omega),ge (8 * j+3) (by omega),ge (8 * j+4) (by omega),ge (8 * j+5) (by omega),ge (8 * j+6) (by omega),ge (8 * j+7) (by omega),z]
  simp [z]; omega
 ·rw [ge (8 * j+3) (by omega),ge (8 * j+4) (by omega),ge (8 * j+5) (by omega),ge (8 * j+6) (by omega),ge (8 * j+7) (by omega),z]
  simp [z]; omega
 ·rw [ge (8 * j+4) (by omega),ge (8 * j+5) (by omega),ge (8 * j+6) (by omega),ge (8 * j+7) (by omega),z]
  simp [z]; omega
 ·rw [ge (8 * j+5) (by omega),ge (8 * j+6) (by omega),ge (8 * j+7) (by omega),z]
  simp [z]; omega
 ·rw [ge (8 * j+6) (by omega),ge (8 * j+7) (by omega),z]
  simp [z]; omega
 ·rw [ge (8 * j+7) (by omega),z]
  simp [z]; omega
theorem Zhh (L:List Bool):(packM L).length=(L.length+7) / 8:=by simp [packM]
theorem Zvw (L:List Bool):(packP L).length=L.length / 8+1:=by simp [packP]
theorem Zxx (L:List Bool):(packP L)[L.length / 8]?=some (byteAt L (L.length / 8):Int):=by
 simp [packP]
theorem Zu5 (L:List Bool) (b:Bool):packM (L ++ [b])=(packP L).set (L.length / 8) ((byteAt L (L.length / 8)+bitN b * 2 ^ (L.length % 8):Nat):Int):=by
 refine List.ext_getElem? fun i=>?_
 rw [List.getElem?_set]
 unfold packM packP
 simp only [List.length_append,List.length_cons,List.length_nil,List.length_map,List.length_range,List.getElem?_map]
 have e:(L.length+(0+1)+7) / 8=L.length / 8+1:=by omega
 rw [e]
 split
 ·rename_i h
  subst h
  rw [if_pos (by omega),List.getElem?_range (by omega)]
  simp only [Option.map_some]
  rw [Z90.1]
 ·rename_i h
  rcases Nat.lt_or_ge i (L.length / 8+1) with hi | hi
  ·rw [List.getElem?_range hi]
   simp only [Option.map_some]
   rw [Zjf (fun h2=>h h2.symm)]
  ·rw [List.getElem?_eq_none (by simpa using hi)]
   rfl
theorem Zzk {L:List Bool} (h:L.length % 8=0):packP L=packM L ++ [0]:=by
 unfold packP packM
 have e:(L.length+7) / 8=L.length / 8:=by omega
 rw [e,List.range_succ,List.map_append]
 have:byteAt L (L.length / 8)=0:=by
  have:=(Z90 (L:=L) (b:=false)).2
  rw [h] at this
  omega
 simp [this]
theorem Zzl {L:List Bool} (h:L.length % 8≠0):packP L=packM L:=by
 unfold packP packM
 have e:(L.length+7) / 8=L.length / 8+1:=by omega
 rw [e]
theorem Zuj (L:List Bool) (j:Nat):byteAt L j≤255:=by
 have l0:=Z3n (bitAt L (8 * j))
 have l1:=Z3n (bitAt L (8 * j+1))
 have l2:=Z3n (bitAt L (8 * j+2))
 have l3:=Z3n (bitAt L (8 * j+3))
 have l4:=Z3n (bitAt L (8 * j+4))
 have l5:=Z3n (bitAt L (8 * j+5))
 have l6:=Z3n (bitAt L (8 * j+6))
 have l7:=Z3n (bitAt L (8 * j+7))
 unfold byteAt
 omega
theorem Zzi:∀ r:Fin 8,∀ b:Fin 2,∀ x:Fin 128,x.val < 2 ^ r.val→bOr .u8 ((x.val:Nat):Int) (shL .u8 ((b.val:Nat):Int) ((r.val:Nat):Int))=((x.val+b.val * 2 ^ r.val:Nat):Int):=by decide +kernel
theorem Zox {v:Int} {i:Nat} (h0:0≤v) (hi:i≤64):shR .u64 v (i:Int)=((v.toNat / 2 ^ i:Nat):Int):=by
 unfold shR
 rw [Int.toNat_natCast,show min i (IntKind.bits .u64)=i from Nat.min_eq_left hi]
 obtain ⟨n,rfl⟩:=Int.eq_ofNat_of_zero_le h0
 rw [Int.fdiv_eq_ediv_of_nonneg _ (by exact_mod_cast Nat.zero_le (2 ^ i))]
 simp
theorem Zz1 {x:Int} (h0:0≤x) (h1:x≤18446744073709551615):bAnd .u64 x 1=x % 2:=by
 unfold bAnd
 rw [BitVec.toNat_and,BitVec.toNat_ofInt,BitVec.toNat_ofInt]
 have e1:(1 % ((2 ^ IntKind.bits .u64:Nat):Int)).toNat=1:=by decide
 have e2:(x % ((2 ^ IntKind.bits .u64:Nat):Int)).toNat=x.toNat:=by
  have:((2 ^ IntKind.bits .u64:Nat):Int)=18446744073709551616:=by decide
  rw [this]; omega
 rw [e1,e2,Nat.and_one_is_mod]
 rw [IntKind.wrap_u64]
 omega
theorem Z100 {v:Int} {i:Nat} (h0:0≤v) (h1:v≤18446744073709551615) (hi:i≤64):IntKind.wrap .u8 (bAnd .u64 (shR .u64 v (i:Int)) 1)=(bitN (v.toNat.testBit i):Int):=by
 have hd:v.toNat / 2 ^ i≤v.toNat:=Nat.div_le_self _ _
 rw [Zox h0 hi,Nat.testBit_eq_decide_div_mod_eq]
 generalize v.toNat / 2 ^ i=q at hd
 rw [Zz1 (by omega) (by omega)]
 have:q % 2=0∨q % 2=1:=by omega
 rcases this with h | h
 ·have e:(q:Int) % 2=0:=by omega
  rw [e,h]; decide
 ·have e:(q:Int) % 2=1:=by omega
  rw [e,h]; decide
end Go.Proofs.YtchhhjlpnecjkaaGreat
namespace Go.Proofs.YtchhhjlpnecjkaaGreat
open Go Go.RowKit Go.Proofs.YtchhhjlpnecjkaaGreat.Den
variable {R:Type} {Q:R→World→Prop} {w:World}
theorem Z3r:SlTy Tryz.prog 22 5 u8T 1:=slTy (by kernel_rfl)
def Wr (b:Nat) (L:List Bool):OB:=fun F w=>L.length≤1048576∧F b∧∃ s:Sl,Blk w b 154 [.slice s.a s.n s.c,.int .i64 (L.length:Int)]∧Own (fun k=>F k∧k≠b) w 5 u8T s (packM L)
theorem Wr.st {b:Nat} {L:List Bool}:St (Wr b L):=fun ⟨h1,h2,s,h3,h4⟩ f hs =>
 ⟨h1,(hs b h3.lt h2).2,s,h3.fr f (hs b h3.lt h2).1,Own.st h4 f fun k hk e=>⟨(hs k hk e.1).1,(hs k hk e.1).2,e.2⟩⟩
theorem Zoz {K:Res [.sc .ptr]→W R} (hk:∀ b w',Wr b [] (Up w.heap.size) w'→Fr None w w'→K (some ⟨b,0,none⟩) Q w'):callW Tryz.prog Zig [] [.sc .ptr] K Q w:=by
 refine Ztm K Q w ?_
 unfold Zn4
 refine newI fun w1 B1 f1 s1=>?_
 exact hk _ w1 ⟨by simp,Nat.le_refl _,⟨none,0,0⟩,B1,Own.nil _ _ _ _⟩ f1
def putB (L:List Bool) (v n:Int):Int × List Bool :=
 if n < 0∨64 < n then (1,L) else if n < 64∧v.toNat / 2 ^ n.toNat≠0 then (5,L) else if 1048576 < (L.length:Int)+n then (3,L) else (0,L ++ bitsOf v.toNat n.toNat)
theorem Z83 {b:Nat} {L:List Bool} {F:Nat→Prop} (h:Wr b L F w) {v n:Int} (hv:0≤v∧v≤18446744073709551615) (hn:-9223372036854775808≤n∧n≤9223372036854775807) {K:Res [.sc (.int .i64)]→W R} (hk:∀ w',Wr b (putB L v n).2 (Ex F w) w'→Fr F w w'→K (putB L v n).1 Q w') :
  callW Tryz.prog Z1z [.pointer (some ⟨b,0,none⟩),.int .u64 v,.int .i64 n] [.sc (.int .i64)] K Q w:=by
 refine Zi1 _ _ _ K Q w ?_
 unfold Zai
 have same:Wr b L (Ex F w) w:=Wr.st.mono h fun k _ e=>.inl e
 have hlen:=h.1
 obtain ⟨_,hb,s0,B0,_⟩:=h
 refine condF rfl ?_
 refine joinI (fun z w'=>z=decide (n < 0∨64 < n)∧w'=w) ?_ ?_
 ·refine condD (fun h=>⟨by simp [h],rfl⟩) fun h=>⟨?_,rfl⟩
  simp only [h,false_or]
 rintro z w1 ⟨rfl,rfl⟩
 refine condD (fun h1=>?_) fun h1=>?_
 ·have e:putB L v n=(1,L):=by rw [putB,if_pos h1]
  rw [e] at hk
  exact hk _ same (Fr.refl _ _)
 have e1:putB L v n=if n < 64∧v.toNat / 2 ^ n.toNat≠0 then (5,L) else if 1048576 < (L.length:Int)+n then (3,L) else (0,L ++ bitsOf v.toNat n.toNat):=by rw [putB,if_neg h1]
 rw [e1] at hk
 clear e1
 have hn0:0≤n∧n≤64:=by omega
 clear hn
 obtain ⟨m,rfl⟩:=Int.eq_ofNat_of_zero_le hn0.1
 rw [Int.toNat_natCast] at hk
 refine joinI (fun z w'=>z=decide ((m:Int) < 64∧v.toNat / 2 ^ m≠0)∧w'=w1) ?_ ?_
 ·refine condD (fun h=>chkI hn0.1 ⟨?_,rfl⟩) fun h=>⟨by simp [h],rfl⟩
  rw [Zox hv.1 (by omega)]
  generalize v.toNat / 2 ^ m=q
  by_cases hq:q=0
  ·simp [hq]
  ·have:¬ (q:Int)=0:=by omega
   simp [hq,h]
 rintro z w2 ⟨rfl,rfl⟩
 refine condD (fun h2=>?_) fun h2=>?_
 ·rw [if_pos h2] at hk
  exact hk _ same (Fr.refl _ _)
 rw [if_neg h2] at hk
 refine ptrI (fldI B0 (i:=1) (x:=(L.length:Int)) rfl ?_)
 rw [w64 (by omega)]
 refine condD (fun h3=>?_) fun h3=>?_
 ·rw [if_pos h3] at hk
  exact hk _ same (Fr.refl _ _)
 have h3:¬ (1048576:Int) < (L.length:Int)+m:=h3
 rw [if_neg h3] at hk
 refine forI (N:=m) (fun s:Int=>s) (fun j i w'=>i=(j:Int)∧Wr b (L ++ bitsOf v.toNat j) (Ex F w2) w'∧Fr F w2 w') ⟨rfl,by rw [bitsOf,List.append_nil]; exact same,Fr.refl _ _⟩ (fun j s w' h=>h.1) ?_ ?_
 ·rintro j i w3 K' hj ⟨rfl,hw,f3⟩ - hK
  have hs3:=f3.size
  obtain ⟨L1,hL1⟩:∃ L1,L ++ bitsOf v.toNat j=L1:=⟨_,rfl⟩
  have hl1:L1.length=L.length+j:=by rw [← hL1,List.length_append,Z4]
  have hnext:L ++ bitsOf v.toNat (j+1)=L1 ++ [v.toNat.testBit j]:=by rw [bitsOf,← List.append_assoc,hL1]
  rw [hL1] at hw
  obtain ⟨_,hb3,s3,B3,o3⟩:=hw
  refine ptrI (fldI B3 (i:=1) (x:=(L1.length:Int)) rfl ?_)
  have hmod:Int.tmod (L1.length:Int) 8=((L1.length % 8:Nat):Int):=by rw [Int.tmod_eq_emod_of_nonneg (by omega)]; omega
  have hdiv:Int.tdiv (L1.length:Int) 8=((L1.length / 8:Nat):Int):=by rw [Int.tdiv_eq_ediv_of_nonneg (by omega)]; omega
  refine joinI (fun (_:Unit) w'=>∃ s4:Sl,Blk w' b 154 [.slice s4.a s4.n s4.c,.int .i64 (L1.length:Int)]∧Own (fun k=>Ex F w2 k∧k≠b) w' 5 u8T s4 (packP L1)∧Fr F w2 w') ?_ ?_
  ·rw [hmod]
   refine condI (fun hz=>?_) fun hz=>?_
   ·have hz:L1.length % 8=0:=by
     have:((L1.length % 8:Nat):Int)=0:=by simpa using hz
     omega
    refine ptrI (fldI B3 (i:=0) (x:=s3) rfl ?_)
    have hpl:=Zhh L1
    refine appP (x:=(0:Int)) Z3r rfl o3 (fun k e=>⟨.inr (by omega),fun e2=>by have:=B3.lt; omega⟩) (by omega) (by omega) fun r w4 o4 f4=>?_
    have B4:=B3.fr f4 fun e=>(o3.own b e).2 rfl
    have f24:Fr F w2 w4:=f3.exS f4 fun k e=>(o3.own k e).1
    refine ptrI ?_
    rw [add_lit]
    refine setI (i:=0) B4 (Nat.zero_lt_succ _) rfl fun w5 B5 f5 s5=>?_
    refine ⟨r,B5,?_,f24.exS f5 fun k e=>by rw [e]; exact .inl hb⟩
    rw [Zzk hz]
    exact o4.fr f5 fun k e e2=>e.2 e2
   ·have hz:L1.length % 8≠0:=by
     intro e
     rw [e] at hz
     simp at hz
    exact ⟨s3,B3,by rw [Zzl hz]; exact o3,f3⟩
  ·rintro _ w4 ⟨s4,B4,o4,f4⟩
   have fd:Fr None w4 w4.drew:=(Fr.refl _ _).drew
   have B4:=B4.fr fd fun h=>h
   have o4:=o4.none fd
   have f4:=f4.then0 fd
   have hpl:=Zvw L1
   refine ptrI (fldI B4 (i:=0) (x:=s4) rfl (ptrI (fldI B4 (i:=1) (x:=(L1.length:Int)) rfl ?_)))
   rw [hdiv,w64 (by omega)]
   refine o4.idx rfl (by omega) (by omega) fun g x hg hx hrd=>ldI x hrd ?_
   rw [Int.toNat_natCast,Zxx] at hx
   cases hx
   refine chkI (by omega) (ptrI (fldI B4 (i:=1) (x:=(L1.length:Int)) rfl ?_))
   rw [hmod]
   refine chkI (by omega) (o4.idx rfl (by omega) (by omega) fun g2 x2 hg2 _ _=>?_)
   rw [hg] at hg2
   cases hg2
   have hbit:=Z100 (i:=j) hv.1 hv.2 (by omega)
   rw [hbit]
   have hlt:=Z90 (L:=L1) (b:=false)
   have hor:bOr .u8 (byteAt L1 (L1.length / 8):Int) (shL .u8 (bitN (v.toNat.testBit j):Int) ((L1.length % 8:Nat):Int))=((byteAt L1 (L1.length / 8)+bitN (v.toNat.testBit j) * 2 ^ (L1.length % 8):Nat):Int) :=
    Zzi ⟨L1.length % 8,Nat.mod_lt _ (by decide)⟩ ⟨bitN (v.toNat.testBit j),by have:=Z3n (v.toNat.testBit j); omega⟩ ⟨byteAt L1 (L1.length / 8),by
     have h1:=hlt.2
     have h2:(2:Nat) ^ (L1.length % 8)≤2 ^ 7:=Nat.pow_le_pow_right (by decide) (by omega)
     omega⟩ hlt.2
   rw [hor,Int.toNat_natCast]
   refine o4.set rfl (i:=L1.length / 8) (by omega) hg _ fun w5 o5 f5 s5=>?_
   rw [← Zu5,← hnext] at o5
   have B5:=B4.fr f5 fun e=>(o4.own b e).2 rfl
   refine ptrI (fldI B5 (i:=1) (x:=(L1.length:Int)) rfl (ptrI ?_))
   rw [add_lit]
   refine setI (i:=1) B5 (by simp) rfl fun w6 B6 f6 s6=>?_
   refine hK _ _ ⟨wsucc hj (by omega),⟨?_,.inl hb,s4,?_,o5.fr f6 fun k e e2=>e.2 e2⟩,(f4.exS f5 fun k e=>(o4.own k e).1).exS f6 fun k e=>by rw [e]; exact .inl hb⟩
   ·rw [hnext,List.length_append,hl1]; simp; omega
   ·rw [hnext,List.length_append]
    have:IntKind.wrap .i64 ((L1.length:Int)+1)=((L1.length+1:Nat):Int):=by rw [w64 (by omega)]; rfl
    rw [this] at B6
    exact B6
 ·rintro i w3 ⟨rfl,hw,f3⟩
  exact hk _ hw f3
theorem Zhn {b:Nat} {L:List Bool} {F:Nat→Prop} (h:Wr b L F w) {K:Res [.sc (.int .i64)]→W R} (hk:K (L.length:Int) Q w):callW Tryz.prog Z4a [.pointer (some ⟨b,0,none⟩)] [.sc (.int .i64)] K Q w:=by
 refine Zi0 _ K Q w ?_
 unfold Zah
 obtain ⟨_,_,s,B,_⟩:=h
 exact condF rfl (ptrI (fldI B (i:=1) (x:=(L.length:Int)) rfl hk))
end Go.Proofs.YtchhhjlpnecjkaaGreat
namespace Go.Proofs.YtchhhjlpnecjkaaGreat
open Go Go.RowKit Go.Shelf Go.Proofs.YtchhhjlpnecjkaaGreat.Den
variable {R:Type} {Q:R→World→Prop} {w:World}
def len64Ren:Ren where
 f:=fun x=>match x with
  | 129=>163
  | n=>n
 t:=fun x=>match x with
  | 46=>122
  | 3=>3
  | 53=>81
  | 4=>4
  | 5=>5
  | 9=>9
  | n=>n
 g:=fun n=>n
theorem len64Lays:Lays.n129 Tryz.prog len64Ren :=
 {mixed:=rfl,f129:=Eq.trans Tryz.func163 rfl,t3:=Tryz.underlying3,
  a3:=Tryz.isAgg3,z3:=Tryz.sizeOf3,v3:=Tryz.zeroValue3,t4:=Tryz.underlying4,a4:=Tryz.isAgg4,z4:=Tryz.sizeOf4,
  v4:=Tryz.zeroValue4,t5:=Tryz.underlying5,a5:=Tryz.isAgg5,z5:=Tryz.sizeOf5,v5:=Tryz.zeroValue5,
  t9:=Tryz.underlying9,a9:=Tryz.isAgg9,z9:=Tryz.sizeOf9,v9:=Tryz.zeroValue9,t46:=Tryz.underlying122,
  a46:=Tryz.isAgg122,z46:=Tryz.sizeOf122,v46:=Tryz.zeroValue122,t53:=Tryz.underlying81,a53:=Tryz.isAgg81,z53:=Tryz.sizeOf81,
  v53:=Tryz.zeroValue81 }
theorem Znp {x:Int} (h0:0≤x) (h1:x≤18446744073709551615) {K:Res [.sc (.int .i64)]→W R} (hk:K (Lib.bitLen x.toNat:Int) Q w):callW Tryz.prog Z68 [.int .u64 x] [.sc (.int .i64)] K Q w :=
 (Any.bits_Len64 len64Lays x w h0 h1).mono fun e w' ⟨h1,h2⟩=>by
  subst h2
  exact ⟨_,h1,hk⟩
theorem wU64 {x:Int} (h:0≤x∧x≤18446744073709551615):IntKind.wrap .u64 x=x:=by rw [IntKind.wrap_u64]; omega
def groupsM (v:Nat):Nat:=max 1 ((Lib.bitLen v+3) / 4)
theorem Z67 {v:Int} (h0:0≤v) (h1:v≤18446744073709551615):1≤groupsM v.toNat∧groupsM v.toNat≤16:=by
 have:=Any.bitLen_le64 v h0 h1
 unfold groupsM
 omega
theorem Zbr {v:Int} (h0:0≤v) (h1:v≤18446744073709551615) {K:Res [.sc (.int .i64)]→W R} (hk:K (groupsM v.toNat:Int) Q w):callW Tryz.prog Z7x [.int .u64 v] [.sc (.int .i64)] K Q w:=by
 refine Znz _ K Q w ?_
 unfold Zgy
 refine Znp h0 h1 ?_
 have hb:=Any.bitLen_le64 v h0 h1
 have e:(if IntKind.wrap .i64 (Int.tdiv (IntKind.wrap .i64 (IntKind.wrap .i64 ((Lib.bitLen v.toNat:Int)+4) - 1)) 4) > 1 then IntKind.wrap .i64 (Int.tdiv (IntKind.wrap .i64 (IntKind.wrap .i64 ((Lib.bitLen v.toNat:Int)+4) - 1)) 4) else 1)=(groupsM v.toNat:Int):=by
  rw [w64 (x:=(Lib.bitLen v.toNat:Int)+4) (by omega),w64 (x:=(Lib.bitLen v.toNat:Int)+4 - 1) (by omega),Int.tdiv_eq_ediv_of_nonneg (by omega),w64 (by omega)]
  unfold groupsM
  split <;> omega
 rw [← e] at hk
 exact hk
def grpV (v n j:Nat):Nat:=v / 2 ^ (4 * j) % 16+if j+1 < n then 16 else 0
def varL (v n:Nat):Nat→List Bool
 | 0=>[]
 | j+1=>varL v n j ++ bitsOf (grpV v n j) 5
theorem Zkk (v n:Nat):∀ j,(varL v n j).length=5 * j
 | 0=>rfl
 | j+1=>by rw [varL,List.length_append,Zkk v n j,Z4]; omega
def varB (v:Nat):List Bool:=varL v (groupsM v) (groupsM v)
theorem Za1 (v:Nat):(varB v).length=5 * groupsM v:=Zkk _ _ _
def putVarM (L:List Bool) (v:Nat):Int × List Bool:=if 1048576 < L.length+5 * groupsM v then (3,L) else (0,L ++ varB v)
theorem Zzx {x:Int} (h0:0≤x) (h1:x≤18446744073709551615):bAnd .u64 x 15=x % 16:=by
 unfold bAnd
 rw [BitVec.toNat_and,BitVec.toNat_ofInt,BitVec.toNat_ofInt]
 have e1:(15 % ((2 ^ IntKind.bits .u64:Nat):Int)).toNat=2 ^ 4 - 1:=by decide
 have e2:(x % ((2 ^ IntKind.bits .u64:Nat):Int)).toNat=x.toNat:=by
  have:((2 ^ IntKind.bits .u64:Nat):Int)=18446744073709551616:=by decide
  rw [this]; omega
 rw [e1,e2,Nat.and_two_pow_sub_one_eq_mod]
 rw [IntKind.wrap_u64]
 omega
theorem or_16:∀ x:Fin 16,bOr .u64 ((x.val:Nat):Int) 16=((x.val+16:Nat):Int):=by decide +kernel
theorem Zze (v n j:Nat):grpV v n j < 32:=by unfold grpV; split <;> omega
theorem Z77 {b:Nat} {L:List Bool} {F:Nat→Prop} (h:Wr b L F w) {v:Int} (hv:0≤v∧v≤18446744073709551615) {K:Res [.sc (.int .i64)]→W R} (hk:∀ w',Wr b (putVarM L v.toNat).2 (Ex F w) w'→Fr F w w'→K (putVarM L v.toNat).1 Q w') :
  callW Tryz.prog Z2z [.pointer (some ⟨b,0,none⟩),.int .u64 v] [.sc (.int .i64)] K Q w:=by
 refine Zny _ _ K Q w ?_
 unfold Zgx
 obtain ⟨hg1,hg2⟩:=Z67 hv.1 hv.2
 have hlen:=h.1
 refine Zbr hv.1 hv.2 (condF rfl (Zhn h ?_))
 obtain ⟨g,hg⟩:∃ g,groupsM v.toNat=g:=⟨_,rfl⟩
 unfold putVarM varB at hk
 rw [hg] at hg1 hg2 hk ⊢
 rw [w64 (x:=(g:Int) * 5) (by omega),w64 (by omega)]
 refine condD (fun h3=>?_) fun h3=>?_
 ·have h3:(1048576:Int) < (L.length:Int)+(g:Int) * 5:=h3
  rw [if_pos (by omega)] at hk
  exact hk w (Wr.st.mono h fun k _ e=>.inl e) (Fr.refl _ _)
 have h3:¬ (1048576:Int) < (L.length:Int)+(g:Int) * 5:=h3
 rw [if_neg (by omega)] at hk
 refine forI (N:=g) (fun s:Int=>s) (fun j i w'=>i=(j:Int)∧Wr b (L ++ varL v.toNat g j) (Ex F w) w'∧Fr F w w') ⟨rfl,by rw [varL,List.append_nil]; exact Wr.st.mono h fun k _ e=>.inl e,Fr.refl _ _⟩ (fun j s w' h=>h.1) ?_ ?_
 ·rintro j i w3 K' hj ⟨rfl,hw,f3⟩ - hK
  have hs3:=f3.size
  rw [w64 (x:=4 * (j:Int)) (by omega),w64 (x:=(g:Int) - 1) (by omega)]
  refine chkI (by omega) ?_
  have e4:(4 * (j:Int))=((4 * j:Nat):Int):=by omega
  have hd:v.toNat / 2 ^ (4 * j)≤v.toNat:=Nat.div_le_self _ _
  have ea:bAnd .u64 (shR .u64 v (4 * (j:Int))) 15=((v.toNat / 2 ^ (4 * j) % 16:Nat):Int):=by
   rw [e4,Zox hv.1 (by omega)]
   generalize v.toNat / 2 ^ (4 * j)=q at hd
   rw [Zzx (by omega) (by omega)]
   omega
  refine joinI (fun z w'=>z=(grpV v.toNat g j:Int)∧w'=w3) ?_ ?_
  ·refine condD (fun h=>⟨?_,rfl⟩) fun h=>⟨?_,rfl⟩
   ·rw [ea,or_16 ⟨v.toNat / 2 ^ (4 * j) % 16,Nat.mod_lt _ (by decide)⟩]
    unfold grpV
    rw [if_pos (by omega)]
   ·rw [ea]
    unfold grpV
    rw [if_neg (by omega),Nat.add_zero]
  rintro z w4 ⟨rfl,rfl⟩
  have hlt:=Zze v.toNat g j
  have hll:=Zkk v.toNat g j
  have ep:putB (L ++ varL v.toNat g j) (grpV v.toNat g j:Int) 5=(0,L ++ varL v.toNat g (j+1)):=by
   rw [putB,if_neg (by omega),if_neg,if_neg (by rw [List.length_append,hll]; omega)]
   ·rw [Int.toNat_natCast,show (5:Int).toNat=5 from rfl,varL,List.append_assoc]
   ·rintro ⟨_,h⟩
    apply h
    rw [Int.toNat_natCast,show (5:Int).toNat=5 from rfl]
    exact Nat.div_eq_of_lt (by omega)
  refine Z83 hw (v:=(grpV v.toNat g j:Int)) (n:=5) (by omega) (by omega) fun w5 hw5 f5=>?_
  rw [ep] at hw5
  have hs5:=f5.size
  refine hK _ _ ⟨wsucc hj (by omega),Wr.st.mono hw5 fun k _ e=>?_,f3.exS f5 fun k e=>e⟩
  rcases e with e | e
  ·exact e
  ·exact .inr (by omega)
 ·rintro i w3 ⟨rfl,hw,f3⟩
  exact hk _ hw f3
def widthM (lo hi:Int):Nat:=if hi < lo then 0 else Lib.bitLen (hi - lo).toNat
theorem Zd7 {lo hi:Int} (h1:-9223372036854775808≤lo) (h2:lo≤hi) (h3:hi≤9223372036854775807):IntKind.wrap .u64 (IntKind.wrap .u64 hi - IntKind.wrap .u64 lo)=hi - lo:=by
 rw [IntKind.wrap_u64,IntKind.wrap_u64,IntKind.wrap_u64]
 omega
theorem Z96 {lo hi:Int} (h1:-9223372036854775808≤lo∧lo≤9223372036854775807) (h2:-9223372036854775808≤hi∧hi≤9223372036854775807) {K:Res [.sc (.int .i64)]→W R} (hk:K (widthM lo hi:Int) Q w):callW Tryz.prog Z72 [.int .i64 lo,.int .i64 hi] [.sc (.int .i64)] K Q w:=by
 refine Zpp _ _ K Q w ?_
 unfold Zjb
 unfold widthM at hk
 refine condD (fun h=>?_) fun h=>?_
 ·rw [if_pos h] at hk
  exact hk
 ·rw [if_neg h] at hk
  rw [Zd7 h1.1 (by omega) h2.2]
  exact Znp (by omega) (by omega) hk
def putInM (L:List Bool) (n lo hi:Int):Int × List Bool:=if hi < lo then (1,L) else if n < lo∨hi < n then (5,L) else putB L (n - lo) (widthM lo hi)
theorem Zm0 {b:Nat} {L:List Bool} {F:Nat→Prop} (h:Wr b L F w) {n lo hi:Int} (h1:-9223372036854775808≤lo∧lo≤9223372036854775807) (h2:-9223372036854775808≤hi∧hi≤9223372036854775807) {K:Res [.sc (.int .i64)]→W R}
  (hk:∀ w',Wr b (putInM L n lo hi).2 (Ex F w) w'→Fr F w w'→K (putInM L n lo hi).1 Q w') :
  callW Tryz.prog Z71 [.pointer (some ⟨b,0,none⟩),.int .i64 n,.int .i64 lo,.int .i64 hi] [.sc (.int .i64)] K Q w:=by
 refine Zpo _ _ _ _ K Q w ?_
 unfold Zja
 unfold putInM at hk
 have same:Wr b L (Ex F w) w:=Wr.st.mono h fun k _ e=>.inl e
 refine condF rfl (condD (fun h3=>?_) fun h3=>?_)
 ·rw [if_pos h3] at hk
  exact hk _ same (Fr.refl _ _)
 rw [if_neg h3] at hk
 refine joinI (fun z w'=>z=decide (n < lo∨hi < n)∧w'=w) ?_ ?_
 ·refine condD (fun h=>⟨by simp [h],rfl⟩) fun h=>⟨?_,rfl⟩
  simp [h]
 rintro z w1 ⟨rfl,rfl⟩
 refine condD (fun h4=>?_) fun h4=>?_
 ·rw [if_pos h4] at hk
  exact hk _ same (Fr.refl _ _)
 rw [if_neg h4] at hk
 refine Z96 h1 h2 ?_
 rw [Zd7 (lo:=lo) (hi:=n) h1.1 (by omega) (by omega)]
 have hw:(widthM lo hi:Int)≤64:=by
  unfold widthM
  split
  ·decide
  ·have:=Any.bitLen_le64 (hi - lo) (by omega) (by omega)
   omega
 exact Z83 h (by omega) (by omega) hk
end Go.Proofs.YtchhhjlpnecjkaaGreat
set_option linter.unusedVariables false
namespace Go.Proofs.YtchhhjlpnecjkaaGreat
open Go Go.Proofs.YtchhhjlpnecjkaaGreat.Den
def Zbm (x0:Int) (y1:Int):W (Int) :=
 callW Tryz.prog Za4 [.int .u32 x0] [.sc .bool] fun (x_1:Bool) =>
 callW Tryz.prog Za4 [.int .u32 y1] [.sc .bool] fun (x_2:Bool) =>
 cond x_1
  (cond x_2
   (retW 0)
   (retW (-1)))
  (cond x_2
  (retW 1)
  (cond (decide (x0 < y1))
  (retW (-1))
  (cond (decide (x0 > y1))
  (retW 1)
  (retW 0))))
theorem Zjv {R:Type} (x0:Int) (y1:Int) (K:Res [.sc (.int .i64)]→W R) (Q:R→World→Prop) (w:World) (h:Zbm x0 y1 (fun r w=>K r Q w) w):callW Tryz.prog Z4y [.int .u32 x0,.int .u32 y1] [.sc (.int .i64)] K Q w:=den_c (K:=K) mix Tryz.func122 {} trivial rfl (by kernel_rfl) h
def Z9c (x0:Int) (y1:Int):W (Int) :=
 callW Tryz.prog Z76 [.int .u8 x0] [.sc .bool] fun (x_1:Bool) =>
 callW Tryz.prog Z76 [.int .u8 y1] [.sc .bool] fun (x_2:Bool) =>
 cond x_1
  (cond x_2
   (retW 0)
   (retW (-1)))
  (cond x_2
  (retW 1)
  (cond (decide (x0 < y1))
  (retW (-1))
  (cond (decide (x0 > y1))
  (retW 1)
  (retW 0))))
theorem Zgb {R:Type} (x0:Int) (y1:Int) (K:Res [.sc (.int .i64)]→W R) (Q:R→World→Prop) (w:World) (h:Z9c x0 y1 (fun r w=>K r Q w) w):callW Tryz.prog Z9s [.int .u8 x0,.int .u8 y1] [.sc (.int .i64)] K Q w:=den_c (K:=K) mix Tryz.func151 {} trivial rfl (by kernel_rfl) h
def Za3 (x0:Int):W (Bool) :=
 retW (x0 != x0)
theorem Ze7 {R:Type} (x0:Int) (K:Res [.sc .bool]→W R) (Q:R→World→Prop) (w:World) (h:Za3 x0 (fun r w=>K r Q w) w):callW Tryz.prog Za4 [.int .u32 x0] [.sc .bool] K Q w:=den_c (K:=K) mix Tryz.func153 {} trivial rfl (by kernel_rfl) h
end Go.Proofs.YtchhhjlpnecjkaaGreat
namespace Go.Proofs.YtchhhjlpnecjkaaGreat
open Go Go.RowKit Go.Proofs.YtchhhjlpnecjkaaGreat.Den
variable {R:Type} {Q:R→World→Prop} {w:World}
theorem fIdx {b:Nat} {i:Int} {j:Nat} (hi:i=(j:Int)) (hj:j < 3) {K:Addr→W R} (hk:K ⟨b,1+j,none⟩ Q w):idxW (some (Addr.add ⟨b,0,none⟩ 1)) 3 1 i K Q w:=by
 subst hi
 refine idxA (by omega) (by omega) ?_
 rw [addA,add_lit]
 simpa using hk
theorem Zmy {k i:Int} {K:Res [.agg [.str,.int .i32,.int .i32],.sc .bool]→W R} (h0:(i < 0∨((fieldsM k).length:Int)≤i)→∀ w',Fr None w w'→K ((⟨#[]⟩,0,0),false) Q w')
  (hk:∀ p w',0≤i→(fieldsM k)[i.toNat]?=some p→Fr None w w'→K (p,true) Q w'):callW Tryz.prog Zfw [.int .u8 k,.int .i64 i] [.agg [.str,.int .i32,.int .i32],.sc .bool] K Q w:=by
 refine Zre _ _ K Q w ?_
 unfold Zky
 refine newI fun w1 B1 f1 s1=>Z6n fun s w2 hS f2=>?_
 have B2:=B1.fr f2 fun h=>h
 have hn:s.n=(fieldsM k).length:=hS.len
 have f02:=f1.then0 f2
 refine joinI (fun z w'=>z=decide (i < 0∨((fieldsM k).length:Int)≤i)∧w'=w2) ?_ ?_
 ·refine condD (fun h=>⟨by simp [h],rfl⟩) fun h=>⟨?_,rfl⟩
  rw [hn]
  simp [h]
 ·rintro z w' ⟨rfl,rfl⟩
  refine condD (fun h=>?_) fun h=>?_
  ·refine stoAll B2 rfl rfl fun w3 B3 f3 s3=>aggI B3 (x:=((⟨#[]⟩:ByteArray),(0:Int),(0:Int))) rfl ?_
   exact h0 h w3 (f02.newer f3 fun k e=>by omega)
  ·have hi0:0≤i:=by omega
   have hi1:i < ((fieldsM k).length:Int):=by omega
   refine hS.get (j:=i.toNat) rfl (by omega) (by omega) fun y hy=>?_
   refine stoAll B2 rfl rfl fun w3 B3 f3 s3=>aggI B3 (x:=y) rfl ?_
   exact hk y w3 hi0 hy (f02.newer f3 fun k e=>by omega)
theorem Z6f {k i:Int} {K:Res [.sc (.int .i32),.sc (.int .i32),.sc (.int .i64)]→W R} (hk:∀ w',Fr None w w'→K (rangeM k i) Q w') :
  callW Tryz.prog Z4v [.int .u8 k,.int .i64 i] [.sc (.int .i32),.sc (.int .i32),.sc (.int .i64)] K Q w:=by
 refine Zmi _ _ K Q w ?_
 unfold Zei
 refine Zmy (fun h w1 f1=>?_) fun p w1 h0 hp f1=>?_
 ·refine newI fun w2 B2 f2 s2=>stoAll B2 rfl rfl fun w3 B3 f3 s3=>condT rfl ?_
  have e:rangeM k i=(0,0,1):=by
   unfold rangeM
   split
   ·rw [List.getElem?_eq_none (by omega)]
   ·rfl
  have:=hk w3 (f1.then0 (f2.newer f3 fun k e=>by omega))
  rw [e] at this
  exact this
 ·refine newI fun w2 B2 f2 s2=>stoAll B2 rfl rfl fun w3 B3 f3 s3=>condF rfl ?_
  have fd:Fr None w3 w3.drew:=(Fr.refl _ _).drew
  have B3:=B3.fr fd fun h=>h
  refine fldI B3 (i:=1) (x:=p.2.1) rfl (fldI B3 (i:=2) (x:=p.2.2) rfl ?_)
  have e:rangeM k i=(p.2.1,p.2.2,0):=by
   unfold rangeM
   rw [if_pos h0,hp]
  have:=hk _ ((f1.then0 (f2.newer f3 fun k e=>by omega)).then0 fd)
  rw [e] at this
  exact this
theorem Den.SlT.readK {ok:Nat→Prop} {t:Ty} {s:Sl} {l:List t.T} (h:SlT ok w t s l) {sz:Nat} (hsz:sz=t.size) {i:Int} {j:Nat} (hi:i=j) {x:t.T} (hj:l[j]?=some x) {K:Addr→W R} (hk:∀ a,(∀ w',SlT ok w' t s l→Rd w' a t x)→K a Q w) :
  (idxW s.a s.n sz i K) Q w:=by
 subst hi; subst hsz
 have hjl:=(List.getElem?_eq_some_iff.1 hj).1
 have hn:=h.len
 rcases h.at_ with e | ⟨b,o,ha,_,_,hrd⟩
 ·rw [e] at hjl; simp at hjl
 ·rw [ha]
  refine ⟨_,rfl,by omega,by omega,hk _ fun w' h'=>?_⟩
  rw [add_lit,Int.toNat_natCast]
  rcases h'.at_ with e | ⟨b',o',ha',_,_,hrd'⟩
  ·rw [e] at hjl; simp at hjl
  ·rw [ha] at ha'
   cases ha'
   exact hrd' j x hj
end Go.Proofs.YtchhhjlpnecjkaaGreat
namespace Go.Proofs.YtchhhjlpnecjkaaGreat
open Go Go.RowKit Go.Proofs.YtchhhjlpnecjkaaGreat.Den
variable {R:Type} {Q:R→World→Prop} {w:World}
theorem Zk5 {k:Int} {K:Res [.sc .bool]→W R} (hk:∀ w',Fr None w w'→K (toldM k) Q w'):callW Tryz.prog Zbg [.int .u8 k] [.sc .bool] K Q w:=by
 refine Zo6 _ K Q w ?_
 unfold Zh5
 exact Z6n fun s w1 _ f1=>hk w1 f1
theorem Zk6 {c:Comp} {K:Res [.sc .bool]→W R} (hk:∀ w',Fr None w w'→K (!toldM c.1) Q w'):callW Tryz.prog Zbh [.agg ⟨compC c⟩] [.sc .bool] K Q w:=by
 refine Zo7 c K Q w ?_
 unfold Zh6
 exact newI fun w1 B1 f1 s1=>fldI B1 (i:=0) (x:=c.1) rfl (Zk5 fun w2 f2=>hk w2 (f1.then0 f2))
def secretM (l:List Comp):Bool:=l.any fun c=>!toldM c.1
theorem Zg7 {ok:Nat→Prop} {s:Sl} {l:List Comp} (hS:SlT ok w compT s l) (hm:l.length≤9223372036854775807) {K:Res [.sc .bool]→W R} (hk:∀ w',Fr None w w'→K (secretM l) Q w') :
  callW Tryz.prog Z27 [.slice s.a s.n s.c,.func (.func 71) #[] #[]] [.sc .bool] K Q w:=by
 refine Z3w s K Q w ?_
 unfold Z1l
 refine Z4u s _ _ w ?_
 unfold Z1y
 have hlen:=hS.len
 refine forI (N:=s.n) (fun s:Int=>s) (fun j i w'=>i=j∧Fr None w w'∧secretM (l.take j)=false) ⟨rfl,Fr.refl _ _,rfl⟩ (fun j s w' h=>h.1) ?_ ?_
 ·rintro j i w1 K' hj ⟨rfl,f1,hno⟩ - hK
  refine (hS.fr0 f1).get rfl rfl (by omega) fun c hc=>Zk6 fun w2 f2=>?_
  have e:secretM (l.take (j+1))=(secretM (l.take j) || !toldM c.1):=by unfold secretM; rw [Z8 hc,List.any_append]; simp
  refine condI (fun h=>?_) fun h=>?_
  ·have:secretM l=true:=by
    unfold secretM
    exact List.any_eq_true.2 ⟨c,List.mem_of_getElem? hc,h⟩
   have hk:=hk w2 (f1.then0 f2)
   rw [this] at hk
   have e2:decide ((j:Int) ≥ 0)=true:=decide_eq_true (by omega)
   rw [← e2] at hk
   exact hk
  ·exact hK _ _ ⟨wsucc hj (by omega),f1.then0 f2,by rw [e,hno,h]; rfl⟩
 ·rintro i w1 ⟨rfl,f1,hno⟩
  rw [List.take_of_length_le (by omega)] at hno
  have hk:=hk w1 f1
  rw [hno] at hk
  exact hk
def oneM (e:Ent):Int:=if genOf e.1 < 1∨4194303 < genOf e.1 then 4 else listE e.2
theorem Zpa {ok:Nat→Prop} {r:Int × Sl} {e:Ent} (h1:r.1=e.1) (hS:SlT ok w compT r.2 e.2) (hm:Small e.2) (hid:IdOk e.1) {K:Res [.sc (.int .i64)]→W R} (hk:∀ w',Fr None w w'→K (oneM e) Q w') :
  callW Tryz.prog Zik [.agg ⟨[.int .u32 r.1,.slice r.2.a r.2.n r.2.c]⟩] [.sc (.int .i64)] K Q w:=by
 refine Zts r K Q w ?_
 unfold Zna
 unfold oneM at hk
 refine newI fun w1 B1 f1 s1=>fldI B1 (i:=0) (x:=r.1) rfl ?_
 rw [h1]
 refine Zmz hid ?_
 refine joinI (fun z w'=>z=decide (genOf e.1 < 1∨4194303 < genOf e.1)∧w'=w1) ?_ ?_
 ·refine condD (fun h=>⟨by simp [h],rfl⟩) fun h=>⟨?_,rfl⟩
  simp [h]
 rintro z w2 ⟨rfl,rfl⟩
 refine condD (fun h=>?_) fun h=>?_
 ·rw [if_pos h] at hk
  exact hk w2 f1
 ·rw [if_neg h] at hk
  exact fldI B1 (i:=1) (x:=r.2) rfl (Zk4 (hS.fr0 f1) hm fun w3 f3=>hk w3 (f1.then0 f3))
def formM:Int→List Ent→Int
 | _,[]=>0
 | last,e :: r=>if e.1≤last then 4 else if oneM e≠0 then oneM e else if secretM e.2=true then 4 else formM e.1 r
def lastE (l:List Ent) (j:Nat):Int:=match j with
 | 0=>0
 | j+1=>((l[j]?).map (·.1)).getD 0
theorem Z6o {ok:Nat→Prop} {s:Sl} {raws:List (Int × Sl)} {L:List Ent} (hS:SlT ok w entT s raws) (hE:EntsR ok w raws L) (hm:L.length≤9223372036854775807) (hL:∀ e∈L,IdOk e.1∧Small e.2) {K:Res [.sc (.int .i64)]→W R} (hk:∀ w',Fr None w w'→K (formM 0 L) Q w') :
  callW Tryz.prog Z59 [.slice s.a s.n s.c] [.sc (.int .i64)] K Q w:=by
 refine Zrj s K Q w ?_
 unfold Zl3
 have hlen:=hS.len
 have hel:=hE.len
 refine forI (N:=s.n) (fun s:Int × Int=>s.2) (fun j s w'=>s=(lastE L j,(j:Int))∧Fr None w w'∧formM 0 L=formM (lastE L j) (L.drop j)) ⟨rfl,Fr.refl _ _,rfl⟩ (fun j s w' h=>by rw [h.1]) ?_ ?_
 ·rintro j s1 w1 K' hj ⟨rfl,f1,hf⟩ - hK
  obtain ⟨e,he⟩:∃ e,L[j]?=some e:=⟨_,List.getElem?_eq_getElem (by omega)⟩
  obtain ⟨r1,hr1,ha1,ha2⟩:=hE.get he
  obtain ⟨hid,hsm⟩:=hL e (List.mem_of_getElem? he)
  have hdrop:L.drop j=e :: L.drop (j+1):=by
   obtain ⟨hl,hg⟩:=List.getElem?_eq_some_iff.1 he
   rw [List.drop_eq_getElem_cons hl,hg]
  rw [hdrop,formM] at hf
  rw [hf] at hk
  refine (hS.fr0 f1).get rfl rfl (by omega) fun y hy=>?_
  rw [hr1] at hy
  cases hy
  refine newI fun w2 B2 f2 s2=>stoAll B2 rfl rfl fun w3 B3 f3 s3=>fldI B3 (i:=0) (x:=r1.1) rfl ?_
  have f13:Fr None w1 w3:=f2.newer f3 fun k e=>by omega
  have f03:=f1.then0 f13
  rw [ha1]
  refine condD (fun h=>?_) fun h=>?_
  ·rw [if_pos h] at hk
   exact hk w3 f03
  rw [if_neg h] at hk hf
  refine fldI B3 (i:=0) (x:=r1.1) rfl (aggI B3 (x:=r1) rfl (Zpa ha1 (ha2.fr0 f03) hsm hid fun w4 f4=>?_))
  have f04:=f03.then0 f4
  refine condN (fun hne=>?_) fun heq=>?_
  ·rw [if_pos hne] at hk
   exact hk w4 f04
  rw [if_neg (by omega)] at hk hf
  refine fldI (B3.fr f4 fun h=>h) (i:=1) (x:=r1.2) rfl (Zg7 (ha2.fr0 f04) (Nat.le_trans hsm (by decide)) fun w5 f5=>?_)
  have f05:=f04.then0 f5
  refine condI (fun h=>?_) fun h=>?_
  ·rw [if_pos h] at hk
   exact hk w5 f05
  ·rw [if_neg (by rw [h]; decide)] at hk hf
   have hlast:lastE L (j+1)=e.1:=by
    show ((L[j]?).map (·.1)).getD 0=e.1
    rw [he]; rfl
   refine hK _ _ ⟨?_,f05,by rw [hlast]; exact hf⟩
   rw [wsucc hj (by omega),hlast,ha1]
 ·rintro s1 w1 ⟨rfl,f1,hf⟩
  rw [List.drop_of_length_le (by omega),formM] at hf
  have hk:=hk w1 f1
  rw [hf] at hk
  exact hk
end Go.Proofs.YtchhhjlpnecjkaaGreat
namespace Go.Proofs.YtchhhjlpnecjkaaGreat
open Go Go.RowKit Go.Proofs.YtchhhjlpnecjkaaGreat.Den
variable {R:Type} {Q:R→World→Prop} {w:World}
def cmp3 (x y:Int):Int:=if x < y then -1 else if x > y then 1 else 0
theorem half {i j:Nat} (h:i+j≤9223372036854775807):IntKind.wrap .i64 (shR .u64 (IntKind.wrap .u64 (IntKind.wrap .i64 ((i:Int)+(j:Int)))) 1)=(((i+j) / 2:Nat):Int):=by
 have e:IntKind.wrap .u64 (IntKind.wrap .i64 ((i:Int)+(j:Int)))=((i+j:Nat):Int):=by
  rw [w64 (by omega),IntKind.wrap_u64]; omega
 rw [e,show (1:Int)=((1:Nat):Int) from rfl,Zox (by omega) (by decide),Int.toNat_natCast,w64 (by omega)]
theorem Zcy {x y:Int} {K:Res [.sc (.int .i64)]→W R} (hk:K (cmp3 x y) Q w):callW Tryz.prog Z4y [.int .u32 x,.int .u32 y] [.sc (.int .i64)] K Q w:=by
 refine Zjv _ _ K Q w ?_
 unfold Zbm
 refine Ze7 _ _ _ _ ?_
 unfold Za3
 refine Ze7 _ _ _ _ ?_
 unfold Za3
 unfold cmp3 at hk
 refine condF (by simp) (condF (by simp) (condD (fun h=>?_) fun h=>condD (fun h2=>?_) fun h2=>?_))
 ·rw [if_pos h] at hk; exact hk
 ·rw [if_neg h,if_pos h2] at hk; exact hk
 ·rw [if_neg h,if_neg h2] at hk; exact hk
theorem Zb1 {r:Int × Sl} {id:Int} {K:Res [.sc (.int .i64)]→W R} (hk:∀ w',Fr None w w'→K (cmp3 r.1 id) Q w'):callW Tryz.prog Z6k [.agg ⟨[.int .u32 r.1,.slice r.2.a r.2.n r.2.c]⟩,.int .u32 id] [.sc (.int .i64)] K Q w:=by
 refine Zmj r _ K Q w ?_
 unfold Zej
 exact newI fun w1 B1 f1 s1=>fldI B1 (i:=0) (x:=r.1) rfl (Zcy (hk w1 f1))
def findE (L:List Ent) (id:Int):Int:=match L.findIdx? (fun e=>e.1 == id) with
 | some i=>i
 | none=>-1
theorem Zrs {x y:Int}:cmp3 x y < 0↔x < y:=by
 unfold cmp3
 split
 ·simp; assumption
 ·split
  ·simp; omega
  ·simp; omega
theorem Zym {x y:Int}:cmp3 x y=0↔x=y:=by
 unfold cmp3
 split
 ·simp; omega
 ·split
  ·simp; omega
  ·simp; omega
theorem Z9r {L:List Ent} (hs:L.Pairwise fun a b=>a.1 < b.1) {p q:Nat} {a b:Ent} (hpq:p < q) (ha:L[p]?=some a) (hb:L[q]?=some b):a.1 < b.1:=by
 obtain ⟨h1,rfl⟩:=List.getElem?_eq_some_iff.1 ha
 obtain ⟨h2,rfl⟩:=List.getElem?_eq_some_iff.1 hb
 exact List.pairwise_iff_getElem.1 hs p q h1 h2 hpq
theorem Zne {L:List Ent} (hs:L.Pairwise fun a b=>a.1 < b.1) {i:Nat} {e:Ent} (he:L[i]?=some e):findE L e.1=(i:Int):=by
 have:L.findIdx? (fun x=>x.1 == e.1)=some i:=by
  rw [List.findIdx?_eq_some_iff_getElem]
  obtain ⟨hl,hg⟩:=List.getElem?_eq_some_iff.1 he
  refine ⟨hl,by rw [hg]; simp,fun q hq=>?_⟩
  have:=Z9r hs hq (List.getElem?_eq_getElem (by omega)) he
  simp; omega
 rw [findE,this]
theorem Zid {L:List Ent} {id:Int} (h:∀ (q:Nat) e,L[q]?=some e→e.1≠id):findE L id=-1:=by
 have:L.findIdx? (fun x=>x.1 == id)=none:=by
  rw [List.findIdx?_eq_none_iff]
  intro x hx
  obtain ⟨q,hq⟩:=List.mem_iff_getElem?.1 hx
  simpa using h q x hq
 rw [findE,this]
theorem Zn1 {ok:Nat→Prop} {s:Sl} {raws:List (Int × Sl)} {L:List Ent} (hS:SlT ok w entT s raws) (hE:EntsR ok w raws L) (hs:L.Pairwise fun a b=>a.1 < b.1) (hm:L.length≤4611686018427387903) {id:Int} {K:Res [.sc (.int .i64)]→W R} (hk:∀ w',Fr None w w'→K (findE L id) Q w') :
  callW Tryz.prog Zfz [.slice s.a s.n s.c,.int .u32 id] [.sc (.int .i64)] K Q w:=by
 refine Zri s _ K Q w ?_
 unfold Zl2
 refine Z2v s _ _ _ w ?_
 unfold Z11
 have hlen:=hS.len
 have hel:=hE.len
 refine loopI (fun (st:Int × Int) w'=>∃ i j:Nat,st=((i:Int),(j:Int))∧i≤j∧j≤L.length∧(∀ (q:Nat) e,q < i→L[q]?=some e→e.1 < id)∧(∀ (q:Nat) e,j≤q→L[q]?=some e→id≤e.1)∧Fr None w w') (fun st _=>(st.2 - st.1).toNat)
  ⟨0,s.n,rfl,by omega,by omega,fun q e h=>absurd h (by omega),fun q e h he=>by have:=(List.getElem?_eq_some_iff.1 he).1; omega,Fr.refl _ _⟩ ?_
 rintro st w1 ⟨i,j,rfl,hij,hj,hlo,hhi,f1⟩
 dsimp only
 rw [half (i:=i) (j:=j) (by omega)]
 refine condD (fun hlt=>?_) fun hge=>?_
 ·have hlt:(i:Int) < j:=hlt
  obtain ⟨h,hh⟩:∃ h,(i+j) / 2=h:=⟨_,rfl⟩
  rw [hh]
  have h1:i≤h:=by omega
  have h2:h < j:=by omega
  obtain ⟨e,he⟩:∃ e,L[h]?=some e:=⟨_,List.getElem?_eq_getElem (by omega)⟩
  obtain ⟨r1,hr1,ha1,_⟩:=hE.get he
  refine (hS.fr0 f1).get (j:=h) rfl rfl (by omega) fun y hy=>?_
  rw [hr1] at hy
  cases hy
  refine Zb1 fun w2 f2=>?_
  rw [ha1]
  refine joinI (fun (z:Int × Int) w'=>z=(if e.1 < id then (((h+1:Nat):Int),(j:Int)) else ((i:Int),(h:Int)))∧w'=w2) ?_ ?_
  ·refine condD (fun hc=>⟨?_,rfl⟩) fun hc=>⟨?_,rfl⟩
   ·rw [if_pos (Zrs.1 hc),w64 (by omega)]; rfl
   ·rw [if_neg fun hx=>hc (Zrs.2 hx)]
  rintro z w3 ⟨rfl,rfl⟩
  by_cases hc:e.1 < id
  ·rw [if_pos hc]
   refine ⟨⟨h+1,j,rfl,by omega,hj,fun q e' hq he'=>?_,hhi,f1.then0 f2⟩,by dsimp only; omega⟩
   rcases Nat.lt_succ_iff_lt_or_eq.1 hq with hq | rfl
   ·have:=Z9r hs hq he' he; omega
   ·rw [he] at he'; cases he'; exact hc
  ·rw [if_neg hc]
   refine ⟨⟨i,h,rfl,h1,by omega,hlo,fun q e' hq he'=>?_,f1.then0 f2⟩,by dsimp only; omega⟩
   rcases Nat.lt_or_eq_of_le hq with hq | rfl
   ·have:=Z9r hs hq he he'; omega
   ·rw [he] at he'; cases he'; omega
 ·have hge:¬ (i:Int) < j:=hge
  have:i=j:=by omega
  subst this
  refine joinI (fun (z:Int × Bool) w'=>z.1=(i:Int)∧(if z.2=true then z.1 else -1)=findE L id∧Fr None w w') ?_ ?_
  ·refine condD (fun hin=>?_) fun hout=>?_
   ·have hin:(i:Int) < s.n:=hin
    obtain ⟨e,he⟩:∃ e,L[i]?=some e:=⟨_,List.getElem?_eq_getElem (by omega)⟩
    obtain ⟨r1,hr1,ha1,_⟩:=hE.get he
    refine (hS.fr0 f1).get (j:=i) rfl rfl (by omega) fun y hy=>?_
    rw [hr1] at hy
    cases hy
    refine Zb1 fun w2 f2=>⟨rfl,?_,f1.then0 f2⟩
    rw [ha1]
    by_cases hc:e.1=id
    ·subst hc
     have:(cmp3 e.1 e.1 == 0)=true:=by simpa using Zym.2 rfl
     dsimp only
     rw [if_pos this,Zne hs he]
    ·have:¬ (cmp3 e.1 id == 0)=true:=by simpa using fun x=>hc (Zym.1 x)
     dsimp only
     rw [if_neg this,Zid fun q e' he'=>?_]
     rcases Nat.lt_trichotomy q i with h | h | h
     ·have:=hlo q e' h he'; omega
     ·subst h; rw [he] at he'; cases he'; exact hc
     ·have:=Z9r hs h he he'; have:=hhi i e (Nat.le_refl _) he; omega
   ·have hout:¬ (i:Int) < s.n:=hout
    refine ⟨rfl,?_,f1⟩
    dsimp only
    rw [if_neg (by decide),Zid fun q e' he'=>?_]
    have:=hlo q e' (by have:=(List.getElem?_eq_some_iff.1 he').1; omega) he'
    omega
  rintro ⟨z1,z2⟩ w2 ⟨h1,h2,f2⟩
  dsimp only at h1 h2
  cases z2 with
  | true =>
   rw [if_pos rfl] at h2
   subst h2
   exact hk w2 f2
  | false =>
   rw [if_neg (by decide)] at h2
   have:=hk w2 f2
   rw [← h2] at this
   exact this
end Go.Proofs.YtchhhjlpnecjkaaGreat
namespace Go.Proofs.YtchhhjlpnecjkaaGreat
open Go Go.RowKit Go.Proofs.YtchhhjlpnecjkaaGreat.Den
variable {R:Type} {Q:R→World→Prop} {w:World}
def oldM (L:List Ent) (id k:Int):Comp:=match L.findIdx? (fun e=>e.1 == id) with
 | some i=>(((L[i]?).bind fun e=>e.2.find? fun c=>c.1 == k)).getD (0,0,0,0)
 | none=>(0,0,0,0)
theorem Zd2 {ok:Nat→Prop} {s:Sl} {raws:List (Int × Sl)} {L:List Ent} (hS:SlT ok w entT s raws) (hE:EntsR ok w raws L) (hs:L.Pairwise fun a b=>a.1 < b.1) (hm:L.length≤4611686018427387903) (hL:∀ e∈L,e.2.length≤9223372036854775807) {id k:Int} {K:Res [.agg [.int .u8,.int .i32,.int .i32,.int .i32]]→W R} (hk:∀ w',Fr None w w'→K (oldM L id k) Q w') :
  callW Tryz.prog Z9v [.slice s.a s.n s.c,.int .u32 id,.int .u8 k] [.agg [.int .u8,.int .i32,.int .i32,.int .i32]] K Q w:=by
 refine Zpq s _ _ K Q w ?_
 unfold Zjc
 refine newI fun w1 B1 f1 s1=>Zn1 (hS.fr0 f1) (hE.fr f1 fun _ _ h=>h) hs hm fun w2 f2=>?_
 have B2:=B1.fr f2 fun h=>h
 have f02:=f1.then0 f2
 have hs2:=f02.size
 unfold oldM at hk
 unfold findE
 cases hf:L.findIdx? (fun e=>e.1 == id) with
 | none =>
  rw [hf] at hk
  refine condT rfl (stoAll B2 rfl rfl fun w3 B3 f3 s3=>aggI B3 (x:=((0,0,0,0):Comp)) rfl ?_)
  exact hk w3 (f02.newer f3 fun k e=>by omega)
 | some i =>
  rw [hf] at hk
  dsimp only at hk
  have hil:i < L.length:=by
   rw [List.findIdx?_eq_some_iff_getElem] at hf
   exact hf.1
  obtain ⟨e,he⟩:∃ e,L[i]?=some e:=⟨_,List.getElem?_eq_getElem hil⟩
  obtain ⟨r1,hr1,ha1,ha2⟩:=hE.get he
  rw [he] at hk
  refine condF (decide_eq_false (by show ¬ ((i:Int) < 0); omega)) ?_
  refine (hS.fr0 f02).readK rfl rfl hr1 fun ad had=>(had _ (hS.fr0 f02)).fld (i:=1) (s:=.sl) (y:=r1.2) rfl ?_
  have hcl:=ha2.len
  have hle:=hL e (List.mem_of_getElem? he)
  refine forI (N:=r1.2.n) (fun s:Int=>s) (fun j t v=>t=(j:Int)∧Fr None w2 v∧(∀ (q:Nat) c,q < j→e.2[q]?=some c→c.1≠k)) ⟨rfl,Fr.refl _ _,fun q c h=>absurd h (by omega)⟩ (fun j s w' h=>h.1) ?_ ?_
  ·rintro j t v K' hj ⟨rfl,fv,hno⟩ - hK
   refine ((ha2.fr0 f02).fr0 fv).get rfl rfl (by omega) fun c hc=>?_
   refine newI fun v1 C1 g1 t1=>stoAll C1 rfl rfl fun v2 C2 g2 t2=>fldI C2 (i:=0) (x:=c.1) rfl ?_
   have gv:Fr None v v2:=g1.newer g2 fun k e=>by omega
   have hsv:=(fv.then0 gv).size
   refine condE (fun h=>?_) fun h=>?_
   ·refine aggI C2 (x:=c) rfl (stoAll ((B2.fr fv fun h=>h).fr gv fun h=>h) rfl rfl fun v3 C3 g3 t3=>aggI C3 (x:=c) rfl ?_)
    have hfd:e.2.find? (fun c=>c.1 == k)=some c:=by
     rw [List.find?_eq_some_iff_getElem]
     obtain ⟨hl,hg⟩:=List.getElem?_eq_some_iff.1 hc
     refine ⟨by simpa using h,j,hl,hg,fun q hq=>?_⟩
     have:=hno q _ hq (List.getElem?_eq_getElem (by omega))
     simpa using this
    have:=hk v3 (((f02.then0 fv).then0 gv).newer g3 fun k e=>by omega)
    simp only [Option.bind_some,hfd,Option.getD_some] at this
    exact this
   ·refine hK _ _ ⟨wsucc hj (by omega),fv.then0 gv,fun q c' hq hc'=>?_⟩
    rcases Nat.lt_succ_iff_lt_or_eq.1 hq with h1 | h1
    ·exact hno q c' h1 hc'
    ·subst h1; rw [hc] at hc'; cases hc'; exact h
  ·rintro t v ⟨_,fv,hno⟩
   have hfd:e.2.find? (fun c=>c.1 == k)=none:=by
    rw [List.find?_eq_none]
    intro x hx
    obtain ⟨q,hq⟩:=List.mem_iff_getElem?.1 hx
    have:=hno q x (by have:=(List.getElem?_eq_some_iff.1 hq).1; omega) hq
    simpa using this
   have hsv:=fv.size
   refine stoAll (B2.fr fv fun h=>h) rfl rfl fun v3 C3 g3 t3=>aggI C3 (x:=((0,0,0,0):Comp)) rfl ?_
   have:=hk v3 ((f02.then0 fv).newer g3 fun k e=>by omega)
   simp only [Option.bind_some,hfd,Option.getD_none] at this
   exact this
end Go.Proofs.YtchhhjlpnecjkaaGreat
namespace Go.Proofs.YtchhhjlpnecjkaaGreat.Den
open Go Go.RowKit
variable {R:Type} {Q:R→World→Prop} {w:World} {α β:Type}
structure All2 (p:α→β→Prop) (l:List α) (k:List β):Prop where
 len:l.length=k.length
 at_:∀ (i:Nat) (a:α) (b:β),l[i]?=some a→k[i]?=some b→p a b
theorem All2.nil (p:α→β→Prop):All2 p [] []:=⟨rfl,fun i a b h=>by simp at h⟩
theorem All2.imp {p q:α→β→Prop} {l:List α} {k:List β} (h:All2 p l k) (hi:∀ a b,p a b→q a b):All2 q l k:=⟨h.len,fun i a b h1 h2=>hi a b (h.at_ i a b h1 h2)⟩
theorem All2.snoc {p:α→β→Prop} {l:List α} {k:List β} {a:α} {b:β} (h:All2 p l k) (hp:p a b):All2 p (l ++ [a]) (k ++ [b]):=by
 refine ⟨by simp [h.len],fun i x y h1 h2=>?_⟩
 have hl:=h.len
 by_cases hi:i < l.length
 ·rw [List.getElem?_append_left hi] at h1
  rw [List.getElem?_append_left (by omega)] at h2
  exact h.at_ i x y h1 h2
 ·rw [List.getElem?_append_right (by omega)] at h1 h2
  have hz:i - l.length=0:=by have:=(List.getElem?_eq_some_iff.1 h1).1; simp at this; omega
  rw [hz] at h1
  rw [show i - k.length=0 by omega] at h2
  simp at h1 h2
  subst h1; subst h2
  exact hp
theorem All2.get {p:α→β→Prop} {l:List α} {k:List β} (h:All2 p l k) {i:Nat} {b:β} (hb:k[i]?=some b):∃ a,l[i]?=some a∧p a b:=by
 obtain ⟨hl,_⟩:=List.getElem?_eq_some_iff.1 hb
 have ha:=List.getElem?_eq_getElem (l:=l) (i:=i) (by rw [h.len]; exact hl)
 exact ⟨_,ha,h.at_ i _ b ha hb⟩
theorem All2.getL {p:α→β→Prop} {l:List α} {k:List β} (h:All2 p l k) {i:Nat} {a:α} (ha:l[i]?=some a):∃ b,k[i]?=some b∧p a b:=by
 obtain ⟨hl,_⟩:=List.getElem?_eq_some_iff.1 ha
 have hb:=List.getElem?_eq_getElem (l:=k) (i:=i) (by rw [← h.len]; exact hl)
 exact ⟨_,hb,h.at_ i a _ ha hb⟩
theorem All2.take {p:α→β→Prop} {l:List α} {k:List β} (h:All2 p l k) (n:Nat):All2 p (l.take n) (k.take n):=by
 refine ⟨by simp [h.len],fun i a b h1 h2=>?_⟩
 rw [List.getElem?_take] at h1 h2
 split at h1
 ·rename_i hi; rw [if_pos hi] at h2; exact h.at_ i a b h1 h2
 ·cases h1
theorem All2.drop {p:α→β→Prop} {l:List α} {k:List β} (h:All2 p l k) (n:Nat):All2 p (l.drop n) (k.drop n):=by
 refine ⟨by simp [h.len],fun i a b h1 h2=>?_⟩
 rw [List.getElem?_drop] at h1 h2
 exact h.at_ _ a b h1 h2
abbrev Rel (α β:Type):=(Nat→Prop)→World→α→β→Prop
def Rel.st (ρ:Rel α β):Prop:=∀ a b,St fun F w=>ρ F w a b
structure DR {t:Ty} (ρ:Rel t.T β) (ok:Nat→Prop) (w:World) (s:Sl) (raws:List t.T) (L:List β):Prop where
 sl:SlT ok w t s raws
 all:All2 (fun a b=>ρ ok w a b) raws L
theorem DR.st {t:Ty} {ρ:Rel t.T β} (hρ:ρ.st) {s:Sl} {raws:List t.T} {L:List β}:St fun F w=>DR ρ F w s raws L:=fun {_F _F' _S _w _w'} h f hs =>
 ⟨SlT.st h.sl f hs,h.all.imp fun a b hab=>hρ a b hab f hs⟩
structure DO {t:Ty} (ρ:Rel t.T β) (E:TypeId) (S:Nat→Prop) (w:World) (s:Sl) (raws:List t.T) (L:List β) (lab:Nat→Nat):Prop where
 own:Own (fun k=>S k∧lab k=0) w E t s raws
 len:raws.length=L.length
 at_:∀ (i:Nat) (a:t.T) (b:β),raws[i]?=some a→L[i]?=some b→ρ (fun k=>S k∧lab k=i+1) w a b
section
variable {t:Ty} {ρ:Rel t.T β} {E:TypeId} {S:Nat→Prop} {s:Sl} {raws:List t.T} {L:List β} {lab:Nat→Nat}
theorem DO.nil (S:Nat→Prop) (w:World):DO ρ E S w ⟨none,0,0⟩ [] [] (fun _=>0):=⟨Own.nil _ _ _ _,rfl,fun i a b h=>by simp at h⟩
theorem DO.read (hρ:ρ.st) (h:DO ρ E S w s raws L lab):DR ρ S w s raws L:=⟨SlT.st.mono h.own.sl fun _ _ e=>e.1,h.len,fun i a b h1 h2=>St.mono (A:=fun F w=>ρ F w a b) (hρ a b) (h.at_ i a b h1 h2) fun _ _ e=>e.1⟩
theorem DO.fr (hρ:ρ.st) (h:DO ρ E S w s raws L lab) {S' T:Nat→Prop} {w':World} (f:Fr T w w') (hs:∀ k,k < w.heap.size→S k→¬ T k∧S' k):DO ρ E S' w' s raws L lab :=
 ⟨Own.st h.own f fun k hk e=>⟨(hs k hk e.1).1,(hs k hk e.1).2,e.2⟩,h.len,fun i a b h1 h2=>hρ a b (h.at_ i a b h1 h2) f fun k hk e=>⟨(hs k hk e.1).1,(hs k hk e.1).2,e.2⟩⟩
theorem DO.fr0 (hρ:ρ.st) (h:DO ρ E S w s raws L lab) {w':World} (f:Fr None w w'):DO ρ E S w' s raws L lab:=h.fr hρ f fun _ _ e=>⟨fun h=>h,e⟩
theorem DO.app {P:Program} {T ty:TypeId} {bytes:Nat} (H:SlTy P T E t bytes) (hρ:ρ.st) {w1:World} (h:DO ρ E S w1 s raws L lab) (f:Fr None w1 w) (hS:∀ k,w1.heap.size≤k→S k) {a:t.T} {b:β} (hab:ρ (fun k=>w1.heap.size≤k) w a b)
  {cs:List Value} (hc:cs=t.cells a) (hb:(L.length+1) * bytes≤140737488355328) (hm:L.length+1≤9223372036854775807) {K:Sl→W R}
  (hk:∀ r lab' w',DO ρ E S w' r (raws ++ [a]) (L ++ [b]) lab'→Fr (fun k=>s.v.ownBlock=some k) w w'→K r Q w') :
  newW E cs (fun x=>rawW P (Builtin.append_ #[T,T] ty #[.slice s.a s.n s.c,.slice (some x) 1 1]) [.sc .sl] K) Q w:=by
 have hfs:=f.size
 have hl:=h.len
 have o1:Own (fun k=>(S k∧lab k=0∧k < w1.heap.size)∨w.heap.size≤k) w E t s raws:=Own.st h.own f fun k hk e=>⟨fun h=>h,.inl ⟨e.1,e.2,hk⟩⟩
 have own0:∀ k,s.v.ownBlock=some k→lab k=0∧k < w1.heap.size:=fun k e=>⟨(h.own.own k e).2,h.own.lt e⟩
 refine appP H hc o1 (fun k e=>.inr e) (by rw [hl]; exact hb) (by rw [hl]; exact hm) fun r w' o' f'=>?_
 have hfs':=f'.size
 refine hk r (fun k=>if k < w1.heap.size then lab k else if k < w.heap.size then L.length+1 else 0) w' ⟨?_,by simp [hl],fun i x y h1 h2=>?_⟩ f'
 ·refine o'.mono fun k _ e=>?_
  rcases e with e | e
  ·exact ⟨e.1,by simp only [if_pos e.2.2]; exact e.2.1⟩
  ·exact ⟨hS k (by omega),by simp only [if_neg (show ¬ k < w1.heap.size by omega),if_neg (show ¬ k < w.heap.size by omega)]⟩
 ·by_cases hi:i < raws.length
  ·rw [List.getElem?_append_left hi] at h1
   rw [List.getElem?_append_left (by omega)] at h2
   have h3:=h.at_ i x y h1 h2
   refine hρ x y h3 (f.any.then f') fun k hk e=>⟨fun e2=>?_,e.1,?_⟩
   ·have:=(own0 k e2).1; omega
   ·simp only [if_pos hk]; exact e.2
  ·rw [List.getElem?_append_right (by omega)] at h1 h2
   have hz:i - raws.length=0:=by have:=(List.getElem?_eq_some_iff.1 h1).1; simp at this; omega
   rw [hz] at h1
   rw [show i - L.length=0 by omega] at h2
   simp at h1 h2
   subst h1; subst h2
   refine hρ a b hab f' fun k hk e=>⟨fun e2=>?_,hS k e,?_⟩
   ·have:=(own0 k e2).2; omega
   ·have e:w1.heap.size≤k:=e
    simp only [if_neg (show ¬ k < w1.heap.size by omega),if_pos hk]
    omega
end
end Go.Proofs.YtchhhjlpnecjkaaGreat.Den
namespace Go.Proofs.YtchhhjlpnecjkaaGreat
open Go Go.RowKit Go.Proofs.YtchhhjlpnecjkaaGreat.Den
variable {R:Type} {Q:R→World→Prop} {w:World}
theorem Zis {c:Comp} {k:Int} {bk:Nat} {T:TypeId} (B:Blk w bk T [.int .u8 k]) {K:Res [.sc .bool]→W R} (hk:∀ w',Fr None w w'→K (c.1 == k) Q w') :
  callW Tryz.prog Za7 [.agg ⟨compC c⟩,.pointer (some ⟨bk,0,none⟩)] [.sc .bool] K Q w:=by
 refine Zma c _ K Q w ?_
 unfold Zea
 refine newI fun w1 B1 f1 s1=>fldI B1 (i:=0) (x:=c.1) rfl (ptrI (fld0 (B.fr f1 fun h=>h) (i:=0) (x:=k) rfl (hk w1 f1)))
theorem Zg4 {ok:Nat→Prop} {s:Sl} {l:List Comp} (hS:SlT ok w compT s l) (hm:l.length≤9223372036854775807) {k:Int} {bk:Nat} {T:TypeId} (B:Blk w bk T [.int .u8 k]) {K:Res [.sc (.int .i64)]→W R} (hk:∀ w',Fr None w w'→K (findM l k) Q w') :
  callW Tryz.prog Z15 [.slice s.a s.n s.c,.func (.func 165) #[] #[.pointer (some ⟨bk,0,none⟩)]] [.sc (.int .i64)] K Q w:=by
 refine Z4i s _ K Q w ?_
 unfold Z1s
 have hlen:=hS.len
 refine forI (N:=s.n) (fun s:Int=>s) (fun j i w'=>i=j∧Fr None w w'∧∀ q y,q < j→l[q]?=some y→y.1≠k) ⟨rfl,Fr.refl _ _,by omega⟩ (fun j s w' h=>h.1) ?_ ?_
 ·rintro j i w1 K' hj ⟨rfl,f1,hno⟩ - hK
  refine (hS.fr0 f1).get rfl rfl (by omega) fun x hx=>Zis (B.fr f1 fun h=>h) fun w2 f2=>?_
  refine condE (fun h=>?_) fun h=>?_
  ·have:l.findIdx? (fun c=>c.1 == k)=some j:=by
    rw [List.findIdx?_eq_some_iff_getElem]
    obtain ⟨hl,he⟩:=List.getElem?_eq_some_iff.1 hx
    refine ⟨hl,by rw [he]; simpa using h,fun q hq=>?_⟩
    have:=hno q _ hq (List.getElem?_eq_getElem (by omega))
    simpa using this
   have e:=hk w2 (f1.then0 f2)
   rw [findM,this] at e
   exact e
  ·refine hK _ _ ⟨wsucc hj (by omega),f1.then0 f2,fun q y hq hy=>?_⟩
   rcases Nat.lt_succ_iff_lt_or_eq.1 hq with h1 | h1
   ·exact hno q y h1 hy
   ·subst h1; rw [hx] at hy; cases hy; exact h
 ·rintro i w1 ⟨rfl,f1,hno⟩
  have:l.findIdx? (fun c=>c.1 == k)=none:=by
   rw [List.findIdx?_eq_none_iff]
   intro x hx
   obtain ⟨q,hq⟩:=List.mem_iff_getElem?.1 hx
   have:=hno q x (by rw [hlen]; exact (List.getElem?_eq_some_iff.1 hq).1) hq
   simpa using this
  have e:=hk w1 f1
  rw [findM,this] at e
  exact e
def findC (l:List Comp) (k:Int):Comp × Bool:=match l.findIdx? (fun c=>c.1 == k) with
 | some i=>((l[i]?).getD (0,0,0,0),true)
 | none=>((0,0,0,0),false)
theorem Zeo {ok:Nat→Prop} {s:Sl} {l:List Comp} (hS:SlT ok w compT s l) (hm:l.length≤9223372036854775807) {k:Int} {K:Res [.agg [.int .u8,.int .i32,.int .i32,.int .i32],.sc .bool]→W R} (hk:∀ w',Fr None w w'→K (findC l k) Q w') :
  callW Tryz.prog Zbb [.slice s.a s.n s.c,.int .u8 k] [.agg [.int .u8,.int .i32,.int .i32,.int .i32],.sc .bool] K Q w:=by
 refine Zra s _ K Q w ?_
 unfold Zku
 refine newI fun w1 B1 f1 s1=>newI fun w2 B2 f2 s2=>?_
 have f02:=f1.then0 f2
 refine Zg4 (hS.fr0 f02) hm (B1.fr f2 fun h=>h) fun w3 f3=>?_
 have B3:=B2.fr f3 fun h=>h
 have f03:=f02.then0 f3
 have hs:=f03.size
 unfold findC at hk
 unfold findM
 cases hf:l.findIdx? (fun c=>c.1 == k) with
 | none =>
  rw [hf] at hk
  refine condT rfl (stoAll B3 rfl rfl fun w4 B4 f4 s4=>aggI B4 (x:=((0,0,0,0):Comp)) rfl ?_)
  exact hk w4 (f03.newer f4 fun k e=>by omega)
 | some i =>
  rw [hf] at hk
  dsimp only at hk
  have hil:i < l.length:=by
   rw [List.findIdx?_eq_some_iff_getElem] at hf
   exact hf.1
  refine condF (decide_eq_false (by show ¬ ((i:Int) < 0); omega)) ?_
  refine (hS.fr0 f03).get (j:=i) rfl rfl hil fun y hy=>?_
  rw [hy] at hk
  refine stoAll B3 rfl rfl fun w4 B4 f4 s4=>aggI B4 (x:=y) rfl ?_
  exact hk w4 (f03.newer f4 fun k e=>by omega)
end Go.Proofs.YtchhhjlpnecjkaaGreat
namespace Go.Proofs.YtchhhjlpnecjkaaGreat
open Go Go.RowKit Go.Proofs.YtchhhjlpnecjkaaGreat.Den
variable {R:Type} {Q:R→World→Prop} {w:World}
abbrev ChgRaw:=Int × Int × Sl × Sl
theorem Zit {r:ChgRaw} {K:Res [.sc .bool]→W R} (hk:∀ w',Fr None w w'→K (decide (r.2.1=0∧r.2.2.1.n=0∧r.2.2.2.n=0)) Q w') :
  callW Tryz.prog Za8 [.agg ⟨[.int .u32 r.1,.int .u8 r.2.1,.slice r.2.2.1.a r.2.2.1.n r.2.2.1.c,.slice r.2.2.2.a r.2.2.2.n r.2.2.2.c]⟩] [.sc .bool] K Q w:=by
 refine Zmb r K Q w ?_
 unfold Zeb
 refine newI fun w1 B f1 s1=>?_
 refine joinI (fun z w'=>z=decide (r.2.1=0∧r.2.2.1.n=0∧r.2.2.2.n=0)∧w'=w1) ?_ fun z w' ⟨hz,hw⟩=>by subst hz; subst hw; exact hk _ f1
 refine fldI B (i:=1) (x:=r.2.1) rfl (condE (fun a=>?_) fun a=>⟨by simp [a],rfl⟩)
 refine fldI B (i:=2) (x:=r.2.2.1) rfl (condE (fun b=>?_) fun b=>⟨?_,rfl⟩)
 ·have b:r.2.2.1.n=0:=by have b:(r.2.2.1.n:Int)=0:=b; omega
  refine fldI B (i:=3) (x:=r.2.2.2) rfl ⟨?_,rfl⟩
  by_cases c:r.2.2.2.n=0
  ·simp [a,b,c]
  ·have:¬ (r.2.2.2.n:Int)=0:=by omega
   simp [a,b,c]
 ·have b:¬ r.2.2.1.n=0:=by have b:¬ (r.2.2.1.n:Int)=0:=b; omega
  simp [b]
end Go.Proofs.YtchhhjlpnecjkaaGreat
namespace Go.Proofs.YtchhhjlpnecjkaaGreat
open Go Go.RowKit Go.Proofs.YtchhhjlpnecjkaaGreat.Den
variable {R:Type} {Q:R→World→Prop} {w:World}
theorem appLab {P:Program} {T E ty:TypeId} {t:Ty} {bytes:Nat} (H:SlTy P T E t bytes) {lab:Nat→Nat} {i:Nat} {o:Sl} {lo:List t.T} {x:t.T} {cs:List Value} (hc:cs=t.cells x) (ho:Own (fun k=>lab k=i) w E t o lo)
  (hb:(lo.length+1) * bytes≤140737488355328) (hm:lo.length+1≤9223372036854775807) {K:Sl→W R}
  (hk:∀ r w',Own (fun k=>relab lab w.heap.size w'.heap.size i k=i) w' E t r (lo ++ [x])→Fr (fun k=>lab k=i) w w'→K r Q w'):newW E cs (fun a=>rawW P (Builtin.append_ #[T,T] ty #[.slice o.a o.n o.c,.slice (some a) 1 1]) [.sc .sl] K) Q w :=
 appP H hc (ho.mono fun k _ e=>Or.inl e:Own (Ex (fun k=>lab k=i) w) w E t o lo) (fun k e=>.inr e) hb hm fun r w' o' f' =>
  hk r w' (St.grown (A:=fun F w=>Own F w E t r (lo ++ [x])) Own.st o') (f'.sub fun k e=>ho.own k e)
abbrev Chg:=Int × Int × List Comp × List Comp
abbrev chgT:Ty:=.agg [.int .u32,.int .u8,.sl,.sl]
theorem Zuo:SlTy Tryz.prog 78 86 chgT 56:=slTy (by kernel_rfl)
def chgR:Rel ChgRaw Chg:=fun F w r d=>r.1=d.1∧r.2.1=d.2.1∧SlT F w compT r.2.2.1 d.2.2.1∧SlT F w compT r.2.2.2 d.2.2.2
theorem Z2o:chgR.st:=fun a b=>fun {F F' S w w'} h f hs=>⟨h.1,h.2.1,SlT.st h.2.2.1 f hs,SlT.st h.2.2.2 f hs⟩
def lostM (a b:List Comp):Int:=bNot .u8 (maskN a:Int) (maskN b:Int)
def newM (a l:List Comp):List Comp:=l.filter fun c=>!(findC a c.1).2
def chM (a l:List Comp):List Comp:=l.filter fun c=>(findC a c.1).2 && !decide ((findC a c.1).1=c)
def changeM (a b:Ent):Chg:=(b.1,lostM a.2 b.2,newM a.2 b.2,chM a.2 b.2)
theorem Zin (a l:List Comp):(newM a l).length≤l.length:=List.length_filter_le _ _
theorem Znc (a l:List Comp):(chM a l).length≤l.length:=List.length_filter_le _ _
theorem Zhg (a l:List Comp) (c:Comp):newM a (l ++ [c])=newM a l ++ if (findC a c.1).2=false then [c] else []:=by
 unfold newM
 rw [List.filter_append]
 congr 1
 by_cases h:(findC a c.1).2=true
 ·simp [List.filter,h]
 ·simp [List.filter,h]
theorem Zk7 (a l:List Comp) (c:Comp):chM a (l ++ [c])=chM a l ++ if (findC a c.1).2=true∧(findC a c.1).1≠c then [c] else []:=by
 unfold chM
 rw [List.filter_append]
 congr 1
 by_cases h:(findC a c.1).2=true
 ·by_cases hq:(findC a c.1).1=c
  ·simp [List.filter,h,hq]
  ·simp [List.filter,h,hq]
 ·simp [List.filter,h]
structure ChgI (n bd:Nat) (id lost:Int) (a l:List Comp) (lab:Nat→Nat) (sn ss:Sl) (w:World):Prop where
 blk:Blk w bd 86 [.int .u32 id,.int .u8 lost,.slice sn.a sn.n sn.c,.slice ss.a ss.n ss.c]
 lb:lab bd=3
 new:Own (fun k=>lab k=1) w 92 compT sn (newM a l)
 set:Own (fun k=>lab k=2) w 92 compT ss (chM a l)
 up:∀ k,lab k≠0→n≤k∧k < w.heap.size
theorem ChgI.fr0 {n bd:Nat} {id lost:Int} {a l:List Comp} {lab:Nat→Nat} {sn ss:Sl} (h:ChgI n bd id lost a l lab sn ss w) {w':World} (f:Fr None w w'):ChgI n bd id lost a l lab sn ss w' :=
 ⟨h.blk.fr f fun h=>h,h.lb,h.new.none f,h.set.none f,fun k e=>⟨(h.up k e).1,Nat.lt_of_lt_of_le (h.up k e).2 f.size⟩⟩
theorem Zbp {ok ok2:Nat→Prop} {r1 r2:Int × Sl} {e1 e2:Ent} (h1:SlT ok w compT r1.2 e1.2) (h2:SlT ok2 w compT r2.2 e2.2) (hid:r2.1=e2.1) (hm1:Small e1.2) (hm2:Small e2.2) (hc1:∀ c∈e1.2,CompOk c) (hc2:∀ c∈e2.2,CompOk c) {K:Res [.agg [.int .u32,.int .u8,.sl,.sl]]→W R}
  (hk:∀ r w',chgR (Up w.heap.size) w' r (changeM e1 e2)→Fr None w w'→K r Q w') :
  callW Tryz.prog Z7w [.agg ⟨[.int .u32 r1.1,.slice r1.2.a r1.2.n r1.2.c]⟩,.agg ⟨[.int .u32 r2.1,.slice r2.2.a r2.2.n r2.2.c]⟩] [.agg [.int .u32,.int .u8,.sl,.sl]] K Q w:=by
 refine Znw r1 r2 K Q w ?_
 unfold Zgv
 refine newI fun w1 B1 f1 s1=>newI fun w2 B2 f2 s2=>newI fun w3 B3 f3 s3=>?_
 have B1:=(B1.fr f2 fun h=>h).fr f3 fun h=>h
 have B2:=B2.fr f3 fun h=>h
 have f03:=(f1.then0 f2).then0 f3
 have l1:=h1.len
 have l2:=h2.len
 have hz:=f03.size
 refine joinI (fun s v=>∃ bd,s=some ⟨bd,0,none⟩∧w3.heap.size≤bd∧Blk v bd 86 [.int .u32 e2.1,.int .u8 (lostM e1.2 e2.2),.slice none 0 0,.slice none 0 0]∧Fr None w3 v) ?_ ?_
 ·have fd:Fr None w3 w3.drew:=(Fr.refl _ _).drew
  have B1:=B1.fr fd fun h=>h
  have B2:=B2.fr fd fun h=>h
  have f0d:=f03.then0 fd
  have g1:=h1.fr0 f0d
  have g2:=h2.fr0 f0d
  refine bothI ?_ (bothI ?_ ?_)
  ·refine fldI B2 (i:=0) (x:=r2.1) rfl (fldI B1 (i:=1) (x:=r1.2) rfl (fldI B2 (i:=1) (x:=r2.2) rfl ?_))
   refine Zt g1 hm1 hc1 fun w4 f4=>?_
   refine andI ((B2.fr f4 fun h=>h).rd (s:=.sl) (i:=1) (x:=r2.2) rfl) (andI ((B2.fr f4 fun h=>h).rd (s:=.int .u32) (i:=0) (x:=r2.1) rfl) ?_)
   refine Zt (g2.fr0 f4) hm2 hc2 fun w5 f5=>andI (((B2.fr f4 fun h=>h).fr f5 fun h=>h).rd (s:=.int .u32) (i:=0) (x:=r2.1) rfl) ?_
   have f35:=(fd.then0 f4).then0 f5
   have hs:=f35.size
   refine newI fun w6 B6 f6 s6=>stoAll B6 rfl rfl fun w7 B7 f7 s7=>⟨_,rfl,hs,?_,(f35.then0 f6).newer f7 fun k e=>by omega⟩
   rw [← hid]; exact B7
  ·refine fldI B2 (i:=0) (x:=r2.1) rfl (fldI B1 (i:=1) (x:=r1.2) rfl (fldI B2 (i:=1) (x:=r2.2) rfl ?_))
   refine Zt g1 hm1 hc1 fun w4 f4=>?_
   refine andI ((B2.fr f4 fun h=>h).rd (s:=.sl) (i:=1) (x:=r2.2) rfl) (andI ((B2.fr f4 fun h=>h).rd (s:=.int .u32) (i:=0) (x:=r2.1) rfl) ?_)
   have f34:=fd.then0 f4
   have hs:=f34.size
   refine newI fun w5 B5 f5 s5=>?_
   refine Zt ((g2.fr0 f4).fr0 f5) hm2 hc2 fun w6 f6=>andI ((((B2.fr f4 fun h=>h).fr f5 fun h=>h).fr f6 fun h=>h).rd (s:=.int .u32) (i:=0) (x:=r2.1) rfl) ?_
   refine stoAll (B5.fr f6 fun h=>h) rfl rfl fun w7 B7 f7 s7=>⟨_,rfl,hs,?_,((f34.then0 f5).then0 f6).newer f7 fun k e=>by omega⟩
   rw [← hid]; exact B7
  ·refine fldI B2 (i:=0) (x:=r2.1) rfl (fldI B1 (i:=1) (x:=r1.2) rfl (fldI B2 (i:=1) (x:=r2.2) rfl ?_))
   have hs:=fd.size
   refine newI fun w4 B4 f4 s4=>?_
   refine Zt (g1.fr0 f4) hm1 hc1 fun w5 f5=>?_
   have B25:=(B2.fr f4 fun h=>h).fr f5 fun h=>h
   refine andI (B25.rd (s:=.sl) (i:=1) (x:=r2.2) rfl) (andI (B25.rd (s:=.int .u32) (i:=0) (x:=r2.1) rfl) ?_)
   refine Zt ((g2.fr0 f4).fr0 f5) hm2 hc2 fun w6 f6=>andI ((B25.fr f6 fun h=>h).rd (s:=.int .u32) (i:=0) (x:=r2.1) rfl) ?_
   refine stoAll ((B4.fr f5 fun h=>h).fr f6 fun h=>h) rfl rfl fun w7 B7 f7 s7=>⟨_,rfl,hs,?_,(((fd.then0 f4).then0 f5).then0 f6).newer f7 fun k e=>by have:w3.drew.heap.size=w3.heap.size:=rfl; omega⟩
   rw [← hid]; exact B7
 rintro s v0 ⟨bd,rfl,hbd,B0,f3v⟩
 refine fldI (B2.fr f3v fun h=>h) (i:=1) (x:=r2.2) rfl ?_
 have hbl:=B0.lt
 refine forI (N:=r2.2.n) (fun s:Int=>s) (fun j i v=>i=(j:Int)∧(∃ lab sn ss,ChgI w3.heap.size bd e2.1 (lostM e1.2 e2.2) e1.2 (e2.2.take j) lab sn ss v)∧Fr None w3 v)
  ⟨rfl,⟨fun k=>if k=bd then 3 else 0,⟨none,0,0⟩,⟨none,0,0⟩,B0,by simp,Own.nil _ _ _ _,Own.nil _ _ _ _,fun k e=>by
   by_cases hkb:k=bd
   ·subst hkb; exact ⟨hbd,hbl⟩
   ·exact absurd (if_neg hkb) e⟩,f3v⟩ (fun j s w' h=>h.1) ?_ ?_
 ·rintro j i v K' hj ⟨rfl,⟨lab,sn,ss,D⟩,fv⟩ - hK
  refine (h2.fr0 (f03.then0 fv)).get rfl rfl (by omega) fun c hc=>?_
  refine newI fun v1 C1 g1 t1=>stoAll C1 rfl rfl fun v2 C2 g2 t2=>?_
  have gv2:Fr None v v2:=g1.newer g2 fun k e=>by omega
  have fv2:=fv.then0 gv2
  refine fldI (B1.fr fv2 fun h=>h) (i:=1) (x:=r1.2) rfl (fldI C2 (i:=0) (x:=c.1) rfl ?_)
  refine Zeo (h1.fr0 (f03.then0 fv2)) (Nat.le_trans hm1 (by decide)) fun v3 g3=>?_
  have C3:=C2.fr g3 fun h=>h
  refine newI fun v4 C4 g4 t4=>stoAll C4 rfl rfl fun v5 C5 g5 t5=>?_
  have g35:Fr None v3 v5:=g4.newer g5 fun k e=>by omega
  have C35:=C3.fr g35 fun h=>h
  have gv5:=(gv2.then0 g3).then0 g35
  have D5:=D.fr0 gv5
  have fv5:=fv.then0 gv5
  have hs5:=gv5.size
  have hcl:c∈e2.2:=List.mem_of_getElem? hc
  have eN:=Zhg e1.2 (e2.2.take j) c
  have eS:=Zk7 e1.2 (e2.2.take j) c
  rw [← Z8 hc] at eN eS
  have lN:(newM e1.2 (e2.2.take j)).length≤1048576:=Nat.le_trans (Zin _ _) (Nat.le_trans (by simp; omega) hm2)
  have lS:(chM e1.2 (e2.2.take j)).length≤1048576:=Nat.le_trans (Znc _ _) (Nat.le_trans (by simp; omega) hm2)
  generalize findC e1.2 c.1=fc at C5 eN eS
  refine joinI (fun (_:Unit) v=>(∃ lab sn ss,ChgI w3.heap.size bd e2.1 (lostM e1.2 e2.2) e1.2 (e2.2.take (j+1)) lab sn ss v)∧Fr None w3 v) ?_ ?_
  ·refine condI (fun hb=>?_) fun hb=>?_
   ·have hb:fc.2=false:=by simpa using hb
    refine ptrI (fldI D5.blk (i:=2) (x:=sn) rfl (aggI C35 (x:=c) rfl ?_))
    refine appLab (x:=c) Z26 rfl D5.new (by omega) (by omega) fun r v6 o6 g6=>?_
    have hs6:=g6.size
    have B6:=D5.blk.fr g6 fun e=>by have:=D5.lb; omega
    refine ptrI ?_
    rw [add_lit]
    refine setI (i:=2) B6 (by simp) rfl fun v7 B7 g7 t7=>?_
    have nb:∀ k,relab lab v5.heap.size v6.heap.size 1 k≠3→k≠bd:=fun k e e2=>by
     subst e2
     rw [Z16 (D5.blk.lt)] at e
     exact e D5.lb
    refine ⟨⟨relab lab v5.heap.size v6.heap.size 1,r,ss,B7,?_,?_,?_,fun k e=>?_⟩,?_⟩
    ·rw [Z16 D5.blk.lt]; exact D5.lb
    ·rw [eN,if_pos hb]
     exact o6.fr g7 fun k e=>nb k (by omega)
    ·rw [eS,if_neg (by simp [hb]),List.append_nil]
     have:=St.other (A:=fun F w=>Own F w 92 compT ss (chM e1.2 (e2.2.take j))) Own.st (c:=1) D5.set g6 (by decide)
     exact this.fr g7 fun k e=>nb k (by omega)
    ·rcases Z82 e with e | e
     ·have:=D5.up k e.1; omega
     ·have:=fv5.size; omega
    ·refine (fv5.newer g6 fun k e=>?_).newer g7 fun k e=>by omega
     exact (D5.up k (by omega)).1
   ·have hb:fc.2=true:=by simpa using hb
    refine aggI C5 (x:=fc.1) rfl (aggI C35 (x:=c) rfl ?_)
    refine neqI Zkb (Zkc fc.1 c) ?_
    refine joinI (fun (_:Unit) v=>(∃ lab sn ss,ChgI w3.heap.size bd e2.1 (lostM e1.2 e2.2) e1.2 (e2.2.take (j+1)) lab sn ss v)∧Fr None w3 v) ?_ fun _ v h=>h
    refine condI (fun hd=>?_) fun hd=>?_
    ·have hd:fc.1≠c:=by simpa using hd
     refine ptrI (fldI D5.blk (i:=3) (x:=ss) rfl (aggI C35 (x:=c) rfl ?_))
     refine appLab (x:=c) Z26 rfl D5.set (by omega) (by omega) fun r v6 o6 g6=>?_
     have hs6:=g6.size
     have B6:=D5.blk.fr g6 fun e=>by have:=D5.lb; omega
     refine ptrI ?_
     rw [add_lit]
     refine setI (i:=3) B6 (by simp) rfl fun v7 B7 g7 t7=>?_
     have nb:∀ k,relab lab v5.heap.size v6.heap.size 2 k≠3→k≠bd:=fun k e e2=>by
      subst e2
      rw [Z16 (D5.blk.lt)] at e
      exact e D5.lb
     refine ⟨⟨relab lab v5.heap.size v6.heap.size 2,sn,r,B7,?_,?_,?_,fun k e=>?_⟩,?_⟩
     ·rw [Z16 D5.blk.lt]; exact D5.lb
     ·rw [eN,if_neg (by simp [hb]),List.append_nil]
      have:=St.other (A:=fun F w=>Own F w 92 compT sn (newM e1.2 (e2.2.take j))) Own.st (c:=2) D5.new g6 (by decide)
      exact this.fr g7 fun k e=>nb k (by omega)
     ·rw [eS,if_pos ⟨hb,hd⟩]
      exact o6.fr g7 fun k e=>nb k (by omega)
     ·rcases Z82 e with e | e
      ·have:=D5.up k e.1; omega
      ·have:=fv5.size; omega
     ·refine (fv5.newer g6 fun k e=>?_).newer g7 fun k e=>by omega
      exact (D5.up k (by omega)).1
    ·have hd:fc.1=c:=by simpa using hd
     refine ⟨⟨lab,sn,ss,D5.blk,D5.lb,?_,?_,D5.up⟩,fv5⟩
     ·rw [eN,if_neg (by simp [hb]),List.append_nil]; exact D5.new
     ·rw [eS,if_neg (fun h=>h.2 hd),List.append_nil]; exact D5.set
  ·rintro _ v6 ⟨hD,f6⟩
   exact hK _ _ ⟨wsucc hj (by omega),hD,f6⟩
 ·rintro i v ⟨_,⟨lab,sn,ss,D⟩,fv⟩
  rw [List.take_of_length_le (by omega)] at D
  have hs:=fv.size
  refine ptrI (aggI D.blk (x:=((e2.1,lostM e1.2 e2.2,sn,ss):ChgRaw)) rfl ?_)
  refine stoAll (B3.fr fv fun h=>h) rfl rfl fun v1 C1 g1 t1=>aggI C1 (x:=((e2.1,lostM e1.2 e2.2,sn,ss):ChgRaw)) rfl ?_
  refine hk _ v1 ⟨rfl,rfl,?_,?_⟩ ((f03.then0 fv).newer g1 fun k e=>by omega)
  ·exact SlT.st D.new.sl g1 fun k hk e=>by
    have:=D.up k (by omega)
    exact ⟨by omega,show w.heap.size≤k by omega⟩
  ·exact SlT.st D.set.sl g1 fun k hk e=>by
    have:=D.up k (by omega)
    exact ⟨by omega,show w.heap.size≤k by omega⟩
end Go.Proofs.YtchhhjlpnecjkaaGreat
namespace Go.Proofs.YtchhhjlpnecjkaaGreat
open Go Go.RowKit Go.Proofs.YtchhhjlpnecjkaaGreat.Den
variable {R:Type} {Q:R→World→Prop} {w:World}
theorem Zqu {k:Int} {K:Res [.sc .bool]→W R} (hk:K (decide (k < 5)) Q w):callW Tryz.prog Z54 [.int .u8 k] [.sc .bool] K Q w:=by
 refine Zf4 _ K Q w ?_
 unfold Z8i
 exact hk
def fewM (l:List Ent):Int:=l.foldl (fun n e=>IntKind.wrap .i64 (n+(e.2.length:Int))) (l.length:Int)
theorem Zqt {ok:Nat→Prop} {s:Sl} {raws:List (Int × Sl)} {L:List Ent} (hS:SlT ok w entT s raws) (hE:EntsR ok w raws L) (hm:L.length≤9223372036854775807) {K:Res [.sc .bool]→W R} (hk:∀ w',Fr None w w'→K (decide (fewM L≤400)) Q w') :
  callW Tryz.prog Z5s [.slice s.a s.n s.c] [.sc .bool] K Q w:=by
 refine Zgo s K Q w ?_
 unfold Z9n
 have hlen:=hS.len
 have hel:=hE.len
 have hsn:(s.n:Int)=(L.length:Int):=by omega
 refine forI (N:=s.n) (fun s:Int × Int=>s.2) (fun j s w'=>s=((L.take j).foldl (fun n e=>IntKind.wrap .i64 (n+(e.2.length:Int))) (L.length:Int),(j:Int))∧Fr None w w') ⟨by rw [hsn]; rfl,Fr.refl _ _⟩ (fun j s w' h=>by rw [h.1]) ?_ ?_
 ·rintro j s1 w1 K' hj ⟨rfl,f1⟩ - hK
  obtain ⟨e,he⟩:∃ e,L[j]?=some e:=⟨_,List.getElem?_eq_getElem (by omega)⟩
  obtain ⟨r1,hr1,ha1,ha2⟩:=hE.get he
  have hn:=ha2.len
  have ef:(L.take (j+1)).foldl (fun n e=>IntKind.wrap .i64 (n+(e.2.length:Int))) (L.length:Int)=IntKind.wrap .i64 ((L.take j).foldl (fun n e=>IntKind.wrap .i64 (n+(e.2.length:Int))) (L.length:Int)+(e.2.length:Int)):=by rw [Z8 he,List.foldl_append]; rfl
  refine (hS.fr0 f1).get rfl rfl (by omega) fun y hy=>?_
  rw [hr1] at hy
  cases hy
  refine newI fun w2 B2 f2 s2=>stoAll B2 rfl rfl fun w3 B3 f3 s3=>fldI B3 (i:=1) (x:=r1.2) rfl ?_
  refine hK _ _ ⟨?_,f1.then0 (f2.newer f3 fun k e=>by omega)⟩
  rw [wsucc hj (by omega),ef,hn]
 ·rintro s1 w1 ⟨rfl,f1⟩
  rw [List.take_of_length_le (by omega)]
  exact hk w1 f1
theorem Zqw {id:Int} (hid:IdOk id) {K:Res [.sc (.int .i64)]→W R} (hk:K (genOf id) Q w):callW Tryz.prog Z5r [.int .u32 id] [.sc (.int .i64)] K Q w:=by
 refine Zgn _ K Q w ?_
 unfold Z9m
 obtain ⟨h0,h1⟩:=hid
 have:IntKind.wrap .i64 (Int.tdiv (IntKind.wrap .i64 id) 1024)=genOf id:=by rw [w64 (x:=id) (by omega),Int.tdiv_eq_ediv_of_nonneg h0,w64 (by omega)]; rfl
 rw [this]
 exact hk
def toldAll (l:List Comp):Bool:=l.all fun c=>decide (c.1 < 5)
def badD (prev:Int) (first:Bool) (e:Ent):Prop:=genOf e.1 < 1∨4194303 < genOf e.1∨(first=false∧e.1≤prev)
instance (prev:Int) (first:Bool) (e:Ent):Decidable (badD prev first e):=by unfold badD; infer_instance
def formD:Int→Bool→List Ent→Int
 | _,_,[]=>0
 | prev,first,e :: r=>if badD prev first e then 4 else if listE e.2≠0 then listE e.2 else if toldAll e.2=false then 4 else formD e.1 false r
theorem Z5x {ok:Nat→Prop} {s:Sl} {raws:List (Int × Sl)} {L:List Ent} (hS:SlT ok w entT s raws) (hE:EntsR ok w raws L) (hm:L.length≤9223372036854775807) (hL:∀ e∈L,IdOk e.1∧e.2.length≤9223372036854775807∧∀ c∈e.2,CompOk c) {K:Res [.sc (.int .i64)]→W R} (hk:∀ w',Fr None w w'→K (formD 0 true L) Q w') :
  callW Tryz.prog Zu [.slice s.a s.n s.c] [.sc (.int .i64)] K Q w:=by
 refine Zfa s K Q w ?_
 unfold Z8o
 have hlen:=hS.len
 have hel:=hE.len
 refine forI (N:=s.n) (fun s:Int=>s) (fun j i w'=>i=(j:Int)∧Fr None w w'∧formD 0 true L=formD (lastE L j) (j == 0) (L.drop j)) ⟨rfl,Fr.refl _ _,rfl⟩ (fun j s w' h=>h.1) ?_ ?_
 ·rintro j i w1 K' hj ⟨rfl,f1,hf⟩ - hK
  obtain ⟨e,he⟩:∃ e,L[j]?=some e:=⟨_,List.getElem?_eq_getElem (by omega)⟩
  obtain ⟨r1,hr1,ha1,ha2⟩:=hE.get he
  obtain ⟨hid,hsm,hco⟩:=hL e (List.mem_of_getElem? he)
  have hdrop:L.drop j=e :: L.drop (j+1):=by
   obtain ⟨hl,hg⟩:=List.getElem?_eq_some_iff.1 he
   rw [List.drop_eq_getElem_cons hl,hg]
  rw [hdrop,formD] at hf
  rw [hf] at hk
  refine (hS.fr0 f1).get rfl rfl (by omega) fun y hy=>?_
  rw [hr1] at hy
  cases hy
  refine newI fun w2 B2 f2 s2=>stoAll B2 rfl rfl fun w3 B3 f3 s3=>fldI B3 (i:=0) (x:=r1.1) rfl ?_
  have f13:Fr None w1 w3:=f2.newer f3 fun k e=>by omega
  have f03:=f1.then0 f13
  rw [ha1]
  refine Zqw hid ?_
  have fd:Fr None w3 w3.drew:=(Fr.refl _ _).drew
  have f0d:=f03.then0 fd
  have Bd:=B3.fr fd fun h=>h
  refine joinI (fun z w'=>z=decide (badD (lastE L j) (j == 0) e)∧w'=w3.drew) ?_ ?_
  ·refine condD (fun h=>⟨(decide_eq_true (.inl h)).symm,rfl⟩) fun h1=>condD (fun h=>⟨(decide_eq_true (.inr (.inl h))).symm,rfl⟩) fun h2=>?_
   refine condD (fun h=>?_) fun h=>⟨?_,rfl⟩
   ·obtain ⟨q,rfl⟩:∃ q,j=q+1:=⟨j - 1,by omega⟩
    refine fldI Bd (i:=0) (x:=r1.1) rfl ?_
    obtain ⟨e0,he0⟩:∃ e0,L[q]?=some e0:=⟨_,List.getElem?_eq_getElem (by omega)⟩
    obtain ⟨r0,hr0,hb1,_⟩:=hE.get he0
    have hq:IntKind.wrap .i64 (((q+1:Nat):Int) - 1)=(q:Int):=by rw [w64 (by omega)]; omega
    rw [hq]
    refine (hS.fr0 f0d).readK rfl rfl hr0 fun ad had=>(had _ (hS.fr0 f0d)).fld (i:=0) (s:=.int .u32) (y:=r0.1) rfl ⟨?_,rfl⟩
    have hl:lastE L (q+1)=e0.1:=by show ((L[q]?).map (·.1)).getD 0=e0.1; rw [he0]; rfl
    rw [hl,ha1,hb1]
    unfold badD
    simp [h1,h2]
   ·have:j=0:=by omega
    subst this
    unfold badD
    simp [h1,h2]
  rintro z w4 ⟨rfl,rfl⟩
  refine condD (fun h=>?_) fun h=>?_
  ·rw [if_pos h] at hk
   exact hk _ f0d
  rw [if_neg h] at hk hf
  refine fldI Bd (i:=1) (x:=r1.2) rfl (Zp8 (ha2.fr0 f0d) hsm hco fun w5 f5=>?_)
  have f05:=f0d.then0 f5
  refine condN (fun hne=>?_) fun heq=>?_
  ·rw [if_pos hne] at hk
   exact hk w5 f05
  rw [if_neg (by omega)] at hk hf
  have hcl:=ha2.len
  refine fldI (Bd.fr f5 fun h=>h) (i:=1) (x:=r1.2) rfl ?_
  refine forI (N:=r1.2.n) (fun s:Int=>s) (fun i t w'=>t=(i:Int)∧Fr None w w'∧toldAll (e.2.take i)=true) ⟨rfl,f05,rfl⟩ (fun j s w' h=>h.1) ?_ ?_
  ·rintro i t w6 K2 hi ⟨rfl,f6,hno⟩ - hK2
   refine (ha2.fr0 f6).get rfl rfl (by omega) fun c hc=>?_
   refine newI fun w7 B7 f7 s7=>stoAll B7 rfl rfl fun w8 B8 f8 s8=>fldI B8 (i:=0) (x:=c.1) rfl (Zqu ?_)
   have f68:Fr None w6 w8:=f7.newer f8 fun k e=>by omega
   by_cases hk5:c.1 < 5
   ·refine condF (by simp [hk5]) (hK2 _ _ ⟨wsucc hi (by omega),f6.then0 f68,?_⟩)
    unfold toldAll at hno ⊢
    rw [Z8 hc,List.all_append,hno]
    simp [hk5]
   ·refine condT (by simp [hk5]) ?_
    have:toldAll e.2=false:=by
     unfold toldAll
     rw [List.all_eq_false]
     exact ⟨c,List.mem_of_getElem? hc,by simpa using hk5⟩
    rw [if_pos this] at hk
    exact hk w8 (f6.then0 f68)
  ·rintro t w6 ⟨rfl,f6,hno⟩
   rw [List.take_of_length_le (by omega)] at hno
   rw [if_neg (by rw [hno]; decide)] at hf
   have hlast:lastE L (j+1)=e.1:=by
    show ((L[j]?).map (·.1)).getD 0=e.1
    rw [he]; rfl
   exact hK _ _ ⟨wsucc hj (by omega),f6,by rw [hlast]; exact hf⟩
 ·rintro i w1 ⟨rfl,f1,hf⟩
  rw [List.drop_of_length_le (by omega),formD] at hf
  have hk:=hk w1 f1
  rw [hf] at hk
  exact hk
theorem Zwm {k:Int} (h:0≤k∧k≤5):toldM k=decide (k < 5):=by
 have:k=0∨k=1∨k=2∨k=3∨k=4∨k=5:=by omega
 rcases this with rfl | rfl | rfl | rfl | rfl | rfl <;> rfl
theorem Zs8 {l:List Comp} (h:listE l=0):secretM l=!toldAll l:=by
 unfold secretM toldAll
 rw [List.not_all_eq_any_not]
 have hc:=(Z1r.1 h).1
 clear h
 induction l with
 | nil=>rfl
 | cons c r ih =>
  rw [List.any_cons,List.any_cons,ih fun x hx=>hc x (List.mem_cons_of_mem _ hx),Zwm (Z2x (hc c List.mem_cons_self))]
theorem Zap:∀ (L:List Ent) (prev:Int) (first:Bool),(first=true→prev=0)→formM prev L=formD prev first L
 | [],_,_,_=>rfl
 | e :: r,prev,first,h=>by
  have ih:=Zap r e.1 false (fun h=>by cases h)
  rw [formM,formD,ih]
  unfold oneM
  by_cases hg:genOf e.1 < 1∨4194303 < genOf e.1
  ·rw [if_pos hg]
   have hb:badD prev first e:=by
    rcases hg with h | h
    ·exact .inl h
    ·exact .inr (.inl h)
   rw [if_pos hb]
   split
   ·rfl
   ·rfl
  ·rw [if_neg hg]
   have he:(e.1≤prev)↔badD prev first e:=by
    constructor
    ·intro hle
     cases first with
     | false=>exact .inr (.inr ⟨rfl,hle⟩)
     | true =>
      have:=h rfl
      refine .inl ?_
      unfold genOf
      omega
    ·rintro (h1 | h1 | h1)
     ·exact absurd (.inl h1) hg
     ·exact absurd (.inr h1) hg
     ·exact h1.2
   by_cases hle:e.1≤prev
   ·rw [if_pos hle,if_pos (he.1 hle)]
   ·rw [if_neg hle,if_neg fun x=>hle (he.2 x)]
    by_cases hl:listE e.2=0
    ·rw [if_neg (c:=listE e.2≠0) (fun x=>x hl),if_neg (c:=listE e.2≠0) (fun x=>x hl),Zs8 hl]
     cases toldAll e.2 <;> rfl
    ·rw [if_pos hl,if_pos hl]
end Go.Proofs.YtchhhjlpnecjkaaGreat
namespace Go.Proofs.YtchhhjlpnecjkaaGreat
open Go Go.RowKit Go.Proofs.YtchhhjlpnecjkaaGreat.Den
def hasE (L:List Ent) (id:Int):Bool:=L.any fun e=>e.1 == id
def goneM (was now:List Ent):List Int:=(was.filter fun e=>!hasE now e.1).map (·.1)
def comeM (was now:List Ent):List Ent:=now.filter fun e=>!hasE was e.1
def nothingM (c:Chg):Bool:=decide (c.2.1=0∧c.2.2.1.length=0∧c.2.2.2.length=0)
def chgOne (was:List Ent) (e:Ent):Option Chg:=match was.find? (fun a=>a.1 == e.1) with
 | none=>none
 | some a=>if nothingM (changeM a e)=true then none else some (changeM a e)
def chgsM (was now:List Ent):List Chg:=now.filterMap (chgOne was)
def goneP (was now:List Ent):List Int:=(was.filter fun e=>!hasE now e.1).map (·.1)
theorem Z2y {L:List Ent} {id:Int}:hasE L id=true↔∃ e∈L,e.1=id:=by simp [hasE]
theorem Z4x {L:List Ent} {id:Int}:hasE L id=false↔∀ e∈L,e.1≠id:=by simp [hasE]
structure FormOk (L:List Ent):Prop where
 rise:L.Pairwise fun a b=>a.1 < b.1
 one:∀ e∈L,oneM e=0
 told:∀ e∈L,secretM e.2=false
 pos:∀ e∈L,0 < e.1
theorem Zss:∀ (L:List Ent) (prev:Int),formM prev L=0↔(∀ e∈L,prev < e.1)∧L.Pairwise (fun a b=>a.1 < b.1)∧(∀ e∈L,oneM e=0)∧(∀ e∈L,secretM e.2=false)
 | [],_=>by simp [formM]
 | e :: r,prev=>by
  have ih:=Zss r e.1
  rw [formM]
  by_cases h1:e.1≤prev
  ·rw [if_pos h1]
   refine ⟨fun h=>absurd h (by decide),fun h=>absurd (h.1 e List.mem_cons_self) (by omega)⟩
  ·rw [if_neg h1]
   by_cases h2:oneM e=0
   ·rw [if_neg (c:=oneM e≠0) (fun x=>x h2)]
    by_cases h3:secretM e.2=true
    ·rw [if_pos h3]
     refine ⟨fun h=>absurd h (by decide),fun h=>absurd (h.2.2.2 e List.mem_cons_self) (by rw [h3]; decide)⟩
    ·rw [if_neg h3,ih]
     have h3:secretM e.2=false:=by simpa using h3
     constructor
     ·rintro ⟨a,b,c,d⟩
      refine ⟨fun x hx=>?_,List.pairwise_cons.2 ⟨a,b⟩,fun x hx=>?_,fun x hx=>?_⟩
      ·rcases List.mem_cons.1 hx with rfl | hx
       ·omega
       ·have:=a x hx; omega
      ·rcases List.mem_cons.1 hx with rfl | hx
       ·exact h2
       ·exact c x hx
      ·rcases List.mem_cons.1 hx with rfl | hx
       ·exact h3
       ·exact d x hx
     ·rintro ⟨a,b,c,d⟩
      have hb:=List.pairwise_cons.1 b
      exact ⟨hb.1,hb.2,fun x hx=>c x (List.mem_cons_of_mem _ hx),fun x hx=>d x (List.mem_cons_of_mem _ hx)⟩
   ·rw [if_pos h2]
    exact ⟨fun h=>absurd h h2,fun h=>absurd (h.2.2.1 e List.mem_cons_self) h2⟩
theorem formOk {L:List Ent}:formM 0 L=0↔FormOk L:=by
 rw [Zss]
 exact ⟨fun ⟨a,b,c,d⟩=>⟨b,c,d,a⟩,fun ⟨a,b,c,d⟩=>⟨d,a,b,c⟩⟩
theorem FormOk.list {L:List Ent} (h:FormOk L) {e:Ent} (he:e∈L):listE e.2=0:=by
 have:=h.one e he
 unfold oneM at this
 split at this
 ·exact absurd this (by decide)
 ·exact this
theorem Zv3 {L:List Ent} (hs:L.Pairwise fun a b=>a.1 < b.1) {i:Nat} {a:Ent} (ha:L[i]?=some a):L.find? (fun x=>x.1 == a.1)=some a:=by
 rw [List.find?_eq_some_iff_getElem]
 obtain ⟨hl,hg⟩:=List.getElem?_eq_some_iff.1 ha
 refine ⟨by simp,i,hl,hg,fun q hq=>?_⟩
 have:=Z9r hs hq (List.getElem?_eq_getElem (by omega)) ha
 simp
 omega
theorem Zie {was now:List Ent} {i:Nat} {a:Ent} (ha:was[i]?=some a):goneP (was.take (i+1)) now=goneP (was.take i) now ++ if hasE now a.1=false then [a.1] else []:=by
 unfold goneP
 rw [Z8 ha,List.filter_append,List.map_append]
 congr 1
 by_cases h:hasE now a.1=true
 ·simp [List.filter,h]
 ·simp [List.filter,h]
theorem Zia {was now:List Ent} {i:Nat} {a:Ent} (ha:now[i]?=some a):comeM was (now.take (i+1))=comeM was (now.take i) ++ if hasE was a.1=false then [a] else []:=by
 unfold comeM
 rw [Z8 ha,List.filter_append]
 congr 1
 by_cases h:hasE was a.1=true
 ·simp [List.filter,h]
 ·simp [List.filter,h]
theorem Zi9 {was now:List Ent} {i:Nat} {a:Ent} (ha:now[i]?=some a):chgsM was (now.take (i+1))=chgsM was (now.take i) ++ match chgOne was a with
  | some c=>[c]
  | none=>[]:=by
 unfold chgsM
 rw [Z8 ha,List.filterMap_append]
 congr 1
 cases h:chgOne was a <;> simp [h]
structure Side (was now:List Ent) (i k:Nat):Prop where
 lt:∀ (p q:Nat) a b,p < i→k≤q→was[p]?=some a→now[q]?=some b→a.1 < b.1
 gt:∀ (p q:Nat) a b,i≤p→q < k→was[p]?=some a→now[q]?=some b→b.1 < a.1
theorem Side.zero (was now:List Ent):Side was now 0 0:=⟨fun p q a b h=>absurd h (by omega),fun p q a b h h2=>absurd h2 (by omega)⟩
section
variable {was now:List Ent} {i k:Nat}
theorem Side.left (h:Side was now i k) (_hw:was.Pairwise fun a b=>a.1 < b.1) (hn:now.Pairwise fun a b=>a.1 < b.1) {a:Ent} (ha:was[i]?=some a) (hb:∀ b,now[k]?=some b→a.1 < b.1):Side was now (i+1) k∧hasE now a.1=false:=by
 have key:∀ (q:Nat) b,k≤q→now[q]?=some b→a.1 < b.1:=fun q b hq hb2=>by
  rcases Nat.lt_or_ge k q with h1 | h1
  ·obtain ⟨c,hc⟩:∃ c,now[k]?=some c:=⟨_,List.getElem?_eq_getElem (by have:=(List.getElem?_eq_some_iff.1 hb2).1; omega)⟩
   have:=hb c hc
   have:=Z9r hn h1 hc hb2
   omega
  ·have:q=k:=by omega
   subst this
   exact hb b hb2
 refine ⟨⟨fun p q x y hp hq hx hy=>?_,fun p q x y hp hq hx hy=>h.gt p q x y (by omega) hq hx hy⟩,Z4x.2 fun e he=>?_⟩
 ·rcases Nat.lt_or_ge p i with h1 | h1
  ·exact h.lt p q x y h1 hq hx hy
  ·have:p=i:=by omega
   subst this
   rw [ha] at hx; cases hx
   exact key q y hq hy
 ·obtain ⟨q,hq⟩:=List.mem_iff_getElem?.1 he
  rcases Nat.lt_or_ge q k with h1 | h1
  ·have:=h.gt i q a e (Nat.le_refl _) h1 ha hq; omega
  ·have:=key q e h1 hq; omega
theorem Side.right (h:Side was now i k) (hw:was.Pairwise fun a b=>a.1 < b.1) (_hn:now.Pairwise fun a b=>a.1 < b.1) {b:Ent} (hb:now[k]?=some b) (ha:∀ a,was[i]?=some a→b.1 < a.1):Side was now i (k+1)∧hasE was b.1=false:=by
 have key:∀ (p:Nat) a,i≤p→was[p]?=some a→b.1 < a.1:=fun p a hp ha2=>by
  rcases Nat.lt_or_ge i p with h1 | h1
  ·obtain ⟨c,hc⟩:∃ c,was[i]?=some c:=⟨_,List.getElem?_eq_getElem (by have:=(List.getElem?_eq_some_iff.1 ha2).1; omega)⟩
   have:=ha c hc
   have:=Z9r hw h1 hc ha2
   omega
  ·have:p=i:=by omega
   subst this
   exact ha a ha2
 refine ⟨⟨fun p q x y hp hq hx hy=>h.lt p q x y hp (by omega) hx hy,fun p q x y hp hq hx hy=>?_⟩,Z4x.2 fun e he=>?_⟩
 ·rcases Nat.lt_or_ge q k with h1 | h1
  ·exact h.gt p q x y hp h1 hx hy
  ·have:q=k:=by omega
   subst this
   rw [hb] at hy; cases hy
   exact key p x hp hx
 ·obtain ⟨p,hp⟩:=List.mem_iff_getElem?.1 he
  rcases Nat.lt_or_ge p i with h1 | h1
  ·have:=h.lt p k e b h1 (Nat.le_refl _) hp hb; omega
  ·have:=key p e h1 hp; omega
theorem Side.both (h:Side was now i k) (hw:was.Pairwise fun a b=>a.1 < b.1) (hn:now.Pairwise fun a b=>a.1 < b.1) {a b:Ent} (ha:was[i]?=some a) (hb:now[k]?=some b) (hab:a.1=b.1):Side was now (i+1) (k+1)∧hasE now a.1=true∧hasE was b.1=true∧chgOne was b=if nothingM (changeM a b)=true then none else some (changeM a b):=by
 refine ⟨⟨fun p q x y hp hq hx hy=>?_,fun p q x y hp hq hx hy=>?_⟩,Z2y.2 ⟨b,List.mem_of_getElem? hb,hab.symm⟩,Z2y.2 ⟨a,List.mem_of_getElem? ha,hab⟩,?_⟩
 ·have h1:=Z9r hn (show k < q by omega) hb hy
  rcases Nat.lt_or_ge p i with h2 | h2
  ·have:=Z9r hw h2 hx ha; omega
  ·have:p=i:=by omega
   subst this
   rw [ha] at hx; cases hx
   omega
 ·have h1:=Z9r hw (show i < p by omega) ha hx
  rcases Nat.lt_or_ge q k with h2 | h2
  ·have:=Z9r hn h2 hy hb; omega
  ·have:q=k:=by omega
   subst this
   rw [hb] at hy; cases hy
   omega
 ·unfold chgOne
  rw [← hab,Zv3 hw ha]
end
end Go.Proofs.YtchhhjlpnecjkaaGreat
namespace Go.Proofs.YtchhhjlpnecjkaaGreat
open Go Go.RowKit Go.Proofs.YtchhhjlpnecjkaaGreat.Den
variable {R:Type} {Q:R→World→Prop} {w:World}
theorem Zcx {ok:Nat→Prop} {s:Sl} {l:List Comp} (hS:SlT ok w compT s l) (hm:l.length * 16≤140737488355328) {K:Res [.sc .sl]→W R} (hk:∀ r w',Own (Up w.heap.size) w' 92 compT r l→Fr None w w'→K r Q w') :
  callW Tryz.prog Z37 [.slice s.a s.n s.c] [.sc .sl] K Q w:=by
 refine Zfi _ K Q w ?_
 unfold Z8w
 rcases hS.at_ with rfl | ⟨b,o,ha,_⟩
 ·cases hsa:s.a with
  | none=>exact condT rfl (hk _ w (Own.nil _ _ _ _) (Fr.refl _ _))
  | some a =>
   refine condF rfl ?_
   rw [← hsa]
   refine newI fun w1 B1 f1 s1=>?_
   have own:=Own.mk' (S:=Up w.heap.size) (w:=w1) (E:=92) (t:=compT) (l:=[]) (g:=w.heap.size) (c:=0) (cur:=⟨[]⟩) (Nat.le_refl _) B1 (Nat.le_refl _) (Nat.zero_le _) (by simp) (by simp)
   refine appI (s:=⟨some ⟨w.heap.size,0,none⟩,0,0⟩) (s2:=s) (S':=Up w.heap.size) Z26 own (hS.fr0 f1) (by simp) (by simp) (fun _ h=>h) (by show _≤_; omega) fun r w2 o2 f2 s2=>hk r w2 (by simpa using o2) (f1.newer f2 (fun x e=>own.own x e))
 ·rw [ha]
  refine condF rfl ?_
  rw [← ha]
  exact cloneI Z26 hS hm (by omega) hk
end Go.Proofs.YtchhhjlpnecjkaaGreat
namespace Go.Proofs.YtchhhjlpnecjkaaGreat
open Go Go.RowKit Go.Proofs.YtchhhjlpnecjkaaGreat.Den
variable {R:Type} {Q:R→World→Prop} {w:World}
def zigM (n:Int):Int:=if 0≤n then 2 * n else -2 * n - 1
theorem xor_0 {x:Int} (h0:0≤x) (h1:x≤18446744073709551615):bXor .u64 x 0=x:=by
 unfold bXor
 rw [BitVec.toNat_xor,BitVec.toNat_ofInt,BitVec.toNat_ofInt]
 have e1:(0 % ((2 ^ IntKind.bits .u64:Nat):Int)).toNat=0:=by decide
 have e2:(x % ((2 ^ IntKind.bits .u64:Nat):Int)).toNat=x.toNat:=by
  have:((2 ^ IntKind.bits .u64:Nat):Int)=18446744073709551616:=by decide
  rw [this]; omega
 rw [e1,e2,Nat.xor_zero,IntKind.wrap_u64]
 omega
theorem Zyj {x:Int} (h0:0≤x) (h1:x≤18446744073709551615):bXor .u64 x 18446744073709551615=18446744073709551615 - x:=by
 change IntKind.wrap .u64 (((BitVec.ofInt 64 x ^^^ BitVec.ofInt 64 18446744073709551615).toNat:Nat):Int)=_
 have e:BitVec.ofInt 64 18446744073709551615=BitVec.allOnes 64:=by decide
 rw [e,BitVec.xor_allOnes,BitVec.toNat_not,BitVec.toNat_ofInt]
 have e2:(x % ((2 ^ 64:Nat):Int)).toNat=x.toNat:=by
  have:((2 ^ 64:Nat):Int)=18446744073709551616:=by decide
  rw [this]; omega
 rw [e2,IntKind.wrap_u64]
 omega
theorem Zhp {n:Int} (hn:-4611686018427387904≤n∧n≤4611686018427387903) {K:Res [.sc (.int .u64)]→W R} (hk:K (zigM n) Q w):callW Tryz.prog Zdg [.int .i64 n] [.sc (.int .u64)] K Q w:=by
 refine Ztr _ K Q w ?_
 unfold Zn9
 have e1:shL .i64 n 1=n * 2:=by
  unfold shL
  have:(2:Int) ^ (min (Int.toNat 1) (IntKind.bits .i64))=2:=by decide
  rw [this,w64 (by omega)]
 have e2:shR .i64 n 63=if 0≤n then 0 else -1:=by
  unfold shR
  have:(2:Int) ^ (min (Int.toNat 63) (IntKind.bits .i64))=9223372036854775808:=by decide
  rw [this,Int.fdiv_eq_ediv_of_nonneg _ (by decide)]
  split <;> omega
 rw [e1,e2]
 unfold zigM at hk
 by_cases h:0≤n
 ·rw [if_pos h] at hk ⊢
  have:bXor .u64 (IntKind.wrap .u64 (n * 2)) (IntKind.wrap .u64 0)=2 * n:=by
   rw [wU64 (by omega),wU64 (by omega),xor_0 (by omega) (by omega)]
   omega
  rw [this]
  exact hk
 ·rw [if_neg h] at hk ⊢
  have:bXor .u64 (IntKind.wrap .u64 (n * 2)) (IntKind.wrap .u64 (-1))=-2 * n - 1:=by
   have a1:IntKind.wrap .u64 (-1)=18446744073709551615:=by decide
   have a2:IntKind.wrap .u64 (n * 2)=18446744073709551616+n * 2:=by rw [IntKind.wrap_u64]; omega
   rw [a1,a2,Zyj (by omega) (by omega)]
   omega
  rw [this]
  exact hk
abbrev Part:=Int × Int
abbrev partT:Ty:=.agg [.int .u64,.int .i64]
def fieldP (c:Comp) (i:Nat):Part:=(IntKind.wrap .u64 (fl c i - (rangeM c.1 (i:Int)).1),(widthM (rangeM c.1 (i:Int)).1 (rangeM c.1 (i:Int)).2.1:Int))
def wholeP (c:Comp):List Part:=(List.range (cntM c.1)).map (fieldP c)
def oneP (was c:Comp) (i:Nat):List Part :=
 if zigM (fl c i - fl was i)=0 then [(0,1)] else if zigM (fl c i - fl was i)≤16 then [(1,1),(1,1),(zigM (fl c i - fl was i) - 1,4)] else [(1,1),(0,1),fieldP c i]
def stepP (was c:Comp):List Part:=(List.range (cntM c.1)).flatMap (oneP was c)
def partsB (l:List Part):List Bool:=l.flatMap fun p=>bitsOf p.1.toNat p.2.toNat
def PartOk (p:Part):Prop:=(0≤p.1∧p.1.toNat < 2 ^ p.2.toNat)∧0≤p.2∧p.2≤64
theorem Zta:SlTy Tryz.prog 202 231 partT 16:=slTy (by kernel_rfl)
theorem flI {c:Comp} (h:CompOk c):∀ i, -2147483648≤fl c i∧fl c i≤2147483647
 | 0=>h.2.1
 | 1=>h.2.2.1
 | _+2=>h.2.2.2
theorem Z19 (k i:Int):(-2147483648≤(rangeM k i).1∧(rangeM k i).1≤2147483647)∧(-2147483648≤(rangeM k i).2.1∧(rangeM k i).2.1≤2147483647):=by
 unfold rangeM
 split
 ·split
  ·rename_i p hp
   have hm:=List.mem_of_getElem? hp
   unfold fieldsM at hm
   repeat' split at hm
   all_goals first
    | (simp only [List.mem_cons,List.not_mem_nil,or_false] at hm; rcases hm with rfl | rfl | rfl <;> decide)
    | (simp only [List.mem_cons,List.not_mem_nil,or_false] at hm; rcases hm with rfl | rfl <;> decide)
    | (simp only [List.mem_cons,List.not_mem_nil,or_false] at hm; subst hm; decide)
    | simp at hm
  ·decide
 ·decide
theorem Zd0 {c:Comp} (hc:CompOk c) {i:Nat} (hi:i < 3) {K:Res [.agg [.int .u64,.int .i64]]→W R} (hk:∀ w',Fr None w w'→K (fieldP c i) Q w') :
  callW Tryz.prog Z9t [.agg ⟨compC c⟩,.int .i64 (i:Int)] [.agg [.int .u64,.int .i64]] K Q w:=by
 refine Zpf c _ K Q w ?_
 unfold Zj1
 refine newI fun w1 B1 f1 s1=>newI fun w2 B2 f2 s2=>?_
 have B1:=B1.fr f2 fun h=>h
 refine fldI B1 (i:=0) (x:=c.1) rfl (Z6f fun w3 f3=>?_)
 have fd:Fr None w3 w3.drew:=(Fr.refl _ _).drew
 have B1:=(B1.fr f3 fun h=>h).fr fd fun h=>h
 have B2:=(B2.fr f3 fun h=>h).fr fd fun h=>h
 refine fIdx (j:=i) rfl hi (fld0 B1 (x:=fl c i) (Z1u c hi) ?_)
 obtain ⟨r1,r2⟩:=Z19 c.1 (i:Int)
 have hf:=flI hc i
 rw [w64 (x:=(rangeM c.1 (i:Int)).1) (by omega),w64 (x:=(rangeM c.1 (i:Int)).2.1) (by omega),w64 (x:=fl c i) (by omega),w64 (x:=fl c i - _) (by omega)]
 refine Z96 (by omega) (by omega) (andI ?_ ?_)
 ·exact (B1.cell (1+i)).trans (Z1u c hi)
 ·refine stoAll B2 rfl rfl fun w4 B4 f4 s4=>aggI B4 (x:=fieldP c i) rfl ?_
  exact hk w4 ((((f1.then0 f2).then0 f3).then0 fd).newer f4 fun k e=>by omega)
theorem Z2s {k:Int} {K:Res [.sc (.int .i64)]→W R} (hk:∀ w',Fr None w w'→K ((cntM k:Nat):Int) Q w'):callW Tryz.prog Z2g [.int .u8 k] [.sc (.int .i64)] K Q w:=by
 refine Zmh _ K Q w ?_
 unfold Zeh
 refine Z6n fun s w1 hS f1=>?_
 have hn:s.n=cntM k:=hS.len
 show K ((s.n:Nat):Int) Q w1
 rw [hn]
 exact hk w1 f1
theorem Zlv {c:Comp} (hc:CompOk c) {K:Res [.sc .sl]→W R} (hk:∀ r w',Own (Up w.heap.size) w' 231 partT r (wholeP c)→Fr None w w'→K r Q w') :
  callW Tryz.prog Zcg [.agg ⟨compC c⟩] [.sc .sl] K Q w:=by
 refine Zph c K Q w ?_
 unfold Zj3
 refine newI fun w1 B1 f1 s1=>?_
 have h3:=Z45 c.1
 refine fldI B1 (i:=0) (x:=c.1) rfl (Z2s fun w2 f2=>?_)
 refine forI (N:=cntM c.1) (fun s:Sl × Int=>s.2) (fun j s w'=>s.2=(j:Int)∧Own (fun k=>w.heap.size≤k∧k≠w.heap.size) w' 231 partT s.1 ((List.range j).map (fieldP c))∧Blk w' w.heap.size 92 (compC c)∧Fr None w w') ⟨rfl,Own.nil _ _ _ _,B1.fr f2 fun h=>h,f1.then0 f2⟩ (fun j s w' h=>h.1) ?_ ?_
 ·rintro j ⟨z,_⟩ w3 K' hj ⟨rfl,o3,B3,f3⟩ - hK
  have hs3:=f3.size
  refine aggI B3 (x:=c) rfl (Zd0 hc (by omega) fun w4 f4=>?_)
  have hs4:=f4.size
  refine appP (x:=fieldP c j) Zta rfl (o3.none f4) (fun k e=>⟨by omega,by have:=B3.lt; omega⟩) (by simp; omega) (by simp; omega) fun r w5 o5 f5=>?_
  have hr:(List.range (j+1)).map (fieldP c)=(List.range j).map (fieldP c) ++ [fieldP c j]:=by rw [List.range_succ,List.map_append]; rfl
  refine hK _ _ ⟨wsucc hj (by omega),by rw [hr]; exact o5,?_,(f3.then0 f4).newer f5 fun k e=>(o3.own k e).1⟩
  exact (B3.fr f4 fun h=>h).fr f5 fun e=>(o3.own _ e).2 rfl
 ·rintro ⟨z,_⟩ w3 ⟨_,o3,_,f3⟩
  exact hk z w3 (o3.mono fun k _ e=>e.1) f3
theorem Zmp {was c:Comp} (hw:CompOk was) (hc:CompOk c) {i:Nat} (hi:i < 3) {K:Res [.sc (.int .u64)]→W R} (hk:∀ w',Fr None w w'→K (zigM (fl c i - fl was i)) Q w') :
  callW Tryz.prog Zfq [.agg ⟨compC was⟩,.agg ⟨compC c⟩,.int .i64 (i:Int)] [.sc (.int .u64)] K Q w:=by
 refine Zr5 was c _ K Q w ?_
 unfold Zkp
 refine newI fun w1 B1 f1 s1=>newI fun w2 B2 f2 s2=>?_
 have fd:Fr None w2 w2.drew:=(Fr.refl _ _).drew
 have B1:=(B1.fr f2 fun h=>h).fr fd fun h=>h
 have B2:=B2.fr fd fun h=>h
 have a:=flI hc i
 have b:=flI hw i
 refine fIdx (j:=i) rfl hi (fld0 B2 (x:=fl c i) (Z1u c hi) (fIdx (j:=i) rfl hi (fld0 B1 (x:=fl was i) (Z1u was hi) ?_)))
 rw [w64 (x:=fl c i) (by omega),w64 (x:=fl was i) (by omega),w64 (x:=fl c i - fl was i) (by omega)]
 exact Zhp (by omega) (hk _ ((f1.then0 f2).then0 fd))
theorem Zxt (was c:Comp) (i:Nat):(oneP was c i).length≤3:=by
 unfold oneP
 split
 ·simp
 ·split <;> simp
theorem Znq (was c:Comp) (j:Nat):((List.range j).flatMap (oneP was c)).length≤3 * j:=by
 induction j with
 | zero=>simp
 | succ j ih =>
  rw [List.range_succ,List.flatMap_append,List.length_append]
  have:=Zxt was c j
  simp only [List.flatMap_cons,List.flatMap_nil,List.append_nil]
  omega
theorem Zms {was c:Comp} (hw:CompOk was) (hc:CompOk c) {K:Res [.sc .sl]→W R} (hk:∀ r w',Own (Up w.heap.size) w' 231 partT r (stepP was c)→Fr None w w'→K r Q w') :
  callW Tryz.prog Zft [.agg ⟨compC was⟩,.agg ⟨compC c⟩] [.sc .sl] K Q w:=by
 refine Zr8 was c K Q w ?_
 unfold Zks
 refine newI fun w1 B1 f1 s1=>newI fun w2 B2 f2 s2=>?_
 have B1:=B1.fr f2 fun h=>h
 have h3:=Z45 c.1
 refine fldI B2 (i:=0) (x:=c.1) rfl (Z2s fun w3 f3=>?_)
 have fs:=(f1.then0 f2).then0 f3
 refine forI (N:=cntM c.1) (fun s:Sl × Int=>s.2) (fun j s w'=>s.2=(j:Int)∧Own (fun k=>w.heap.size≤k∧k≠w.heap.size∧k≠w1.heap.size) w' 231 partT s.1 ((List.range j).flatMap (oneP was c))∧Blk w' w.heap.size 92 (compC was)∧Blk w' w1.heap.size 92 (compC c)∧Fr None w w') ⟨rfl,Own.nil _ _ _ _,B1.fr f3 fun h=>h,B2.fr f3 fun h=>h,fs⟩ (fun j s w' h=>h.1) ?_ ?_
 ·rintro j ⟨z,_⟩ w4 K' hj ⟨rfl,o4,B14,B24,f4⟩ - hK
  have hl1:=B14.lt
  have hl2:=B24.lt
  refine aggI B14 (x:=was) rfl (aggI B24 (x:=c) rfl (Zmp hw hc (by omega) fun w5 f5=>?_))
  have hs5:=f5.size
  have o5:=o4.none f5
  have B15:=B14.fr f5 fun h=>h
  have B25:=B24.fr f5 fun h=>h
  have hpl:=Znq was c j
  refine joinI (fun (z:Sl) w'=>Own (fun k=>w.heap.size≤k∧k≠w.heap.size∧k≠w1.heap.size) w' 231 partT z ((List.range j).flatMap (oneP was c) ++ oneP was c j)∧Blk w' w.heap.size 92 (compC was)∧Blk w' w1.heap.size 92 (compC c)∧Fr None w w') ?_ ?_
  ·have app:∀ {z5:Sl} {v:World} {ps:List Part} {cs:List Value} {n:Nat} {R2:Type} {K2:Sl→W R2} {Q2:R2→World→Prop},Fr None w v→Blk v w.heap.size 92 (compC was)→Blk v w1.heap.size 92 (compC c)→Own (fun k=>w.heap.size≤k∧k≠w.heap.size∧k≠w1.heap.size) v 231 partT z5 ((List.range j).flatMap (oneP was c))→cs=ps.flatMap partT.cells→cs.length=ps.length * 2→n=ps.length→ps.length≤3 →
     (∀ r v',Own (fun k=>w.heap.size≤k∧k≠w.heap.size∧k≠w1.heap.size) v' 231 partT r ((List.range j).flatMap (oneP was c) ++ ps)→Blk v' w.heap.size 92 (compC was)→Blk v' w1.heap.size 92 (compC c)→Fr None w v'→K2 r Q2 v') →
     newW 231 cs (fun a=>rawW Tryz.prog (Builtin.append_ #[202,202] 202 #[.slice z5.a z5.n z5.c,.slice (some a) n n]) [.sc .sl] K2) Q2 v:=by
    intro z5 v ps cs n R2 K2 Q2 fv V1 V2 ov hcs hcl hn hp hk2
    have hsv:=fv.size
    refine newI fun v1 Bv g1 t1=>?_
    subst hn
    have lit:Own (fun _=>True) v1 231 partT ⟨some ⟨v.heap.size,0,none⟩,ps.length,ps.length⟩ ps:=Own.mk' (S:=fun _=>True) (E:=231) (t:=partT) (l:=ps) (g:=v.heap.size) (c:=ps.length) (cur:=⟨cs⟩) trivial Bv (Nat.le_refl _) (by rw [Zm]; omega) hcl (by rw [hcs,show partT.size=2 from rfl,← hcl,hcs]; exact List.take_length)
    refine appI (s:=z5) (s2:=⟨some ⟨v.heap.size,0,none⟩,ps.length,ps.length⟩) (S':=fun k=>w.heap.size≤k∧k≠w.heap.size∧k≠w1.heap.size) Zta (ov.none g1) lit.sl (by omega) (by rw [Zm]; omega) (fun _ h=>h) ⟨by have:=g1.size; omega,by have:=V1.lt; have:=g1.size; omega,by have:=V2.lt; have:=g1.size; omega⟩ fun r v2 o2 g2 _=>?_
    exact hk2 r v2 o2 ((V1.fr g1 fun h=>h).fr g2 fun e=>(ov.own _ e).2.1 rfl) ((V2.fr g1 fun h=>h).fr g2 fun e=>(ov.own _ e).2.2 rfl) ((fv.then0 g1).newer g2 fun k e=>(ov.own k e).1)
   refine condE (fun hz=>?_) fun hz=>?_
   ·have e:oneP was c j=[(0,1)]:=by rw [oneP,if_pos hz]
    rw [e]
    refine app (z5:=z) (ps:=[(0,1)]) (n:=1) (f4.then0 f5) B15 B25 o5 rfl rfl rfl (by simp) ?_
    exact fun r v' o b1 b2 f=>⟨o,b1,b2,f⟩
   ·refine joinI (fun (z:Sl) w'=>Own (fun k=>w.heap.size≤k∧k≠w.heap.size∧k≠w1.heap.size) w' 231 partT z ((List.range j).flatMap (oneP was c) ++ oneP was c j)∧Blk w' w.heap.size 92 (compC was)∧Blk w' w1.heap.size 92 (compC c)∧Fr None w w') ?_ fun z w' h=>h
    refine condD (fun h16=>?_) fun h16=>?_
    ·have e:oneP was c j=[(1,1),(1,1),(zigM (fl c j - fl was j) - 1,4)]:=by rw [oneP,if_neg hz,if_pos h16]
     have hz0:0≤zigM (fl c j - fl was j):=by unfold zigM; split <;> omega
     have ew:IntKind.wrap .u64 (zigM (fl c j - fl was j) - 1)=zigM (fl c j - fl was j) - 1:=wU64 (by omega)
     rw [e,ew]
     refine app (z5:=z) (ps:=[(1,1),(1,1),(zigM (fl c j - fl was j) - 1,4)]) (n:=3) (f4.then0 f5) B15 B25 o5 rfl rfl rfl (by simp) ?_
     exact fun r v' o b1 b2 f=>⟨o,b1,b2,f⟩
    ·have e:oneP was c j=[(1,1),(0,1),fieldP c j]:=by rw [oneP,if_neg hz,if_neg h16]
     rw [e]
     refine aggI B25 (x:=c) rfl (Zd0 hc (by omega) fun w6 f6=>?_)
     refine app (z5:=z) (ps:=[(1,1),(0,1),fieldP c j]) (n:=3) ((f4.then0 f5).then0 f6) (B15.fr f6 fun h=>h) (B25.fr f6 fun h=>h) (o5.none f6) rfl rfl rfl (Nat.le_refl 3) ?_
     exact fun r v' o b1 b2 f=>⟨o,b1,b2,f⟩
  ·rintro z w6 ⟨o6,b1,b2,f6⟩
   have hr:(List.range (j+1)).flatMap (oneP was c)=(List.range j).flatMap (oneP was c) ++ oneP was c j:=by rw [List.range_succ,List.flatMap_append]; simp
   exact hK _ _ ⟨wsucc hj (by omega),by rw [hr]; exact o6,b1,b2,f6⟩
 ·rintro ⟨z,_⟩ w4 ⟨_,o4,_,_,f4⟩
  exact hk z w4 (o4.mono fun k _ e=>e.1) f4
end Go.Proofs.YtchhhjlpnecjkaaGreat
namespace Go.Proofs.YtchhhjlpnecjkaaGreat
open Go Go.RowKit Go.Proofs.YtchhhjlpnecjkaaGreat.Den
variable {R:Type} {Q:R→World→Prop} {w:World}
theorem Zs2 (l:List Part) (p:Part):partsB (l ++ [p])=partsB l ++ bitsOf p.1.toNat p.2.toNat:=by simp [partsB]
theorem Zg2 {l:List Part} {j:Nat} {p:Part} (h:l[j]?=some p):partsB (l.take (j+1))=partsB (l.take j) ++ bitsOf p.1.toNat p.2.toNat:=by rw [Z8 h,Zs2]
theorem Zw0 {l:List Part} (j:Nat):(partsB (l.take j)).length≤(partsB l).length:=by
 conv=>rhs; rw [← List.take_append_drop j l]
 unfold partsB
 rw [List.flatMap_append,List.length_append]
 omega
theorem Zjm {l:List Part} (hP:∀ p∈l,PartOk p):(partsB l).length≤64 * l.length:=by
 induction l with
 | nil=>simp [partsB]
 | cons p r ih =>
  have h1:=ih fun q hq=>hP q (List.mem_cons_of_mem _ hq)
  have h2:=(hP p List.mem_cons_self).2
  unfold partsB at h1 ⊢
  simp only [List.flatMap_cons,List.length_append,Z4,List.length_cons]
  omega
theorem Zmr {ok:Nat→Prop} {s:Sl} {l:List Part} (hS:SlT ok w partT s l) (hP:∀ p∈l,PartOk p) (hl:l.length≤100) {K:Res [.sc (.int .i64)]→W R} (hk:∀ w',Fr None w w'→K ((partsB l).length:Int) Q w') :
  callW Tryz.prog Zfs [.slice s.a s.n s.c] [.sc (.int .i64)] K Q w:=by
 refine Zr7 s K Q w ?_
 unfold Zkr
 have hlen:=hS.len
 refine forI (N:=s.n) (fun s:Int × Int=>s.2) (fun j s w'=>s=(((partsB (l.take j)).length:Int),(j:Int))∧Fr None w w') ⟨rfl,Fr.refl _ _⟩ (fun j s w' h=>by rw [h.1]) ?_ ?_
 ·rintro j s1 w1 K' hj ⟨rfl,f1⟩ - hK
  refine (hS.fr0 f1).get rfl rfl (by omega) fun p hp=>?_
  refine newI fun w2 B2 f2 s2=>stoAll B2 rfl rfl fun w3 B3 f3 s3=>fldI B3 (i:=1) (x:=p.2) rfl ?_
  have hpo:=(hP p (List.mem_of_getElem? hp)).2
  have hsm:=Zjm (l:=l.take j) fun q hq=>hP q (List.mem_of_mem_take hq)
  rw [List.length_take] at hsm
  refine hK _ _ ⟨?_,f1.then0 (f2.newer f3 fun k e=>by omega)⟩
  rw [wsucc hj (by omega),Zg2 hp,List.length_append,Z4,w64 (by omega)]
  have:(((partsB (l.take j)).length:Nat):Int)+p.2=(((partsB (l.take j)).length+p.2.toNat:Nat):Int):=by omega
  rw [this]
 ·rintro s1 w1 ⟨rfl,f1⟩
  rw [List.take_of_length_le (by omega)]
  exact hk w1 f1
def putP (L:List Bool) (l:List Part):Int × List Bool:=if 1048576 < L.length+(partsB l).length then (3,L) else (0,L ++ partsB l)
theorem Zho {b:Nat} {L:List Bool} {F:Nat→Prop} (h:Wr b L F w) {ok:Nat→Prop} {s:Sl} {l:List Part} (hS:SlT ok w partT s l) (hd:∀ k,k < w.heap.size→ok k→¬ F k) (hP:∀ p∈l,PartOk p) (hl:l.length≤100) {K:Res [.sc (.int .i64)]→W R}
  (hk:∀ w',Wr b (putP L l).2 (Ex F w) w'→Fr F w w'→K (putP L l).1 Q w'):callW Tryz.prog Zdf [.pointer (some ⟨b,0,none⟩),.slice s.a s.n s.c] [.sc (.int .i64)] K Q w:=by
 refine Ztp _ s K Q w ?_
 unfold Zn7
 have hlen:=hS.len
 have hL:=h.1
 have hsm:=Zjm hP
 refine Zhn h (Zmr hS hP hl fun w1 f1=>?_)
 have hs1:=f1.size
 rw [w64 (by omega)]
 unfold putP at hk
 have h1:=Wr.st.fr0 h f1
 refine condD (fun h3=>?_) fun h3=>?_
 ·have h3:(1048576:Int) < (L.length:Int)+((partsB l).length:Int):=h3
  rw [if_pos (by omega)] at hk
  exact hk w1 (Wr.st.mono h1 fun k _ e=>.inl e) f1.any
 have h3:¬ (1048576:Int) < (L.length:Int)+((partsB l).length:Int):=h3
 rw [if_neg (by omega)] at hk
 have hS0:SlT (fun k=>ok k∧k < w.heap.size) w partT s l:=hS.mono fun k hk e=>⟨e,hk⟩
 refine forI (N:=s.n) (fun s:Int=>s) (fun j i w'=>i=(j:Int)∧Wr b (L ++ partsB (l.take j)) (Ex F w) w'∧Fr F w w') ⟨rfl,by rw [List.take_zero]; simp only [partsB,List.flatMap_nil,List.append_nil]; exact Wr.st.mono h1 fun k _ e=>.inl e,f1.any⟩ (fun j s w' h=>h.1) ?_ ?_
 ·rintro j i w2 K' hj ⟨rfl,hw,f2⟩ - hK
  have hs2:=f2.size
  refine (hS0.fr f2 fun k e e2=>hd k e.2 e.1 e2).get rfl rfl (by omega) fun p hp=>?_
  refine newI fun w3 B3 f3 s3=>stoAll B3 rfl rfl fun w4 B4 f4 s4=>fldI B4 (i:=0) (x:=p.1) rfl (fldI B4 (i:=1) (x:=p.2) rfl ?_)
  have f24:Fr None w2 w4:=f3.newer f4 fun k e=>by omega
  have hs4:=f24.size
  obtain ⟨⟨hp1,hp2⟩,hp3,hp4⟩:=hP p (List.mem_of_getElem? hp)
  have hle:=Zw0 (l:=l) (j+1)
  rw [Zg2 hp,List.length_append,Z4] at hle
  have ep:putB (L ++ partsB (l.take j)) p.1 p.2=(0,L ++ partsB (l.take (j+1))):=by
   rw [putB,if_neg (by omega),if_neg,if_neg (by rw [List.length_append]; omega)]
   ·rw [Zg2 hp,List.append_assoc]
   ·rintro ⟨_,h⟩
    exact h (Nat.div_eq_of_lt hp2)
  have h64:p.1.toNat < 2 ^ 64:=Nat.lt_of_lt_of_le hp2 (Nat.pow_le_pow_right (by decide) (by omega))
  refine Z83 (Wr.st.fr0 hw f24) (v:=p.1) (n:=p.2) (by omega) (by omega) fun w5 hw5 f5=>?_
  rw [ep] at hw5
  have hs5:=f5.size
  refine hK _ _ ⟨wsucc hj (by omega),Wr.st.mono hw5 fun k _ e=>?_,(f2.then0 f24).exS f5 fun k e=>e⟩
  rcases e with e | e
  ·exact e
  ·exact .inr (by omega)
 ·rintro i w2 ⟨rfl,hw,f2⟩
  rw [List.take_of_length_le (by omega)] at hw
  exact hk w2 hw f2
theorem Zpd {lo hi x:Int} (h1:lo≤x) (h2:x≤hi) (h3:hi - lo≤18446744073709551615):(x - lo).toNat < 2 ^ widthM lo hi:=by
 unfold widthM
 rw [if_neg (by omega)]
 by_cases h0:(hi - lo).toNat=0
 ·have:(x - lo).toNat=0:=by omega
  rw [this]
  exact Nat.two_pow_pos _
 ·have:=(Lib.bitLenAux_bounds 64 (hi - lo).toNat (by omega) h0).2.2
  have e:(x - lo).toNat≤(hi - lo).toNat:=by omega
  exact Nat.lt_of_le_of_lt e this
theorem Z3b {lo hi:Int} (h3:hi - lo≤18446744073709551615):widthM lo hi≤64:=by
 unfold widthM
 split
 ·decide
 ·exact Lib.bitLen_le _ 64 (by decide) (by omega)
theorem Zoa {c:Comp} (h:checkM c=0) {i:Nat} (hi:i < cntM c.1):(rangeM c.1 (i:Int)).1≤fl c i∧fl c i≤(rangeM c.1 (i:Int)).2.1:=by
 have h3:=Z45 c.1
 have hall:(List.range 3).all (inR c)=true:=by
  unfold checkM at h
  split at h
  ·cases h
  ·split at h
   ·cases h
   ·split at h
    ·assumption
    ·cases h
 have:=List.all_eq_true.1 hall i (List.mem_range.2 (by omega))
 unfold inR at this
 obtain ⟨p,hp⟩:∃ p,(fieldsM c.1)[i]?=some p:=⟨_,List.getElem?_eq_getElem hi⟩
 rw [hp] at this
 simp only [Bool.and_eq_true,decide_eq_true_eq] at this
 unfold rangeM
 rw [if_pos (by omega),Int.toNat_natCast,hp]
 exact this
theorem Zq7 {c:Comp} (h:checkM c=0) {i:Nat} (hi:i < cntM c.1):PartOk (fieldP c i):=by
 obtain ⟨h1,h2⟩:=Zoa h hi
 obtain ⟨r1,r2⟩:=Z19 c.1 (i:Int)
 have hw:=Z3b (lo:=(rangeM c.1 (i:Int)).1) (hi:=(rangeM c.1 (i:Int)).2.1) (by omega)
 have hl:=Zpd h1 h2 (by omega)
 unfold PartOk fieldP
 dsimp only
 rw [wU64 (by omega),Int.toNat_natCast]
 exact ⟨⟨by omega,hl⟩,by omega,by omega⟩
theorem Zwq {c:Comp} (h:checkM c=0):∀ p∈wholeP c,PartOk p:=fun p hp=>by
 obtain ⟨i,hi,rfl⟩:=List.mem_map.1 hp
 exact Zq7 h (List.mem_range.1 hi)
theorem Zye {was c:Comp} (h:checkM c=0):∀ p∈stepP was c,PartOk p:=fun p hp=>by
 obtain ⟨i,hi,hp⟩:=List.mem_flatMap.1 hp
 have hi:=List.mem_range.1 hi
 have hz0:0≤zigM (fl c i - fl was i):=by unfold zigM; split <;> omega
 unfold oneP at hp
 split at hp
 ·simp only [List.mem_singleton] at hp
  subst hp
  exact ⟨⟨by decide,by decide⟩,by decide,by decide⟩
 ·split at hp
  ·simp only [List.mem_cons,List.not_mem_nil,or_false] at hp
   rcases hp with rfl | rfl | rfl
   ·exact ⟨⟨by decide,by decide⟩,by decide,by decide⟩
   ·exact ⟨⟨by decide,by decide⟩,by decide,by decide⟩
   ·refine ⟨⟨by dsimp only; omega,?_⟩,(by decide:(0:Int)≤4),(by decide:(4:Int)≤64)⟩
    show (zigM (fl c i - fl was i) - 1).toNat < 2 ^ (4:Int).toNat
    rw [show (2:Nat) ^ (4:Int).toNat=16 from rfl]
    omega
  ·simp only [List.mem_cons,List.not_mem_nil,or_false] at hp
   rcases hp with rfl | rfl | rfl
   ·exact ⟨⟨by decide,by decide⟩,by decide,by decide⟩
   ·exact ⟨⟨by decide,by decide⟩,by decide,by decide⟩
   ·exact Zq7 h hi
def putC (L:List Bool) (c:Comp):Int × List Bool:=if checkM c≠0 then (checkM c,L) else putP L (wholeP c)
theorem Zp1 {b:Nat} {L:List Bool} {F:Nat→Prop} (h:Wr b L F w) {c:Comp} (hc:CompOk c) (hF:∀ k,F k→k < w.heap.size) {K:Res [.sc (.int .i64)]→W R} (hk:∀ w',Wr b (putC L c).2 (Ex F w) w'→Fr F w w'→K (putC L c).1 Q w') :
  callW Tryz.prog Zii [.pointer (some ⟨b,0,none⟩),.agg ⟨compC c⟩] [.sc (.int .i64)] K Q w:=by
 refine Zto _ c K Q w ?_
 unfold Zn6
 refine newI fun w1 B1 f1 s1=>condF rfl (aggI B1 (x:=c) rfl (Z2r fun w2 f2=>?_))
 have f02:=f1.then0 f2
 have hs2:=f02.size
 unfold putC at hk
 refine condN (fun hne=>?_) fun heq=>?_
 ·rw [if_pos hne] at hk
  exact hk w2 (Wr.st.mono (Wr.st.fr0 h f02) fun k _ e=>.inl e) f02.any
 ·rw [if_neg (by omega)] at hk
  refine aggI (B1.fr f2 fun h=>h) (x:=c) rfl (Zlv hc fun r w3 o3 f3=>?_)
  have f03:=f02.then0 f3
  have hs3:=f03.size
  refine Zho (Wr.st.fr0 h f03) o3.sl (fun k _ e e2=>by have e:w2.heap.size≤k:=e; have:=hF k e2; omega) (Zwq (by omega)) (by have:=Z45 c.1; simp [wholeP]; omega) fun w4 hw f4=>?_
  exact hk w4 (Wr.st.mono hw fun k _ e=>e.imp id fun e=>by omega) ((f03.any).exS f4 fun k e=>.inl e)
def pairM (was c:Comp):Int:=if checkM was≠0 then checkM was else if checkM c≠0 then checkM c else if was.1=c.1 then 0 else 4
theorem Zmq {was c:Comp} {K:Res [.sc (.int .i64)]→W R} (hk:∀ w',Fr None w w'→K (pairM was c) Q w'):callW Tryz.prog Zfr [.agg ⟨compC was⟩,.agg ⟨compC c⟩] [.sc (.int .i64)] K Q w:=by
 refine Zr6 was c K Q w ?_
 unfold Zkq
 unfold pairM at hk
 refine newI fun w1 B1 f1 s1=>newI fun w2 B2 f2 s2=>?_
 have B1:=B1.fr f2 fun h=>h
 refine aggI B1 (x:=was) rfl (Z2r fun w3 f3=>?_)
 have f03:=(f1.then0 f2).then0 f3
 refine condN (fun hne=>?_) fun heq=>?_
 ·rw [if_pos hne] at hk
  exact hk w3 f03
 rw [if_neg (by omega)] at hk
 have B1:=B1.fr f3 fun h=>h
 have B2:=B2.fr f3 fun h=>h
 refine aggI B2 (x:=c) rfl (Z2r fun w4 f4=>?_)
 refine condN (fun hne=>?_) fun heq2=>?_
 ·rw [if_pos hne] at hk
  exact hk w4 (f03.then0 f4)
 rw [if_neg (by omega)] at hk
 refine fldI (B1.fr f4 fun h=>h) (i:=0) (x:=was.1) rfl (fldI (B2.fr f4 fun h=>h) (i:=0) (x:=c.1) rfl ?_)
 refine condN (fun hne=>?_) fun heq3=>?_
 ·rw [if_neg hne] at hk
  exact hk w4 (f03.then0 f4)
 ·rw [if_pos heq3] at hk
  exact hk w4 (f03.then0 f4)
def putS (L:List Bool) (was c:Comp):Int × List Bool:=if pairM was c≠0 then (pairM was c,L) else putP L (stepP was c)
theorem Zir {b:Nat} {L:List Bool} {F:Nat→Prop} (h:Wr b L F w) {was c:Comp} (hw:CompOk was) (hc:CompOk c) (hF:∀ k,F k→k < w.heap.size) {K:Res [.sc (.int .i64)]→W R} (hk:∀ w',Wr b (putS L was c).2 (Ex F w) w'→Fr F w w'→K (putS L was c).1 Q w') :
  callW Tryz.prog Za6 [.pointer (some ⟨b,0,none⟩),.agg ⟨compC was⟩,.agg ⟨compC c⟩] [.sc (.int .i64)] K Q w:=by
 refine Zm9 _ was c K Q w ?_
 unfold Ze9
 refine newI fun w0 B0 f0 s0=>newI fun w1 B1 f1 s1=>condF rfl ?_
 have B0:=B0.fr f1 fun h=>h
 refine aggI B0 (x:=was) rfl (aggI B1 (x:=c) rfl (Zmq fun w2 f2=>?_))
 have f02:=(f0.then0 f1).then0 f2
 have hs2:=f02.size
 unfold putS at hk
 refine condN (fun hne=>?_) fun heq=>?_
 ·rw [if_pos hne] at hk
  exact hk w2 (Wr.st.mono (Wr.st.fr0 h f02) fun k _ e=>.inl e) f02.any
 ·rw [if_neg (by omega)] at hk
  have hc0:checkM c=0:=by
   unfold pairM at heq
   split at heq
   ·omega
   ·split at heq
    ·omega
    ·omega
  refine aggI (B0.fr f2 fun h=>h) (x:=was) rfl (aggI (B1.fr f2 fun h=>h) (x:=c) rfl (Zms hw hc fun r w3 o3 f3=>?_))
  have f03:=f02.then0 f3
  have hs3:=f03.size
  have hl:(stepP was c).length≤100:=by have:=Znq was c (cntM c.1); have:=Z45 c.1; unfold stepP; omega
  refine Zho (Wr.st.fr0 h f03) o3.sl (fun k _ e e2=>by have e:w2.heap.size≤k:=e; have:=hF k e2; omega) (Zye hc0) hl fun w4 hw f4=>?_
  exact hk w4 (Wr.st.mono hw fun k _ e=>e.imp id fun e=>by omega) ((f03.any).exS f4 fun k e=>.inl e)
end Go.Proofs.YtchhhjlpnecjkaaGreat
namespace Go.Proofs.YtchhhjlpnecjkaaGreat
open Go Go.RowKit Go.Proofs.YtchhhjlpnecjkaaGreat.Den
variable {R:Type} {Q:R→World→Prop} {w:World}
abbrev WS:=List Bool × Int
def keepM (e x:Int):Int:=if e=0 then x else e
def doM (s:WS) (p:Int × List Bool):WS:=(p.2,keepM s.2 p.1)
def PW (bw b:Nat) (s:WS):OB:=fun F w=>F bw∧(∀ k,F k→k < w.heap.size)∧Blk w bw 102 [.pointer (some ⟨b,0,none⟩),.int .i64 s.2]∧Wr b s.1 (fun k=>F k∧k≠bw) w
section
variable {bw b:Nat} {s:WS} {F:Nat→Prop}
theorem PW.fr0 (h:PW bw b s F w) {w':World} (f:Fr None w w'):PW bw b s F w':=by
 obtain ⟨h1,h2,h3,h4⟩:=h
 have:=f.size
 exact ⟨h1,fun k e=>by have:=h2 k e; omega,h3.fr f fun h=>h,Wr.st.fr0 h4 f⟩
abbrev Gw (F:Nat→Prop) (w w':World):Nat→Prop:=fun k=>F k∨(w.heap.size≤k∧k < w'.heap.size)
theorem Z78 (h:PW bw b s F w) {x:Int} {K:Res []→W R} (hk:∀ w',PW bw b (s.1,keepM s.2 x) F w'→Fr F w w'→w'.heap.size=w.heap.size→K () Q w') :
  callW Tryz.prog Z1 [.pointer (some ⟨bw,0,none⟩),.int .i64 x] [] K Q w:=by
 refine Zdr _ _ K Q w ?_
 unfold Z7d
 obtain ⟨h1,h2,B,hw⟩:=h
 refine ptrI (fldI B (i:=1) (x:=s.2) rfl ?_)
 refine joinI (fun (_:Unit) w'=>PW bw b (s.1,keepM s.2 x) F w'∧Fr F w w'∧w'.heap.size=w.heap.size) ?_ fun _ w' ⟨a,b,c⟩=>hk w' a b c
 refine condE (fun he=>?_) fun he=>?_
 ·refine ptrI ?_
  rw [add_lit]
  refine setI (i:=1) B (by simp) rfl fun w2 B2 f2 s2=>?_
  have e:keepM s.2 x=x:=by rw [keepM,if_pos he]
  rw [e]
  exact ⟨⟨h1,fun k e=>by rw [s2]; exact h2 k e,B2,Wr.st.fr hw f2 fun k e e2=>e.2 e2⟩,f2.sub fun k e=>by rw [e]; exact h1,s2⟩
 ·have e:keepM s.2 x=s.2:=by rw [keepM,if_neg he]
  rw [e]
  exact ⟨⟨h1,h2,B,hw⟩,Fr.refl _ _,rfl⟩
theorem PW.put (h:PW bw b s F w):Wr b s.1 (fun k=>F k∧k≠bw) w∧(∀ k,F k∧k≠bw→k < w.heap.size)∧∀ (p:Int × List Bool) (w':World) {K:Res []→W R},Wr b p.2 (Ex (fun k=>F k∧k≠bw) w) w'→Fr (fun k=>F k∧k≠bw) w w' →
  (∀ w2,PW bw b (doM s p) (Gw F w w2) w2→Fr F w w2→K () Q w2)→callW Tryz.prog Z1 [.pointer (some ⟨bw,0,none⟩),.int .i64 p.1] [] K Q w':=by
 obtain ⟨h1,h2,B,hw⟩:=h
 refine ⟨hw,fun k e=>h2 k e.1,fun p w' K hw' f hk=>?_⟩
 have hs:=f.size
 have hbw:=h2 bw h1
 have pw:PW bw b (p.2,s.2) (Gw F w w') w':=by
  refine ⟨.inl h1,fun k e=>?_,B.fr f fun e=>e.2 rfl,Wr.st.mono hw' fun k hk e=>?_⟩
  ·rcases e with e | e
   ·have:=h2 k e; omega
   ·exact e.2
  ·rcases e with e | e
   ·exact ⟨.inl e.1,e.2⟩
   ·exact ⟨.inr ⟨e,hk⟩,by omega⟩
 refine Z78 pw fun w2 hp f2 s2=>hk w2 ?_ ?_
 ·have e:Gw F w w2=Gw F w w':=by unfold Gw; rw [s2]
  rw [e]
  exact hp
 ·exact (f.sub fun k e=>e.1).exS f2 fun k e=>by
   rcases e with e | e
   ·exact .inl e
   ·exact .inr e.1
theorem PW.fr (h:PW bw b s F w) {S:Nat→Prop} {w':World} (f:Fr S w w') (hS:∀ k,F k→¬ S k):PW bw b s F w':=by
 obtain ⟨h1,h2,h3,h4⟩:=h
 have:=f.size
 exact ⟨h1,fun k e=>by have:=h2 k e; omega,h3.fr f (hS bw h1),Wr.st.fr h4 f fun k e=>hS k e.1⟩
theorem PW.mono (h:PW bw b s F w) {F':Nat→Prop} (hs:∀ k,k < w.heap.size→F k→F' k) (hb:∀ k,F' k→k < w.heap.size):PW bw b s F' w:=by
 obtain ⟨h1,h2,h3,h4⟩:=h
 exact ⟨hs bw h3.lt h1,hb,h3,Wr.st.mono h4 fun k hk e=>⟨hs k hk e.1,e.2⟩⟩
theorem PW.ptr (h:PW bw b s F w) {K:Option Addr→W R} (hk:K (some ⟨b,0,none⟩) Q w):ld (.sc .ptr) (Addr.add ⟨bw,0,none⟩ 0) K Q w:=fldI h.2.2.1 (i:=0) (x:=some ⟨b,0,none⟩) rfl hk
theorem PW.err (h:PW bw b s F w) {K:Int→W R} (hk:K s.2 Q w):ld (.sc (.int .i64)) (Addr.add ⟨bw,0,none⟩ 1) K Q w:=fldI h.2.2.1 (i:=1) (x:=s.2) rfl hk
theorem PW.two {w1 w2 w3:World} {s':WS} {G:Nat→Prop} (hG:∀ k,G k→Gw F w w1 k) (h:PW bw b s' (Gw G w2 w3) w3) (h1:w.heap.size≤w1.heap.size) (h2:w1.heap.size≤w2.heap.size) (h3:w2.heap.size≤w3.heap.size) (hF:∀ k,F k→k < w.heap.size):PW bw b s' (Gw F w w3) w3 :=
 h.mono (fun k hk e=>by
  rcases e with e | e
  ·rcases hG k e with e | e
   ·exact .inl e
   ·exact .inr (by omega)
  ·exact .inr (by omega)) fun k e=>by
  rcases e with e | e
  ·have:=hF k e; omega
  ·exact e.2
def plainM (s:WS) (v n:Int):WS:=doM s (putB s.1 v n)
def varM (s:WS) (v:Nat):WS:=doM s (putVarM s.1 v)
theorem Z6c (h:PW bw b s F w) {v n:Int} (hv:0≤v∧v≤18446744073709551615) (hn:-9223372036854775808≤n∧n≤9223372036854775807) {K:Res []→W R} (hk:∀ w',PW bw b (plainM s v n) (Gw F w w') w'→Fr F w w'→K () Q w') :
  callW Tryz.prog Zf [.pointer (some ⟨bw,0,none⟩),.int .u64 v,.int .i64 n] [] K Q w:=by
 refine Zc3 _ _ _ K Q w ?_
 unfold Z6t
 obtain ⟨hw,hF,hk2⟩:=h.put
 exact ptrI (h.ptr (Z83 hw hv hn fun w1 hw1 f1=>hk2 (putB s.1 v n) w1 hw1 f1 hk))
theorem Zay (h:PW bw b s F w) {n:Nat} (hn:(n:Int)≤18446744073709551615) {K:Res []→W R} (hk:∀ w',PW bw b (varM s n) (Gw F w w') w'→Fr F w w'→K () Q w') :
  callW Tryz.prog Zx [.pointer (some ⟨bw,0,none⟩),.int .i64 (n:Int)] [] K Q w:=by
 refine Zc1 _ _ K Q w ?_
 unfold Z6r
 obtain ⟨hw,hF,hk2⟩:=h.put
 refine ptrI (h.ptr ?_)
 rw [wU64 (x:=(n:Int)) (by omega)]
 refine Z77 hw (by omega) fun w1 hw1 f1=>?_
 rw [Int.toNat_natCast] at hw1 ⊢
 exact hk2 (putVarM s.1 n) w1 hw1 f1 hk
def idD (last id:Int):Nat:=((id - last - 1) % 4294967296).toNat
theorem Zeq (h:PW bw b s F w) {bl:Nat} {T:TypeId} {last id:Int} (B:Blk w bl T [.int .u32 last]) (hbl:¬ F bl) {K:Res []→W R}
  (hk:∀ w',PW bw b (varM s (idD last id)) (Gw F w w') w'→Blk w' bl T [.int .u32 id]→Fr (fun k=>F k∨k=bl) w w'→K () Q w') :
  callW Tryz.prog Z1q [.pointer (some ⟨bw,0,none⟩),.pointer (some ⟨bl,0,none⟩),.int .u32 id] [] K Q w:=by
 refine Zge _ _ _ K Q w ?_
 unfold Z9d
 have fd:Fr None w w.drew:=(Fr.refl _ _).drew
 have hd:PW bw b s F w.drew:=h.fr0 fd
 have hlt:=B.lt
 obtain ⟨hw,hF,hk2⟩:=hd.put
 refine ptrI (hd.ptr (ptrI (fld0 (B.fr fd fun h=>h) (i:=0) (x:=last) rfl ?_)))
 have e:IntKind.wrap .u64 (IntKind.wrap .u32 (IntKind.wrap .u32 (id - last) - 1))=((idD last id:Nat):Int):=by
  have a:∀ x:Int,IntKind.wrap .u32 x=x % 4294967296:=fun x=>by rw [IntKind.wrap_u32]
  rw [a,a,wU64 (by omega)]
  unfold idD
  omega
 rw [e]
 have hv:idD last id < 4294967296:=by unfold idD; omega
 refine Z77 hw (v:=(idD last id:Int)) (by omega) fun w1 hw1 f1=>?_
 rw [Int.toNat_natCast] at hw1 ⊢
 refine hk2 (putVarM s.1 (idD last id)) w1 hw1 f1 fun w2 hp f2=>ptrI ?_
 have B2:=(B.fr fd fun h=>h).fr f2 hbl
 refine setI (i:=0) B2 (by simp) rfl fun w3 B3 f3 s3=>?_
 refine hk w3 ?_ B3 ((fd.any.then (f2.sub fun k e=>.inl e)).then (f3.sub fun k e=>.inr e))
 have h3:=PW.fr hp f3 fun k e e2=>by
  subst e2
  rcases e with e | e
  ·exact hbl e
  ·have:k < w.drew.heap.size:=hlt
   omega
 refine h3.mono (fun k _ e=>e.imp (fun h=>h) fun e=>?_) fun k e=>?_
 ·have:w.drew.heap.size=w.heap.size:=rfl
  omega
 ·rcases e with e | e
  ·have:=h.2.1 k e; have:=f2.size; have:w.drew.heap.size=w.heap.size:=rfl; omega
  ·exact e.2
def compsM (s:WS) (l:List Comp):WS:=l.foldl (fun s c=>doM s (putC s.1 c)) s
theorem Zax (h:PW bw b s F w) {ok:Nat→Prop} {r:Sl} {l:List Comp} (hS:SlT ok w compT r l) (hd:∀ k,k < w.heap.size→ok k→¬ F k) (hc:∀ c∈l,CompOk c) (hm:l.length≤9223372036854775807) {K:Res []→W R} (hk:∀ w',PW bw b (compsM s l) (Gw F w w') w'→Fr F w w'→K () Q w') :
  callW Tryz.prog Z1o [.pointer (some ⟨bw,0,none⟩),.slice r.a r.n r.c] [] K Q w:=by
 refine Zc0 _ r K Q w ?_
 unfold Z6q
 have hlen:=hS.len
 have hFb:=h.2.1
 have hS0:SlT (fun k=>ok k∧k < w.heap.size) w compT r l:=hS.mono fun k hk e=>⟨e,hk⟩
 refine forI (N:=r.n) (fun s:Int=>s) (fun j i w'=>i=(j:Int)∧PW bw b (compsM s (l.take j)) (Gw F w w') w'∧Fr F w w') ⟨rfl,h.mono (fun k _ e=>.inl e) fun k e=>by
  rcases e with e | e
  ·exact hFb k e
  ·omega,Fr.refl _ _⟩ (fun j s w' h=>h.1) ?_ ?_
 ·rintro j i w1 K' hj ⟨rfl,h1,f1⟩ - hK
  have hs1:=f1.size
  refine (hS0.fr f1 fun k e e2=>hd k e.2 e.1 e2).get rfl rfl (by omega) fun c hcj=>?_
  refine newI fun w2 B2 f2 s2=>stoAll B2 rfl rfl fun w3 B3 f3 s3=>?_
  have f13:Fr None w1 w3:=f2.newer f3 fun k e=>by omega
  have fd:Fr None w3 w3.drew:=(Fr.refl _ _).drew
  have f1d:=f13.then0 fd
  have hs3:=f1d.size
  have h3:=h1.fr0 f1d
  obtain ⟨hw,hF,hk2⟩:=h3.put
  refine ptrI (h3.ptr (aggI (B3.fr fd fun h=>h) (x:=c) rfl ?_))
  refine Zp1 hw (hc c (List.mem_of_getElem? hcj)) hF fun w4 hw4 f4=>hk2 (putC (compsM s (l.take j)).1 c) w4 hw4 f4 fun w5 hp f5=>?_
  have hs5:=f5.size
  have e:compsM s (l.take (j+1))=doM (compsM s (l.take j)) (putC (compsM s (l.take j)).1 c):=by unfold compsM; rw [Z8 hcj,List.foldl_append]; rfl
  refine hK _ _ ⟨wsucc hj (by omega),?_,?_⟩
  ·rw [e]
   exact PW.two (fun k e=>e) hp hs1 hs3 hs5 hFb
  ·exact (f1.then0 f1d).exS f5 fun k e=>e.imp id fun e=>e.1
 ·rintro i w1 ⟨rfl,h1,f1⟩
  rw [List.take_of_length_le (by omega)] at h1
  exact hk w1 h1 f1
end
end Go.Proofs.YtchhhjlpnecjkaaGreat
namespace Go.Proofs.YtchhhjlpnecjkaaGreat
open Go Go.RowKit Go.Proofs.YtchhhjlpnecjkaaGreat.Den
variable {R:Type} {Q:R→World→Prop} {w:World}
variable {bw b:Nat} {s:WS} {F:Nat→Prop}
abbrev Head:=Int × Int × Int × Int × Int
def HeadOk (h:Head):Prop:=(0≤h.1∧h.1≤255)∧(0≤h.2.1∧h.2.1≤255)∧(0≤h.2.2.1∧h.2.2.1≤4294967295)∧(0≤h.2.2.2.1∧h.2.2.2.1≤4294967295)∧(0≤h.2.2.2.2∧h.2.2.2.2≤4294967295)
def inM (s:WS) (n lo hi:Int):WS:=doM s (putInM s.1 n lo hi)
def headM (s:WS) (h:Head):WS :=
 let s3:=varM (inM (inM s h.1 1 5) h.2.1 0 15) h.2.2.1.toNat
 let s4:=if h.1≤3 then plainM s3 h.2.2.2.1 32 else s3
 if h.1=2 then varM s4 (idD h.2.2.2.2 h.2.2.2.1) else s4
theorem PW.self (h:PW bw b s F w):PW bw b s (Gw F w w) w:=h.mono (fun k _ e=>.inl e) fun k e=>by
 rcases e with e | e
 ·exact h.2.1 k e
 ·omega
theorem pw_in {w0:World} (h:PW bw b s (Gw F w0 w) w) (h0:w0.heap.size≤w.heap.size) (hF:∀ k,F k→k < w0.heap.size) (f0:Fr F w0 w) {n lo hi:Int} (h1:-9223372036854775808≤lo∧lo≤9223372036854775807) (h2:-9223372036854775808≤hi∧hi≤9223372036854775807) {K:Unit→W R}
  (hk:∀ w',PW bw b (inM s n lo hi) (Gw F w0 w') w'→Fr F w0 w'→Fr (Gw F w0 w) w w'→K () Q w') :
  callW Tryz.prog Z71 [.pointer (some ⟨b,0,none⟩),.int .i64 n,.int .i64 lo,.int .i64 hi] [.sc (.int .i64)] (fun x=>callW Tryz.prog Z1 [.pointer (some ⟨bw,0,none⟩),.int .i64 x] [] K) Q w:=by
 obtain ⟨hw,_,hk2⟩:=h.put
 refine Zm0 hw h1 h2 fun w1 hw1 f1=>hk2 (putInM s.1 n lo hi) w1 hw1 f1 fun w2 hp f2=>?_
 have hs:=f2.size
 exact hk w2 (PW.two (fun k e=>e) hp h0 (Nat.le_refl _) hs hF) (f0.exS f2 fun k e=>e.imp (fun h=>h) fun e=>e.1) f2
theorem Zyt {w0:World} (h:PW bw b s (Gw F w0 w) w) (h0:w0.heap.size≤w.heap.size) (hF:∀ k,F k→k < w0.heap.size) (f0:Fr F w0 w) {v:Nat} (hv:v < 18446744073709551616) {K:Unit→W R}
  (hk:∀ w',PW bw b (varM s v) (Gw F w0 w') w'→Fr F w0 w'→Fr (Gw F w0 w) w w'→K () Q w') :
  callW Tryz.prog Z2z [.pointer (some ⟨b,0,none⟩),.int .u64 (v:Int)] [.sc (.int .i64)] (fun x=>callW Tryz.prog Z1 [.pointer (some ⟨bw,0,none⟩),.int .i64 x] [] K) Q w:=by
 obtain ⟨hw,_,hk2⟩:=h.put
 refine Z77 hw (v:=(v:Int)) (by omega) fun w1 hw1 f1=>?_
 rw [Int.toNat_natCast] at hw1 ⊢
 refine hk2 (putVarM s.1 v) w1 hw1 f1 fun w2 hp f2=>?_
 have hs:=f2.size
 exact hk w2 (PW.two (fun k e=>e) hp h0 (Nat.le_refl _) hs hF) (f0.exS f2 fun k e=>e.imp (fun h=>h) fun e=>e.1) f2
theorem Zy1 {w0:World} (h:PW bw b s (Gw F w0 w) w) (h0:w0.heap.size≤w.heap.size) (hF:∀ k,F k→k < w0.heap.size) (f0:Fr F w0 w) {v n:Int} (hv:0≤v∧v≤18446744073709551615) (hn:-9223372036854775808≤n∧n≤9223372036854775807) {K:Res []→W R}
  (hk:∀ w',PW bw b (plainM s v n) (Gw F w0 w') w'→Fr F w0 w'→Fr (Gw F w0 w) w w'→K () Q w') :
  callW Tryz.prog Zf [.pointer (some ⟨bw,0,none⟩),.int .u64 v,.int .i64 n] [] K Q w :=
 Z6c h hv hn fun w2 hp f2=>by
  have hs:=f2.size
  exact hk w2 (PW.two (fun k e=>e) hp h0 (Nat.le_refl _) hs hF) (f0.exS f2 fun k e=>e.imp (fun h=>h) fun e=>e.1) f2
theorem PW.draw {w0:World} (h:PW bw b s (Gw F w0 w) w):PW bw b s (Gw F w0 w.drew) w.drew:=h.fr0 ((Fr.refl _ _).drew)
theorem Zk0 (h:PW bw b s F w) {hd:Head} (hok:HeadOk hd) {K:Res []→W R} (hk:∀ w',PW bw b (headM s hd) (Gw F w w') w'→Fr F w w'→K () Q w') :
  callW Tryz.prog Z2j [.pointer (some ⟨bw,0,none⟩),.agg ⟨[.int .u8 hd.1,.int .u8 hd.2.1,.int .u32 hd.2.2.1,.int .u32 hd.2.2.2.1,.int .u32 hd.2.2.2.2]⟩] [] K Q w:=by
 refine Zdq _ hd K Q w ?_
 unfold Z7c
 obtain ⟨⟨k0,k1⟩,⟨c0,c1⟩,⟨e0,e1⟩,⟨t0,t1⟩,⟨b0,b1⟩⟩:=hok
 have hF:=h.2.1
 refine newI fun w1 B1 f1 s1=>?_
 have hs1:=f1.size
 have hF1:∀ k,F k→k < w1.heap.size:=fun k e=>by have:=hF k e; omega
 have nb:∀ v:World,¬ Gw F w1 v w.heap.size:=fun v e=>by
  rcases e with e | e
  ·have:=hF _ e; omega
  ·omega
 have dr:∀ v:World,Fr None v v.drew:=fun v=>(Fr.refl _ _).drew
 have fin:∀ {s':WS} {v:World},PW bw b s' (Gw F w1 v) v→PW bw b s' (Gw F w v) v:=fun hp=>hp.mono (fun k _ e=>e.imp (fun h=>h) fun e=>by omega) fun k e=>by
  rcases e with e | e
  ·exact hp.2.1 k (.inl e)
  ·exact e.2
 have q1:=((h.fr0 f1).self).draw
 have B1:=B1.fr (dr w1) fun h=>h
 refine ptrI (q1.ptr (fldI B1 (i:=0) (x:=hd.1) rfl ?_))
 rw [w64 (x:=hd.1) (by omega)]
 refine pw_in q1 (Nat.le_refl _) hF1 ((Fr.refl _ _).drew) (by decide) (by decide) fun w2 p2 f2 g2=>?_
 have B2:=(B1.fr g2 (nb _)).fr (dr w2) fun h=>h
 have q2:=p2.draw
 refine ptrI (q2.ptr (fldI B2 (i:=1) (x:=hd.2.1) rfl ?_))
 rw [w64 (x:=hd.2.1) (by omega)]
 refine pw_in q2 f2.size hF1 (f2.then0 (dr w2)) (by decide) (by decide) fun w3 p3 f3 g3=>?_
 have B3:=(B2.fr g3 (nb _)).fr (dr w3) fun h=>h
 have q3:=p3.draw
 refine ptrI (q3.ptr (fldI B3 (i:=2) (x:=hd.2.2.1) rfl ?_))
 have ee:IntKind.wrap .u64 hd.2.2.1=((hd.2.2.1.toNat:Nat):Int):=by rw [wU64 (by omega)]; omega
 rw [ee]
 refine Zyt q3 f3.size hF1 (f3.then0 (dr w3)) (by omega) fun w4 p4 f4 g4=>?_
 have B4:=B3.fr g4 (nb _)
 refine fldI B4 (i:=0) (x:=hd.1) rfl ?_
 refine joinI (fun (_:Unit) w'=>PW bw b (if hd.1≤3 then plainM (varM (inM (inM s hd.1 1 5) hd.2.1 0 15) hd.2.2.1.toNat) hd.2.2.2.1 32 else varM (inM (inM s hd.1 1 5) hd.2.1 0 15) hd.2.2.1.toNat) (Gw F w1 w') w'∧Fr F w1 w'∧Blk w' w.heap.size 30 [.int .u8 hd.1,.int .u8 hd.2.1,.int .u32 hd.2.2.1,.int .u32 hd.2.2.2.1,.int .u32 hd.2.2.2.2]) ?_ ?_
 ·refine condD (fun h3=>?_) fun h3=>?_
  ·rw [if_pos h3]
   refine fldI B4 (i:=3) (x:=hd.2.2.2.1) rfl ?_
   rw [wU64 (x:=hd.2.2.2.1) (by omega)]
   exact Zy1 p4 f4.size hF1 f4 (by omega) (by decide) fun w5 p5 f5 g5=>⟨p5,f5,B4.fr g5 (nb _)⟩
  ·rw [if_neg h3]
   exact ⟨p4,f4,B4⟩
 ·rintro _ w5 ⟨p5,f5,B5⟩
  refine fldI B5 (i:=0) (x:=hd.1) rfl ?_
  refine joinI (fun (_:Unit) w'=>PW bw b (headM s hd) (Gw F w1 w') w'∧Fr F w1 w') ?_ fun _ w6 ⟨p6,f6⟩=>hk w6 (fin p6) (f1.any.exS f6 fun k e=>.inl e)
  unfold headM
  dsimp only
  refine condE (fun h2=>?_) fun h2=>?_
  ·rw [if_pos h2]
   have q5:=p5.draw
   have B5:=B5.fr (dr w5) fun h=>h
   refine ptrI (q5.ptr (fldI B5 (i:=3) (x:=hd.2.2.2.1) rfl (fldI B5 (i:=4) (x:=hd.2.2.2.2) rfl ?_)))
   have e:IntKind.wrap .u64 (IntKind.wrap .u32 (IntKind.wrap .u32 (hd.2.2.2.1 - hd.2.2.2.2) - 1))=((idD hd.2.2.2.2 hd.2.2.2.1:Nat):Int):=by
    have a:∀ x:Int,IntKind.wrap .u32 x=x % 4294967296:=fun x=>by rw [IntKind.wrap_u32]
    rw [a,a,wU64 (by omega)]
    unfold idD
    omega
   rw [e]
   exact Zyt q5 f5.size hF1 (f5.then0 (dr w5)) (by unfold idD; omega) fun w6 p6 f6 _=>⟨p6,f6⟩
  ·rw [if_neg h2]
   exact ⟨p5,f5⟩
end Go.Proofs.YtchhhjlpnecjkaaGreat
namespace Go.Proofs.YtchhhjlpnecjkaaGreat
open Go Go.RowKit Go.Proofs.YtchhhjlpnecjkaaGreat.Den
variable {R:Type} {Q:R→World→Prop} {w:World}
variable {bw b:Nat} {s:WS} {F:Nat→Prop}
def entM (p:WS × Int) (e:Ent):WS × Int:=(compsM (plainM (varM p.1 (idD p.2 e.1)) (maskN e.2) 5) e.2,e.1)
def entsW (s:WS) (l:List Ent):WS:=(l.foldl entM (varM s l.length,0)).1
def EntFit (e:Ent):Prop:=(0≤e.1∧e.1≤4294967295)∧e.2.length≤1048576∧∀ c∈e.2,CompOk c
theorem Zjz (h:PW bw b s F w) {ok:Nat→Prop} {r:Sl} {raws:List (Int × Sl)} {L:List Ent} (hS:SlT ok w entT r raws) (hE:EntsR ok w raws L) (hd:∀ k,k < w.heap.size→ok k→¬ F k) (hL:∀ e∈L,EntFit e) (hm:L.length≤1048576) {K:Res []→W R} (hk:∀ w',PW bw b (entsW s L) (Gw F w w') w'→Fr F w w'→K () Q w') :
  callW Tryz.prog Z1t [.pointer (some ⟨bw,0,none⟩),.slice r.a r.n r.c] [] K Q w:=by
 refine Zdp _ r K Q w ?_
 unfold Z7b
 have hF:=h.2.1
 have hrn:r.n=L.length:=hS.len.trans hE.len
 have hS0:SlT (fun k=>ok k∧k < w.heap.size) w entT r raws:=hS.mono fun k hk e=>⟨e,hk⟩
 have hE0:EntsR (fun k=>ok k∧k < w.heap.size) w raws L:=hE.mono fun k hk e=>⟨e,hk⟩
 refine Zay h (by omega) fun w1 p1 f1=>?_
 rw [hrn] at p1
 have hs1:=f1.size
 refine newI fun w2 B2 f2 s2=>stoAll B2 rfl rfl fun w3 B3 f3 s3=>?_
 have f13:Fr None w1 w3:=f2.newer f3 fun k e=>by omega
 have hs3:=f13.size
 have p3:PW bw b (varM s L.length) (Gw F w w1) w3:=p1.fr0 f13
 have two:∀ {v:World} {s':WS},w3.heap.size≤v.heap.size→PW bw b s' (Gw (Gw F w w1) w3 v) v→PW bw b s' (Gw F w v) v:=fun hv hp=>hp.mono (fun k _ e=>by
  rcases e with (e | e) | e
  ·exact .inl e
  ·exact .inr (by omega)
  ·exact .inr (by omega)) fun k e=>by
  rcases e with e | e
  ·have:=hF k e; omega
  ·exact e.2
 have nbl:∀ v:World,¬ Gw (Gw F w w1) w3 v w1.heap.size:=fun v e=>by
  rcases e with (e | e) | e
  ·have:=hF _ e; omega
  ·omega
  ·omega
 have b1:∀ k,Gw F w w1 k→k < w3.heap.size:=fun k e=>by
  rcases e with e | e
  ·have:=hF k e; omega
  ·omega
 refine forI (N:=r.n) (fun s:Int=>s) (fun j i v=>i=(j:Int)∧PW bw b ((L.take j).foldl entM (varM s L.length,0)).1 (Gw (Gw F w w1) w3 v) v∧Blk v w1.heap.size 54 [.int .u32 ((L.take j).foldl entM (varM s L.length,0)).2]∧Fr (fun k=>F k∨w.heap.size≤k) w v∧w3.heap.size≤v.heap.size)
  ⟨rfl,p3.self,B3,(f1.sub fun k e=>.inl e).then0 f13,Nat.le_refl _⟩ (fun j s w' h=>h.1) ?_ ?_
 ·rintro j i v K' hj ⟨rfl,hp,Bl,fv,hsv⟩ - hK
  obtain ⟨e,he⟩:∃ e,L[j]?=some e:=⟨_,List.getElem?_eq_getElem (by omega)⟩
  have hfit:=hL e (List.mem_of_getElem? he)
  obtain ⟨r1,hr1,ha1,ha2⟩:=hE0.get he
  have hno:∀ k,ok k∧k < w.heap.size→¬ (F k∨w.heap.size≤k):=fun k e e2=>by
   rcases e2 with e2 | e2
   ·exact hd k e.2 e.1 e2
   ·omega
  have efold:(L.take (j+1)).foldl entM (varM s L.length,0)=entM ((L.take j).foldl entM (varM s L.length,0)) e:=by rw [Z8 he,List.foldl_append]; rfl
  generalize (L.take j).foldl entM (varM s L.length,0)=p at hp Bl efold
  refine (hS0.fr fv hno).get (j:=j) rfl rfl (by have:=hE.len; omega) fun y hy=>?_
  rw [hr1] at hy
  cases hy
  refine newI fun v1 C1 g1 t1=>stoAll C1 rfl rfl fun v2 C2 g2 t2=>?_
  have gv2:Fr None v v2:=g1.newer g2 fun k e=>by omega
  have hsv2:=gv2.size
  obtain ⟨F',hF'⟩:∃ F',F'=Gw (Gw F w w1) w3 v:=⟨_,rfl⟩
  have hp2:PW bw b p.1 F' v2:=by rw [hF']; exact hp.fr0 gv2
  have bF':∀ k,F' k→k < v.heap.size:=fun k e=>by rw [hF'] at e; exact hp.2.1 k e
  have nb':¬ F' w1.heap.size:=by rw [hF']; exact nbl v
  have exF:∀ k,F' k→F k∨w.heap.size≤k:=fun k e=>by
   rw [hF'] at e
   rcases e with (e | e) | e
   ·exact .inl e
   ·exact .inr e.1
   ·exact .inr (by omega)
  have fv2:Fr (fun k=>F k∨w.heap.size≤k) w v2:=fv.then0 gv2
  refine fldI C2 (i:=0) (x:=r1.1) rfl ?_
  rw [ha1]
  refine Zeq hp2 (Bl.fr gv2 fun h=>h) nb' fun v3 p4 Bl3 f4=>?_
  have hs4:=f4.size
  have C3:=C2.fr f4 fun e=>by
   rcases e with e | e
   ·have:=bF' _ e; omega
   ·have:=Bl.lt; omega
  have fv3:Fr (fun k=>F k∨w.heap.size≤k) w v3:=fv2.then (f4.sub fun k e=>by
   rcases e with e | e
   ·exact exF k e
   ·exact .inr (by omega))
  refine fldI C3 (i:=1) (x:=r1.2) rfl ?_
  refine Zt (ha2.fr fv3 hno) hfit.2.1 hfit.2.2 fun v4 f5=>?_
  have hs5:=f5.size
  have fv4:=fv3.then0 f5
  have hmk:=Z6l e.2
  rw [wU64 (x:=((maskN e.2:Nat):Int)) (by omega)]
  refine Z6c (p4.fr0 f5) (v:=((maskN e.2:Nat):Int)) (n:=5) (by omega) (by decide) fun v5 p6 f6=>?_
  have hs6:=f6.size
  have p6:PW bw b (plainM (varM p.1 (idD p.2 e.1)) (maskN e.2) 5) (Gw F' v2 v5) v5:=PW.two (fun k e=>e) p6 hs4 hs5 hs6 fun k e=>by have:=bF' k e; omega
  have C5:=(C3.fr f5 fun h=>h).fr f6 fun e=>by
   rcases e with e | e
   ·have:=bF' _ e; omega
   ·omega
  have Bl5:=(Bl3.fr f5 fun h=>h).fr f6 fun e=>by
   rcases e with e | e
   ·exact nb' e
   ·have:=Bl.lt; omega
  have ex2:∀ {x y:World} k,w.heap.size≤x.heap.size→Gw F' x y k→F k∨w.heap.size≤k:=fun k hx e=>by
   rcases e with e | e
   ·exact exF k e
   ·exact .inr (by omega)
  have fv5:Fr (fun k=>F k∨w.heap.size≤k) w v5:=fv4.then (f6.sub fun k e=>ex2 k (by omega) e)
  refine fldI C5 (i:=1) (x:=r1.2) rfl ?_
  refine Zax p6 (ha2.fr fv5 hno) (fun k hk e e2=>hno k e (ex2 k (by omega) e2)) hfit.2.2 (by have:=hfit.2.1; omega) fun v6 p7 f7=>?_
  have hs7:=f7.size
  have p7:PW bw b (entM p e).1 (Gw F' v2 v6) v6:=PW.two (fun k e=>e) p7 (by omega) (Nat.le_refl _) hs7 fun k e=>by have:=bF' k e; omega
  have Bl6:=Bl5.fr f7 fun e=>by
   rcases e with e | e
   ·exact nb' e
   ·have:=Bl.lt; omega
  refine hK _ _ ⟨wsucc hj (by omega),?_,?_,fv5.then (f7.sub fun k e=>ex2 k (by omega) e),by omega⟩
  ·rw [efold]
   refine p7.mono (fun k _ e=>?_) fun k e=>?_
   ·rcases e with e | e
    ·rw [hF'] at e
     exact e.imp (fun h=>h) fun e=>by omega
    ·exact .inr (by omega)
   ·rcases e with e | e
    ·have:=b1 k e; omega
    ·exact e.2
  ·rw [efold]
   exact Bl6
 ·rintro i v ⟨_,hp,_,fv,hsv⟩
  rw [List.take_of_length_le (by omega)] at hp
  refine hk v (two hsv hp) ?_
  exact (Fr.refl F w).exS fv fun k e=>e
end Go.Proofs.YtchhhjlpnecjkaaGreat
namespace Go.Proofs.YtchhhjlpnecjkaaGreat
open Go Go.RowKit Go.Proofs.YtchhhjlpnecjkaaGreat.Den
variable {R:Type} {Q:R→World→Prop} {w:World}
theorem EntsR.snoc {ok:Nat→Prop} {raws:List (Int × Sl)} {L:List Ent} (h:EntsR ok w raws L) {r:Int × Sl} {e:Ent} (h1:r.1=e.1) (h2:SlT ok w compT r.2 e.2):EntsR ok w (raws ++ [r]) (L ++ [e]):=by
 have:=All2.snoc (p:=fun (r:Int × Sl) (e:Ent)=>r.1=e.1∧SlT ok w compT r.2 e.2) ⟨h.len,h.at_⟩ ⟨h1,h2⟩
 exact ⟨this.len,this.at_⟩
abbrev DRaw:=Sl × Sl × Sl
structure DltI (n bx:Nat) (lab:Nat→Nat) (r:DRaw) (rc:List (Int × Sl)) (rd:List ChgRaw) (gone:List Int) (come:List Ent) (chg:List Chg) (w:World):Prop where
 blk:Blk w bx 80 [.slice r.1.a r.1.n r.1.c,.slice r.2.1.a r.2.1.n r.2.1.c,.slice r.2.2.a r.2.2.n r.2.2.c]
 lb:lab bx=6
 og:Own (fun k=>lab k=1) w 54 idT r.1 gone
 oc:Own (fun k=>lab k=2) w 57 entT r.2.1 rc
 ec:EntsR (fun k=>lab k=3) w rc come
 od:Own (fun k=>lab k=4) w 86 chgT r.2.2 rd
 ed:All2 (fun a b=>chgR (fun k=>lab k=5) w a b) rd chg
 up:∀ k,lab k≠0→n≤k∧k < w.heap.size
section
variable {n bx:Nat} {lab:Nat→Nat} {r:DRaw} {rc:List (Int × Sl)} {rd:List ChgRaw} {gone:List Int} {come:List Ent} {chg:List Chg}
theorem DltI.fr0 (h:DltI n bx lab r rc rd gone come chg w) {w':World} (f:Fr None w w'):DltI n bx lab r rc rd gone come chg w' :=
 ⟨h.blk.fr f fun h=>h,h.lb,h.og.none f,h.oc.none f,h.ec.fr f fun _ _ h=>h,h.od.none f,h.ed.imp fun a b hab=>St.fr0 (A:=fun F w=>chgR F w a b) (Z2o a b) hab f,fun k e=>⟨(h.up k e).1,Nat.lt_of_lt_of_le (h.up k e).2 f.size⟩⟩
theorem DltI.rest (h:DltI n bx lab r rc rd gone come chg w) (hn:n≤w.heap.size) {c:Nat} {w':World} (f:Fr (fun k=>lab k=c) w w') :
  (1≠c→Own (fun k=>relab lab w.heap.size w'.heap.size c k=1) w' 54 idT r.1 gone) ∧
  (2≠c→Own (fun k=>relab lab w.heap.size w'.heap.size c k=2) w' 57 entT r.2.1 rc) ∧
  (3≠c→EntsR (fun k=>relab lab w.heap.size w'.heap.size c k=3) w' rc come) ∧
  (4≠c→Own (fun k=>relab lab w.heap.size w'.heap.size c k=4) w' 86 chgT r.2.2 rd) ∧
  (5≠c→All2 (fun a b=>chgR (fun k=>relab lab w.heap.size w'.heap.size c k=5) w' a b) rd chg) ∧
  (6≠c→Blk w' bx 80 [.slice r.1.a r.1.n r.1.c,.slice r.2.1.a r.2.1.n r.2.1.c,.slice r.2.2.a r.2.2.n r.2.2.c]) ∧
  relab lab w.heap.size w'.heap.size c bx=6∧(∀ k,relab lab w.heap.size w'.heap.size c k≠0→n≤k∧k < w'.heap.size):=by
 have hs:=f.size
 refine ⟨fun hc=>St.other (A:=fun F w=>Own F w 54 idT r.1 gone) Own.st h.og f hc,fun hc=>St.other (A:=fun F w=>Own F w 57 entT r.2.1 rc) Own.st h.oc f hc,
  fun hc=>⟨h.ec.len,fun i a b ha hb=>⟨(h.ec.at_ i a b ha hb).1,St.other (A:=fun F w=>SlT F w compT a.2 b.2) SlT.st (h.ec.at_ i a b ha hb).2 f hc⟩⟩,
  fun hc=>St.other (A:=fun F w=>Own F w 86 chgT r.2.2 rd) Own.st h.od f hc,fun hc=>h.ed.imp fun a b hab=>St.other (A:=fun F w=>chgR F w a b) (Z2o a b) hab f hc,
  fun hc=>h.blk.fr f fun e=>hc (h.lb.symm.trans e),by rw [Z16 h.blk.lt]; exact h.lb,fun k e=>?_⟩
 rcases Z82 e with e | e
 ·have:=h.up k e.1; omega
 ·omega
theorem DltI.grow (h:DltI n bx lab r rc rd gone come chg w) (hn:n≤w.heap.size) (c:Nat) {w':World} (f:Fr None w w'):DltI n bx (relab lab w.heap.size w'.heap.size c) r rc rd gone come chg w':=by
 have hs:=f.size
 have k1:∀ {A:OB} (_:St A) {i:Nat},A (fun k=>lab k=i) w→A (fun k=>relab lab w.heap.size w'.heap.size c k=i) w':=fun hA i a=>hA a f fun k hk e=>⟨fun h=>h,by show relab _ _ _ _ _=_; rw [Z16 hk]; exact e⟩
 refine ⟨h.blk.fr f fun h=>h,by rw [Z16 h.blk.lt]; exact h.lb,k1 (A:=fun F w=>Own F w 54 idT r.1 gone) Own.st h.og,k1 (A:=fun F w=>Own F w 57 entT r.2.1 rc) Own.st h.oc,
  ⟨h.ec.len,fun i a b ha hb=>⟨(h.ec.at_ i a b ha hb).1,k1 (A:=fun F w=>SlT F w compT a.2 b.2) SlT.st (h.ec.at_ i a b ha hb).2⟩⟩,k1 (A:=fun F w=>Own F w 86 chgT r.2.2 rd) Own.st h.od,
  h.ed.imp fun a b hab=>k1 (A:=fun F w=>chgR F w a b) (Z2o a b) hab,fun k e=>?_⟩
 rcases Z82 e with e | e
 ·have:=h.up k e.1; omega
 ·omega
theorem DltI.turned {w':World} (og:Own (fun k=>lab k=1) w 54 idT r.1 gone) (oc:Own (fun k=>lab k=2) w 57 entT r.2.1 rc) (ec:EntsR (fun k=>lab k=3) w rc come) (od:Own (fun k=>lab k=4) w 86 chgT r.2.2 rd)
  (ed:All2 (fun a b=>chgR (fun k=>lab k=5) w a b) rd chg) (hl:lab bx=6) (up:∀ k,lab k≠0→n≤k∧k < w.heap.size) (B:Blk w' bx 80 [.slice r.1.a r.1.n r.1.c,.slice r.2.1.a r.2.1.n r.2.1.c,.slice r.2.2.a r.2.2.n r.2.2.c]) (f:Fr (fun k=>k=bx) w w'):DltI n bx lab r rc rd gone come chg w':=by
 have hs:=f.size
 have nb:∀ {i:Nat},i≠6→∀ k,lab k=i→k≠bx:=fun hi k e e2=>by subst e2; omega
 refine ⟨B,hl,og.fr f (nb (by decide)),oc.fr f (nb (by decide)),ec.fr f (nb (by decide)),od.fr f (nb (by decide)),ed.imp fun a b hab=>St.fr (A:=fun F w=>chgR F w a b) (Z2o a b) hab f (nb (by decide)),fun k e=>?_⟩
 have:=up k e; omega
theorem DltI.addGone (h:DltI n bx lab r rc rd gone come chg w) (hn:n≤w.heap.size) (hm:gone.length < 2097152) {x:Int} {K:W R} (hk:∀ lab' r' w',DltI n bx lab' r' rc rd (gone ++ [x]) come chg w'→Fr (Up n) w w'→((∀ k,k < w.heap.size→lab' k=lab k)∧Fr (fun k=>lab k≠0) w w')→K Q w') :
  newW 54 [.int .u32 x] (fun a=>rawW Tryz.prog (Builtin.append_ #[77,77] 77 #[.slice r.1.a r.1.n r.1.c,.slice (some a) 1 1]) [.sc .sl] fun (z:Sl)=>stoL (Addr.add ⟨bx,0,none⟩ 0) [.slice z.a z.n z.c] 0 K) Q w:=by
 refine appLab (x:=x) Zyp rfl h.og (by omega) (by omega) fun z w1 o1 f1=>?_
 obtain ⟨-,a2,a3,a4,a5,a6,a7,a8⟩:=h.rest hn f1
 rw [add_lit]
 refine setI (i:=0) (a6 (by decide)) (by simp) rfl fun w2 B2 f2 s2=>hk (relab lab w.heap.size w1.heap.size 1) (z,r.2) w2 (DltI.turned o1 (a2 (by decide)) (a3 (by decide)) (a4 (by decide)) (a5 (by decide)) a7 a8 B2 f2) ?_ ⟨fun k hk=>Z16 hk,?_⟩
 ·exact (f1.sub fun k e=>(h.up k (by omega)).1).then (f2.sub fun k e=>by rw [e]; exact (h.up bx (by rw [h.lb]; decide)).1)
 ·exact (f1.sub fun k e e2=>by omega).then (f2.sub fun k e=>by rw [e,h.lb]; decide)
theorem DltI.addCome (h:DltI n bx lab r rc rd gone come chg w) (hn:n≤w.heap.size) (hm:come.length < 2097152) {e:Ent} {t:Sl} (ht:SlT (fun k=>lab k=3) w compT t e.2) {K:W R} (hk:∀ lab' r' w',DltI n bx lab' r' (rc ++ [(e.1,t)]) rd gone (come ++ [e]) chg w'→Fr (Up n) w w'→K Q w') :
  newW 57 [.int .u32 e.1,.slice t.a t.n t.c] (fun a=>rawW Tryz.prog (Builtin.append_ #[23,23] 23 #[.slice r.2.1.a r.2.1.n r.2.1.c,.slice (some a) 1 1]) [.sc .sl] fun (z:Sl)=>stoL (Addr.add ⟨bx,0,none⟩ 1) [.slice z.a z.n z.c] 0 K) Q w:=by
 have hl:=h.ec.len
 refine appLab (x:=((e.1,t):Int × Sl)) Z5m rfl h.oc (by omega) (by omega) fun z w1 o1 f1=>?_
 obtain ⟨a1, -,a3,a4,a5,a6,a7,a8⟩:=h.rest hn f1
 rw [add_lit]
 have t1:=St.other (A:=fun F w=>SlT F w compT t e.2) (c:=2) SlT.st ht f1 (by decide)
 refine setI (i:=1) (a6 (by decide)) (by simp) rfl fun w2 B2 f2 s2=>hk (relab lab w.heap.size w1.heap.size 2) (r.1,z,r.2.2) w2 (DltI.turned (a1 (by decide)) o1 ((a3 (by decide)).snoc rfl t1) (a4 (by decide)) (a5 (by decide)) a7 a8 B2 f2) ?_
 exact (f1.sub fun k e=>(h.up k (by omega)).1).then (f2.sub fun k e=>by rw [e]; exact (h.up bx (by rw [h.lb]; decide)).1)
theorem DltI.addChg (h:DltI n bx lab r rc rd gone come chg w) (hn:n≤w.heap.size) (hm:chg.length < 2097152) {d:Chg} {t:ChgRaw} (ht:chgR (fun k=>lab k=5) w t d) {K:W R} (hk:∀ lab' r' w',DltI n bx lab' r' rc (rd ++ [t]) gone come (chg ++ [d]) w'→Fr (Up n) w w'→((∀ k,k < w.heap.size→lab' k=lab k)∧Fr (fun k=>lab k≠0) w w')→K Q w') :
  newW 86 [.int .u32 t.1,.int .u8 t.2.1,.slice t.2.2.1.a t.2.2.1.n t.2.2.1.c,.slice t.2.2.2.a t.2.2.2.n t.2.2.2.c] (fun a=>rawW Tryz.prog (Builtin.append_ #[78,78] 78 #[.slice r.2.2.a r.2.2.n r.2.2.c,.slice (some a) 1 1]) [.sc .sl] fun (z:Sl)=>stoL (Addr.add ⟨bx,0,none⟩ 2) [.slice z.a z.n z.c] 0 K) Q w:=by
 have hl:=h.ed.len
 refine appLab (x:=t) Zuo rfl h.od (by omega) (by omega) fun z w1 o1 f1=>?_
 obtain ⟨a1,a2,a3, -,a5,a6,a7,a8⟩:=h.rest hn f1
 rw [add_lit]
 have t1:=St.other (A:=fun F w=>chgR F w t d) (c:=4) (Z2o t d) ht f1 (by decide)
 refine setI (i:=2) (a6 (by decide)) (by simp) rfl fun w2 B2 f2 s2=>hk (relab lab w.heap.size w1.heap.size 4) (r.1,r.2.1,z) w2 (DltI.turned (a1 (by decide)) (a2 (by decide)) (a3 (by decide)) o1 ((a5 (by decide)).snoc t1) a7 a8 B2 f2) ?_ ⟨fun k hk=>Z16 hk,?_⟩
 ·exact (f1.sub fun k e=>(h.up k (by omega)).1).then (f2.sub fun k e=>by rw [e]; exact (h.up bx (by rw [h.lb]; decide)).1)
 ·exact (f1.sub fun k e e2=>by omega).then (f2.sub fun k e=>by rw [e,h.lb]; decide)
end
structure DltR (ok:Nat→Prop) (w:World) (r:DRaw) (gone:List Int) (come:List Ent) (chg:List Chg):Prop where
 g:SlT ok w idT r.1 gone
 c:∃ rc,SlT ok w entT r.2.1 rc∧EntsR ok w rc come
 d:∃ rd,SlT ok w chgT r.2.2 rd∧All2 (fun a b=>chgR ok w a b) rd chg
theorem DltR.st {r:DRaw} {gone:List Int} {come:List Ent} {chg:List Chg}:St fun F w=>DltR F w r gone come chg:=fun {F F' S w w'} h f hs=>by
 obtain ⟨g,⟨rc,c1,c2⟩,⟨rd,d1,d2⟩⟩:=h
 exact ⟨SlT.st g f hs,⟨rc,SlT.st c1 f hs,c2.len,fun i a b ha hb=>⟨(c2.at_ i a b ha hb).1,SlT.st (c2.at_ i a b ha hb).2 f hs⟩⟩,⟨rd,SlT.st d1 f hs,d2.imp fun a b hab=>Z2o a b hab f hs⟩⟩
def diffE (was now:List Ent):Int:=if formM 0 was≠0 then formM 0 was else formM 0 now
theorem EntFit.idOk {e:Ent} (h:EntFit e):IdOk e.1∧Small e.2:=⟨h.1,h.2.1⟩
theorem Z6z {α β:Type} (f:α→Option β) (l:List α):(l.filterMap f).length≤l.length:=List.length_filterMap_le _ _
theorem Zen {ok1 ok2:Nat→Prop} {s1 s2:Sl} {raws1 raws2:List (Int × Sl)} {was now:List Ent} (hS1:SlT ok1 w entT s1 raws1) (hE1:EntsR ok1 w raws1 was) (hS2:SlT ok2 w entT s2 raws2) (hE2:EntsR ok2 w raws2 now)
  (hm1:was.length≤1048576) (hm2:now.length≤1048576) (hL1:∀ e∈was,EntFit e) (hL2:∀ e∈now,EntFit e) {K:Res [.agg [.sl,.sl,.sl],.sc (.int .i64)]→W R}
  (hbad:diffE was now≠0→∀ w',Fr None w w'→K ((⟨none,0,0⟩,⟨none,0,0⟩,⟨none,0,0⟩),diffE was now) Q w')
  (hk:diffE was now=0→∀ r w',DltR (Up w.heap.size) w' r (goneM was now) (comeM was now) (chgsM was now)→Fr None w w'→K (r,0) Q w') :
  callW Tryz.prog Zba [.slice s1.a s1.n s1.c,.slice s2.a s2.n s2.c] [.agg [.sl,.sl,.sl],.sc (.int .i64)] K Q w:=by
 refine Zr9 s1 s2 K Q w ?_
 unfold Zkt
 have l1:=hS1.len.trans hE1.len
 have l2:=hS2.len.trans hE2.len
 refine newI fun w1 B1 f1 t1=>newI fun w2 B2 f2 t2=>?_
 have f02:=f1.then0 f2
 have B1:=B1.fr f2 fun h=>h
 have hz2:=f02.size
 refine forI (N:=2) (fun s:Int=>s) (fun j i v=>i=(j:Int)∧Fr None w2 v∧(1≤j→formM 0 was=0)∧(2≤j→formM 0 now=0)) ⟨rfl,Fr.refl _ _,by omega,by omega⟩ (fun j s w' h=>h.1) ?_ ?_
 ·rintro j i v K' hj ⟨rfl,fv,p1,p2⟩ - hK
  have Bv:=B2.fr fv fun h=>h
  refine idxB (by omega) (by omega) ?_
  have go:∀ {ok:Nat→Prop} {s:Sl} {raws:List (Int × Sl)} {L:List Ent},SlT ok w entT s raws→EntsR ok w raws L→L.length≤1048576→(∀ e∈L,EntFit e)→(formM 0 L≠0→diffE was now=formM 0 L)→(formM 0 L=0→(1≤j+1→formM 0 was=0)∧(2≤j+1→formM 0 now=0)) →
    callW Tryz.prog Z59 [.slice s.a s.n s.c] [.sc (.int .i64)] (fun (x_7:Int)=>cond (x_7 != 0) (stoL ⟨w.heap.size,0,none⟩ [.slice none 0 0,.slice none 0 0,.slice none 0 0] 0 <| ld (.agg [.sl,.sl,.sl]) ⟨w.heap.size,0,none⟩ fun (x_8:DRaw)=>retW (x_8,x_7)) (K' (IntKind.wrap .i64 ((j:Int)+1)))) (fun r w=>K r Q w) v:=by
   intro ok s raws L hS hE hm hL hne he
   refine Z6o ((hS.fr0 f02).fr0 fv) ((hE.fr f02 fun _ _ h=>h).fr fv fun _ _ h=>h) (by omega) (fun e he=>(hL e he).idOk) fun v2 g2=>?_
   refine condN (fun h=>?_) fun h=>?_
   ·refine stoAll ((B1.fr fv fun h=>h).fr g2 fun h=>h) rfl rfl fun v3 B3 g3 t3=>aggI B3 (x:=((⟨none,0,0⟩,⟨none,0,0⟩,⟨none,0,0⟩):DRaw)) rfl ?_
    have e:=hne h
    rw [← e]
    refine hbad (by rw [e]; exact h) v3 (((f02.then0 fv).then0 g2).newer g3 fun k e=>by omega)
   ·obtain ⟨a,b⟩:=he h
    exact hK _ _ ⟨wsucc hj (by omega),fv.then0 g2,a,b⟩
  rcases (show j=0∨j=1 by omega) with rfl | rfl
  ·refine fld0 Bv (i:=0) (x:=s1) rfl (go hS1 hE1 hm1 hL1 (fun h=>if_pos h) fun h=>⟨fun _=>h,fun h=>by omega⟩)
  ·have h0:=p1 (by omega)
   refine fld0 Bv (i:=1) (x:=s2) rfl (go hS2 hE2 hm2 hL2 (fun h=>if_neg (by rw [h0]; simp)) fun h=>⟨fun _=>h0,fun _=>h⟩)
 rintro i2 v ⟨_,fv,p1,p2⟩
 have z1:=p1 (by omega)
 have z2:=p2 (by omega)
 have hE0:diffE was now=0:=by unfold diffE; rw [if_neg (by rw [z1]; simp)]; exact z2
 have hk:=hk hE0
 have fw:=formOk.1 z1
 have fn:=formOk.1 z2
 have f0v:=f02.then0 fv
 refine newI fun v1 B3 g1 t3=>?_
 have f01:=f0v.then0 g1
 have hz1:=f01.size
 have hzv:=f0v.size
 have BX:=((B1.fr fv fun h=>h).fr g1 fun h=>h)
 have hzw:w.heap.size < w2.heap.size:=by omega
 have BX0:=B1.fr fv fun h=>h
 have hzv2:=fv.size
 refine loopI (fun (st:Int × Int) u=>∃ i k:Nat,st=((i:Int),(k:Int))∧i≤was.length∧k≤now.length∧Side was now i k∧(∃ lab r rc rd,DltI v.heap.size v.heap.size lab r rc rd (goneP (was.take i) now) (comeM was (now.take k)) (chgsM was (now.take k)) u)∧Fr None v u∧v.heap.size≤u.heap.size)
  (fun st _=>(was.length - st.1.toNat)+(now.length - st.2.toNat)) ⟨0,0,rfl,by omega,by omega,Side.zero _ _,⟨fun k=>if k=v.heap.size then 6 else 0,(⟨none,0,0⟩,⟨none,0,0⟩,⟨none,0,0⟩),[],[],B3,by simp,Own.nil _ _ _ _,Own.nil _ _ _ _,EntsR.nil _ _,Own.nil _ _ _ _,All2.nil _,fun k e=>by
   by_cases hkb:k=v.heap.size
   ·omega
   ·exact absurd (if_neg hkb) e⟩,g1,by omega⟩ ?_
 rintro st u ⟨i,k,rfl,hi,hk2,sd,⟨lab,r,rc,rd,D⟩,fu,hzu⟩
 dsimp only
 have f0u:=f0v.then0 fu
 have hS1u:=hS1.fr0 f0u
 have hS2u:=hS2.fr0 f0u
 refine joinI (fun z u'=>z=decide (i < was.length∨k < now.length)∧u=u') ?_ ?_
 ·refine condD (fun h=>⟨by simp; omega,rfl⟩) fun h=>⟨decide_eq_decide.2 (by omega),rfl⟩
 rintro z u' ⟨rfl,rfl⟩
 refine condD (fun hlt=>?_) fun hge=>?_
 rotate_left
 ·rw [List.take_of_length_le (by omega),List.take_of_length_le (by omega)] at D
  refine aggI D.blk (x:=r) rfl ?_
  have BXu:=(BX0.fr fu fun h=>h)
  refine stoAll BXu rfl rfl fun u1 C1 e1 m1=>aggI C1 (x:=r) rfl ?_
  have nb:∀ {i:Nat},i≠0→∀ k,k < u.heap.size→lab k=i→¬ k=w.heap.size∧w.heap.size≤k:=fun hi k hk e=>by have:=D.up k (by omega); omega
  refine hk r u1 ⟨SlT.st D.og.sl e1 (nb (by decide)),⟨rc,SlT.st D.oc.sl e1 (nb (by decide)),D.ec.len,fun i a b ha hb=>⟨(D.ec.at_ i a b ha hb).1,SlT.st (D.ec.at_ i a b ha hb).2 e1 (nb (by decide))⟩⟩,
   ⟨rd,SlT.st D.od.sl e1 (nb (by decide)),D.ed.imp fun a b hab=>Z2o a b hab e1 (nb (by decide))⟩⟩ (f0u.newer e1 fun k e=>by omega)
 have fd:Fr None u u.drew:=(Fr.refl _ _).drew
 have fud:=fu.then0 fd
 have Dd:=D.fr0 fd
 have hS1d:=hS1u.fr0 fd
 have hS2d:=hS2u.fr0 fd
 have hE1d:=(hE1.fr f0u fun _ _ h=>h).fr fd fun _ _ h=>h
 have hE2d:=(hE2.fr f0u fun _ _ h=>h).fr fd fun _ _ h=>h
 have glen:(goneP (was.take i) now).length≤1048576:=by
  unfold goneP; rw [List.length_map]; exact Nat.le_trans (List.length_filter_le _ _) (by simp; omega)
 have clen:(comeM was (now.take k)).length≤1048576:=by
  unfold comeM; exact Nat.le_trans (List.length_filter_le _ _) (by simp; omega)
 have dlen:(chgsM was (now.take k)).length≤1048576:=by
  unfold chgsM; exact Nat.le_trans (Z6z _ _) (by simp; omega)
 refine joinI (fun z u'=>(z=true↔(k=now.length∨∃ a b,was[i]?=some a∧now[k]?=some b∧a.1 < b.1))∧u'=u.drew) ?_ ?_
 ·refine condE (fun h=>⟨⟨fun _=>.inl (by have h:(k:Int)=(s2.n:Int):=h; omega),fun _=>rfl⟩,rfl⟩) fun h=>?_
  have h:k≠now.length:=fun e=>h (by show (k:Int)=(s2.n:Int); omega)
  refine condD (fun h2=>?_) fun h2=>⟨⟨fun h=>(by cases h),?_⟩,rfl⟩
  ·have h2:(i:Int) < (s1.n:Int):=h2
   obtain ⟨a,ha⟩:∃ a,was[i]?=some a:=⟨_,List.getElem?_eq_getElem (by omega)⟩
   obtain ⟨b,hb⟩:∃ b,now[k]?=some b:=⟨_,List.getElem?_eq_getElem (by omega)⟩
   obtain ⟨q1,hq1,hq2,_⟩:=hE1.get ha
   obtain ⟨y1,hy1,hy2,_⟩:=hE2.get hb
   refine hS1d.readK rfl rfl hq1 fun ad had=>(had _ hS1d).fld (i:=0) (s:=.int .u32) (y:=q1.1) rfl ?_
   refine hS2d.readK rfl rfl hy1 fun ad2 had2=>(had2 _ hS2d).fld (i:=0) (s:=.int .u32) (y:=y1.1) rfl ?_
   refine ⟨⟨fun hz=>.inr ⟨a,b,ha,hb,?_⟩,fun hz=>?_⟩,rfl⟩
   ·rw [← hq2,← hy2]; simpa using hz
   ·rcases hz with hz | ⟨a',b',ha',hb',hlt⟩
    ·exact absurd hz h
    ·rw [ha] at ha'; rw [hb] at hb'; cases ha'; cases hb'
     rw [hq2,hy2]; simpa using hlt
  ·rintro (hz | ⟨a,b,ha,_⟩)
   ·exact absurd hz h
   ·have h2:¬ (i:Int) < (s1.n:Int):=h2
    have:=(List.getElem?_eq_some_iff.1 ha).1
    omega
 rintro z u1 ⟨hz,rfl⟩
 have next:∀ (i' k':Nat) (st:Int × Int) (u':World),st=((i':Int),(k':Int))→i≤i'→k≤k'→i+k < i'+k'→i'≤was.length→k'≤now.length→Side was now i' k'→(∃ lab r rc rd,DltI v.heap.size v.heap.size lab r rc rd (goneP (was.take i') now) (comeM was (now.take k')) (chgsM was (now.take k')) u')→Fr None v u'→v.heap.size≤u'.heap.size →
   (∃ i k:Nat,st=((i:Int),(k:Int))∧i≤was.length∧k≤now.length∧Side was now i k∧(∃ lab r rc rd,DltI v.heap.size v.heap.size lab r rc rd (goneP (was.take i) now) (comeM was (now.take k)) (chgsM was (now.take k)) u')∧Fr None v u'∧v.heap.size≤u'.heap.size)∧(was.length - st.1.toNat)+(now.length - st.2.toNat) < (was.length - i)+(now.length - k):=by
  intro i' k' st u' e h1 h2 h3 h4 h5 h6 h7 h8 h9
  subst e
  exact ⟨⟨i',k',rfl,h4,h5,h6,h7,h8,h9⟩,by simp only [Int.toNat_natCast]; omega⟩
 refine joinI (fun (st:Int × Int) u'=>(∃ i' k':Nat,st=((i':Int),(k':Int))∧i≤i'∧k≤k'∧i+k < i'+k'∧i'≤was.length∧k'≤now.length∧Side was now i' k'∧(∃ lab r rc rd,DltI v.heap.size v.heap.size lab r rc rd (goneP (was.take i') now) (comeM was (now.take k')) (chgsM was (now.take k')) u')∧Fr None v u'∧v.heap.size≤u'.heap.size)) ?_ ?_
 rotate_left
 ·rintro st u2 ⟨i',k',e,h1,h2,h3,h4,h5,h6,h7,h8,h9⟩
  exact next i' k' (st.1,st.2) u2 (by rw [e]) h1 h2 h3 h4 h5 h6 h7 h8 h9
 have hup:∀ {a b:World},Fr None v a→Fr (Up v.heap.size) a b→Fr None v b:=fun f g=>f.newer g fun k e=>e
 refine condI (fun hzt=>?_) fun hzf=>?_
 ·
  have hz:=hz.1 hzt
  have hil:i < was.length:=by
   rcases hz with h | ⟨a,b,ha,_⟩
   ·omega
   ·exact (List.getElem?_eq_some_iff.1 ha).1
  obtain ⟨a,ha⟩:∃ a,was[i]?=some a:=⟨_,List.getElem?_eq_getElem hil⟩
  obtain ⟨q1,hq1,hq2,_⟩:=hE1.get ha
  have ed:Fr None u.drew u.drew.drew:=(Fr.refl _ _).drew
  have D2:=Dd.fr0 ed
  obtain ⟨sd',hno⟩:=sd.left fw.rise fn.rise ha fun b hb=>by
   rcases hz with h | ⟨a',b',ha',hb',hlt⟩
   ·have:=(List.getElem?_eq_some_iff.1 hb).1; omega
   ·rw [ha] at ha'; rw [hb] at hb'; cases ha'; cases hb'; exact hlt
  refine fldI D2.blk (i:=0) (x:=r.1) rfl ?_
  refine (hS1d.fr0 ed).readK rfl rfl hq1 fun ad had=>(had _ (hS1d.fr0 ed)).fld (i:=0) (s:=.int .u32) (y:=q1.1) rfl ?_
  have hzd:u.drew.drew.heap.size=u.heap.size:=rfl
  refine D2.addGone (by omega) (by omega) fun lab' r' u2 D3 g3 _=>?_
  have hz3:=g3.size
  refine ⟨i+1,k,by rw [w64 (by omega)]; rfl,by omega,by omega,by omega,by omega,hk2,sd',⟨lab',r',rc,rd,?_⟩,hup (fud.then0 ed) g3,by omega⟩
  rw [Zie ha,if_pos hno,← hq2]
  exact D3
 have hz:¬ (k=now.length∨∃ a b,was[i]?=some a∧now[k]?=some b∧a.1 < b.1):=fun h=>by have:=hz.2 h; rw [hzf] at this; cases this
 have hkl:k < now.length:=by have:k≠now.length:=fun e=>hz (.inl e); omega
 obtain ⟨b,hb⟩:∃ b,now[k]?=some b:=⟨_,List.getElem?_eq_getElem hkl⟩
 obtain ⟨y1,hy1,hy2,hy3⟩:=hE2d.get hb
 have fitb:=hL2 b (List.mem_of_getElem? hb)
 have ed:Fr None u.drew u.drew.drew:=(Fr.refl _ _).drew
 have D2:=Dd.fr0 ed
 have fu2:=fud.then0 ed
 have hS1e:=hS1d.fr0 ed
 have hS2e:=hS2d.fr0 ed
 have hzd:u.drew.drew.heap.size=u.heap.size:=rfl
 refine joinI (fun z u'=>(z=true↔∀ a,was[i]?=some a→b.1 < a.1)∧u'=u.drew.drew) ?_ ?_
 ·refine condE (fun h=>⟨⟨fun _ a ha=>?_,fun _=>rfl⟩,rfl⟩) fun h=>?_
  ·have h:(i:Int)=(s1.n:Int):=h
   have:=(List.getElem?_eq_some_iff.1 ha).1
   omega
  have h:i≠was.length:=fun e=>h (by show (i:Int)=(s1.n:Int); omega)
  obtain ⟨a,ha⟩:∃ a,was[i]?=some a:=⟨_,List.getElem?_eq_getElem (by omega)⟩
  obtain ⟨q1,hq1,hq2,_⟩:=hE1.get ha
  refine hS2e.readK rfl rfl hy1 fun ad2 had2=>(had2 _ hS2e).fld (i:=0) (s:=.int .u32) (y:=y1.1) rfl ?_
  refine hS1e.readK rfl rfl hq1 fun ad had=>(had _ hS1e).fld (i:=0) (s:=.int .u32) (y:=q1.1) rfl ?_
  refine ⟨⟨fun hz a' ha'=>?_,fun hz=>?_⟩,rfl⟩
  ·rw [ha] at ha'; cases ha'
   rw [← hq2,← hy2]; simpa using hz
  ·have:=hz a ha
   rw [hq2,hy2]; simpa using this
 rintro z2 u3 ⟨hz2',rfl⟩
 refine joinI (fun (st:Int × Int) u'=>(∃ i' k':Nat,st=((i':Int),(k':Int))∧i≤i'∧k≤k'∧i+k < i'+k'∧i'≤was.length∧k'≤now.length∧Side was now i' k'∧(∃ lab r rc rd,DltI v.heap.size v.heap.size lab r rc rd (goneP (was.take i') now) (comeM was (now.take k')) (chgsM was (now.take k')) u')∧Fr None v u'∧v.heap.size≤u'.heap.size)) ?_ ?_
 rotate_left
 ·rintro st u2 ⟨i',k',rfl,h⟩
  exact ⟨i',k',rfl,h⟩
 have ed2:Fr None u.drew.drew u.drew.drew.drew:=(Fr.refl _ _).drew
 have D3:=D2.fr0 ed2
 have fu3:=fu2.then0 ed2
 have hS1f:=hS1e.fr0 ed2
 have hS2f:=hS2e.fr0 ed2
 have hzd2:u.drew.drew.drew.heap.size=u.heap.size:=rfl
 have hE2f:=(hE2d.fr ed fun _ _ h=>h).fr ed2 fun _ _ h=>h
 have hE1f:=(hE1d.fr ed fun _ _ h=>h).fr ed2 fun _ _ h=>h
 refine condI (fun hzt=>?_) fun hzf2=>?_
 ·
  have hz2:=hz2'.1 hzt
  obtain ⟨sd',hno⟩:=sd.right fw.rise fn.rise hb hz2
  have hy3':=(hE2f.at_ _ _ _ hy1 hb).2
  refine fldI D3.blk (i:=1) (x:=r.2.1) rfl ?_
  refine hS2f.readK rfl rfl hy1 fun ad had=>(had _ hS2f).fld (i:=0) (s:=.int .u32) (y:=y1.1) rfl ?_
  refine hS2f.readK rfl rfl hy1 fun ad2 had2=>(had2 _ hS2f).fld (i:=1) (s:=.sl) (y:=y1.2) rfl ?_
  refine Zcx hy3' (by have:=fitb.2.1; omega) fun t u4 o4 g4=>?_
  have hz4:=g4.size
  have rd1:Rd u4 (Addr.add ad 0) (.sc (.int .u32)) y1.1:=(had _ (hS2f.fr0 g4)) 0 _ rfl
  have D4:=D3.grow (by omega) 3 g4
  refine andI rd1 (andI (D4.blk.rd (s:=.sl) (i:=1) (x:=r.2.1) rfl) ?_)
  rw [hy2]
  refine D4.addCome (by omega) (by omega) (e:=b) (o4.sl.mono fun q hq e=>Z5w e hq) fun lab' r' u5 D5 g5=>?_
  have hz5:=g5.size
  refine ⟨i,k+1,by rw [w64 (by omega)]; rfl,by omega,by omega,by omega,hi,by omega,sd',⟨lab',r',rc ++ [(b.1,t)],rd,?_⟩,hup (fu3.then0 g4) g5,by omega⟩
  have ec:chgsM was (now.take (k+1))=chgsM was (now.take k):=by
   rw [Zi9 hb]
   have:chgOne was b=none:=by
    unfold chgOne
    have:was.find? (fun a=>a.1 == b.1)=none:=by
     rw [List.find?_eq_none]
     intro x hx
     simpa using Z4x.1 hno x hx
    rw [this]
   rw [this,List.append_nil]
  rw [Zia hb,if_pos hno,ec]
  exact D5
 have hz2:∃ a,was[i]?=some a∧¬ b.1 < a.1:=by
  refine Classical.byContradiction fun hc=>?_
  have:z2=true:=hz2'.2 fun a ha=>Classical.byContradiction fun hn=>hc ⟨a,ha,hn⟩
  rw [hzf2] at this; cases this
 obtain ⟨a,ha,hab⟩:=hz2
 have hab:a.1=b.1:=by
  have:¬ a.1 < b.1:=fun h=>hz (.inr ⟨a,b,ha,hb,h⟩)
  omega
 obtain ⟨q1,hq1,hq2,hq3⟩:=hE1f.get ha
 have hy3':=(hE2f.at_ _ _ _ hy1 hb).2
 have fita:=hL1 a (List.mem_of_getElem? ha)
 obtain ⟨sd',ho1,ho2,hone⟩:=sd.both fw.rise fn.rise ha hb hab
 have hil:=(List.getElem?_eq_some_iff.1 ha).1
 refine joinI (fun s u'=>∃ bc t lab' ,s=some ⟨bc,0,none⟩∧Blk u' bc 86 [.int .u32 t.1,.int .u8 t.2.1,.slice t.2.2.1.a t.2.2.1.n t.2.2.1.c,.slice t.2.2.2.a t.2.2.2.n t.2.2.2.c]∧chgR (fun k=>lab' k=5) u' t (changeM a b)∧DltI v.heap.size v.heap.size lab' r rc rd (goneP (was.take i) now) (comeM was (now.take k)) (chgsM was (now.take k)) u'∧Fr None v u'∧v.heap.size≤u'.heap.size) ?_ ?_
 ·refine bothI ?_ ?_
  ·refine hS1f.get rfl rfl (by have:=hE1.len; omega) fun x hx=>?_
   rw [hq1] at hx; cases hx
   refine hS2f.get rfl rfl (by have:=hE2.len; omega) fun x hx=>?_
   rw [hy1] at hx; cases hx
   refine Zbp hq3 hy3' hy2 fita.2.1 fitb.2.1 fita.2.2 fitb.2.2 fun t u4 ht g4=>?_
   have hz4:=g4.size
   refine newI fun u5 B5 g5 m5=>stoAll B5 rfl rfl fun u6 B6 g6 m6=>?_
   have g46:Fr None u4 u6:=g5.newer g6 fun k e=>by omega
   have g6':=g4.then0 g46
   refine ⟨_,t,relab lab u.drew.drew.drew.heap.size u6.heap.size 5,rfl,B6,?_,D3.grow (by omega) 5 g6',fu3.then0 g6',by omega⟩
   refine Z2o _ _ ht g46 fun q hq e=>⟨fun h=>h,?_⟩
   have e:u.drew.drew.drew.heap.size≤q:=e
   exact Z5w e (by omega)
  ·refine hS1f.get rfl rfl (by have:=hE1.len; omega) fun x hx=>?_
   rw [hq1] at hx; cases hx
   refine hS2f.get rfl rfl (by have:=hE2.len; omega) fun x hx=>?_
   rw [hy1] at hx; cases hx
   refine newI fun u4 B4 g4 m4=>?_
   refine Zbp (hq3.fr0 g4) (hy3'.fr0 g4) hy2 fita.2.1 fitb.2.1 fita.2.2 fitb.2.2 fun t u5 ht g5=>?_
   have hz5:=g5.size
   refine stoAll (B4.fr g5 fun h=>h) rfl rfl fun u6 B6 g6 m6=>?_
   have g06:Fr None u.drew.drew.drew u6:=(g4.then0 g5).newer g6 fun k e=>by omega
   refine ⟨_,t,relab lab u.drew.drew.drew.heap.size u6.heap.size 5,rfl,B6,?_,D3.grow (by omega) 5 g06,fu3.then0 g06,by omega⟩
   refine Z2o _ _ ht g6 fun q hq e=>⟨by have e:u4.heap.size≤q:=e; omega,?_⟩
   have e:u4.heap.size≤q:=e
   exact Z5w (by omega) (by omega)
 rintro s u4 ⟨bc,t,lab',rfl,Bc,ht,D4,fu4,hz4⟩
 refine ptrI (aggI Bc (x:=t) rfl (Zit fun u5 g5=>?_))
 have D5:=D4.fr0 g5
 have ht5:=St.fr0 (A:=fun F w=>chgR F w t (changeM a b)) (Z2o _ _) ht g5
 have fu5:=fu4.then0 g5
 have hz5:=g5.size
 have Bc5:=Bc.fr g5 fun h=>h
 have en:decide (t.2.1=0∧t.2.2.1.n=0∧t.2.2.2.n=0)=nothingM (changeM a b):=by
  unfold nothingM
  rw [ht.2.1,ht.2.2.1.len,ht.2.2.2.len]
 rw [en]
 have eg:goneP (was.take (i+1)) now=goneP (was.take i) now:=by rw [Zie ha,if_neg (by rw [ho1]; decide),List.append_nil]
 have ec:comeM was (now.take (k+1))=comeM was (now.take k):=by rw [Zia hb,if_neg (by rw [ho2]; decide),List.append_nil]
 have ed':=Zi9 (was:=was) hb
 rw [hone] at ed'
 refine joinI (fun (_:Unit) u'=>(∃ lab r rc rd,DltI v.heap.size v.heap.size lab r rc rd (goneP (was.take (i+1)) now) (comeM was (now.take (k+1))) (chgsM was (now.take (k+1))) u')∧Fr None v u'∧v.heap.size≤u'.heap.size) ?_ ?_
 ·refine condI (fun hn=>?_) fun hn=>?_
  ·have hn:nothingM (changeM a b)=false:=by simpa using hn
   refine fldI D5.blk (i:=2) (x:=r.2.2) rfl (ptrI (aggI Bc5 (x:=t) rfl ?_))
   refine D5.addChg (by omega) (by omega) ht5 fun lab'' r' u6 D6 g6 _=>?_
   have hz6:=g6.size
   refine ⟨⟨lab'',r',rc,rd ++ [t],?_⟩,hup fu5 g6,by omega⟩
   rw [eg,ec,ed',hn]
   exact D6
  ·have hn:nothingM (changeM a b)=true:=by simpa using hn
   refine ⟨⟨lab',r,rc,rd,?_⟩,fu5,by omega⟩
   rw [eg,ec,ed',hn,if_pos rfl,List.append_nil]
   exact D5
 rintro _ u6 ⟨h1,h2,h3⟩
 exact ⟨i+1,k+1,by rw [w64 (by omega),w64 (by omega)]; rfl,by omega,by omega,by omega,by omega,by omega,sd',h1,h2,h3⟩
end Go.Proofs.YtchhhjlpnecjkaaGreat
namespace Go.Proofs.YtchhhjlpnecjkaaGreat
open Go Go.RowKit Go.Proofs.YtchhhjlpnecjkaaGreat.Den
variable {R:Type} {Q:R→World→Prop} {w:World}
theorem eqI {α:Type} [DecidableEq α] {L1 L2:List α} {n1 n2:Int} (h1:n1=L1.length) (h2:n2=L2.length) (hm:L1.length≤9223372036854775807) {body:(Int→W R)→Int→W R} {K:Bool→W R}
  (hs:∀ (j:Nat) x y u (K':Int→W R) (Q:R→World→Prop),L1[j]?=some x→L2[j]?=some y→Fr None w u→(x≠y→∀ u',Fr None u u'→K false Q u')→(x=y→∀ u',Fr None u u'→K' (IntKind.wrap .i64 ((j:Int)+1)) Q u')→body K' (j:Int) Q u)
  (hk:∀ w',Fr None w w'→K (decide (L1=L2)) Q w'):(cond (n1 != n2) (K false) (loopW (fun K1 s=>cond (decide (s < n1)) (body K1 s) (K true)) 0)) Q w:=by
 subst h1 h2
 refine condN (fun hne=>?_) fun heq=>?_
 ·have e:=hk w (Fr.refl _ _)
  rw [decide_eq_false (fun e=>hne (by rw [e]))] at e
  exact e
 have heq:L1.length=L2.length:=by omega
 refine loopI (fun (i:Int) u=>∃ j:Nat,i=(j:Int)∧j≤L1.length∧Fr None w u∧L1.take j=L2.take j) (fun i _=>L1.length - i.toNat) ⟨0,rfl,Nat.zero_le _,Fr.refl _ _,rfl⟩ ?_
 rintro _ u ⟨j,rfl,hj,fu,ht⟩
 have no:∀ {Q':R→World→Prop} {u'},L1=L2→K (decide (L1=L2)) Q' u'→K true Q' u':=fun e h=>by rw [decide_eq_true e] at h; exact h
 refine condD (fun hlt=>?_) fun hge=>?_
 ·have hlt:j < L1.length:=by omega
  obtain ⟨x,hx⟩:∃ x,L1[j]?=some x:=⟨_,List.getElem?_eq_getElem hlt⟩
  obtain ⟨y,hy⟩:∃ y,L2[j]?=some y:=⟨_,List.getElem?_eq_getElem (by omega)⟩
  refine hs j x y u _ Q hx hy fu (fun hne u' f=>?_) fun he u' f=>?_
  ·have e:=hk u' (fu.then0 f)
   rw [decide_eq_false (fun e=>by subst e; rw [hx] at hy; cases hy; exact hne rfl)] at e
   exact e
  ·subst he
   refine ⟨⟨j+1,wsucc hlt hm,hlt,fu.then0 f,by rw [Z8 hx,Z8 hy,ht]⟩,?_⟩
   rw [wsucc hlt hm]
   omega
 ·have e:=hk u fu
  rw [List.take_of_length_le (by omega),List.take_of_length_le (by omega)] at ht
  exact no ht e
section
variable {ok ok2:Nat→Prop} {s s2:Sl}
theorem Zoy {l l2:List Int} (hS:SlT ok w idT s l) (hS2:SlT ok2 w idT s2 l2) (hm:l.length≤9223372036854775807) {K:Res [.sc .bool]→W R} (hk:∀ w',Fr None w w'→K (decide (l=l2)) Q w') :
  callW Tryz.prog Z6a [.slice s.a s.n s.c,.slice s2.a s2.n s2.c] [.sc .bool] K Q w:=by
 refine Zi5 s s2 K Q w ?_
 unfold Zam
 have e1:=hS.len
 have e2:=hS2.len
 refine eqI (L1:=l) (L2:=l2) (K:=retW) (by omega) (by omega) hm (fun j x y u K' Q' hx hy fu h0 hK=>?_) hk
 have fd:Fr None u u.drew:=(Fr.refl _ _).drew
 refine ((hS.fr0 fu).fr0 fd).get rfl rfl (List.getElem?_eq_some_iff.1 hx).1 fun x' hx'=>((hS2.fr0 fu).fr0 fd).get rfl rfl (List.getElem?_eq_some_iff.1 hy).1 fun y' hy'=>?_
 rw [hx] at hx'
 rw [hy] at hy'
 cases hx'
 cases hy'
 exact condN (fun hne=>h0 hne _ fd) fun he=>hK he _ fd
theorem Z95 {l l2:List Comp} (hS:SlT ok w compT s l) (hS2:SlT ok2 w compT s2 l2) (hm:l.length≤9223372036854775807) {K:Res [.sc .bool]→W R} (hk:∀ w',Fr None w w'→K (decide (l=l2)) Q w') :
  callW Tryz.prog Z24 [.slice s.a s.n s.c,.slice s2.a s2.n s2.c] [.sc .bool] K Q w:=by
 refine Zfj s s2 K Q w ?_
 unfold Z8x
 have e1:=hS.len
 have e2:=hS2.len
 refine eqI (L1:=l) (L2:=l2) (K:=retW) (by omega) (by omega) hm (fun j x y u K' Q' hx hy fu h0 hK=>?_) hk
 have fd:Fr None u u.drew:=(Fr.refl _ _).drew
 refine ((hS.fr0 fu).fr0 fd).get rfl rfl (List.getElem?_eq_some_iff.1 hx).1 fun x' hx'=>((hS2.fr0 fu).fr0 fd).get rfl rfl (List.getElem?_eq_some_iff.1 hy).1 fun y' hy'=>?_
 rw [hx] at hx'
 rw [hy] at hy'
 cases hx'
 cases hy'
 refine neqI Zkb (Zkc x y) (condI (fun hb=>h0 ?_ _ fd) fun hb=>hK ?_ _ fd)
 ·intro e; subst e; simp at hb
 ·simpa using hb
theorem Ziy {r r2:Int × Sl} {e e2:Ent} (h1:r.1=e.1) (hS:SlT ok w compT r.2 e.2) (h2:r2.1=e2.1) (hS2:SlT ok2 w compT r2.2 e2.2) (hm:e.2.length≤9223372036854775807) {K:Res [.sc .bool]→W R} (hk:∀ w',Fr None w w'→K (decide (e=e2)) Q w') :
  callW Tryz.prog Zab [.agg ⟨[.int .u32 r.1,.slice r.2.a r.2.n r.2.c]⟩,.agg ⟨[.int .u32 r2.1,.slice r2.2.a r2.2.n r2.2.c]⟩] [.sc .bool] K Q w:=by
 refine Zmk r r2 K Q w ?_
 unfold Zek
 refine newI fun w1 B1 f1 z1=>newI fun w2 B2 f2 z2=>?_
 have f02:=f1.then0 f2
 have B1:=B1.fr f2 fun h=>h
 refine joinI (fun z u=>z=decide (e=e2)∧Fr None w u) ?_ fun z u ⟨hz,hf⟩=>by subst hz; exact hk u hf
 refine fldI B1 (i:=0) (x:=r.1) rfl (fldI B2 (i:=0) (x:=r2.1) rfl (condE (fun he=>?_) fun hne=>?_))
 ·refine fldI B1 (i:=1) (x:=r.2) rfl (fldI B2 (i:=1) (x:=r2.2) rfl (Z95 (hS.fr0 f02) (hS2.fr0 f02) hm fun w3 f3=>⟨?_,f02.then0 f3⟩))
  have:e.1=e2.1:=by rw [← h1,← h2]; exact he
  exact decide_eq_decide.2 ⟨fun h=>Prod.ext this h,fun h=>by rw [h]⟩
 ·exact ⟨(decide_eq_false fun h=>hne (by rw [h1,h2,h])).symm,f02⟩
theorem Zn2 {raws raws2:List (Int × Sl)} {L L2:List Ent} (hS:SlT ok w entT s raws) (hE:EntsR ok w raws L) (hS2:SlT ok2 w entT s2 raws2) (hE2:EntsR ok2 w raws2 L2) (hm:L.length≤9223372036854775807) (hL:∀ e∈L,Small e.2) {K:Res [.sc .bool]→W R} (hk:∀ w',Fr None w w'→K (decide (L=L2)) Q w') :
  callW Tryz.prog Zg0 [.slice s.a s.n s.c,.slice s2.a s2.n s2.c] [.sc .bool] K Q w:=by
 refine Zrk s s2 K Q w ?_
 unfold Zl4
 refine Z4t s s2 _ _ w ?_
 unfold Z1x
 have e1:=hS.len.trans hE.len
 have e2:=hS2.len.trans hE2.len
 refine eqI (L1:=L) (L2:=L2) (K:=retW) (by omega) (by omega) hm (fun j x y u K' Q' hx hy fu h0 hK=>?_) hk
 obtain ⟨r,hr,r1,r2⟩:=hE.get hx
 obtain ⟨q,hq,q1,q2⟩:=hE2.get hy
 refine (hS.fr0 fu).get rfl rfl (List.getElem?_eq_some_iff.1 hr).1 fun x' hx'=>?_
 rw [hr] at hx'
 cases hx'
 refine newI fun u1 B1 f1 z1=>stoAll B1 rfl rfl fun u2 B1 f2 z2=>?_
 have g2:Fr None u u2:=f1.newer f2 fun k e=>by omega
 refine ((hS2.fr0 fu).fr0 g2).get rfl rfl (List.getElem?_eq_some_iff.1 hq).1 fun y' hy'=>?_
 rw [hq] at hy'
 cases hy'
 refine newI fun u3 B3 f3 z3=>stoAll B3 rfl rfl fun u4 B3 f4 z4=>?_
 have g4:Fr None u2 u4:=f3.newer f4 fun k e=>by omega
 have g:=g2.then0 g4
 have fg:=fu.then0 g
 refine aggI (B1.fr g4 fun h=>h) (x:=r) rfl (aggI B3 (x:=q) rfl (Ziy r1 (r2.fr0 fg) q1 (q2.fr0 fg) (by have:=hL x (List.mem_of_getElem? hx); omega) fun u5 f5=>?_))
 refine condI (fun hb=>h0 ?_ _ (g.then0 f5)) fun hb=>hK ?_ _ (g.then0 f5)
 ·simpa using hb
 ·simpa using hb
instance chgDec:DecidableEq Chg:=@instDecidableEqProd Int (Int × List Comp × List Comp) _ (@instDecidableEqProd Int (List Comp × List Comp) _ (@instDecidableEqProd (List Comp) (List Comp) _ _))
theorem Ziu {r r2:ChgRaw} {d d2:Chg} (h1:chgR ok w r d) (h2:chgR ok2 w r2 d2) (hm:Small d.2.2.1∧Small d.2.2.2) {K:Res [.sc .bool]→W R} (hk:∀ w',Fr None w w'→K (decide (d=d2)) Q w') :
  callW Tryz.prog Za9 [.agg ⟨[.int .u32 r.1,.int .u8 r.2.1,.slice r.2.2.1.a r.2.2.1.n r.2.2.1.c,.slice r.2.2.2.a r.2.2.2.n r.2.2.2.c]⟩,.agg ⟨[.int .u32 r2.1,.int .u8 r2.2.1,.slice r2.2.2.1.a r2.2.2.1.n r2.2.2.1.c,.slice r2.2.2.2.a r2.2.2.2.n r2.2.2.2.c]⟩] [.sc .bool] K Q w:=by
 refine Zmc r r2 K Q w ?_
 unfold Zec
 obtain ⟨a1,a2,a3,a4⟩:=h1
 obtain ⟨b1,b2,b3,b4⟩:=h2
 refine newI fun w1 B1 f1 z1=>newI fun w2 B2 f2 z2=>?_
 have f02:=f1.then0 f2
 have B1:=B1.fr f2 fun h=>h
 refine joinI (fun z u=>z=decide (d=d2)∧Fr None w u) ?_ fun z u ⟨hz,hf⟩=>by subst hz; exact hk u hf
 refine fldI B1 (i:=0) (x:=r.1) rfl (fldI B2 (i:=0) (x:=r2.1) rfl (condE (fun e1=>?_) fun hne=>⟨(decide_eq_false fun h=>hne (by rw [a1,b1,h])).symm,f02⟩))
 refine fldI B1 (i:=1) (x:=r.2.1) rfl (fldI B2 (i:=1) (x:=r2.2.1) rfl (condE (fun e2=>?_) fun hne=>⟨(decide_eq_false fun h=>hne (by rw [a2,b2,h])).symm,f02⟩))
 refine fldI B1 (i:=2) (x:=r.2.2.1) rfl (fldI B2 (i:=2) (x:=r2.2.2.1) rfl (Z95 (a3.fr0 f02) (b3.fr0 f02) (by have:=hm.1; omega) fun w3 f3=>?_))
 have f03:=f02.then0 f3
 refine condD (fun e3=>?_) fun hne=>⟨(decide_eq_false fun h=>hne (by rw [h])).symm,f03⟩
 refine fldI (B1.fr f3 fun h=>h) (i:=3) (x:=r.2.2.2) rfl (fldI (B2.fr f3 fun h=>h) (i:=3) (x:=r2.2.2.2) rfl (Z95 (a4.fr0 f03) (b4.fr0 f03) (by have:=hm.2; omega) fun w4 f4=>⟨?_,f03.then0 f4⟩))
 have c1:d.1=d2.1:=by rw [← a1,← b1]; exact e1
 have c2:d.2.1=d2.2.1:=by rw [← a2,← b2]; exact e2
 exact decide_eq_decide.2 ⟨fun h=>Prod.ext c1 (Prod.ext c2 (Prod.ext e3 h)),fun h=>by rw [h]⟩
theorem Zmt {r r2:DRaw} {g g2:List Int} {c c2:List Ent} {d d2:List Chg} (h1:DltR ok w r g c d) (h2:DltR ok2 w r2 g2 c2 d2) (hm:g.length≤9223372036854775807∧c.length≤9223372036854775807∧d.length≤9223372036854775807) (hc:∀ e∈c,Small e.2) (hd:∀ e∈d,Small e.2.2.1∧Small e.2.2.2) {K:Res [.sc .bool]→W R} (hk:∀ w',Fr None w w'→K (decide (g=g2∧c=c2∧d=d2)) Q w') :
  callW Tryz.prog Zfu [.agg ⟨[.slice r.1.a r.1.n r.1.c,.slice r.2.1.a r.2.1.n r.2.1.c,.slice r.2.2.a r.2.2.n r.2.2.c]⟩,.agg ⟨[.slice r2.1.a r2.1.n r2.1.c,.slice r2.2.1.a r2.2.1.n r2.2.1.c,.slice r2.2.2.a r2.2.2.n r2.2.2.c]⟩] [.sc .bool] K Q w:=by
 refine Zrb r r2 K Q w ?_
 unfold Zkv
 obtain ⟨a1,⟨rc,a2,a3⟩,⟨rd,a4,a5⟩⟩:=h1
 obtain ⟨b1,⟨rc2,b2,b3⟩,⟨rd2,b4,b5⟩⟩:=h2
 refine newI fun w1 B1 f1 z1=>newI fun w2 B2 f2 z2=>?_
 have f02:=f1.then0 f2
 have B1:=B1.fr f2 fun h=>h
 refine joinI (fun z u=>z=decide (g=g2∧c=c2∧d=d2)∧Fr None w u) ?_ fun z u ⟨hz,hf⟩=>by subst hz; exact hk u hf
 refine fldI B1 (i:=0) (x:=r.1) rfl (fldI B2 (i:=0) (x:=r2.1) rfl (Zoy (a1.fr0 f02) (b1.fr0 f02) hm.1 fun w3 f3=>?_))
 have f03:=f02.then0 f3
 refine condD (fun e1=>?_) fun hne=>⟨(decide_eq_false fun h=>hne h.1).symm,f03⟩
 refine fldI (B1.fr f3 fun h=>h) (i:=1) (x:=r.2.1) rfl (fldI (B2.fr f3 fun h=>h) (i:=1) (x:=r2.2.1) rfl (Zn2 (a2.fr0 f03) (a3.fr f03 fun _ _ h=>h) (b2.fr0 f03) (b3.fr f03 fun _ _ h=>h) hm.2.1 hc fun w4 f4=>?_))
 have f04:=f03.then0 f4
 refine condD (fun e2=>?_) fun hne=>⟨(decide_eq_false fun h=>hne h.2.1).symm,f04⟩
 refine fldI ((B1.fr f3 fun h=>h).fr f4 fun h=>h) (i:=2) (x:=r.2.2) rfl (fldI ((B2.fr f3 fun h=>h).fr f4 fun h=>h) (i:=2) (x:=r2.2.2) rfl ?_)
 refine Z3x r.2.2 r2.2.2 _ _ _ ?_
 unfold Z1m
 have n1:=a4.len.trans a5.len
 have n2:=b4.len.trans b5.len
 refine eqI (L1:=d) (L2:=d2) (K:=retW) (by omega) (by omega) hm.2.2 (fun j x y u K' Q' hx hy fu h0 hK=>?_) fun w5 f5=>⟨decide_eq_decide.2 ⟨fun h=>⟨e1,e2,h⟩,fun h=>h.2.2⟩,f04.then0 f5⟩
 obtain ⟨q1,hq1,hq⟩:=a5.get hx
 obtain ⟨p1,hp1,hp⟩:=b5.get hy
 have f0u:=f04.then0 fu
 refine (a4.fr0 f0u).get rfl rfl (List.getElem?_eq_some_iff.1 hq1).1 fun x' hx'=>?_
 rw [hq1] at hx'
 cases hx'
 refine newI fun u1 C1 g1 z1=>stoAll C1 rfl rfl fun u2 C1 g2 z2=>?_
 have k2:Fr None u u2:=g1.newer g2 fun k e=>by omega
 refine ((b4.fr0 f0u).fr0 k2).get rfl rfl (List.getElem?_eq_some_iff.1 hp1).1 fun y' hy'=>?_
 rw [hp1] at hy'
 cases hy'
 refine newI fun u3 C3 g3 z3=>stoAll C3 rfl rfl fun u4 C3 g4 z4=>?_
 have k4:Fr None u2 u4:=g3.newer g4 fun k e=>by omega
 have kk:=k2.then0 k4
 have fk:=f0u.then0 kk
 refine aggI (C1.fr k4 fun h=>h) (x:=q1) rfl (aggI C3 (x:=p1) rfl (Ziu (St.fr0 (A:=fun F w=>chgR F w q1 x) (Z2o q1 x) hq fk) (St.fr0 (A:=fun F w=>chgR F w p1 y) (Z2o p1 y) hp fk) (hd x (List.mem_of_getElem? hx)) fun u5 f5=>?_))
 refine condI (fun hb=>h0 ?_ _ (kk.then0 f5)) fun hb=>hK ?_ _ (kk.then0 f5)
 ·simpa using hb
 ·simpa using hb
theorem Zml {l:List (Int × Sl)} (hS:SlT ok w entT s l) (hm:l.length * 32≤140737488355328) {K:Res [.sc .sl]→W R} (hk:∀ r w',Own (Up w.heap.size) w' 57 entT r l→Fr None w w'→K r Q w') :
  callW Tryz.prog Z5t [.slice s.a s.n s.c] [.sc .sl] K Q w:=by
 refine Zgp _ K Q w ?_
 unfold Z9o
 rcases hS.at_ with rfl | ⟨b,o,ha,_⟩
 ·cases hsa:s.a with
  | none=>exact condT rfl (hk _ w (Own.nil _ _ _ _) (Fr.refl _ _))
  | some a =>
   refine condF rfl ?_
   rw [← hsa]
   refine newI fun w1 B1 f1 s1=>?_
   have own:=Own.mk' (S:=Up w.heap.size) (w:=w1) (E:=57) (t:=entT) (l:=[]) (g:=w.heap.size) (c:=0) (cur:=⟨[]⟩) (Nat.le_refl _) B1 (Nat.le_refl _) (Nat.zero_le _) (by simp) (by simp)
   refine appI (s:=⟨some ⟨w.heap.size,0,none⟩,0,0⟩) (s2:=s) (S':=Up w.heap.size) Z5m own (hS.fr0 f1) (by simp) (by simp) (fun _ h=>h) (by show _≤_; omega) fun r w2 o2 f2 s2=>hk r w2 (by simpa using o2) (f1.newer f2 (fun x e=>own.own x e))
 ·rw [ha]
  refine condF rfl ?_
  rw [← ha]
  exact cloneI Z5m hS hm (by omega) hk
theorem Zn0 {raws:List (Int × Sl)} {L:List Ent} (hS:SlT ok w entT s raws) (hE:EntsR ok w raws L) (hm:L.length≤1048576) (hL:∀ e∈L,Small e.2) {K:Res [.sc .sl]→W R}
  (hk:∀ r raws' w',Own (Up w.heap.size) w' 57 entT r raws'→EntsR (Up w.heap.size) w' raws' L→Fr None w w'→K r Q w'):callW Tryz.prog Zfy [.slice s.a s.n s.c] [.sc .sl] K Q w:=by
 refine Zrh s K Q w ?_
 unfold Zl1
 have hel:=hE.len
 refine Zml hS (by omega) fun r w1 o1 f1=>?_
 have s1:=f1.size
 have hrl:=o1.len
 refine forI (N:=r.n) (fun i:Int=>i) (fun j i u=>i=(j:Int)∧Fr None w u∧w1.heap.size≤u.heap.size∧∃ rs,Own (fun k=>w.heap.size≤k∧k < w1.heap.size) u 57 entT r rs∧rs.length=raws.length∧(∀ q x,j≤q→raws[q]?=some x→rs[q]?=some x)∧EntsR (fun k=>w1.heap.size≤k) u (rs.take j) (L.take j))
  ⟨rfl,f1,Nat.le_refl _,raws,⟨o1.row,fun k e=>⟨o1.own k e,o1.lt e⟩⟩,rfl,fun q x _ h=>h,by rw [List.take_zero,List.take_zero]; exact EntsR.nil _ _⟩ (fun j s w' h=>h.1) ?_ ?_
 ·rintro j i u K' hj ⟨rfl,fu,hs,rs,ho,hl,hrest,hE2⟩ - hK
  obtain ⟨e,he⟩:∃ e,L[j]?=some e:=⟨_,List.getElem?_eq_getElem (by omega)⟩
  obtain ⟨q,hq,q1,q2⟩:=hE.get he
  have hrj:=hrest j q (Nat.le_refl _) hq
  refine ho.sl.get rfl rfl (by omega) fun x hx=>?_
  rw [hrj] at hx
  cases hx
  refine newI fun u1 B1 g1 z1=>stoAll B1 rfl rfl fun u2 B1 g2 z2=>fldI B1 (i:=1) (x:=q.2) rfl ?_
  have k2:Fr None u u2:=g1.newer g2 fun k e=>by omega
  refine Zcx (q2.fr0 (fu.then0 k2)) (by have:=hL e (List.mem_of_getElem? he); omega) fun t u3 o3 g3=>?_
  have k3:=k2.then0 g3
  have z3:=k3.size
  have ho3:=ho.none k3
  refine ho3.idx rfl (by omega) (by omega) fun g x hg hx hrd=>?_
  rw [add_lit]
  refine ho3.setFld (i:=j) (j:=1) (x:=q) (x':=(q.1,t)) hrj hg (show 1 < 2 by omega) rfl rfl fun u4 o4 g4 z4=>?_
  have nown:∀ k,w1.heap.size≤k→¬ r.v.ownBlock=some k:=fun k hk e=>by have:=(ho.own k e).2; omega
  refine hK _ _ ⟨wsucc hj (by omega),(fu.then0 k3).newer g4 fun k e=>(ho.own k e).1,by omega,rs.set j (q.1,t),o4,by rw [List.length_set,hl],fun p x hp hx=>?_,?_⟩
  ·rw [List.getElem?_set_ne (by omega)]
   exact hrest p x (by omega) hx
  ·rw [Z8 (x:=(q.1,t)) (by rw [List.getElem?_set_self (by omega)]),List.take_set_of_le (Nat.le_refl _),Z8 he]
   refine EntsR.snoc ((hE2.fr k3 fun _ _ h=>h).fr g4 nown) q1 ?_
   exact (o3.sl.fr g4 fun k (e:u2.heap.size≤k)=>nown k (by have:=k2.size; omega)).mono fun k _ (e:u2.heap.size≤k)=>by have:=k2.size; omega
 ·rintro i u ⟨_,fu,hs,rs,ho,hl,_,hE2⟩
  rw [List.take_of_length_le (by omega),List.take_of_length_le (by omega)] at hE2
  exact hk r rs u (ho.mono fun k _ e=>e.1) (hE2.mono fun k _ e=>by show w.heap.size≤k; omega) fu
end
end Go.Proofs.YtchhhjlpnecjkaaGreat
namespace Go.Proofs.YtchhhjlpnecjkaaGreat
open Go Go.RowKit Go.Proofs.YtchhhjlpnecjkaaGreat.Den
variable {R:Type} {Q:R→World→Prop} {w:World}
abbrev PS (n:Nat) (F:Nat→Prop) (nots:List Nat):Nat→Prop:=fun k=>(F k∨n≤k)∧k ∉ nots
def PX (n:Nat) (F:Nat→Prop) (bw b:Nat) (s:WS) (nots:List Nat) (v:World):Prop :=
 ∃ G,PW bw b s G v∧(∀ k,G k→F k∨n≤k)∧(∀ x∈nots,¬ G x∧x < v.heap.size)
section
variable {n:Nat} {F:Nat→Prop} {bw b:Nat} {s:WS} {nots:List Nat} {v:World}
theorem PX.use (h:PX n F bw b s nots v) (hn:n≤v.heap.size):∃ G,PW bw b s G v∧(∀ s' v',PW bw b s' (Gw G v v') v'→v.heap.size≤v'.heap.size→PX n F bw b s' nots v')∧(∀ v',Fr G v v'→Fr (PS n F nots) v v')∧(∀ x∈nots,¬ G x)∧(∀ k,G k→PS n F nots k):=by
 obtain ⟨G,h1,h2,h3⟩:=h
 refine ⟨G,h1,fun s' v' hp hs=>⟨_,hp,fun k e=>?_,fun x hx=>⟨fun e=>?_,by have:=(h3 x hx).2; omega⟩⟩,fun v' f=>f.sub fun k e=>⟨h2 k e,fun hx=>(h3 k hx).1 e⟩,fun x hx=>(h3 x hx).1,fun k e=>⟨h2 k e,fun hx=>(h3 k hx).1 e⟩⟩
 ·rcases e with e | e
  ·exact h2 k e
  ·exact .inr (by omega)
 ·rcases e with e | e
  ·exact (h3 x hx).1 e
  ·have:=(h3 x hx).2; omega
theorem PX.fr0 (h:PX n F bw b s nots v) {v':World} (f:Fr None v v'):PX n F bw b s nots v':=by
 obtain ⟨G,h1,h2,h3⟩:=h
 exact ⟨G,h1.fr0 f,h2,fun x hx=>⟨(h3 x hx).1,Nat.lt_of_lt_of_le (h3 x hx).2 f.size⟩⟩
theorem PX.frN (h:PX n F bw b s nots v) {v':World} {x:Nat} (hx:x∈nots) (f:Fr (fun k=>k=x) v v'):PX n F bw b s nots v':=by
 obtain ⟨G,h1,h2,h3⟩:=h
 exact ⟨G,h1.fr f fun k e e2=>by subst e2; exact (h3 k hx).1 e,h2,fun x hx=>⟨(h3 x hx).1,Nat.lt_of_lt_of_le (h3 x hx).2 f.size⟩⟩
theorem PX.more (h:PX n F bw b s nots v) {v':World} (f:Fr None v v') {x:Nat} (h1:v.heap.size≤x) (h2:x < v'.heap.size):PX n F bw b s (x :: nots) v':=by
 obtain ⟨G,g1,g2,g3⟩:=h
 refine ⟨G,g1.fr0 f,g2,fun y hy=>?_⟩
 rcases List.mem_cons.1 hy with rfl | hy
 ·exact ⟨fun e=>by have:=g1.2.1 y e; omega,h2⟩
 ·exact ⟨(g3 y hy).1,Nat.lt_of_lt_of_le (g3 y hy).2 f.size⟩
theorem PX.less (h:PX n F bw b s nots v) {l:List Nat} (hl:∀ x∈l,x∈nots):PX n F bw b s l v:=by
 obtain ⟨G,g1,g2,g3⟩:=h
 exact ⟨G,g1,g2,fun x hx=>g3 x (hl x hx)⟩
theorem PX.of (h:PW bw b s F v):PX v.heap.size F bw b s [] v:=⟨F,h,fun k e=>.inl e,fun x hx=>by cases hx⟩
theorem PX.done {v0:World} (h:PX v0.heap.size F bw b s nots v) (hF:∀ k,F k→k < v0.heap.size) (hs:v0.heap.size≤v.heap.size):PW bw b s (Gw F v0 v) v:=by
 obtain ⟨G,g1,g2,g3⟩:=h
 refine g1.mono (fun k hk e=>?_) fun k e=>?_
 ·rcases g2 k e with e | e
  ·exact .inl e
  ·exact .inr ⟨e,hk⟩
 ·rcases e with e | e
  ·have:=hF k e; omega
  ·exact e.2
theorem PX.plain (h:PX n F bw b s nots v) (hn:n≤v.heap.size) {x m:Int} (hv:0≤x∧x≤18446744073709551615) (hm:-9223372036854775808≤m∧m≤9223372036854775807) {K:Res []→W R} (hk:∀ v',PX n F bw b (plainM s x m) nots v'→Fr (PS n F nots) v v'→K () Q v') :
  callW Tryz.prog Zf [.pointer (some ⟨bw,0,none⟩),.int .u64 x,.int .i64 m] [] K Q v:=by
 obtain ⟨G,hp,up,uf, -, -⟩:=h.use hn
 exact Z6c hp hv hm fun v' hp' f'=>hk v' (up _ _ hp' f'.size) (uf _ f')
theorem PX.count (h:PX n F bw b s nots v) (hn:n≤v.heap.size) {x:Nat} (hx:(x:Int)≤18446744073709551615) {K:Res []→W R} (hk:∀ v',PX n F bw b (varM s x) nots v'→Fr (PS n F nots) v v'→K () Q v') :
  callW Tryz.prog Zx [.pointer (some ⟨bw,0,none⟩),.int .i64 (x:Int)] [] K Q v:=by
 obtain ⟨G,hp,up,uf, -, -⟩:=h.use hn
 exact Zay hp hx fun v' hp' f'=>hk v' (up _ _ hp' f'.size) (uf _ f')
theorem PX.id (h:PX n F bw b s nots v) (hn:n≤v.heap.size) {bl:Nat} (hbl:bl∈nots) {T:TypeId} {last id:Int} (B:Blk v bl T [.int .u32 last]) {K:Res []→W R}
  (hk:∀ v',PX n F bw b (varM s (idD last id)) nots v'→Blk v' bl T [.int .u32 id]→Fr (fun k=>PS n F nots k∨k=bl) v v'→K () Q v') :
  callW Tryz.prog Z1q [.pointer (some ⟨bw,0,none⟩),.pointer (some ⟨bl,0,none⟩),.int .u32 id] [] K Q v:=by
 obtain ⟨G,hp,up,uf,un,us⟩:=h.use hn
 exact Zeq hp B (un bl hbl) fun v' hp' B' f'=>hk v' (up _ _ hp' f'.size) B' (f'.sub fun k e=>e.imp (us k) fun h=>h)
theorem PX.comps (h:PX n F bw b s nots v) (hn:n≤v.heap.size) {ok:Nat→Prop} {r:Sl} {l:List Comp} (hS:SlT ok v compT r l) (hd:∀ k,ok k→k∈nots∨¬ (F k∨n≤k)) (hc:∀ c∈l,CompOk c) (hm:l.length≤1048576) {K:Res []→W R} (hk:∀ v',PX n F bw b (compsM s l) nots v'→Fr (PS n F nots) v v'→K () Q v') :
  callW Tryz.prog Z1o [.pointer (some ⟨bw,0,none⟩),.slice r.a r.n r.c] [] K Q v:=by
 obtain ⟨G,hp,up,uf,un,us⟩:=h.use hn
 refine Zax hp hS (fun k _ e e2=>?_) hc (by omega) fun v' hp' f'=>hk v' (up _ _ hp' f'.size) (uf _ f')
 rcases hd k e with h | h
 ·exact un k h e2
 ·exact h (us k e2).1
theorem PX.ents (h:PX n F bw b s nots v) (hn:n≤v.heap.size) {ok:Nat→Prop} {r:Sl} {raws:List (Int × Sl)} {L:List Ent} (hS:SlT ok v entT r raws) (hE:EntsR ok v raws L) (hd:∀ k,ok k→¬ (F k∨n≤k)) (hL:∀ e∈L,EntFit e) (hm:L.length≤1048576) {K:Res []→W R} (hk:∀ v',PX n F bw b (entsW s L) nots v'→Fr (PS n F nots) v v'→K () Q v') :
  callW Tryz.prog Z1t [.pointer (some ⟨bw,0,none⟩),.slice r.a r.n r.c] [] K Q v:=by
 obtain ⟨G,hp,up,uf,un,us⟩:=h.use hn
 exact Zjz hp hS hE (fun k _ e e2=>hd k e (us k e2).1) hL hm fun v' hp' f'=>hk v' (up _ _ hp' f'.size) (uf _ f')
theorem PX.bits (h:PX n F bw b s nots v) (hn:n≤v.heap.size):∃ G,Wr b s.1 G v∧(∀ k,G k→k < v.heap.size)∧∀ (p:Int × List Bool) (v':World) {K:Res []→W R},Wr b p.2 (Ex G v) v'→Fr G v v' →
  (∀ v2,PX n F bw b (doM s p) nots v2→Fr (PS n F nots) v v2→K () Q v2)→callW Tryz.prog Z1 [.pointer (some ⟨bw,0,none⟩),.int .i64 p.1] [] K Q v':=by
 obtain ⟨G,hp,up,uf,un,us⟩:=h.use hn
 obtain ⟨h1,h2,h3⟩:=PW.put (Q:=Q) hp
 refine ⟨_,h1,h2,fun p v' K hw f hk=>h3 p v' hw f fun v2 hp2 f2=>hk v2 (up _ _ hp2 f2.size) (uf _ f2)⟩
theorem PX.ptr (h:PX n F bw b s nots v) {K:Option Addr→W R} (hk:K (some ⟨b,0,none⟩) Q v):ld (.sc .ptr) (Addr.add ⟨bw,0,none⟩ 0) K Q v:=by
 obtain ⟨G,h1,_⟩:=h
 exact h1.ptr hk
theorem PX.rdp (h:PX n F bw b s nots v):Rd v (Addr.add ⟨bw,0,none⟩ 0) (.sc .ptr) (some ⟨b,0,none⟩):=by
 obtain ⟨G,h1,_⟩:=h
 exact h1.2.2.1.rd (s:=.ptr) (i:=0) rfl
end
def idM (p:WS × Int) (id:Int):WS × Int:=(varM p.1 (idD p.2 id),id)
def goneW (s:WS) (l:List Int):WS:=(l.foldl idM (varM s l.length,0)).1
def setsM (was:List Ent) (id:Int) (s:WS) (l:List Comp):WS:=l.foldl (fun s c=>doM s (putS s.1 (oldM was id c.1) c)) s
def chgM1 (was:List Ent) (p:WS × Int) (d:Chg):WS × Int :=
 (setsM was d.1 (compsM (plainM (plainM (plainM (varM p.1 (idD p.2 d.1)) d.2.1 5) (maskN d.2.2.1) 5) (maskN d.2.2.2) 5) d.2.2.1) d.2.2.2,d.1)
def chgsW (was:List Ent) (s:WS) (l:List Chg):WS:=(l.foldl (chgM1 was) (varM s l.length,0)).1
def deltaW (was:List Ent) (s:WS) (gone:List Int) (come:List Ent) (chg:List Chg):WS:=chgsW was (entsW (goneW s gone) come) chg
def ChgFit (d:Chg):Prop:=(0≤d.1∧d.1≤4294967295)∧(0≤d.2.1∧d.2.1≤255)∧(d.2.2.1.length≤1048576∧∀ c∈d.2.2.1,CompOk c)∧(d.2.2.2.length≤1048576∧∀ c∈d.2.2.2,CompOk c)
theorem Zs1 {was:List Ent} (hL:∀ e∈was,EntFit e) (id k:Int):CompOk (oldM was id k):=by
 have z:CompOk (0,0,0,0):=by unfold CompOk i32; simp
 unfold oldM
 split
 ·rename_i i hi
  cases he:was[i]? with
  | none=>exact z
  | some e =>
   simp only [Option.bind_some]
   cases hf:e.2.find? (fun c=>c.1 == k) with
   | none=>exact z
   | some c=>exact (hL e (List.mem_of_getElem? he)).2.2 c (List.mem_of_find?_eq_some hf)
 ·exact z
theorem Ziw {bw b:Nat} {s:WS} {F:Nat→Prop} (h:PW bw b s F w) {okw ok:Nat→Prop} {sw:Sl} {raws:List (Int × Sl)} {was:List Ent} (hS:SlT okw w entT sw raws) (hE:EntsR okw w raws was) (hr:was.Pairwise fun a b=>a.1 < b.1) (hm:was.length≤1048576) (hL:∀ e∈was,EntFit e) (hd1:∀ k,k < w.heap.size→okw k→¬ F k)
  {d:DRaw} {gone:List Int} {come:List Ent} {chg:List Chg} (D:DltR ok w d gone come chg) (hd2:∀ k,k < w.heap.size→ok k→¬ F k) (hg:gone.length≤1048576∧∀ x∈gone,0≤x∧x≤4294967295) (hc:come.length≤1048576∧∀ e∈come,EntFit e) (hh:chg.length≤1048576∧∀ c∈chg,ChgFit c)
  {K:Res []→W R} (hk:∀ w',PW bw b (deltaW was s gone come chg) (Gw F w w') w'→Fr F w w'→K () Q w') :
  callW Tryz.prog Z2e [.pointer (some ⟨bw,0,none⟩),.slice sw.a sw.n sw.c,.agg ⟨[.slice d.1.a d.1.n d.1.c,.slice d.2.1.a d.2.1.n d.2.1.c,.slice d.2.2.a d.2.2.n d.2.2.c]⟩] [] K Q w:=by
 refine Zc2 _ sw d K Q w ?_
 unfold Z6s
 have hF:=h.2.1
 have hS0:SlT (fun k=>okw k∧k < w.heap.size) w entT sw raws:=hS.mono fun k hk e=>⟨e,hk⟩
 have hE0:EntsR (fun k=>okw k∧k < w.heap.size) w raws was:=hE.mono fun k hk e=>⟨e,hk⟩
 have D0:DltR (fun k=>ok k∧k < w.heap.size) w d gone come chg:=DltR.st.mono D fun k hk e=>⟨e,hk⟩
 obtain ⟨Dg,⟨rc,Dc,DcE⟩,⟨rd,Dd,DdE⟩⟩:=D0
 have no1:∀ k,okw k∧k < w.heap.size→¬ (F k∨w.heap.size≤k):=fun k e e2=>by
  rcases e2 with e2 | e2
  ·exact hd1 k e.2 e.1 e2
  ·omega
 have no2:∀ k,ok k∧k < w.heap.size→¬ (F k∨w.heap.size≤k):=fun k e e2=>by
  rcases e2 with e2 | e2
  ·exact hd2 k e.2 e.1 e2
  ·omega
 have lg:=Dg.len
 have lc:=DcE.len
 have lc':=Dc.len
 have ld':=Dd.len
 have ldE:=DdE.len
 refine newI fun w1 B1 f1 t1=>fldI B1 (i:=0) (x:=d.1) rfl ?_
 have X1:PX w.heap.size F bw b s [w.heap.size] w1:=(PX.of h).more f1 (Nat.le_refl _) (by omega)
 rw [lg]
 refine X1.count (by omega) (by omega) fun w2 X2 f2=>?_
 have z2:=f2.size
 have B2:=B1.fr f2 fun e=>e.2 (by simp)
 have g2:Fr (fun k=>F k∨w.heap.size≤k) w w2:=f1.any.then (f2.sub fun k e=>e.1)
 refine newI fun w3 B3 f3 t3=>stoAll B3 rfl rfl fun w4 B4 f4 t4=>?_
 have f24:Fr None w2 w4:=f3.newer f4 fun k e=>by omega
 have X4:PX w.heap.size F bw b (varM s gone.length) [w2.heap.size,w.heap.size] w4:=(X2.more f3 (Nat.le_refl _) (by omega)).frN (by simp) f4
 have B24:=B2.fr f24 fun h=>h
 have g4:=g2.then0 f24
 refine fldI B24 (i:=0) (x:=d.1) rfl ?_
 have hx1:w.heap.size≠w2.heap.size:=by omega
 generalize hbl:w2.heap.size=bl at B4 X4 hx1
 generalize hbx:w.heap.size=bx at B24 X4 hx1
 have hn4:=g4.size
 have ps:∀ {l:List Nat} (k:Nat),PS bx F l k→F k∨w.heap.size≤k:=fun k e=>by rw [hbx]; exact e.1
 have psl:∀ {l:List Nat} (k:Nat),PS bx F l k∨k=bl→F k∨w.heap.size≤k:=fun k e=>by
  rcases e with e | e
  ·exact ps k e
  ·exact .inr (by omega)
 have nx:∀ {l:List Nat},bx∈l→¬ PS bx F l bx:=fun hl e=>e.2 hl
 refine forI (N:=d.1.n) (fun s:Int=>s) (fun j i v=>i=(j:Int)∧PX bx F bw b ((gone.take j).foldl idM (varM s gone.length,0)).1 [bl,bx] v∧Blk v bl 54 [.int .u32 ((gone.take j).foldl idM (varM s gone.length,0)).2]∧Blk v bx 80 [.slice d.1.a d.1.n d.1.c,.slice d.2.1.a d.2.1.n d.2.1.c,.slice d.2.2.a d.2.2.n d.2.2.c]∧Fr (fun k=>F k∨w.heap.size≤k) w v)
  ⟨rfl,X4,B4,B24,g4⟩ (fun j s w' h=>h.1) ?_ ?_
 ·rintro j i v K' hj ⟨rfl,X,Bl,Bx,fv⟩ - hK
  have hnv:=fv.size
  refine (Dg.fr fv no2).get rfl rfl (by omega) fun x hx=>?_
  refine X.id (by omega) (by simp) Bl fun v2 X2 Bl2 e2=>?_
  have efold:(gone.take (j+1)).foldl idM (varM s gone.length,0)=idM ((gone.take j).foldl idM (varM s gone.length,0)) x:=by rw [Z8 hx,List.foldl_append]; rfl
  refine hK _ _ ⟨wsucc hj (by omega),?_,?_,Bx.fr e2 fun e=>?_,fv.then (e2.sub psl)⟩
  ·rw [efold]; exact X2
  ·rw [efold]; exact Bl2
  ·rcases e with e | e
   ·exact nx (by simp) e
   ·exact hx1 e
 rintro i v5 ⟨_,X5,Bl5,Bx5,g5⟩
 rw [List.take_of_length_le (by omega)] at X5
 have hn5:=g5.size
 refine fldI Bx5 (i:=1) (x:=d.2.1) rfl ?_
 refine X5.ents (by omega) (Dc.fr g5 no2) (DcE.fr g5 no2) (fun k e=>by rw [← hbx]; exact no2 k e) hc.2 hc.1 fun v6 X6 f6=>?_
 have g6:=g5.then (f6.sub fun k e=>ps k e)
 have hn6:=g6.size
 have Bx6:=Bx5.fr f6 (nx (by simp))
 have Bl6:=Bl5.fr f6 fun e=>e.2 (by simp)
 refine fldI Bx6 (i:=2) (x:=d.2.2) rfl ?_
 rw [ld',ldE]
 refine X6.count (by omega) (by omega) fun v7 X7 f7=>?_
 have g7:=g6.then (f7.sub fun k e=>ps k e)
 have hn7:=g7.size
 have Bx7:=Bx6.fr f7 (nx (by simp))
 have Bl7:=Bl6.fr f7 fun e=>e.2 (by simp)
 refine stoAll Bl7 rfl rfl fun v8 Bl8 f8 t8=>?_
 have X8:=X7.frN (by simp) f8
 have g8:=g7.then (f8.sub fun k e=>.inr (by omega))
 have hn8:=g8.size
 have Bx8:=Bx7.fr f8 hx1
 refine fldI Bx8 (i:=2) (x:=d.2.2) rfl ?_
 generalize hs0:entsW (goneW s gone) come=s0 at *
 have hs0':entsW (List.foldl idM (varM s gone.length,0) gone).1 come=s0:=hs0
 rw [hs0'] at X8
 refine forI (N:=d.2.2.n) (fun s:Int=>s) (fun j i v=>i=(j:Int)∧PX bx F bw b ((chg.take j).foldl (chgM1 was) (varM s0 chg.length,0)).1 [bl,bx] v∧Blk v bl 54 [.int .u32 ((chg.take j).foldl (chgM1 was) (varM s0 chg.length,0)).2]∧Fr (fun k=>F k∨w.heap.size≤k) w v)
  ⟨rfl,X8,Bl8,g8⟩ (fun j s w' h=>h.1) ?_ ?_
 ·rintro j i v K' hj ⟨rfl,X,Bl,fv⟩ - hK
  obtain ⟨c,hcj⟩:∃ c,chg[j]?=some c:=⟨_,List.getElem?_eq_getElem (by omega)⟩
  obtain ⟨r,hrj,q1,q2,q3,q4⟩:=DdE.get hcj
  obtain ⟨⟨i0,i1⟩,⟨o0,o1⟩,⟨n0,n1⟩,⟨m0,m1⟩⟩:=hh.2 c (List.mem_of_getElem? hcj)
  have efold:(chg.take (j+1)).foldl (chgM1 was) (varM s0 chg.length,0)=chgM1 was ((chg.take j).foldl (chgM1 was) (varM s0 chg.length,0)) c:=by rw [Z8 hcj,List.foldl_append]; rfl
  generalize (chg.take j).foldl (chgM1 was) (varM s0 chg.length,0)=p at X Bl efold
  have hnv:=fv.size
  refine (Dd.fr fv no2).get rfl rfl (by omega) fun y hy=>?_
  rw [hrj] at hy
  cases hy
  refine newI fun v1 C1 e1 u1=>stoAll C1 rfl rfl fun v2 C2 e2 u2=>?_
  have e12:Fr None v v2:=e1.newer e2 fun k e=>by omega
  have X2:PX bx F bw b p.1 [v.heap.size,bl,bx] v2:=(X.more e1 (Nat.le_refl _) (by omega)).frN (by simp) e2
  have Bl2:=Bl.fr e12 fun h=>h
  have fv2:=fv.then0 e12
  have hbv:=Bl.lt
  generalize hbc:v.heap.size=bc at C2 X2 hbv
  have hnv2:=fv2.size
  refine fldI C2 (i:=0) (x:=r.1) rfl ?_
  rw [q1]
  refine X2.id (by omega) (by simp) Bl2 fun v3 X3 Bl3 e3=>?_
  have C3:=C2.fr e3 fun e=>by
   rcases e with e | e
   ·exact e.2 (by simp)
   ·omega
  have fd:Fr None v3 v3.drew:=(Fr.refl _ _).drew
  have X3:=X3.fr0 fd
  have C3:=C3.fr fd fun h=>h
  have Bl3:=Bl3.fr fd fun h=>h
  have fv3:=(fv2.then (e3.sub psl)).then0 fd
  have hnv3:=fv3.size
  refine fldI C3 (i:=1) (x:=r.2.1) rfl (fldI C3 (i:=2) (x:=r.2.2.1) rfl (fldI C3 (i:=3) (x:=r.2.2.2) rfl ?_))
  rw [q2]
  refine Zt (q3.fr fv3 no2) n0 n1 fun v4 e4=>?_
  have C4:=C3.fr e4 fun h=>h
  have c1:∀ {u:World},Blk u bc 86 [.int .u32 r.1,.int .u8 r.2.1,.slice r.2.2.1.a r.2.2.1.n r.2.2.1.c,.slice r.2.2.2.a r.2.2.2.n r.2.2.2.c]→Rd u (Addr.add ⟨bc,0,none⟩ 1) (.sc (.int .u8)) c.2.1:=fun B=>by rw [← q2]; exact B.rd (s:=.int .u8) (i:=1) (x:=r.2.1) rfl
  refine andI (C4.rd (s:=.sl) (i:=3) (x:=r.2.2.2) rfl) (andI (c1 C4) ?_)
  refine Zt (q4.fr (fv3.then0 e4) no2) m0 m1 fun v5 e5=>andI (c1 (C4.fr e5 fun h=>h)) ?_
  refine newI fun v6 M6 e6 u6=>?_
  have e36:=(e4.then0 e5).then0 e6
  have X6:=(X3.fr0 (e4.then0 e5)).more e6 (Nat.le_refl _) (by omega)
  have C6:=C3.fr e36 fun h=>h
  have Bl6:=Bl3.fr e36 fun h=>h
  have fv6:=fv3.then0 e36
  have hnv6:=fv6.size
  have hb5:bx < v5.heap.size∧bl < v5.heap.size∧bc < v5.heap.size:=by
   have a1:=e36.size; have a2:=e5.size; have a3:=e4.size
   have a4:=C3.lt; have a5:=Bl3.lt
   omega
  generalize hbm:v5.heap.size=bm at M6 X6 hb5
  have hbm':w.heap.size≤bm:=by omega
  refine forI (N:=3) (fun s:Int=>s) (fun j i u=>i=(j:Int)∧PX bx F bw b (([c.2.1,(maskN c.2.2.1:Int),(maskN c.2.2.2:Int)].take j).foldl (fun s m=>plainM s m 5) (varM p.1 (idD p.2 c.1))) [bm,bc,bl,bx] u∧Blk u bm 5 [.int .u8 c.2.1,.int .u8 (maskN c.2.2.1:Int),.int .u8 (maskN c.2.2.2:Int)]∧Blk u bc 86 [.int .u32 r.1,.int .u8 r.2.1,.slice r.2.2.1.a r.2.2.1.n r.2.2.1.c,.slice r.2.2.2.a r.2.2.2.n r.2.2.2.c]∧Blk u bl 54 [.int .u32 c.1]∧Fr (fun k=>F k∨w.heap.size≤k) w u)
   ⟨rfl,X6,M6,C6,Bl6,fv6⟩ (fun j s w' h=>h.1) ?_ ?_
  ·rintro q i u K2 hq ⟨rfl,Xu,Mu,Cu,Lu,fu⟩ - hK2
   have hnu:=fu.size
   refine idxB (by omega) (by omega) ?_
   have mk1:=Z6l c.2.2.1
   have mk2:=Z6l c.2.2.2
   have go:∀ {x:Int},[c.2.1,(maskN c.2.2.1:Int),(maskN c.2.2.2:Int)][q]?=some x→0≤x∧x≤255→callW Tryz.prog Zf [.pointer (some ⟨bw,0,none⟩),.int .u64 (IntKind.wrap .u64 x),.int .i64 5] [] (fun (_:Unit)=>K2 (IntKind.wrap .i64 ((q:Int)+1))) (fun r w=>K r Q w) u:=by
    intro x hx h01
    rw [wU64 (x:=x) (by omega)]
    refine Xu.plain (by omega) (by omega) (by decide) fun u2 X2 g2=>?_
    refine hK2 _ _ ⟨wsucc hq (by omega),?_,Mu.fr g2 fun e=>e.2 (by simp),Cu.fr g2 fun e=>e.2 (by simp),Lu.fr g2 fun e=>e.2 (by simp),fu.then (g2.sub fun k e=>ps k e)⟩
    rw [Z8 hx,List.foldl_append]
    exact X2
   rcases (show q=0∨q=1∨q=2 by omega) with rfl | rfl | rfl
   ·exact fld0 Mu (i:=0) (x:=c.2.1) rfl (go rfl (by omega))
   ·exact fld0 Mu (i:=1) (x:=(maskN c.2.2.1:Int)) rfl (go rfl (by omega))
   ·exact fld0 Mu (i:=2) (x:=(maskN c.2.2.2:Int)) rfl (go rfl (by omega))
  rintro i u ⟨_,Xu,Mu,Cu,Lu,fu⟩
  have hnu:=fu.size
  refine fldI Cu (i:=2) (x:=r.2.2.1) rfl ?_
  have dis:∀ k,ok k∧k < w.heap.size→k∈[bm,bc,bl,bx]∨¬ (F k∨bx≤k):=fun k e=>.inr (by rw [← hbx]; exact no2 k e)
  refine Xu.comps (by omega) (q3.fr fu no2) dis n1 n0 fun u1 Xu1 g1=>?_
  have Cu1:=Cu.fr g1 fun e=>e.2 (by simp)
  have Lu1:=Lu.fr g1 fun e=>e.2 (by simp)
  have fu1:=fu.then (g1.sub fun k e=>ps k e)
  have hnu1:=fu1.size
  refine fldI Cu1 (i:=3) (x:=r.2.2.2) rfl ?_
  have lm:=q4.len
  generalize hs1:compsM (plainM (plainM (plainM (varM p.1 (idD p.2 c.1)) c.2.1 5) (maskN c.2.2.1) 5) (maskN c.2.2.2) 5) c.2.2.1=s1 at *
  have hs1':compsM (List.foldl (fun s m=>plainM s m 5) (varM p.1 (idD p.2 c.1)) ([c.2.1,(maskN c.2.2.1:Int),(maskN c.2.2.2:Int)].take 3)) c.2.2.1=s1:=hs1
  rw [hs1'] at Xu1
  refine forI (N:=r.2.2.2.n) (fun s:Int=>s) (fun j i u=>i=(j:Int)∧PX bx F bw b (setsM was c.1 s1 (c.2.2.2.take j)) [bc,bl,bx] u∧Blk u bc 86 [.int .u32 r.1,.int .u8 r.2.1,.slice r.2.2.1.a r.2.2.1.n r.2.2.1.c,.slice r.2.2.2.a r.2.2.2.n r.2.2.2.c]∧Blk u bl 54 [.int .u32 c.1]∧Fr (fun k=>F k∨w.heap.size≤k) w u)
   ⟨rfl,Xu1.less (by simp),Cu1,Lu1,fu1⟩ (fun j s w' h=>h.1) ?_ ?_
  ·rintro q i u K2 hq ⟨rfl,Xu,Cu,Lu,fu⟩ - hK2
   have hnu:=fu.size
   refine (q4.fr fu no2).get rfl rfl (by omega) fun x hx=>?_
   have esets:setsM was c.1 s1 (c.2.2.2.take (q+1))=doM (setsM was c.1 s1 (c.2.2.2.take q)) (putS (setsM was c.1 s1 (c.2.2.2.take q)).1 (oldM was c.1 x.1) x):=by unfold setsM; rw [Z8 hx,List.foldl_append]; rfl
   refine newI fun u2 E2 g2 y2=>stoAll E2 rfl rfl fun u3 E3 g3 y3=>?_
   have g23:Fr None u u3:=g2.newer g3 fun k e=>by omega
   have fd:Fr None u3 u3.drew:=(Fr.refl _ _).drew
   have g2d:=g23.then0 fd
   have X3:=Xu.fr0 g2d
   have C3:=Cu.fr g2d fun h=>h
   have L3:=Lu.fr g2d fun h=>h
   have E3:=E3.fr fd fun h=>h
   have fu3:=fu.then0 g2d
   have hnu3:=fu3.size
   refine ptrI (X3.ptr (fldI C3 (i:=0) (x:=r.1) rfl (fldI E3 (i:=0) (x:=x.1) rfl (aggI E3 (x:=x) rfl ?_))))
   rw [q1]
   refine Zd2 (hS0.fr fu3 no1) (hE0.fr fu3 no1) hr (by omega) (fun e he=>by have:=(hL e he).2.1; omega) fun u4 g4=>?_
   have X4:=X3.fr0 g4
   have E4:=E3.fr g4 fun h=>h
   have hx2:=m1 x (List.mem_of_getElem? hx)
   refine andI (fun j v hj=>?_) (andI X4.rdp ?_)
   ·rw [add_lit,E4.cell,Nat.zero_add]
    exact hj
   have fu4:=fu3.then0 g4
   have hnu4:=fu4.size
   obtain ⟨G,hw,hG,hk3⟩:=X4.bits (Q:=(fun r w=>K r Q w)) (by omega)
   refine Zir hw (Zs1 hL c.1 x.1) hx2 hG fun u5 hw5 g5=>hk3 _ u5 hw5 g5 fun u6 X6 g6=>?_
   refine hK2 _ _ ⟨wsucc hq (by omega),?_,(C3.fr g4 fun h=>h).fr g6 fun e=>e.2 (by simp),(L3.fr g4 fun h=>h).fr g6 fun e=>e.2 (by simp),fu4.then (g6.sub fun k e=>ps k e)⟩
   rw [esets]
   exact X6
  rintro i u2 ⟨_,X2,C2,L2,fu2⟩
  rw [List.take_of_length_le (by omega)] at X2
  refine hK _ _ ⟨wsucc hj (by omega),?_,?_,fu2⟩
  ·rw [efold]
   show PX bx F bw b (setsM was c.1 (compsM (plainM (plainM (plainM (varM p.1 (idD p.2 c.1)) c.2.1 5) (maskN c.2.2.1) 5) (maskN c.2.2.2) 5) c.2.2.1) c.2.2.2) [bl,bx] u2
   rw [hs1]
   exact X2.less (by simp)
  ·rw [efold]
   exact L2
 rintro i v9 ⟨_,X9,_,g9⟩
 rw [List.take_of_length_le (by omega)] at X9
 refine hk v9 ?_ ((Fr.refl F w).exS g9 fun k e=>e)
 subst hbx
 have:=X9.done hF g9.size
 rw [deltaW,hs0]
 exact this
end Go.Proofs.YtchhhjlpnecjkaaGreat
namespace Go.Proofs.YtchhhjlpnecjkaaGreat
open Go Go.RowKit Go.Proofs.YtchhhjlpnecjkaaGreat.Den
variable {R:Type} {Q:R→World→Prop} {w:World}
theorem Z4z {ok:Nat→Prop} {s:Sl} {l:List Int} (hS:SlT ok w u8T s l) (hm:l.length≤140737488355328) {K:Res [.sc .sl]→W R} (hk:∀ r w',Own (Up w.heap.size) w' 5 u8T r l→Fr None w w'→K r Q w') :
  callW Tryz.prog Z4b [.slice s.a s.n s.c] [.sc .sl] K Q w:=by
 refine Znt s K Q w ?_
 unfold Zgs
 refine condI (fun hn=>?_) fun _=>cloneI Z3r hS (by omega) (by omega) hk
 have:l=[]:=by
  rcases hS.at_ with e | ⟨b,o,e,_⟩
  ·exact e
  ·rw [e] at hn; cases hn
 subst this
 exact hk ⟨none,0,0⟩ w (Own.nil _ _ _ _) (Fr.refl _ _)
theorem Zlt {b:Nat} {L:List Bool} {F:Nat→Prop} (h:Wr b L F w) {K:Res [.sc .sl]→W R} (hk:∀ r w',Own (Up w.heap.size) w' 5 u8T r (packM L)→Fr None w w'→K r Q w') :
  callW Tryz.prog Z52 [.pointer (some ⟨b,0,none⟩)] [.sc .sl] K Q w:=by
 refine Zeu _ K Q w ?_
 unfold Z88
 obtain ⟨hl,_,s,B,o⟩:=h
 refine condF rfl (ptrI (fldI B (i:=0) (x:=s) rfl (Z4z o.sl (by rw [Zhh]; omega) fun r w1 o1 f1=>hk r w1 o1 f1)))
def stepF (c:Int):Int:=if bAnd .u32 c 1≠0 then bXor .u32 (shR .u32 c 1) 3988292384 else shR .u32 c 1
theorem Zlz {c:Int} {K:Res [.sc (.int .u32)]→W R} (hk:K (stepF c) Q w):callW Tryz.prog Zcj [.int .u32 c] [.sc (.int .u32)] K Q w:=by
 refine Zpl _ K Q w ?_
 unfold Zj7
 unfold stepF at hk
 refine condN (fun h=>?_) fun h=>?_
 ·rw [if_pos h] at hk; exact hk
 ·rw [if_neg (by omega)] at hk; exact hk
def stepsF:Nat→Int→Int
 | 0,c=>c
 | n+1,c=>stepF (stepsF n c)
def byteF (c x:Int):Int:=stepsF 8 (bXor .u32 c (IntKind.wrap .u32 x))
def sumF (l:List Int):Int:=bXor .u32 4294967295 (l.foldl byteF 4294967295)
theorem Zep {ok:Nat→Prop} {s:Sl} {l:List Int} (hS:SlT ok w u8T s l) (hm:l.length≤9223372036854775807) {K:Res [.sc (.int .u32)]→W R} (hk:K (sumF l) Q w):callW Tryz.prog Zbc [.slice s.a s.n s.c] [.sc (.int .u32)] K Q w:=by
 refine Zrd s K Q w ?_
 unfold Zkx
 have hlen:=hS.len
 refine forI (N:=s.n) (fun s:Int × Int=>s.2) (fun j s w'=>s=((l.take j).foldl byteF 4294967295,(j:Int))∧w'=w) ⟨rfl,rfl⟩ (fun j s w' h=>by rw [h.1]) ?_ ?_
 ·rintro j s1 w1 K' hj ⟨rfl,rfl⟩ - hK
  refine hS.get rfl rfl (by omega) fun x hx=>?_
  have e:(l.take (j+1)).foldl byteF 4294967295=byteF ((l.take j).foldl byteF 4294967295) x:=by rw [Z8 hx,List.foldl_append]; rfl
  generalize (l.take j).foldl byteF 4294967295=c at e
  refine forI (N:=8) (fun s:Int × Int=>s.2) (fun i s w'=>s=(stepsF i (bXor .u32 c (IntKind.wrap .u32 x)),(i:Int))∧w'=w1) ⟨rfl,rfl⟩ (fun j s w' h=>by rw [h.1]) ?_ ?_
  ·rintro i s2 w2 K2 hi ⟨rfl,rfl⟩ - hK2
   exact Zlz (hK2 _ _ ⟨by rw [wsucc hi (by omega)]; rfl,rfl⟩)
  ·rintro s2 w2 ⟨rfl,rfl⟩
   exact hK _ _ ⟨by rw [wsucc hj (by omega),e]; rfl,rfl⟩
 ·rintro s1 w1 ⟨rfl,rfl⟩
  rw [List.take_of_length_le (by omega)]
  exact hk
theorem Zzo {α:Type} (a:List α) (x y:α) (r:List α) {j:Nat} (h:j=a.length):(a ++ x :: r).set j y=a ++ [y] ++ r:=by
 subst h
 simp
def tailF (s:Int):List Int:=(List.range 4).map fun i:Nat=>IntKind.wrap .u8 (shR .u32 s (8 * (i:Int)))
theorem Zd1 {x:Int} {K:Res [.sc .sl]→W R} (hk:∀ r w',Own (Up w.heap.size) w' 5 u8T r (tailF x)→Fr None w w'→K r Q w') :
  callW Tryz.prog Z9u [.int .u32 x] [.sc .sl] K Q w:=by
 refine Zpm _ K Q w ?_
 unfold Zj8
 refine makeI Z3r (z:=(0:Int)) (zv:=.int .u8 0) (by kernel_rfl) rfl (n:=4) rfl (by decide) (by decide) fun w1 o1 f1 s1=>?_
 refine forI (N:=4) (fun s:Int=>s) (fun j i w'=>i=(j:Int)∧Own (Up w.heap.size) w' 5 u8T ⟨some ⟨w.heap.size,0,none⟩,4,4⟩ (((List.range j).map fun i:Nat=>IntKind.wrap .u8 (shR .u32 x (8 * (i:Int)))) ++ List.replicate (4 - j) 0)∧Fr None w w') ⟨rfl,o1.mono fun k _ e=>by show w.heap.size≤k; omega,f1⟩ (fun j s w' h=>h.1) ?_ ?_
 ·rintro j i w2 K' hj ⟨rfl,o2,f2⟩ - hK
  rw [w64 (x:=8 * (j:Int)) (by omega)]
  refine chkI (by omega) (o2.idx rfl (by omega) (by simp; omega) fun g y hg _ _=>?_)
  rw [Int.toNat_natCast]
  refine o2.set rfl (i:=j) (by simp; omega) hg _ fun w3 o3 f3 s3=>?_
  refine hK _ _ ⟨wsucc hj (by decide),?_,f2.newer f3 fun k e=>o2.own k e⟩
  have e:((List.range j).map (fun i:Nat=>IntKind.wrap .u8 (shR .u32 x (8 * (i:Int)))) ++ List.replicate (4 - j) 0).set j (IntKind.wrap .u8 (shR .u32 x (8 * (j:Int))))=(List.range (j+1)).map (fun i:Nat=>IntKind.wrap .u8 (shR .u32 x (8 * (i:Int)))) ++ List.replicate (4 - (j+1)) 0:=by
   have:4 - j=(4 - (j+1))+1:=by omega
   rw [this,List.replicate_succ,List.range_succ,List.map_append]
   exact Zzo _ _ _ _ (by simp)
  rw [e] at o3
  exact o3
 ·rintro i w2 ⟨_,o2,f2⟩
  have e:((List.range 4).map (fun i:Nat=>IntKind.wrap .u8 (shR .u32 x (8 * (i:Int)))) ++ List.replicate (4 - 4) 0)=tailF x:=by simp [tailF]
  rw [e] at o2
  exact hk _ w2 o2 f2
def sealF (l:List Int):List Int:=l ++ tailF (sumF l)
theorem Zly {ok:Nat→Prop} {s:Sl} {l:List Int} (hS:SlT ok w u8T s l) (hm:l.length≤140737488355000) {K:Res [.sc .sl,.sc (.int .i64)]→W R} (h1:4096 < l.length→K (⟨none,0,0⟩,3) Q w) (hk:l.length≤4096→∀ r w',Own (Up w.heap.size) w' 5 u8T r (sealF l)→Fr None w w'→K (r,0) Q w') :
  callW Tryz.prog Zci [.slice s.a s.n s.c] [.sc .sl,.sc (.int .i64)] K Q w:=by
 refine Zpk s K Q w ?_
 unfold Zj6
 have hlen:=hS.len
 refine condD (fun h=>h1 (by omega)) fun h=>?_
 refine Z4z hS (by omega) fun r w2 o2 f2=>Zep (hS.fr0 f2) (by omega) (Zd1 fun t w3 o3 f3=>?_)
 have hs2:=f2.size
 have hs3:=f3.size
 refine appI Z3r (S':=Up w.heap.size) (o2.none f3) o3.sl (by simp [tailF]; omega) (by rw [Zm]; simp [tailF]; omega) (fun _ h=>h) (by show w.heap.size≤_; omega) fun r2 w4 o4 f4 _=>?_
 exact hk (by omega) r2 w4 o4 ((f2.then0 f3).newer f4 fun k e=>o2.own k e)
end Go.Proofs.YtchhhjlpnecjkaaGreat
namespace Go.Proofs.YtchhhjlpnecjkaaGreat
open Go Go.RowKit Go.Proofs.YtchhhjlpnecjkaaGreat.Den
variable {R:Type} {Q:R→World→Prop} {w:World}
def headE (h:Head):Int :=
 if h.1 < 1∨5 < h.1∨16≤h.2.1 then 1
 else if h.2.2.1=0∨(3 < h.1∧h.2.2.2.1≠0)∨(h.1≠2∧h.2.2.2.2≠0)∨(h.1=2∧h.2.2.2.1≤h.2.2.2.2) then 4
 else 0
theorem Zui (x:Int):(x != 0)=decide (x≠0):=by by_cases h:x=0 <;> simp [h]
theorem Zaw {h:Head} {K:Res [.sc (.int .i64)]→W R} (hk:∀ w',Fr None w w'→K (headE h) Q w') :
  callW Tryz.prog Z6i [.agg ⟨[.int .u8 h.1,.int .u8 h.2.1,.int .u32 h.2.2.1,.int .u32 h.2.2.2.1,.int .u32 h.2.2.2.2]⟩] [.sc (.int .i64)] K Q w:=by
 refine Zme h K Q w ?_
 unfold Zee
 unfold headE at hk
 refine newI fun w1 B f1 s1=>?_
 refine joinI (fun z w'=>z=decide (h.1 < 1∨5 < h.1∨16≤h.2.1)∧w'=w1) ?_ ?_
 ·refine fldI B (i:=0) (x:=h.1) rfl (condD (fun a=>⟨(decide_eq_true (.inl a)).symm,rfl⟩) fun a=>?_)
  refine fldI B (i:=0) (x:=h.1) rfl (condD (fun b=>⟨(decide_eq_true (.inr (.inl b))).symm,rfl⟩) fun b=>?_)
  refine fldI B (i:=1) (x:=h.2.1) rfl ⟨?_,rfl⟩
  have b:¬ 5 < h.1:=b
  simp [a,b]
 rintro z w2 ⟨rfl,rfl⟩
 refine condD (fun a=>?_) fun a=>?_
 ·rw [if_pos a] at hk
  exact hk w2 f1
 rw [if_neg a] at hk
 refine fldI B (i:=0) (x:=h.1) rfl (fldI B (i:=2) (x:=h.2.2.1) rfl ?_)
 refine joinI (fun z w'=>z=decide (h.2.2.1=0∨(3 < h.1∧h.2.2.2.1≠0)∨(h.1≠2∧h.2.2.2.2≠0)∨(h.1=2∧h.2.2.2.1≤h.2.2.2.2))∧w'=w2) ?_ ?_
 ·refine condE (fun b=>⟨by simp [b],rfl⟩) fun b=>?_
  refine joinI (fun z w'=>z=decide (3 < h.1∧h.2.2.2.1≠0)∧w'=w2) ?_ ?_
  ·refine condI (fun c=>fldI B (i:=3) (x:=h.2.2.2.1) rfl ⟨?_,rfl⟩) fun c=>⟨?_,rfl⟩
   ·have c:¬ h.1≤3:=by simpa using c
    have c2:3 < h.1:=by omega
    rw [Zui]
    simp [c2]
   ·have c:h.1≤3:=by simpa using c
    have c2:¬ 3 < h.1:=by omega
    simp [c2]
  rintro z w3 ⟨rfl,rfl⟩
  refine joinI (fun z w'=>z=decide ((3 < h.1∧h.2.2.2.1≠0)∨(h.1≠2∧h.2.2.2.2≠0)∨(h.1=2∧h.2.2.2.1≤h.2.2.2.2))∧w'=w3) ?_ ?_
  ·refine condD (fun c=>⟨by rw [decide_eq_true c,decide_eq_true (.inl c)],rfl⟩) fun c=>?_
   refine joinI (fun z w'=>z=decide (h.1≠2∧h.2.2.2.2≠0)∧w'=w3) ?_ ?_
   ·refine fldI B (i:=0) (x:=h.1) rfl (condN (fun d=>fldI B (i:=4) (x:=h.2.2.2.2) rfl ⟨by rw [Zui]; simp [d],rfl⟩) fun d=>⟨by simp [d],rfl⟩)
   rintro z w4 ⟨rfl,rfl⟩
   refine joinI (fun z w'=>z=decide ((h.1≠2∧h.2.2.2.2≠0)∨(h.1=2∧h.2.2.2.1≤h.2.2.2.2))∧w'=w4) ?_ ?_
   ·refine condD (fun d=>⟨by rw [decide_eq_true d,decide_eq_true (.inl d)],rfl⟩) fun d=>?_
    refine joinI (fun z w'=>z=decide (h.1=2∧h.2.2.2.1≤h.2.2.2.2)∧w'=w4) ?_ ?_
    ·refine fldI B (i:=0) (x:=h.1) rfl (condE (fun e=>fldI B (i:=4) (x:=h.2.2.2.2) rfl (fldI B (i:=3) (x:=h.2.2.2.1) rfl ⟨by simp [e],rfl⟩)) fun e=>⟨by simp [e],rfl⟩)
    rintro z w5 ⟨rfl,rfl⟩
    exact ⟨by simp only [d,false_or],rfl⟩
   rintro z w5 ⟨rfl,rfl⟩
   exact ⟨by simp only [c,false_or],rfl⟩
  rintro z w4 ⟨rfl,rfl⟩
  exact ⟨by simp only [b,false_or],rfl⟩
 rintro z w3 ⟨rfl,rfl⟩
 refine condD (fun b=>?_) fun b=>?_
 ·rw [if_pos b] at hk
  exact hk w3 f1
 ·rw [if_neg b] at hk
  exact hk w3 f1
end Go.Proofs.YtchhhjlpnecjkaaGreat
namespace Go.Proofs.YtchhhjlpnecjkaaGreat
open Go Go.RowKit Go.Proofs.YtchhhjlpnecjkaaGreat.Den
variable {R:Type} {Q:R→World→Prop} {w:World}
def sealW (h:Head) (was now:List Ent):WS :=
 let s:=headM ([],0) h
 if h.1=1 then
  let s1:=(s.1,keepM s.2 (formM 0 now))
  if s1.2=0 then entsW s1 now else s1
 else if h.1=2 then
  let s1:=(s.1,keepM s.2 (diffE was now))
  if diffE was now=0 then deltaW was s1 (goneM was now) (comeM was now) (chgsM was now) else s1
 else if 0 < now.length then (s.1,keepM s.2 4) else s
def sealE (h:Head) (was now:List Ent):Int :=
 if headE h≠0 then headE h else if (sealW h was now).2≠0 then (sealW h was now).2 else if 4096 < (packM (sealW h was now).1).length then 3 else 0
def sealB (h:Head) (was now:List Ent):List Int:=sealF (packM (sealW h was now).1)
section
variable {n:Nat} {F:Nat→Prop} {bw b:Nat} {s:WS} {nots:List Nat} {v:World}
theorem PX.keep (h:PX n F bw b s nots v) (hn:n≤v.heap.size) {x:Int} {K:Res []→W R} (hk:∀ v',PX n F bw b (s.1,keepM s.2 x) nots v'→Fr (PS n F nots) v v'→K () Q v') :
  callW Tryz.prog Z1 [.pointer (some ⟨bw,0,none⟩),.int .i64 x] [] K Q v:=by
 obtain ⟨G,hp,up,uf,un,us⟩:=h.use hn
 refine Z78 hp fun v' hp' f' s'=>hk v' (up _ _ ?_ (by omega)) (uf _ f')
 exact hp'.mono (fun k _ e=>.inl e) fun k e=>by
  rcases e with e | e
  ·exact hp'.2.1 k e
  ·omega
theorem PX.head (h:PX n F bw b s nots v) (hn:n≤v.heap.size) {hd:Head} (hok:HeadOk hd) {K:Res []→W R} (hk:∀ v',PX n F bw b (headM s hd) nots v'→Fr (PS n F nots) v v'→K () Q v') :
  callW Tryz.prog Z2j [.pointer (some ⟨bw,0,none⟩),.agg ⟨[.int .u8 hd.1,.int .u8 hd.2.1,.int .u32 hd.2.2.1,.int .u32 hd.2.2.2.1,.int .u32 hd.2.2.2.2]⟩] [] K Q v:=by
 obtain ⟨G,hp,up,uf,un,us⟩:=h.use hn
 exact Zk0 hp hok fun v' hp' f'=>hk v' (up _ _ hp' f'.size) (uf _ f')
theorem PX.err (h:PX n F bw b s nots v) {K:Int→W R} (hk:K s.2 Q v):ld (.sc (.int .i64)) (Addr.add ⟨bw,0,none⟩ 1) K Q v:=by
 obtain ⟨G,h1,_⟩:=h
 exact h1.err hk
end
theorem Z93 (a b:List Comp):0≤lostM a b∧lostM a b≤255:=by
 unfold lostM bNot
 rw [IntKind.wrap_u8]
 omega
theorem Zoq {a l:List Comp} {c:Comp} (h:c∈newM a l):c∈l:=(List.mem_filter.1 h).1
theorem Zrp {a l:List Comp} {c:Comp} (h:c∈chM a l):c∈l:=(List.mem_filter.1 h).1
theorem Zrq (a:Ent) {e:Ent} (h:EntFit e):ChgFit (changeM a e) :=
 ⟨h.1,Z93 _ _,⟨Nat.le_trans (Zin _ _) h.2.1,fun c hc=>h.2.2 c (Zoq hc)⟩,⟨Nat.le_trans (Znc _ _) h.2.1,fun c hc=>h.2.2 c (Zrp hc)⟩⟩
section
variable {was now:List Ent} (hL1:∀ e∈was,EntFit e) (hL2:∀ e∈now,EntFit e) (hm1:was.length≤1048576) (hm2:now.length≤1048576)
include hL1 hm1 in
theorem Zq9:(goneM was now).length≤1048576∧∀ x∈goneM was now,0≤x∧x≤4294967295:=by
 refine ⟨by unfold goneM; rw [List.length_map]; exact Nat.le_trans (List.length_filter_le _ _) hm1,fun x hx=>?_⟩
 obtain ⟨e,he,rfl⟩:=List.mem_map.1 hx
 exact (hL1 e (List.mem_filter.1 he).1).1
include hL2 hm2 in
theorem Zuq:(comeM was now).length≤1048576∧∀ e∈comeM was now,EntFit e :=
 ⟨Nat.le_trans (List.length_filter_le _ _) hm2,fun e he=>hL2 e (List.mem_filter.1 he).1⟩
include hL2 hm2 in
theorem Zun:(chgsM was now).length≤1048576∧∀ c∈chgsM was now,ChgFit c:=by
 refine ⟨Nat.le_trans (Z6z _ _) hm2,fun c hc=>?_⟩
 obtain ⟨e,he,hc⟩:=List.mem_filterMap.1 hc
 unfold chgOne at hc
 split at hc
 ·cases hc
 ·split at hc
  ·cases hc
  ·cases hc
   exact Zrq _ (hL2 e he)
end
theorem Zbs {ok1 ok2:Nat→Prop} {h:Head} (hok:HeadOk h) {s1 s2:Sl} {raws1 raws2:List (Int × Sl)} {was now:List Ent} (hS1:SlT ok1 w entT s1 raws1) (hE1:EntsR ok1 w raws1 was) (hS2:SlT ok2 w entT s2 raws2) (hE2:EntsR ok2 w raws2 now)
  (hm1:was.length≤1048576) (hm2:now.length≤1048576) (hL1:∀ e∈was,EntFit e) (hL2:∀ e∈now,EntFit e) {K:Res [.sc .sl,.sc (.int .i64)]→W R}
  (hbad:sealE h was now≠0→∀ w',Fr None w w'→K (⟨none,0,0⟩,sealE h was now) Q w')
  (hk:sealE h was now=0→∀ r w',Own (Up w.heap.size) w' 5 u8T r (sealB h was now)→Fr None w w'→K (r,0) Q w') :
  callW Tryz.prog Z80 [.agg ⟨[.int .u8 h.1,.int .u8 h.2.1,.int .u32 h.2.2.1,.int .u32 h.2.2.2.1,.int .u32 h.2.2.2.2]⟩,.slice s1.a s1.n s1.c,.slice s2.a s2.n s2.c] [.sc .sl,.sc (.int .i64)] K Q w:=by
 refine Zo3 h s1 s2 K Q w ?_
 unfold Zh2
 have hS10:SlT (fun k=>ok1 k∧k < w.heap.size) w entT s1 raws1:=hS1.mono fun k hk e=>⟨e,hk⟩
 have hE10:EntsR (fun k=>ok1 k∧k < w.heap.size) w raws1 was:=hE1.mono fun k hk e=>⟨e,hk⟩
 have hS20:SlT (fun k=>ok2 k∧k < w.heap.size) w entT s2 raws2:=hS2.mono fun k hk e=>⟨e,hk⟩
 have hE20:EntsR (fun k=>ok2 k∧k < w.heap.size) w raws2 now:=hE2.mono fun k hk e=>⟨e,hk⟩
 have l2:=hS2.len.trans hE2.len
 refine newI fun w1 B1 f1 t1=>aggI B1 (x:=h) rfl (Zaw fun w2 f2=>?_)
 have f02:=f1.then0 f2
 have B2:=B1.fr f2 fun h=>h
 refine condN (fun hne=>?_) fun heq=>?_
 ·have e:sealE h was now=headE h:=by unfold sealE; rw [if_pos hne]
  rw [← e]
  exact hbad (by rw [e]; exact hne) w2 f02
 have eS:sealE h was now=if (sealW h was now).2≠0 then (sealW h was now).2 else if 4096 < (packM (sealW h was now).1).length then 3 else 0:=by unfold sealE; rw [if_neg (by omega)]
 have z2:=f02.size
 refine Zoz fun b w3 hw3 f3=>newI fun w4 B4 f4 t4=>?_
 have z3:=f3.size
 have hbl:b < w3.heap.size:=by obtain ⟨_,_,s,hB,_⟩:=hw3; exact hB.lt
 have hbu:w2.heap.size≤b:=hw3.2.1
 have P4:PW w3.heap.size b ([],0) (fun k=>w2.heap.size≤k∧k < w4.heap.size) w4:=⟨by omega,fun k e=>e.2,B4,Wr.st hw3 f4 fun k hk e=>⟨fun h=>h,⟨e,by omega⟩,by omega⟩⟩
 have X4:PX w2.heap.size None w3.heap.size b ([],0) [w.heap.size] w4:=⟨_,P4,fun k e=>.inr e.1,fun x hx=>by
  rcases List.mem_cons.1 hx with rfl | hx
  ·have:=B2.lt; exact ⟨fun e=>by omega,by omega⟩
  ·cases hx⟩
 have f24:=f3.then0 f4
 have B4':=B2.fr f24 fun h=>h
 have f04:=f02.then0 f24
 refine aggI B4' (x:=h) rfl ?_
 generalize hbw:w3.heap.size=bw at X4 P4
 have hz24:=f24.size
 refine X4.head (by omega) hok fun w5 X5 f5=>?_
 have g5:Fr None w2 w5:=f24.newer f5 fun k e=>e.1.elim (fun h=>h.elim) fun h=>h
 have B5:=B4'.fr f5 fun e=>e.2 (by simp)
 have hz5:=g5.size
 have dis1:∀ {ok:Nat→Prop} k,ok k∧k < w.heap.size→¬ (None k∨w2.heap.size≤k):=fun k e e2=>by
  rcases e2 with e2 | e2
  ·exact e2
  ·omega
 refine fldI B5 (i:=0) (x:=h.1) rfl ?_
 have fnew:∀ {a b:World} {l:List Nat},Fr None w2 a→Fr (PS w2.heap.size None l) a b→Fr None w2 b:=fun f g=>f.newer g fun k e=>e.1.elim (fun h=>h.elim) fun h=>h
 refine joinI (fun (_:Unit) v=>PX w2.heap.size None bw b (sealW h was now) [w.heap.size] v∧Fr None w2 v) ?_ ?_
 ·refine condE (fun k1=>?_) fun k1=>?_
  ·
   refine Z6o ((hS20.fr0 f02).fr0 g5) ((hE20.fr f02 fun _ _ h=>h).fr g5 fun _ _ h=>h) (by omega) (fun e he=>(hL2 e he).idOk) fun w6 f6=>?_
   have X6:=X5.fr0 f6
   have g6:=g5.then0 f6
   have hz6:=g6.size
   refine X6.keep (by omega) fun w7 X7 f7=>?_
   have g7:=fnew g6 f7
   have hz7:=g7.size
   refine X7.err ?_
   have eW:sealW h was now=if keepM (headM ([],0) h).2 (formM 0 now)=0 then entsW ((headM ([],0) h).1,keepM (headM ([],0) h).2 (formM 0 now)) now else ((headM ([],0) h).1,keepM (headM ([],0) h).2 (formM 0 now)):=by unfold sealW; rw [if_pos k1]
   refine joinI (fun (_:Unit) v=>PX w2.heap.size None bw b (sealW h was now) [w.heap.size] v∧Fr None w2 v) ?_ fun _ v h=>h
   refine condE (fun k0=>?_) fun k0=>?_
   ·have f27:=f02.then0 g7
    refine X7.ents (by omega) (hS20.fr0 f27) (hE20.fr f27 fun _ _ h=>h) dis1 hL2 hm2 fun w8 X8 f8=>⟨?_,fnew g7 f8⟩
    rw [eW,if_pos k0]
    exact X8
   ·rw [eW,if_neg k0]
    exact ⟨X7,g7⟩
  ·refine joinI (fun (_:Unit) v=>PX w2.heap.size None bw b (sealW h was now) [w.heap.size] v∧Fr None w2 v) ?_ fun _ v h=>h
   refine condE (fun k2=>?_) fun k2=>?_
   ·
    have eW:sealW h was now=if diffE was now=0 then deltaW was ((headM ([],0) h).1,keepM (headM ([],0) h).2 (diffE was now)) (goneM was now) (comeM was now) (chgsM was now) else ((headM ([],0) h).1,keepM (headM ([],0) h).2 (diffE was now)):=by unfold sealW; rw [if_neg k1,if_pos k2]
    obtain ⟨G,hp,hG,hno⟩:=X5
    have f05:=f02.then0 g5
    have fin:∀ {e:Int} {r:DRaw} {w6:World},e=diffE was now→(diffE was now=0→DltR (Up w5.heap.size) w6 r (goneM was now) (comeM was now) (chgsM was now))→Fr None w5 w6 →
      newW 80 [.slice none 0 0,.slice none 0 0,.slice none 0 0] (fun x_18=>stoL x_18 [.slice r.1.a r.1.n r.1.c,.slice r.2.1.a r.2.1.n r.2.1.c,.slice r.2.2.a r.2.2.n r.2.2.c] 0 <|
       callW Tryz.prog Z1 [.pointer (some ⟨bw,0,none⟩),.int .i64 e] [] fun (_:Unit) =>
       joinW (σ:=Unit) (fun J_20=>cond (e == 0)
        (ld (.agg [.sl,.sl,.sl]) x_18 fun (x_21:DRaw) =>
        callW Tryz.prog Z2e [.pointer (some ⟨bw,0,none⟩),.slice s1.a s1.n s1.c,.agg ⟨[.slice x_21.1.a x_21.1.n x_21.1.c,.slice x_21.2.1.a x_21.2.1.n x_21.2.1.c,.slice x_21.2.2.a x_21.2.2.n x_21.2.2.c]⟩] [] fun (_:Unit)=>J_20 ())
        (J_20 ())) (fun _=>fun (_:(Sl × Int)→World→Prop) v=>PX w2.heap.size None bw b (sealW h was now) [w.heap.size] v∧Fr None w2 v)) (fun r w=>K r Q w) w6:=by
     intro e r w6 he hD f56
     subst he
     have hz6:=f56.size
     refine newI fun w7 B7 f7 t7=>stoAll B7 rfl rfl fun w8 B8 f8 t8=>?_
     have f68:Fr None w6 w8:=f7.newer f8 fun k e=>by omega
     have f58:=f56.then0 f68
     have nG:∀ k,w5.heap.size≤k→¬ G k:=fun k e e2=>by have:=hp.2.1 k e2; omega
     refine Z78 (hp.fr0 f58) fun w9 hp9 f9 t9=>?_
     have g9:Fr None w2 w9:=(g5.then0 f58).newer f9 fun k e=>(hG k e).elim (fun h=>h.elim) fun h=>h
     have X9:PX w2.heap.size None bw b ((headM ([],0) h).1,keepM (headM ([],0) h).2 (diffE was now)) [w.heap.size] w9:=⟨G,hp9,hG,fun x hx=>⟨(hno x hx).1,by have:=(hno x hx).2; have:=f58.size; omega⟩⟩
     refine joinI (fun (_:Unit) v=>PX w2.heap.size None bw b (sealW h was now) [w.heap.size] v∧Fr None w2 v) ?_ fun _ v h=>h
     refine condE (fun k0=>?_) fun k0=>?_
     ·have D6:=hD k0
      have D8:DltR (fun k=>w5.heap.size≤k∧k < w6.heap.size) w9 r (goneM was now) (comeM was now) (chgsM was now) :=
       DltR.st (DltR.st D6 f68 (F':=fun k=>w5.heap.size≤k∧k < w6.heap.size) fun k hk e=>⟨fun h=>h,e,hk⟩) f9 fun k hk e=>⟨nG k e.1,e⟩
      have B9:=B8.fr f9 (nG _ hz6)
      refine aggI B9 (x:=r) rfl ?_
      have f09:=f02.then0 g9
      have fw:FormOk was:=formOk.1 (by
       unfold diffE at k0
       refine Classical.byContradiction fun hc=>?_
       rw [if_pos hc] at k0
       exact hc k0)
      have hz9:=g9.size
      refine Ziw hp9 (hS10.fr0 f09) (hE10.fr f09 fun _ _ h=>h) fw.rise hm1 hL1 (fun k _ e e2=>dis1 k e (hG k e2)) D8 (fun k _ e=>nG k e.1) (Zq9 hL1 hm1) (Zuq hL2 hm2) (Zun hL2 hm2) fun w10 hp10 f10=>⟨?_,g9.newer f10 fun k e=>(hG k e).elim (fun h=>h.elim) fun h=>h⟩
      rw [eW,if_pos k0]
      have hz10:=f10.size
      refine ⟨_,hp10,fun k e=>?_,fun x hx=>⟨fun e=>?_,?_⟩⟩
      ·rcases e with e | e
       ·exact hG k e
       ·exact .inr (by omega)
      ·rcases e with e | e
       ·exact (hno x hx).1 e
       ·have:=(hno x hx).2; have:=f58.size; omega
      ·have:=(hno x hx).2; have:=f58.size; omega
     ·rw [eW,if_neg k0]
      exact ⟨X9,g9⟩
    refine Zen (hS10.fr0 f05) (hE10.fr f05 fun _ _ h=>h) (hS20.fr0 f05) (hE20.fr f05 fun _ _ h=>h) hm1 hm2 hL1 hL2 (fun hne w6 f6=>?_) fun he r w6 hD f6=>?_
    ·exact fin (r:=(⟨none,0,0⟩,⟨none,0,0⟩,⟨none,0,0⟩)) rfl (fun h=>absurd h hne) f6
    ·exact fin (e:=0) he.symm (fun _=>hD) f6
   ·
    have eW:sealW h was now=if 0 < now.length then ((headM ([],0) h).1,keepM (headM ([],0) h).2 4) else headM ([],0) h:=by unfold sealW; rw [if_neg k1,if_neg k2]
    refine joinI (fun (_:Unit) v=>PX w2.heap.size None bw b (sealW h was now) [w.heap.size] v∧Fr None w2 v) ?_ fun _ v h=>h
    refine condD (fun k3=>?_) fun k3=>?_
    ·refine X5.keep (by omega) fun w7 X7 f7=>⟨?_,fnew g5 f7⟩
     rw [eW,if_pos (by omega)]
     exact X7
    ·rw [eW,if_neg (by omega)]
     exact ⟨X5,g5⟩
 rintro _ w6 ⟨X6,g6⟩
 refine X6.err ?_
 have f06:=f02.then0 g6
 refine condN (fun hne=>?_) fun heq2=>?_
 ·have X6:=X6.fr0 (Fr.refl _ _).drew
  refine X6.err ?_
  have e:sealE h was now=(sealW h was now).2:=by rw [eS,if_pos hne]
  rw [← e]
  exact hbad (by rw [e]; exact hne) _ (f06.then0 (Fr.refl _ _).drew)
 have e1:sealE h was now=if 4096 < (packM (sealW h was now).1).length then 3 else 0:=by rw [eS,if_neg (by omega)]
 refine X6.ptr ?_
 obtain ⟨G,hp,_⟩:=X6
 refine Zlt hp.2.2.2 fun r w7 o7 f7=>?_
 have hlen:(packM (sealW h was now).1).length≤140737488355000:=by
  have:=hp.2.2.2.1
  rw [Zhh]
  omega
 have f07:=f06.then0 f7
 have hz7:=f07.size
 refine Zly o7.sl hlen (fun hl=>?_) fun hl r2 w8 o8 f8=>?_
 ·have e:sealE h was now=3:=by rw [e1,if_pos hl]
  have:=hbad (by rw [e]; decide) w7 f07
  rw [e] at this
  exact this
 ·have e:sealE h was now=0:=by rw [e1,if_neg (by omega)]
  exact hk e r2 w8 (o8.up hz7) (f07.then0 f8)
end Go.Proofs.YtchhhjlpnecjkaaGreat
