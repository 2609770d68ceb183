/-
  What the proof of packetBodies_holds leans on, laid together by a program of this session (wip/pack.py) out of its own texts; the last of these texts holds packetBodies_holds.
-/
import Derived.Test.YtchhhjlpnecjkaaGreatB2
set_option linter.unusedVariables false
set_option linter.unusedVariables false
namespace Go.Proofs.YtchhhjlpnecjkaaGreat
open Go Go.Proofs.YtchhhjlpnecjkaaGreat.Den
def Zh1 (was0:Sl) (id1:Int) (kind2:Int):W ((Int × Int × Int × Int)) :=
 newW 92 [.int .u8 0,.int .i32 0,.int .i32 0,.int .i32 0] fun x_1 =>
 callW Tryz.prog Zmh [.slice was0.a was0.n was0.c,.int .u32 id1] [.sc (.int .i64)] fun (x_2:Int) =>
 cond (decide (x_2 < 0))
  (stoL x_1 [.int .u8 0,.int .i32 0,.int .i32 0,.int .i32 0] 0 <|
  ld (.agg [.int .u8,.int .i32,.int .i32,.int .i32]) x_1 fun (x_3:(Int × Int × Int × Int)) =>
  retW x_3)
  (idxW was0.a was0.n 2 x_2 fun x_4 =>
 ld (.sc .sl) (Addr.add x_4 1) fun (x_5:Sl) =>
 loopW (σ:=Int) (fun K_6 s_7 =>
  cond (decide (s_7 < (x_5.n:Int)))
   (idxW x_5.a x_5.n 4 s_7 fun x_8 =>
  ld (.agg [.int .u8,.int .i32,.int .i32,.int .i32]) x_8 fun (x_9:(Int × Int × Int × Int)) =>
  newW 92 [.int .u8 0,.int .i32 0,.int .i32 0,.int .i32 0] fun c_10 =>
  stoL c_10 [.int .u8 x_9.1,.int .i32 x_9.2.1,.int .i32 x_9.2.2.1,.int .i32 x_9.2.2.2] 0 <|
  ld (.sc (.int .u8)) (Addr.add c_10 0) fun (x_11:Int) =>
  cond (x_11 == kind2)
   (ld (.agg [.int .u8,.int .i32,.int .i32,.int .i32]) c_10 fun (x_12:(Int × Int × Int × Int)) =>
   stoL x_1 [.int .u8 x_12.1,.int .i32 x_12.2.1,.int .i32 x_12.2.2.1,.int .i32 x_12.2.2.2] 0 <|
   ld (.agg [.int .u8,.int .i32,.int .i32,.int .i32]) x_1 fun (x_13:(Int × Int × Int × Int)) =>
   retW x_13)
   (K_6 (IntKind.wrap .i64 (s_7+1))))
   (stoL x_1 [.int .u8 0,.int .i32 0,.int .i32 0,.int .i32 0] 0 <|
 ld (.agg [.int .u8,.int .i32,.int .i32,.int .i32]) x_1 fun (x_14:(Int × Int × Int × Int)) =>
 retW x_14))
  0)
def Zqn:Hints:={ lop:=[(0,[(22,.sc (.int .i64))])] }
theorem Zy9 (was0:Sl) (id1:Int) (kind2:Int):denF Tryz.prog Zqn Tryz.f102 [.agg [.int .u8,.int .i32,.int .i32,.int .i32]] [.slice was0.a was0.n was0.c,.int .u32 id1,.int .u8 kind2]=Zh1 was0 id1 kind2:=by kernel_rfl
theorem Zxx {R:Type} (was0:Sl) (id1:Int) (kind2:Int) (K:Res [.agg [.int .u8,.int .i32,.int .i32,.int .i32]]→W R) (Q:R→World→Prop) (w:World) (h:Zh1 was0 id1 kind2 (fun r w=>K r Q w) w):callW Tryz.prog Zde [.slice was0.a was0.n was0.c,.int .u32 id1,.int .u8 kind2] [.agg [.int .u8,.int .i32,.int .i32,.int .i32]] K Q w :=
 Z0 mix Tryz.func102 Zqn (ts:=[.agg [.int .u8,.int .i32,.int .i32,.int .i32]]) ⟨by kernel_rfl,trivial⟩ (by rw [Tryz.ntmps102]; simp) (by rw [Zy9]; exact h)
def Z9a (n0:Int) (lo1:Int) (hi2:Int):W (Sl × Int) :=
 cond (decide (hi2 < lo1))
  (retW ((⟨none,0,0⟩:Sl),1))
  (joinW (σ:=Bool) (fun J_1 =>
  cond (decide (n0 < lo1))
   (J_1 true)
   (J_1 (decide (n0 > hi2))))
 <| fun s_2 =>
 cond s_2
  (retW ((⟨none,0,0⟩:Sl),5))
  (callW Tryz.prog Z3d [.int .i64 lo1,.int .i64 hi2] [.sc (.int .i64)] fun (x_3:Int) =>
 callW Tryz.prog Zr [.slice none 0 0,.int .u64 (IntKind.wrap .u64 ((IntKind.wrap .u64 n0) - (IntKind.wrap .u64 lo1))),.int .i64 x_3] [.sc .sl,.sc (.int .i64)] fun (x_4:Sl × Int) =>
 retW (x_4.1,0)))
def Zee:Hints:={ reg:=[(3,[(20,.sc .bool)])] }
theorem Zp5 (n0:Int) (lo1:Int) (hi2:Int):denF Tryz.prog Zee Tryz.f103 [.sc .sl,.sc (.int .i64)] [.int .i64 n0,.int .i64 lo1,.int .i64 hi2]=Z9a n0 lo1 hi2:=by kernel_rfl
theorem Zox {R:Type} (n0:Int) (lo1:Int) (hi2:Int) (K:Res [.sc .sl,.sc (.int .i64)]→W R) (Q:R→World→Prop) (w:World) (h:Z9a n0 lo1 hi2 (fun r w=>K r Q w) w):callW Tryz.prog Z2j [.int .i64 n0,.int .i64 lo1,.int .i64 hi2] [.sc .sl,.sc (.int .i64)] K Q w :=
 Z0 mix Tryz.func103 Zee (ts:=[.sc .sl,.sc (.int .i64)]) trivial (by rw [Tryz.ntmps103]; simp) (by rw [Zp5]; exact h)
def Z8c (c0:(Int × Int × Int × Int)):W (Sl × Int) :=
 newW 92 [.int .u8 c0.1,.int .i32 c0.2.1,.int .i32 c0.2.2.1,.int .i32 c0.2.2.2] fun c_1 =>
 ld (.agg [.int .u8,.int .i32,.int .i32,.int .i32]) c_1 fun (x_2:(Int × Int × Int × Int)) =>
 callW Tryz.prog Z11 [.agg ⟨[.int .u8 x_2.1,.int .i32 x_2.2.1,.int .i32 x_2.2.2.1,.int .i32 x_2.2.2.2]⟩] [.sc (.int .i64)] fun (x_3:Int) =>
 cond (x_3 != 0)
  (retW ((⟨none,0,0⟩:Sl),x_3))
  (ld (.sc (.int .u8)) (Addr.add c_1 0) fun (x_4:Int) =>
 callW Tryz.prog Ze [.int .u8 x_4] [.sc (.int .i64)] fun (x_5:Int) =>
 loopW (σ:=Sl × Int) (fun K_6 s_7 =>
  cond (decide (s_7.2 < x_5))
   (ld (.sc (.int .u8)) (Addr.add c_1 0) fun (x_8:Int) =>
  callW Tryz.prog Z12 [.int .u8 x_8,.int .i64 s_7.2] [.sc (.int .i32),.sc (.int .i32),.sc (.int .i64)] fun (x_9:Int × Int × Int) =>
  idxW (some (Addr.add c_1 1)) 3 1 s_7.2 fun x_10 =>
  ld (.sc (.int .i32)) x_10 fun (x_11:Int) =>
  callW Tryz.prog Z2j [.int .i64 (IntKind.wrap .i64 x_11),.int .i64 (IntKind.wrap .i64 x_9.1),.int .i64 (IntKind.wrap .i64 x_9.2.1)] [.sc .sl,.sc (.int .i64)] fun (x_12:Sl × Int) =>
  rawW Tryz.prog (Builtin.append_ #[70,70] 70 #[.slice s_7.1.a s_7.1.n s_7.1.c,.slice x_12.1.a x_12.1.n x_12.1.c]) [.sc .sl] fun (x_13:Sl) =>
  K_6 (x_13,IntKind.wrap .i64 (s_7.2+1)))
   (retW (s_7.1,0)))
  ((⟨none,0,0⟩:Sl),0))
def Zd5:Hints:={ lop:=[(0,[(5,.sc .sl),(20,.sc (.int .i64))])] }
theorem Znk (c0:(Int × Int × Int × Int)):denF Tryz.prog Zd5 Tryz.f104 [.sc .sl,.sc (.int .i64)] [.agg ⟨[.int .u8 c0.1,.int .i32 c0.2.1,.int .i32 c0.2.2.1,.int .i32 c0.2.2.2]⟩]=Z8c c0:=by kernel_rfl
theorem Zn4 {R:Type} (c0:(Int × Int × Int × Int)) (K:Res [.sc .sl,.sc (.int .i64)]→W R) (Q:R→World→Prop) (w:World) (h:Z8c c0 (fun r w=>K r Q w) w):callW Tryz.prog Z8o [.agg ⟨[.int .u8 c0.1,.int .i32 c0.2.1,.int .i32 c0.2.2.1,.int .i32 c0.2.2.2]⟩] [.sc .sl,.sc (.int .i64)] K Q w :=
 Z0 mix Tryz.func104 Zd5 (ts:=[.sc .sl,.sc (.int .i64)]) trivial (by rw [Tryz.ntmps104]; simp) (by rw [Znk]; exact h)
def Zgw (c0:Int):W (Int) :=
 cond ((bAnd .u32 c0 1) != 0)
  (retW (bXor .u32 (shR .u32 c0 1) 3988292384))
  (retW (shR .u32 c0 1))
def Zqi:Hints:={}
theorem Zy4 (c0:Int):denF Tryz.prog Zqi Tryz.f105 [.sc (.int .u32)] [.int .u32 c0]=Zgw c0:=by kernel_rfl
theorem Zxs {R:Type} (c0:Int) (K:Res [.sc (.int .u32)]→W R) (Q:R→World→Prop) (w:World) (h:Zgw c0 (fun r w=>K r Q w) w):callW Tryz.prog Zhc [.int .u32 c0] [.sc (.int .u32)] K Q w :=
 Z0 mix Tryz.func105 Zqi (ts:=[.sc (.int .u32)]) trivial (by rw [Tryz.ntmps105]; simp) (by rw [Zy4]; exact h)
def Z6w (v0:Int) (e1:Int):W ((Int) ⊕ List PanicEntry) :=
 joinW (σ:=Unit) (fun J_1 =>
  cond (e1 != 0)
   (panW (.iface 171 (.agg ⟨[]⟩)))
   (J_1 ()))
 <| fun s_2 =>
 retW (.inl v0)
def Zbs:Hints:={ con:=[(3006,[])] }
theorem Zky (v0:Int) (e1:Int):denFP Tryz.prog Zbs Tryz.f106 [.sc (.int .i64)] [.int .i64 v0,.int .i64 e1]=Z6w v0 e1:=by kernel_rfl
theorem Zk7 {R:Type} [Pan R] (v0:Int) (e1:Int) (K:Res [.sc (.int .i64)]→W R) (Q:R→World→Prop) (w:World) (h:Z6w v0 e1 (kP K Q) w):callP Tryz.prog Z6 [.int .i64 v0,.int .i64 e1] [.sc (.int .i64)] K Q w :=
 Z4g mix Tryz.func106 Zbs (ts:=[.sc (.int .i64)]) (post:=kP K Q) trivial (by rw [Tryz.ntmps106]; simp) (by rw [Zky]; exact h)
def Zgy (r0:Option Addr) (lo1:Int) (hi2:Int):W (Int × Int) :=
 newW 2 [.int .i64 lo1] fun lo_1 =>
 newW 2 [.int .i64 hi2] fun hi_2 =>
 joinW (σ:=Bool) (fun J_3 =>
  ld (.sc (.int .i64)) hi_2 fun (x_4:Int) =>
  ld (.sc (.int .i64)) lo_1 fun (x_5:Int) =>
  cond (decide (x_4 < x_5))
   (J_3 (!Option.isNone r0))
   (J_3 false))
 <| fun s_6 =>
 cond s_6
  (retW (0,1))
  (callW Tryz.prog Zfx [.pointer r0,.func (.func 141) #[] #[.pointer (some lo_1),.pointer (some hi_2)]] [.sc (.int .i64),.sc (.int .i64)] fun (x_7:Int × Int) =>
 retW (x_7.1,x_7.2))
def Zqk:Hints:={ reg:=[(1,[(14,.sc .bool)])] }
theorem Zy6 (r0:Option Addr) (lo1:Int) (hi2:Int):denF Tryz.prog Zqk Tryz.f107 [.sc (.int .i64),.sc (.int .i64)] [.pointer r0,.int .i64 lo1,.int .i64 hi2]=Zgy r0 lo1 hi2:=by kernel_rfl
theorem Zxu {R:Type} (r0:Option Addr) (lo1:Int) (hi2:Int) (K:Res [.sc (.int .i64),.sc (.int .i64)]→W R) (Q:R→World→Prop) (w:World) (h:Zgy r0 lo1 hi2 (fun r w=>K r Q w) w):callW Tryz.prog Z1b [.pointer r0,.int .i64 lo1,.int .i64 hi2] [.sc (.int .i64),.sc (.int .i64)] K Q w :=
 Z0 mix Tryz.func107 Zqk (ts:=[.sc (.int .i64),.sc (.int .i64)]) trivial (by rw [Tryz.ntmps107]; simp) (by rw [Zy6]; exact h)
def Z57 (r0:(Option Addr)):W ((Int) ⊕ List PanicEntry) :=
 newW 62 [.pointer r0] fun r_1 =>
 ld (.sc .ptr) (Addr.add r_1 0) fun (x_2:Option Addr) =>
 callW Tryz.prog Zfm [.pointer x_2] [.sc (.int .u64),.sc (.int .i64)] fun (x_3:Int × Int) =>
 callP Tryz.prog Z3b [.int .u64 x_3.1,.int .i64 x_3.2] [.sc (.int .u64)] fun (x_4:Int) =>
 retW (.inl x_4)
def Za0:Hints:={ mp:=[143] }
theorem Zgi (r0:(Option Addr)):denFP Tryz.prog Za0 Tryz.f108 [.sc (.int .u64)] [.agg ⟨[.pointer r0]⟩]=Z57 r0:=by kernel_rfl
theorem Zg9 {R:Type} [Pan R] (r0:(Option Addr)) (K:Res [.sc (.int .u64)]→W R) (Q:R→World→Prop) (w:World) (h:Z57 r0 (kP K Q) w):callP Tryz.prog Zh [.agg ⟨[.pointer r0]⟩] [.sc (.int .u64)] K Q w :=
 Z4g mix Tryz.func108 Za0 (ts:=[.sc (.int .u64)]) (post:=kP K Q) trivial (by rw [Tryz.ntmps108]; simp) (by rw [Zgi]; exact h)
def Z59 (r0:(Option Addr)) (n1:Int):W ((Int) ⊕ List PanicEntry) :=
 newW 62 [.pointer r0] fun r_1 =>
 ld (.sc .ptr) (Addr.add r_1 0) fun (x_2:Option Addr) =>
 callW Tryz.prog Z1a [.pointer x_2,.int .i64 n1] [.sc (.int .u64),.sc (.int .i64)] fun (x_3:Int × Int) =>
 callP Tryz.prog Z3b [.int .u64 x_3.1,.int .i64 x_3.2] [.sc (.int .u64)] fun (x_4:Int) =>
 retW (.inl x_4)
def Za2:Hints:={ mp:=[143] }
theorem Zgk (r0:(Option Addr)) (n1:Int):denFP Tryz.prog Za2 Tryz.f109 [.sc (.int .u64)] [.agg ⟨[.pointer r0]⟩,.int .i64 n1]=Z59 r0 n1:=by kernel_rfl
theorem Zgb {R:Type} [Pan R] (r0:(Option Addr)) (n1:Int) (K:Res [.sc (.int .u64)]→W R) (Q:R→World→Prop) (w:World) (h:Z59 r0 n1 (kP K Q) w):callP Tryz.prog Zx [.agg ⟨[.pointer r0]⟩,.int .i64 n1] [.sc (.int .u64)] K Q w :=
 Z4g mix Tryz.func109 Za2 (ts:=[.sc (.int .u64)]) (post:=kP K Q) trivial (by rw [Tryz.ntmps109]; simp) (by rw [Zgk]; exact h)
def Z10 (s0:Sl) (f1c0:Option Addr):W (Int) :=
 loopW (σ:=Int) (fun K_1 s_2 =>
  cond (decide (s_2 < (s0.n:Int)))
   (idxW s0.a s0.n 4 s_2 fun x_3 =>
  ld (.agg [.int .u8,.int .i32,.int .i32,.int .i32]) x_3 fun (x_4:(Int × Int × Int × Int)) =>
  callW Tryz.prog Ze1 [.agg ⟨[.int .u8 x_4.1,.int .i32 x_4.2.1,.int .i32 x_4.2.2.1,.int .i32 x_4.2.2.2]⟩,.pointer f1c0] [.sc .bool] fun (x_5:Bool) =>
  cond x_5
   (retW s_2)
   (K_1 (IntKind.wrap .i64 (s_2+1))))
   (retW (-1)))
  0
def Z29:Hints:={ lop:=[(0,[(8,.sc (.int .i64))])] }
theorem Z5w (s0:Sl) (f1c0:Option Addr):denF Tryz.prog Z29 Tryz.f112 [.sc (.int .i64)] [.slice s0.a s0.n s0.c,.func (.func 165) #[] #[.pointer f1c0]]=Z10 s0 f1c0:=by kernel_rfl
theorem Z5v {R:Type} (s0:Sl) (f1c0:Option Addr) (K:Res [.sc (.int .i64)]→W R) (Q:R→World→Prop) (w:World) (h:Z10 s0 f1c0 (fun r w=>K r Q w) w):callW Tryz.prog Z1i [.slice s0.a s0.n s0.c,.func (.func 165) #[] #[.pointer f1c0]] [.sc (.int .i64)] K Q w :=
 Z0 mix Tryz.func112 Z29 (ts:=[.sc (.int .i64)]) trivial (by rw [Tryz.ntmps112]; simp) (by rw [Z5w]; exact h)
def Z17 (s0:Sl):W (Int) :=
 loopW (σ:=Int) (fun K_1 s_2 =>
  cond (decide (s_2 < (s0.n:Int)))
   (idxW s0.a s0.n 4 s_2 fun x_3 =>
  ld (.agg [.int .u8,.int .i32,.int .i32,.int .i32]) x_3 fun (x_4:(Int × Int × Int × Int)) =>
  callW Tryz.prog Zfq [.agg ⟨[.int .u8 x_4.1,.int .i32 x_4.2.1,.int .i32 x_4.2.2.1,.int .i32 x_4.2.2.2]⟩] [.sc .bool] fun (x_5:Bool) =>
  cond x_5
   (retW s_2)
   (K_1 (IntKind.wrap .i64 (s_2+1))))
   (retW (-1)))
  0
def Z2h:Hints:={ lop:=[(0,[(8,.sc (.int .i64))])] }
theorem Z6n (s0:Sl):denF Tryz.prog Z2h Tryz.f112 [.sc (.int .i64)] [.slice s0.a s0.n s0.c,.func (.func 71) #[] #[]]=Z17 s0:=by kernel_rfl
theorem Z6l {R:Type} (s0:Sl) (K:Res [.sc (.int .i64)]→W R) (Q:R→World→Prop) (w:World) (h:Z17 s0 (fun r w=>K r Q w) w):callW Tryz.prog Z1i [.slice s0.a s0.n s0.c,.func (.func 71) #[] #[]] [.sc (.int .i64)] K Q w :=
 Z0 mix Tryz.func112 Z2h (ts:=[.sc (.int .i64)]) trivial (by rw [Tryz.ntmps112]; simp) (by rw [Z6n]; exact h)
def Z83 (r0:(Option Addr)) (last1:Option Addr):W ((Int) ⊕ List PanicEntry) :=
 newW 62 [.pointer r0] fun r_1 =>
 ld (.agg [.ptr]) r_1 fun (x_2:(Option Addr)) =>
 callP Tryz.prog Zh [.agg ⟨[.pointer x_2]⟩] [.sc (.int .u64)] fun (x_3:Int) =>
 joinW (σ:=Unit) (fun J_4 =>
  cond (decide (x_3 ≥ 4294967296))
   (panW (.iface 171 (.agg ⟨[]⟩)))
   (J_4 ()))
 <| fun s_5 =>
 ptrW last1 fun x_6 =>
 ld (.sc (.int .u32)) x_6 fun (x_7:Int) =>
 ptrW last1 fun x_8 =>
 stoL x_8 [.int .u32 (IntKind.wrap .u32 (x_7+(IntKind.wrap .u32 ((IntKind.wrap .u32 x_3)+1))))] 0 <|
 ptrW last1 fun x_9 =>
 ld (.sc (.int .u32)) x_9 fun (x_10:Int) =>
 retW (.inl x_10)
def Zcw:Hints:={ con:=[(4009,[])],mp:=[108] }
theorem Znb (r0:(Option Addr)) (last1:Option Addr):denFP Tryz.prog Zcw Tryz.f114 [.sc (.int .u32)] [.agg ⟨[.pointer r0]⟩,.pointer last1]=Z83 r0 last1:=by kernel_rfl
theorem Zmv {R:Type} [Pan R] (r0:(Option Addr)) (last1:Option Addr) (K:Res [.sc (.int .u32)]→W R) (Q:R→World→Prop) (w:World) (h:Z83 r0 last1 (kP K Q) w):callP Tryz.prog Z35 [.agg ⟨[.pointer r0]⟩,.pointer last1] [.sc (.int .u32)] K Q w :=
 Z4g mix Tryz.func114 Zcw (ts:=[.sc (.int .u32)]) (post:=kP K Q) trivial (by rw [Tryz.ntmps114]; simp) (by rw [Znb]; exact h)
def Z56 (r0:(Option Addr)) (mask1:Int):W ((Sl) ⊕ List PanicEntry) :=
 newW 62 [.pointer r0] fun r_1 =>
 callW Tryz.prog Z9r [.int .u64 mask1] [.sc .sl] fun (x_2:Sl) =>
 loopW (σ:=Sl × Int) (fun K_3 s_4 =>
  cond (decide (s_4.2 < (x_2.n:Int)))
   (idxW x_2.a x_2.n 1 s_4.2 fun x_5 =>
  ld (.sc (.int .u8)) x_5 fun (x_6:Int) =>
  ld (.sc .ptr) (Addr.add r_1 0) fun (x_7:Option Addr) =>
  callW Tryz.prog Zpr [.pointer x_7,.int .u8 x_6] [.agg [.int .u8,.int .i32,.int .i32,.int .i32],.sc (.int .i64)] fun (x_8:(Int × Int × Int × Int) × Int) =>
  callP Tryz.prog Z4x [.agg ⟨[.int .u8 x_8.1.1,.int .i32 x_8.1.2.1,.int .i32 x_8.1.2.2.1,.int .i32 x_8.1.2.2.2]⟩,.int .i64 x_8.2] [.agg [.int .u8,.int .i32,.int .i32,.int .i32]] fun (x_9:(Int × Int × Int × Int)) =>
  newW 92 [.int .u8 x_9.1,.int .i32 x_9.2.1,.int .i32 x_9.2.2.1,.int .i32 x_9.2.2.2] fun x_10 =>
  rawW Tryz.prog (Builtin.append_ #[55,55] 55 #[.slice s_4.1.a s_4.1.n s_4.1.c,.slice (some x_10) 1 1]) [.sc .sl] fun (x_11:Sl) =>
  K_3 (x_11,IntKind.wrap .i64 (s_4.2+1)))
   (retW (.inl s_4.1)))
  ((⟨none,0,0⟩:Sl),0)
def Z9z:Hints:={ lop:=[(0,[(5,.sc .sl),(11,.sc (.int .i64))])],mp:=[126] }
theorem Zgh (r0:(Option Addr)) (mask1:Int):denFP Tryz.prog Z9z Tryz.f115 [.sc .sl] [.agg ⟨[.pointer r0]⟩,.int .u64 mask1]=Z56 r0 mask1:=by kernel_rfl
theorem Zg8 {R:Type} [Pan R] (r0:(Option Addr)) (mask1:Int) (K:Res [.sc .sl]→W R) (Q:R→World→Prop) (w:World) (h:Z56 r0 mask1 (kP K Q) w):callP Tryz.prog Z34 [.agg ⟨[.pointer r0]⟩,.int .u64 mask1] [.sc .sl] K Q w :=
 Z4g mix Tryz.func115 Z9z (ts:=[.sc .sl]) (post:=kP K Q) trivial (by rw [Tryz.ntmps115]; simp) (by rw [Zgh]; exact h)
def Zu (s0:Sl) (f1c0:Option Addr):W (Int) :=
 loopW (σ:=Int) (fun K_1 s_2 =>
  cond (decide (s_2 < (s0.n:Int)))
   (idxW s0.a s0.n 4 s_2 fun x_3 =>
  ld (.agg [.int .u32,.int .u8,.sl,.sl]) x_3 fun (x_4:(Int × Int × Sl × Sl)) =>
  callW Tryz.prog Zha [.agg ⟨[.int .u32 x_4.1,.int .u8 x_4.2.1,.slice x_4.2.2.1.a x_4.2.2.1.n x_4.2.2.1.c,.slice x_4.2.2.2.a x_4.2.2.2.n x_4.2.2.2.c]⟩,.pointer f1c0] [.sc .bool] fun (x_5:Bool) =>
  cond x_5
   (retW s_2)
   (K_1 (IntKind.wrap .i64 (s_2+1))))
   (retW (-1)))
  0
def Z20:Hints:={ lop:=[(0,[(8,.sc (.int .i64))])] }
theorem Z51 (s0:Sl) (f1c0:Option Addr):denF Tryz.prog Z20 Tryz.f117 [.sc (.int .i64)] [.slice s0.a s0.n s0.c,.func (.func 118) #[] #[.pointer f1c0]]=Zu s0 f1c0:=by kernel_rfl
theorem Z50 {R:Type} (s0:Sl) (f1c0:Option Addr) (K:Res [.sc (.int .i64)]→W R) (Q:R→World→Prop) (w:World) (h:Zu s0 f1c0 (fun r w=>K r Q w) w):callW Tryz.prog Z39 [.slice s0.a s0.n s0.c,.func (.func 118) #[] #[.pointer f1c0]] [.sc (.int .i64)] K Q w :=
 Z0 mix Tryz.func117 Z20 (ts:=[.sc (.int .i64)]) trivial (by rw [Tryz.ntmps117]; simp) (by rw [Z51]; exact h)
def Zbm (c0:(Int × Int × Sl × Sl)) (c1:Option Addr):W (Bool) :=
 newW 86 [.int .u32 c0.1,.int .u8 c0.2.1,.slice c0.2.2.1.a c0.2.2.1.n c0.2.2.1.c,.slice c0.2.2.2.a c0.2.2.2.n c0.2.2.2.c] fun c_1 =>
 ld (.sc (.int .u32)) (Addr.add c_1 0) fun (x_2:Int) =>
 ptrW c1 fun x_3 =>
 ld (.sc (.int .u32)) (Addr.add x_3 0) fun (x_4:Int) =>
 retW (x_2 == x_4)
def Zh2:Hints:={}
theorem Zs0 (c0:(Int × Int × Sl × Sl)) (c1:Option Addr):denF Tryz.prog Zh2 Tryz.f118 [.sc .bool] [.agg ⟨[.int .u32 c0.1,.int .u8 c0.2.1,.slice c0.2.2.1.a c0.2.2.1.n c0.2.2.1.c,.slice c0.2.2.2.a c0.2.2.2.n c0.2.2.2.c]⟩,.pointer c1]=Zbm c0 c1:=by kernel_rfl
theorem Zrx {R:Type} (c0:(Int × Int × Sl × Sl)) (c1:Option Addr) (K:Res [.sc .bool]→W R) (Q:R→World→Prop) (w:World) (h:Zbm c0 c1 (fun r w=>K r Q w) w):callW Tryz.prog Zha [.agg ⟨[.int .u32 c0.1,.int .u8 c0.2.1,.slice c0.2.2.1.a c0.2.2.1.n c0.2.2.1.c,.slice c0.2.2.2.a c0.2.2.2.n c0.2.2.2.c]⟩,.pointer c1] [.sc .bool] K Q w :=
 Z0 mix Tryz.func118 Zh2 (ts:=[.sc .bool]) trivial (by rw [Tryz.ntmps118]; simp) (by rw [Zs0]; exact h)
def Zlv (e0:(Int × Sl)) (c1:(Int × Int × Sl × Sl)):W ((Int × Sl)) :=
 newW 57 [.int .u32 e0.1,.slice e0.2.a e0.2.n e0.2.c] fun e_1 =>
 newW 86 [.int .u32 c1.1,.int .u8 c1.2.1,.slice c1.2.2.1.a c1.2.2.1.n c1.2.2.1.c,.slice c1.2.2.2.a c1.2.2.2.n c1.2.2.2.c] fun c_2 =>
 newW 57 [.int .u32 0,.slice none 0 0] fun x_3 =>
 ld (.sc .sl) (Addr.add e_1 1) fun (x_4:Sl) =>
 loopW (σ:=Sl × Int) (fun K_5 s_6 =>
  cond (decide (s_6.2 < (x_4.n:Int)))
   (joinW (σ:=Sl) (fun J_7 =>
   idxW x_4.a x_4.n 4 s_6.2 fun x_8 =>
   ld (.agg [.int .u8,.int .i32,.int .i32,.int .i32]) x_8 fun (x_9:(Int × Int × Int × Int)) =>
   newW 92 [.int .u8 0,.int .i32 0,.int .i32 0,.int .i32 0] fun x_10 =>
   stoL x_10 [.int .u8 x_9.1,.int .i32 x_9.2.1,.int .i32 x_9.2.2.1,.int .i32 x_9.2.2.2] 0 <|
   joinW (σ:=Bool) (fun J_11 =>
    ld (.sc (.int .u8)) (Addr.add x_10 0) fun (x_12:Int) =>
    cond (decide (x_12 < 6))
     (ld (.sc (.int .u8)) (Addr.add c_2 1) fun (x_13:Int) =>
      ld (.sc (.int .u8)) (Addr.add x_10 0) fun (x_14:Int) =>
        chkW (0≤x_14) <|
         J_11 ((bAnd .u8 (shR .u8 x_13 x_14) 1) == 1))
     (J_11 false))
   <| fun s_15 =>
   cond s_15
    (J_7 s_6.1)
    (ld (.sc .sl) (Addr.add c_2 3) fun (x_16:Sl) =>
   ld (.sc (.int .u8)) (Addr.add x_10 0) fun (x_17:Int) =>
   callW Tryz.prog Zfk [.slice x_16.a x_16.n x_16.c,.int .u8 x_17] [.agg [.int .u8,.int .i32,.int .i32,.int .i32],.sc .bool] fun (x_18:(Int × Int × Int × Int) × Bool) =>
   newW 92 [.int .u8 0,.int .i32 0,.int .i32 0,.int .i32 0] fun y_19 =>
   stoL y_19 [.int .u8 x_18.1.1,.int .i32 x_18.1.2.1,.int .i32 x_18.1.2.2.1,.int .i32 x_18.1.2.2.2] 0 <|
   joinW (σ:=Unit) (fun J_20 =>
    cond x_18.2
     (ld (.agg [.int .u8,.int .i32,.int .i32,.int .i32]) y_19 fun (x_21:(Int × Int × Int × Int)) =>
     stoL x_10 [.int .u8 x_21.1,.int .i32 x_21.2.1,.int .i32 x_21.2.2.1,.int .i32 x_21.2.2.2] 0 <|
     J_20 ())
     (J_20 ()))
   <| fun s_22 =>
   ld (.agg [.int .u8,.int .i32,.int .i32,.int .i32]) x_10 fun (x_23:(Int × Int × Int × Int)) =>
   newW 92 [.int .u8 x_23.1,.int .i32 x_23.2.1,.int .i32 x_23.2.2.1,.int .i32 x_23.2.2.2] fun x_24 =>
   rawW Tryz.prog (Builtin.append_ #[55,55] 55 #[.slice s_6.1.a s_6.1.n s_6.1.c,.slice (some x_24) 1 1]) [.sc .sl] fun (x_25:Sl) =>
   J_7 x_25))
  <| fun s_26 =>
  K_5 (s_26,IntKind.wrap .i64 (s_6.2+1)))
   (ld (.sc .sl) (Addr.add c_2 2) fun (x_27:Sl) =>
 rawW Tryz.prog (Builtin.append_ #[55,55] 55 #[.slice s_6.1.a s_6.1.n s_6.1.c,.slice x_27.a x_27.n x_27.c]) [.sc .sl] fun (x_28:Sl) =>
 callW Tryz.prog Z2f [.slice x_28.a x_28.n x_28.c,.func (.func 150) #[] #[]] [] fun (x_29:Unit) =>
 ld (.sc (.int .u32)) (Addr.add e_1 0) fun (x_30:Int) =>
 stoL x_3 [.int .u32 x_30,.slice x_28.a x_28.n x_28.c] 0 <|
 ld (.agg [.int .u32,.sl]) x_3 fun (x_31:(Int × Sl)) =>
 retW x_31))
  ((⟨none,0,0⟩:Sl),0)
def Zsc:Hints:={ reg:=[(5,[(28,.sc .bool)])],con:=[(9037,[])],blk:=[(1,[(5,.sc .sl)])],lop:=[(0,[(5,.sc .sl),(13,.sc (.int .i64))])] }
theorem Z10c (e0:(Int × Sl)) (c1:(Int × Int × Sl × Sl)):denF Tryz.prog Zsc Tryz.f119 [.agg [.int .u32,.sl]] [.agg ⟨[.int .u32 e0.1,.slice e0.2.a e0.2.n e0.2.c]⟩,.agg ⟨[.int .u32 c1.1,.int .u8 c1.2.1,.slice c1.2.2.1.a c1.2.2.1.n c1.2.2.1.c,.slice c1.2.2.2.a c1.2.2.2.n c1.2.2.2.c]⟩]=Zlv e0 c1:=by kernel_rfl
theorem Zzv {R:Type} (e0:(Int × Sl)) (c1:(Int × Int × Sl × Sl)) (K:Res [.agg [.int .u32,.sl]]→W R) (Q:R→World→Prop) (w:World) (h:Zlv e0 c1 (fun r w=>K r Q w) w):callW Tryz.prog Zmd [.agg ⟨[.int .u32 e0.1,.slice e0.2.a e0.2.n e0.2.c]⟩,.agg ⟨[.int .u32 c1.1,.int .u8 c1.2.1,.slice c1.2.2.1.a c1.2.2.1.n c1.2.2.1.c,.slice c1.2.2.2.a c1.2.2.2.n c1.2.2.2.c]⟩] [.agg [.int .u32,.sl]] K Q w :=
 Z0 mix Tryz.func119 Zsc (ts:=[.agg [.int .u32,.sl]]) ⟨by kernel_rfl,trivial⟩ (by rw [Tryz.ntmps119]; simp) (by rw [Z10c]; exact h)
def Zm (x0:Sl):W (Unit) :=
 callW Tryz.prog Z2z [.slice x0.a x0.n x0.c,.int .i64 (x0.n:Int),.func (.func 121) #[] #[]] [] fun (x_1:Unit) =>
 retW ()
def Z1r:Hints:={}
theorem Z4d (x0:Sl):denF Tryz.prog Z1r Tryz.f120 [] [.slice x0.a x0.n x0.c,.func (.func 121) #[] #[]]=Zm x0:=by kernel_rfl
theorem Z4b {R:Type} (x0:Sl) (K:Res []→W R) (Q:R→World→Prop) (w:World) (h:Zm x0 (fun r w=>K r Q w) w):callW Tryz.prog Z2t [.slice x0.a x0.n x0.c,.func (.func 121) #[] #[]] [] K Q w :=
 Z0 mix Tryz.func120 Z1r (ts:=[]) trivial (by rw [Tryz.ntmps120]; simp) (by rw [Z4d]; exact h)
def Zbn (a0:(Int × Sl)) (b1:(Int × Sl)):W (Int) :=
 newW 57 [.int .u32 a0.1,.slice a0.2.a a0.2.n a0.2.c] fun a_1 =>
 newW 57 [.int .u32 b1.1,.slice b1.2.a b1.2.n b1.2.c] fun b_2 =>
 ld (.sc (.int .u32)) (Addr.add a_1 0) fun (x_3:Int) =>
 ld (.sc (.int .u32)) (Addr.add b_2 0) fun (x_4:Int) =>
 callW Tryz.prog Z6s [.int .u32 x_3,.int .u32 x_4] [.sc (.int .i64)] fun (x_5:Int) =>
 retW x_5
def Zh3:Hints:={}
theorem Zs1 (a0:(Int × Sl)) (b1:(Int × Sl)):denF Tryz.prog Zh3 Tryz.f121 [.sc (.int .i64)] [.agg ⟨[.int .u32 a0.1,.slice a0.2.a a0.2.n a0.2.c]⟩,.agg ⟨[.int .u32 b1.1,.slice b1.2.a b1.2.n b1.2.c]⟩]=Zbn a0 b1:=by kernel_rfl
theorem Zry {R:Type} (a0:(Int × Sl)) (b1:(Int × Sl)) (K:Res [.sc (.int .i64)]→W R) (Q:R→World→Prop) (w:World) (h:Zbn a0 b1 (fun r w=>K r Q w) w):callW Tryz.prog Z24 [.agg ⟨[.int .u32 a0.1,.slice a0.2.a a0.2.n a0.2.c]⟩,.agg ⟨[.int .u32 b1.1,.slice b1.2.a b1.2.n b1.2.c]⟩] [.sc (.int .i64)] K Q w :=
 Z0 mix Tryz.func121 Zh3 (ts:=[.sc (.int .i64)]) trivial (by rw [Tryz.ntmps121]; simp) (by rw [Zs1]; exact h)
def Zlu (a0:(Sl × Sl × Sl)) (b1:(Sl × Sl × Sl)):W (Bool) :=
 newW 80 [.slice a0.1.a a0.1.n a0.1.c,.slice a0.2.1.a a0.2.1.n a0.2.1.c,.slice a0.2.2.a a0.2.2.n a0.2.2.c] fun a_1 =>
 newW 80 [.slice b1.1.a b1.1.n b1.1.c,.slice b1.2.1.a b1.2.1.n b1.2.1.c,.slice b1.2.2.a b1.2.2.n b1.2.2.c] fun b_2 =>
 joinW (σ:=Bool) (fun J_3 =>
  ld (.sc .sl) (Addr.add a_1 0) fun (x_4:Sl) =>
  ld (.sc .sl) (Addr.add b_2 0) fun (x_5:Sl) =>
  callW Tryz.prog Z9h [.slice x_4.a x_4.n x_4.c,.slice x_5.a x_5.n x_5.c] [.sc .bool] fun (x_6:Bool) =>
  cond x_6
   (ld (.sc .sl) (Addr.add a_1 1) fun (x_7:Sl) =>
    ld (.sc .sl) (Addr.add b_2 1) fun (x_8:Sl) =>
      callW Tryz.prog Zmi [.slice x_7.a x_7.n x_7.c,.slice x_8.a x_8.n x_8.c] [.sc .bool] fun (x_9:Bool) =>
       cond x_9
        (ld (.sc .sl) (Addr.add a_1 2) fun (x_10:Sl) =>
         ld (.sc .sl) (Addr.add b_2 2) fun (x_11:Sl) =>
           callW Tryz.prog Z6p [.slice x_10.a x_10.n x_10.c,.slice x_11.a x_11.n x_11.c,.func (.func 157) #[] #[]] [.sc .bool] fun (x_12:Bool) =>
            J_3 x_12)
        (J_3 false))
   (J_3 false))
 <| fun s_13 =>
 retW s_13
def Zsb:Hints:={ reg:=[(1,[(4,.sc .bool)])] }
theorem Z10b (a0:(Sl × Sl × Sl)) (b1:(Sl × Sl × Sl)):denF Tryz.prog Zsb Tryz.f123 [.sc .bool] [.agg ⟨[.slice a0.1.a a0.1.n a0.1.c,.slice a0.2.1.a a0.2.1.n a0.2.1.c,.slice a0.2.2.a a0.2.2.n a0.2.2.c]⟩,.agg ⟨[.slice b1.1.a b1.1.n b1.1.c,.slice b1.2.1.a b1.2.1.n b1.2.1.c,.slice b1.2.2.a b1.2.2.n b1.2.2.c]⟩]=Zlu a0 b1:=by kernel_rfl
theorem Zzu {R:Type} (a0:(Sl × Sl × Sl)) (b1:(Sl × Sl × Sl)) (K:Res [.sc .bool]→W R) (Q:R→World→Prop) (w:World) (h:Zlu a0 b1 (fun r w=>K r Q w) w):callW Tryz.prog Zmc [.agg ⟨[.slice a0.1.a a0.1.n a0.1.c,.slice a0.2.1.a a0.2.1.n a0.2.1.c,.slice a0.2.2.a a0.2.2.n a0.2.2.c]⟩,.agg ⟨[.slice b1.1.a b1.1.n b1.1.c,.slice b1.2.1.a b1.2.1.n b1.2.1.c,.slice b1.2.2.a b1.2.2.n b1.2.2.c]⟩] [.sc .bool] K Q w :=
 Z0 mix Tryz.func123 Zsb (ts:=[.sc .bool]) trivial (by rw [Tryz.ntmps123]; simp) (by rw [Z10b]; exact h)
def Zm0 (l0:Sl):W (Sl) :=
 callW Tryz.prog Z8r [.slice l0.a l0.n l0.c] [.sc .sl] fun (x_1:Sl) =>
 loopW (σ:=Int) (fun K_2 s_3 =>
  cond (decide (s_3 < (x_1.n:Int)))
   (idxW x_1.a x_1.n 2 s_3 fun x_4 =>
  ld (.agg [.int .u32,.sl]) x_4 fun (x_5:(Int × Sl)) =>
  newW 57 [.int .u32 0,.slice none 0 0] fun e_6 =>
  stoL e_6 [.int .u32 x_5.1,.slice x_5.2.a x_5.2.n x_5.2.c] 0 <|
  ld (.sc .sl) (Addr.add e_6 1) fun (x_7:Sl) =>
  callW Tryz.prog Z45 [.slice x_7.a x_7.n x_7.c] [.sc .sl] fun (x_8:Sl) =>
  idxW x_1.a x_1.n 2 s_3 fun x_9 =>
  stoL (Addr.add x_9 1) [.slice x_8.a x_8.n x_8.c] 0 <|
  K_2 (IntKind.wrap .i64 (s_3+1)))
   (retW x_1))
  0
def Zsh:Hints:={ lop:=[(0,[(10,.sc (.int .i64))])] }
theorem Z10h (l0:Sl):denF Tryz.prog Zsh Tryz.f124 [.sc .sl] [.slice l0.a l0.n l0.c]=Zm0 l0:=by kernel_rfl
theorem Z100 {R:Type} (l0:Sl) (K:Res [.sc .sl]→W R) (Q:R→World→Prop) (w:World) (h:Zm0 l0 (fun r w=>K r Q w) w):callW Tryz.prog Zmg [.slice l0.a l0.n l0.c] [.sc .sl] K Q w :=
 Z0 mix Tryz.func124 Zsh (ts:=[.sc .sl]) trivial (by rw [Tryz.ntmps124]; simp) (by rw [Z10h]; exact h)
def Zds (mask0:Int):W (Sl) :=
 loopW (σ:=Sl × Int) (fun K_1 s_2 =>
  cond (decide (s_2.2 < 5))
   (chkW (0≤s_2.2) <|
  joinW (σ:=Sl) (fun J_3 =>
   cond ((bAnd .u64 (shR .u64 mask0 s_2.2) 1) == 1)
    (newW 5 [.int .u8 s_2.2] fun x_4 =>
    rawW Tryz.prog (Builtin.append_ #[22,22] 22 #[.slice s_2.1.a s_2.1.n s_2.1.c,.slice (some x_4) 1 1]) [.sc .sl] fun (x_5:Sl) =>
    J_3 x_5)
    (J_3 s_2.1))
  <| fun s_6 =>
  K_1 (s_6,IntKind.wrap .u8 (s_2.2+1)))
   (retW s_2.1))
  ((⟨none,0,0⟩:Sl),0)
def Zjp:Hints:={ con:=[(7012,[(3,.sc .sl)])],lop:=[(0,[(3,.sc .sl),(5,.sc (.int .u8))])] }
theorem Zu7 (mask0:Int):denF Tryz.prog Zjp Tryz.f125 [.sc .sl] [.int .u64 mask0]=Zds mask0:=by kernel_rfl
theorem Ztt {R:Type} (mask0:Int) (K:Res [.sc .sl]→W R) (Q:R→World→Prop) (w:World) (h:Zds mask0 (fun r w=>K r Q w) w):callW Tryz.prog Z9r [.int .u64 mask0] [.sc .sl] K Q w :=
 Z0 mix Tryz.func125 Zjp (ts:=[.sc .sl]) trivial (by rw [Tryz.ntmps125]; simp) (by rw [Zu7]; exact h)
def Z82 (v0:(Int × Int × Int × Int)) (e1:Int):W (((Int × Int × Int × Int)) ⊕ List PanicEntry) :=
 newW 92 [.int .u8 v0.1,.int .i32 v0.2.1,.int .i32 v0.2.2.1,.int .i32 v0.2.2.2] fun v_1 =>
 newW 92 [.int .u8 0,.int .i32 0,.int .i32 0,.int .i32 0] fun x_2 =>
 joinW (σ:=Unit) (fun J_3 =>
  cond (e1 != 0)
   (panW (.iface 171 (.agg ⟨[]⟩)))
   (J_3 ()))
 <| fun s_4 =>
 ld (.agg [.int .u8,.int .i32,.int .i32,.int .i32]) v_1 fun (x_5:(Int × Int × Int × Int)) =>
 stoL x_2 [.int .u8 x_5.1,.int .i32 x_5.2.1,.int .i32 x_5.2.2.1,.int .i32 x_5.2.2.2] 0 <|
 ld (.agg [.int .u8,.int .i32,.int .i32,.int .i32]) x_2 fun (x_6:(Int × Int × Int × Int)) =>
 retW (.inl x_6)
def Zcv:Hints:={ con:=[(3006,[])] }
theorem Zna (v0:(Int × Int × Int × Int)) (e1:Int):denFP Tryz.prog Zcv Tryz.f126 [.agg [.int .u8,.int .i32,.int .i32,.int .i32]] [.agg ⟨[.int .u8 v0.1,.int .i32 v0.2.1,.int .i32 v0.2.2.1,.int .i32 v0.2.2.2]⟩,.int .i64 e1]=Z82 v0 e1:=by kernel_rfl
theorem Zmu {R:Type} [Pan R] (v0:(Int × Int × Int × Int)) (e1:Int) (K:Res [.agg [.int .u8,.int .i32,.int .i32,.int .i32]]→W R) (Q:R→World→Prop) (w:World) (h:Z82 v0 e1 (kP K Q) w):callP Tryz.prog Z4x [.agg ⟨[.int .u8 v0.1,.int .i32 v0.2.1,.int .i32 v0.2.2.1,.int .i32 v0.2.2.2]⟩,.int .i64 e1] [.agg [.int .u8,.int .i32,.int .i32,.int .i32]] K Q w :=
 Z4g mix Tryz.func126 Zcv (ts:=[.agg [.int .u8,.int .i32,.int .i32,.int .i32]]) (post:=kP K Q) ⟨by kernel_rfl,trivial⟩ (by rw [Tryz.ntmps126]; simp) (by rw [Zna]; exact h)
def Zdl (r0:Option Addr) (was1:(Int × Int × Int × Int)):W ((Int × Int × Int × Int) × Int) :=
 newW 60 [.pointer r0] fun r_1 =>
 newW 92 [.int .u8 was1.1,.int .i32 was1.2.1,.int .i32 was1.2.2.1,.int .i32 was1.2.2.2] fun was_2 =>
 newW 92 [.int .u8 0,.int .i32 0,.int .i32 0,.int .i32 0] fun x_3 =>
 ld (.sc .ptr) r_1 fun (x_4:Option Addr) =>
 cond (Option.isNone x_4)
  (stoL x_3 [.int .u8 0,.int .i32 0,.int .i32 0,.int .i32 0] 0 <|
  ld (.agg [.int .u8,.int .i32,.int .i32,.int .i32]) x_3 fun (x_5:(Int × Int × Int × Int)) =>
  retW (x_5,10))
  (ld (.agg [.int .u8,.int .i32,.int .i32,.int .i32]) was_2 fun (x_6:(Int × Int × Int × Int)) =>
 callW Tryz.prog Z37 [.agg ⟨[.int .u8 x_6.1,.int .i32 x_6.2.1,.int .i32 x_6.2.2.1,.int .i32 x_6.2.2.2]⟩] [.sc (.int .i64)] fun (x_7:Int) =>
 cond (x_7 != 0)
  (stoL x_3 [.int .u8 0,.int .i32 0,.int .i32 0,.int .i32 0] 0 <|
  ld (.agg [.int .u8,.int .i32,.int .i32,.int .i32]) x_3 fun (x_8:(Int × Int × Int × Int)) =>
  retW (x_8,x_7))
  (ld (.sc .ptr) r_1 fun (x_9:Option Addr) =>
 ld (.agg [.int .u8,.int .i32,.int .i32,.int .i32]) was_2 fun (x_10:(Int × Int × Int × Int)) =>
 callW Tryz.prog Zfi [.pointer x_9,.agg ⟨[.int .u8 x_10.1,.int .i32 x_10.2.1,.int .i32 x_10.2.2.1,.int .i32 x_10.2.2.2]⟩,.func (.func 161) #[] #[.pointer (some r_1),.pointer (some was_2)]] [.agg [.int .u8,.int .i32,.int .i32,.int .i32],.sc (.int .i64)] fun (x_11:(Int × Int × Int × Int) × Int) =>
 stoL x_3 [.int .u8 x_11.1.1,.int .i32 x_11.1.2.1,.int .i32 x_11.1.2.2.1,.int .i32 x_11.1.2.2.2] 0 <|
 ld (.agg [.int .u8,.int .i32,.int .i32,.int .i32]) x_3 fun (x_12:(Int × Int × Int × Int)) =>
 retW (x_12,x_11.2)))
def Zji:Hints:={}
theorem Zu0 (r0:Option Addr) (was1:(Int × Int × Int × Int)):denF Tryz.prog Zji Tryz.f127 [.agg [.int .u8,.int .i32,.int .i32,.int .i32],.sc (.int .i64)] [.pointer r0,.agg ⟨[.int .u8 was1.1,.int .i32 was1.2.1,.int .i32 was1.2.2.1,.int .i32 was1.2.2.2]⟩]=Zdl r0 was1:=by kernel_rfl
theorem Ztm {R:Type} (r0:Option Addr) (was1:(Int × Int × Int × Int)) (K:Res [.agg [.int .u8,.int .i32,.int .i32,.int .i32],.sc (.int .i64)]→W R) (Q:R→World→Prop) (w:World) (h:Zdl r0 was1 (fun r w=>K r Q w) w):callW Tryz.prog Zdz [.pointer r0,.agg ⟨[.int .u8 was1.1,.int .i32 was1.2.1,.int .i32 was1.2.2.1,.int .i32 was1.2.2.2]⟩] [.agg [.int .u8,.int .i32,.int .i32,.int .i32],.sc (.int .i64)] K Q w :=
 Z0 mix Tryz.func127 Zji (ts:=[.agg [.int .u8,.int .i32,.int .i32,.int .i32],.sc (.int .i64)]) ⟨by kernel_rfl,trivial⟩ (by rw [Tryz.ntmps127]; simp) (by rw [Zu0]; exact h)
def Z66 (lo0:Int) (hi1:Int):W (Int) :=
 joinW (σ:=Int) (fun J_1 =>
  cond (decide (hi1 ≥ lo0))
   (loopW (σ:=Int × Int) (fun K_2 s_3 =>
    cond (decide (s_3.2 > 0))
     (K_2 (IntKind.wrap .i64 (s_3.1+1),IntKind.wrap .u64 (Int.tdiv s_3.2 2)))
     (J_1 s_3.1))
    (0,IntKind.wrap .u64 ((IntKind.wrap .u64 hi1) - (IntKind.wrap .u64 lo0))))
   (J_1 0))
 <| fun s_4 =>
 retW s_4
def Zas:Hints:={ con:=[(4009,[(5,.sc (.int .i64))])],lop:=[(0,[(5,.sc (.int .i64)),(6,.sc (.int .u64))])] }
theorem Zj6 (lo0:Int) (hi1:Int):denF Tryz.prog Zas Tryz.f128 [.sc (.int .i64)] [.int .i64 lo0,.int .i64 hi1]=Z66 lo0 hi1:=by kernel_rfl
theorem Zip {R:Type} (lo0:Int) (hi1:Int) (K:Res [.sc (.int .i64)]→W R) (Q:R→World→Prop) (w:World) (h:Z66 lo0 hi1 (fun r w=>K r Q w) w):callW Tryz.prog Z3d [.int .i64 lo0,.int .i64 hi1] [.sc (.int .i64)] K Q w :=
 Z0 mix Tryz.func128 Zas (ts:=[.sc (.int .i64)]) trivial (by rw [Tryz.ntmps128]; simp) (by rw [Zj6]; exact h)
def Z98 (d0:Option Addr) (o1:Int) (p2:Int):W (Int) :=
 cond (Option.isNone d0)
  (retW 10)
  (joinW (σ:=Bool) (fun J_1 =>
   cond (decide (p2 < 0))
    (J_1 true)
    (J_1 (decide (p2 > 64))))
  <| fun s_2 =>
  cond s_2
   (retW 1)
   (joinW (σ:=Bool) (fun J_3 =>
    cond (decide (p2 < 64))
     (chkW (0≤p2) <|
       J_3 ((shR .u64 o1 p2) != 0))
     (J_3 false))
   <| fun s_4 =>
   cond s_4
    (retW 5)
    (ptrW d0 fun x_5 =>
    ld (.sc (.int .i64)) (Addr.add x_5 1) fun (x_6:Int) =>
    cond (decide ((IntKind.wrap .i64 (x_6+p2)) > 1048576))
     (retW 3)
     (loopW (σ:=Int) (fun K_7 s_8 =>
  cond (decide (s_8 < p2))
   (ptrW d0 fun x_9 =>
  ld (.sc (.int .i64)) (Addr.add x_9 1) fun (x_10:Int) =>
  joinW (σ:=Unit) (fun J_11 =>
   cond ((Int.tmod x_10 8) == 0)
    (ptrW d0 fun x_12 =>
    ld (.sc .sl) (Addr.add x_12 0) fun (x_13:Sl) =>
    newW 5 [.int .u8 0] fun x_14 =>
    rawW Tryz.prog (Builtin.append_ #[22,22] 22 #[.slice x_13.a x_13.n x_13.c,.slice (some x_14) 1 1]) [.sc .sl] fun (x_15:Sl) =>
    ptrW d0 fun x_16 =>
    stoL (Addr.add x_16 0) [.slice x_15.a x_15.n x_15.c] 0 <|
    J_11 ())
    (J_11 ()))
  <| fun s_17 =>
  drawW <|
  ptrW d0 fun x_18 =>
  ld (.sc .sl) (Addr.add x_18 0) fun (x_19:Sl) =>
  ptrW d0 fun x_20 =>
  ld (.sc (.int .i64)) (Addr.add x_20 1) fun (x_21:Int) =>
  idxW x_19.a x_19.n 1 (IntKind.wrap .i64 (Int.tdiv x_21 8)) fun x_22 =>
  ld (.sc (.int .u8)) x_22 fun (x_23:Int) =>
  chkW (0≤s_8) <|
  ptrW d0 fun x_24 =>
  ld (.sc (.int .i64)) (Addr.add x_24 1) fun (x_25:Int) =>
  chkW (0≤(Int.tmod x_25 8)) <|
  idxW x_19.a x_19.n 1 (IntKind.wrap .i64 (Int.tdiv x_21 8)) fun x_26 =>
  stoL x_26 [.int .u8 (bOr .u8 x_23 (shL .u8 (IntKind.wrap .u8 (bAnd .u64 (shR .u64 o1 s_8) 1)) (Int.tmod x_25 8)))] 0 <|
  ptrW d0 fun x_27 =>
  ld (.sc (.int .i64)) (Addr.add x_27 1) fun (x_28:Int) =>
  ptrW d0 fun x_29 =>
  stoL (Addr.add x_29 1) [.int .i64 (IntKind.wrap .i64 (x_28+1))] 0 <|
  K_7 (IntKind.wrap .i64 (s_8+1)))
   (retW 0))
  0))))
def Zec:Hints:={ reg:=[(3,[(11,.sc .bool)]),(5,[(18,.sc .bool)])],con:=[(14044,[])],lop:=[(1,[(36,.sc (.int .i64))])],dr:=[(14,([],[[(0,[]),(1,[]),(2,[]),(3,[]),(4,[]),(5,[]),(6,[]),(7,[]),(8,[]),(9,[]),(10,[]),(11,[]),(12,[]),(13,[]),(14,[]),(15,[]),(16,[]),(17,[]),(18,[]),(19,[]),(20,[]),(21,[]),(22,[]),(23,[]),(24,[])]]))] }
theorem Zp3 (d0:Option Addr) (o1:Int) (p2:Int):denF Tryz.prog Zec Tryz.f130 [.sc (.int .i64)] [.pointer d0,.int .u64 o1,.int .i64 p2]=Z98 d0 o1 p2:=by kernel_rfl
theorem Zov {R:Type} (d0:Option Addr) (o1:Int) (p2:Int) (K:Res [.sc (.int .i64)]→W R) (Q:R→World→Prop) (w:World) (h:Z98 d0 o1 p2 (fun r w=>K r Q w) w):callW Tryz.prog Z2i [.pointer d0,.int .u64 o1,.int .i64 p2] [.sc (.int .i64)] K Q w :=
 Z0 mix Tryz.func130 Zec (ts:=[.sc (.int .i64)]) trivial (by rw [Tryz.ntmps130]; simp) (by rw [Zp3]; exact h)
def Zh0 (lo0:Int) (hi1:Int):W (Int) :=
 cond (decide (hi1 < lo0))
  (retW 0)
  (callW Tryz.prog Z9f [.int .u64 (IntKind.wrap .u64 ((IntKind.wrap .u64 hi1) - (IntKind.wrap .u64 lo0)))] [.sc (.int .i64)] fun (x_1:Int) =>
 retW x_1)
def Zqm:Hints:={}
theorem Zy8 (lo0:Int) (hi1:Int):denF Tryz.prog Zqm Tryz.f131 [.sc (.int .i64)] [.int .i64 lo0,.int .i64 hi1]=Zh0 lo0 hi1:=by kernel_rfl
theorem Zxw {R:Type} (lo0:Int) (hi1:Int) (K:Res [.sc (.int .i64)]→W R) (Q:R→World→Prop) (w:World) (h:Zh0 lo0 hi1 (fun r w=>K r Q w) w):callW Tryz.prog Zaa [.int .i64 lo0,.int .i64 hi1] [.sc (.int .i64)] K Q w :=
 Z0 mix Tryz.func131 Zqm (ts:=[.sc (.int .i64)]) trivial (by rw [Tryz.ntmps131]; simp) (by rw [Zy8]; exact h)
def Zf4 (v0:Int):W (Int) :=
 callW Tryz.prog Z9f [.int .u64 v0] [.sc (.int .i64)] fun (x_1:Int) =>
 retW (if (IntKind.wrap .i64 (Int.tdiv (IntKind.wrap .i64 ((IntKind.wrap .i64 (x_1+4)) - 1)) 4)) > 1 then (IntKind.wrap .i64 (Int.tdiv (IntKind.wrap .i64 ((IntKind.wrap .i64 (x_1+4)) - 1)) 4)) else 1)
def Znu:Hints:={}
theorem Zw5 (v0:Int):denF Tryz.prog Znu Tryz.f132 [.sc (.int .i64)] [.int .u64 v0]=Zf4 v0:=by kernel_rfl
theorem Zvr {R:Type} (v0:Int) (K:Res [.sc (.int .i64)]→W R) (Q:R→World→Prop) (w:World) (h:Zf4 v0 (fun r w=>K r Q w) w):callW Tryz.prog Zb7 [.int .u64 v0] [.sc (.int .i64)] K Q w :=
 Z0 mix Tryz.func132 Znu (ts:=[.sc (.int .i64)]) trivial (by rw [Tryz.ntmps132]; simp) (by rw [Zw5]; exact h)
def Z97 (w0:Option Addr):W (Int) :=
 cond (Option.isNone w0)
  (retW 0)
  (ptrW w0 fun x_1 =>
 ld (.sc (.int .i64)) (Addr.add x_1 1) fun (x_2:Int) =>
 retW x_2)
def Zeb:Hints:={}
theorem Zp2 (w0:Option Addr):denF Tryz.prog Zeb Tryz.f133 [.sc (.int .i64)] [.pointer w0]=Z97 w0:=by kernel_rfl
theorem Zou {R:Type} (w0:Option Addr) (K:Res [.sc (.int .i64)]→W R) (Q:R→World→Prop) (w:World) (h:Z97 w0 (fun r w=>K r Q w) w):callW Tryz.prog Z5o [.pointer w0] [.sc (.int .i64)] K Q w :=
 Z0 mix Tryz.func133 Zeb (ts:=[.sc (.int .i64)]) trivial (by rw [Tryz.ntmps133]; simp) (by rw [Zp2]; exact h)
def Zpb (w0:Option Addr) (c1:(Int × Int × Int × Int)):W (Int) :=
 newW 92 [.int .u8 c1.1,.int .i32 c1.2.1,.int .i32 c1.2.2.1,.int .i32 c1.2.2.2] fun c_1 =>
 cond (Option.isNone w0)
  (retW 10)
  (ld (.agg [.int .u8,.int .i32,.int .i32,.int .i32]) c_1 fun (x_2:(Int × Int × Int × Int)) =>
 callW Tryz.prog Z37 [.agg ⟨[.int .u8 x_2.1,.int .i32 x_2.2.1,.int .i32 x_2.2.2.1,.int .i32 x_2.2.2.2]⟩] [.sc (.int .i64)] fun (x_3:Int) =>
 cond (x_3 != 0)
  (retW x_3)
  (ld (.agg [.int .u8,.int .i32,.int .i32,.int .i32]) c_1 fun (x_4:(Int × Int × Int × Int)) =>
 callW Tryz.prog Zh9 [.agg ⟨[.int .u8 x_4.1,.int .i32 x_4.2.1,.int .i32 x_4.2.2.1,.int .i32 x_4.2.2.2]⟩] [.sc .sl] fun (x_5:Sl) =>
 callW Tryz.prog Zi9 [.pointer w0,.slice x_5.a x_5.n x_5.c] [.sc (.int .i64)] fun (x_6:Int) =>
 retW x_6))
def Zuy:Hints:={}
theorem Z12s (w0:Option Addr) (c1:(Int × Int × Int × Int)):denF Tryz.prog Zuy Tryz.f134 [.sc (.int .i64)] [.pointer w0,.agg ⟨[.int .u8 c1.1,.int .i32 c1.2.1,.int .i32 c1.2.2.1,.int .i32 c1.2.2.2]⟩]=Zpb w0 c1:=by kernel_rfl
theorem Z12l {R:Type} (w0:Option Addr) (c1:(Int × Int × Int × Int)) (K:Res [.sc (.int .i64)]→W R) (Q:R→World→Prop) (w:World) (h:Zpb w0 c1 (fun r w=>K r Q w) w):callW Tryz.prog Zps [.pointer w0,.agg ⟨[.int .u8 c1.1,.int .i32 c1.2.1,.int .i32 c1.2.2.1,.int .i32 c1.2.2.2]⟩] [.sc (.int .i64)] K Q w :=
 Z0 mix Tryz.func134 Zuy (ts:=[.sc (.int .i64)]) trivial (by rw [Tryz.ntmps134]; simp) (by rw [Z12s]; exact h)
def Zlt (l0:Sl) (kind1:Int):W ((Int × Int × Int × Int) × Bool) :=
 newW 5 [.int .u8 kind1] fun kind_1 =>
 newW 92 [.int .u8 0,.int .i32 0,.int .i32 0,.int .i32 0] fun x_2 =>
 callW Tryz.prog Z1i [.slice l0.a l0.n l0.c,.func (.func 165) #[] #[.pointer (some kind_1)]] [.sc (.int .i64)] fun (x_3:Int) =>
 cond (decide (x_3 < 0))
  (stoL x_2 [.int .u8 0,.int .i32 0,.int .i32 0,.int .i32 0] 0 <|
  ld (.agg [.int .u8,.int .i32,.int .i32,.int .i32]) x_2 fun (x_4:(Int × Int × Int × Int)) =>
  retW (x_4,false))
  (idxW l0.a l0.n 4 x_3 fun x_5 =>
 ld (.agg [.int .u8,.int .i32,.int .i32,.int .i32]) x_5 fun (x_6:(Int × Int × Int × Int)) =>
 stoL x_2 [.int .u8 x_6.1,.int .i32 x_6.2.1,.int .i32 x_6.2.2.1,.int .i32 x_6.2.2.2] 0 <|
 ld (.agg [.int .u8,.int .i32,.int .i32,.int .i32]) x_2 fun (x_7:(Int × Int × Int × Int)) =>
 retW (x_7,true))
def Zsa:Hints:={}
theorem Z10a (l0:Sl) (kind1:Int):denF Tryz.prog Zsa Tryz.f135 [.agg [.int .u8,.int .i32,.int .i32,.int .i32],.sc .bool] [.slice l0.a l0.n l0.c,.int .u8 kind1]=Zlt l0 kind1:=by kernel_rfl
theorem Zzt {R:Type} (l0:Sl) (kind1:Int) (K:Res [.agg [.int .u8,.int .i32,.int .i32,.int .i32],.sc .bool]→W R) (Q:R→World→Prop) (w:World) (h:Zlt l0 kind1 (fun r w=>K r Q w) w):callW Tryz.prog Zfk [.slice l0.a l0.n l0.c,.int .u8 kind1] [.agg [.int .u8,.int .i32,.int .i32,.int .i32],.sc .bool] K Q w :=
 Z0 mix Tryz.func135 Zsa (ts:=[.agg [.int .u8,.int .i32,.int .i32,.int .i32],.sc .bool]) ⟨by kernel_rfl,trivial⟩ (by rw [Tryz.ntmps135]; simp) (by rw [Z10a]; exact h)
def Zlp (was0:(Int × Int × Int × Int)) (c1:(Int × Int × Int × Int)):W (Int) :=
 newW 92 [.int .u8 was0.1,.int .i32 was0.2.1,.int .i32 was0.2.2.1,.int .i32 was0.2.2.2] fun was_1 =>
 newW 92 [.int .u8 c1.1,.int .i32 c1.2.1,.int .i32 c1.2.2.1,.int .i32 c1.2.2.2] fun c_2 =>
 ld (.agg [.int .u8,.int .i32,.int .i32,.int .i32]) was_1 fun (x_3:(Int × Int × Int × Int)) =>
 callW Tryz.prog Z37 [.agg ⟨[.int .u8 x_3.1,.int .i32 x_3.2.1,.int .i32 x_3.2.2.1,.int .i32 x_3.2.2.2]⟩] [.sc (.int .i64)] fun (x_4:Int) =>
 cond (x_4 != 0)
  (retW x_4)
  (ld (.agg [.int .u8,.int .i32,.int .i32,.int .i32]) c_2 fun (x_5:(Int × Int × Int × Int)) =>
 callW Tryz.prog Z37 [.agg ⟨[.int .u8 x_5.1,.int .i32 x_5.2.1,.int .i32 x_5.2.2.1,.int .i32 x_5.2.2.2]⟩] [.sc (.int .i64)] fun (x_6:Int) =>
 cond (x_6 != 0)
  (retW x_6)
  (ld (.sc (.int .u8)) (Addr.add was_1 0) fun (x_7:Int) =>
 ld (.sc (.int .u8)) (Addr.add c_2 0) fun (x_8:Int) =>
 cond (x_7 != x_8)
  (retW 4)
  (retW 0)))
def Zs6:Hints:={}
theorem Z106 (was0:(Int × Int × Int × Int)) (c1:(Int × Int × Int × Int)):denF Tryz.prog Zs6 Tryz.f136 [.sc (.int .i64)] [.agg ⟨[.int .u8 was0.1,.int .i32 was0.2.1,.int .i32 was0.2.2.1,.int .i32 was0.2.2.2]⟩,.agg ⟨[.int .u8 c1.1,.int .i32 c1.2.1,.int .i32 c1.2.2.1,.int .i32 c1.2.2.2]⟩]=Zlp was0 c1:=by kernel_rfl
theorem Zzp {R:Type} (was0:(Int × Int × Int × Int)) (c1:(Int × Int × Int × Int)) (K:Res [.sc (.int .i64)]→W R) (Q:R→World→Prop) (w:World) (h:Zlp was0 c1 (fun r w=>K r Q w) w):callW Tryz.prog Zm9 [.agg ⟨[.int .u8 was0.1,.int .i32 was0.2.1,.int .i32 was0.2.2.1,.int .i32 was0.2.2.2]⟩,.agg ⟨[.int .u8 c1.1,.int .i32 c1.2.1,.int .i32 c1.2.2.1,.int .i32 c1.2.2.2]⟩] [.sc (.int .i64)] K Q w :=
 Z0 mix Tryz.func136 Zs6 (ts:=[.sc (.int .i64)]) trivial (by rw [Tryz.ntmps136]; simp) (by rw [Z106]; exact h)
def Zpc (w0:Option Addr) (l1:Sl):W (Int) :=
 callW Tryz.prog Z5o [.pointer w0] [.sc (.int .i64)] fun (x_1:Int) =>
 callW Tryz.prog Zma [.slice l1.a l1.n l1.c] [.sc (.int .i64)] fun (x_2:Int) =>
 cond (decide ((IntKind.wrap .i64 (x_1+x_2)) > 1048576))
  (retW 3)
  (loopW (σ:=Int) (fun K_3 s_4 =>
  cond (decide (s_4 < (l1.n:Int)))
   (idxW l1.a l1.n 2 s_4 fun x_5 =>
  ld (.agg [.int .u64,.int .i64]) x_5 fun (x_6:(Int × Int)) =>
  newW 231 [.int .u64 0,.int .i64 0] fun p_7 =>
  stoL p_7 [.int .u64 x_6.1,.int .i64 x_6.2] 0 <|
  ld (.sc (.int .u64)) (Addr.add p_7 0) fun (x_8:Int) =>
  ld (.sc (.int .i64)) (Addr.add p_7 1) fun (x_9:Int) =>
  callW Tryz.prog Z2i [.pointer w0,.int .u64 x_8,.int .i64 x_9] [.sc (.int .i64)] fun (x_10:Int) =>
  K_3 (IntKind.wrap .i64 (s_4+1)))
   (retW 0))
  0)
def Zuz:Hints:={ lop:=[(0,[(15,.sc (.int .i64))])] }
theorem Z12t (w0:Option Addr) (l1:Sl):denF Tryz.prog Zuz Tryz.f137 [.sc (.int .i64)] [.pointer w0,.slice l1.a l1.n l1.c]=Zpc w0 l1:=by kernel_rfl
theorem Z12m {R:Type} (w0:Option Addr) (l1:Sl) (K:Res [.sc (.int .i64)]→W R) (Q:R→World→Prop) (w:World) (h:Zpc w0 l1 (fun r w=>K r Q w) w):callW Tryz.prog Zi9 [.pointer w0,.slice l1.a l1.n l1.c] [.sc (.int .i64)] K Q w :=
 Z0 mix Tryz.func137 Zuz (ts:=[.sc (.int .i64)]) trivial (by rw [Tryz.ntmps137]; simp) (by rw [Z12t]; exact h)
def Zlr (was0:(Int × Int × Int × Int)) (c1:(Int × Int × Int × Int)):W (Sl) :=
 newW 92 [.int .u8 was0.1,.int .i32 was0.2.1,.int .i32 was0.2.2.1,.int .i32 was0.2.2.2] fun was_1 =>
 newW 92 [.int .u8 c1.1,.int .i32 c1.2.1,.int .i32 c1.2.2.1,.int .i32 c1.2.2.2] fun c_2 =>
 ld (.sc (.int .u8)) (Addr.add c_2 0) fun (x_3:Int) =>
 callW Tryz.prog Z38 [.int .u8 x_3] [.sc (.int .i64)] fun (x_4:Int) =>
 loopW (σ:=Sl × Int) (fun K_5 s_6 =>
  cond (decide (s_6.2 < x_4))
   (ld (.agg [.int .u8,.int .i32,.int .i32,.int .i32]) was_1 fun (x_7:(Int × Int × Int × Int)) =>
  ld (.agg [.int .u8,.int .i32,.int .i32,.int .i32]) c_2 fun (x_8:(Int × Int × Int × Int)) =>
  callW Tryz.prog Zm8 [.agg ⟨[.int .u8 x_7.1,.int .i32 x_7.2.1,.int .i32 x_7.2.2.1,.int .i32 x_7.2.2.2]⟩,.agg ⟨[.int .u8 x_8.1,.int .i32 x_8.2.1,.int .i32 x_8.2.2.1,.int .i32 x_8.2.2.2]⟩,.int .i64 s_6.2] [.sc (.int .u64)] fun (x_9:Int) =>
  joinW (σ:=Sl) (fun J_10 =>
   cond (x_9 == 0)
    (newW 231 [.int .u64 0,.int .i64 1] fun x_11 =>
    rawW Tryz.prog (Builtin.append_ #[202,202] 202 #[.slice s_6.1.a s_6.1.n s_6.1.c,.slice (some x_11) 1 1]) [.sc .sl] fun (x_12:Sl) =>
    J_10 x_12)
    (joinW (σ:=Sl) (fun J_13 =>
     cond (decide (x_9≤16))
      (newW 231 [.int .u64 1,.int .i64 1,.int .u64 1,.int .i64 1,.int .u64 (IntKind.wrap .u64 (x_9 - 1)),.int .i64 4] fun x_14 =>
      rawW Tryz.prog (Builtin.append_ #[202,202] 202 #[.slice s_6.1.a s_6.1.n s_6.1.c,.slice (some x_14) 3 3]) [.sc .sl] fun (x_15:Sl) =>
      J_13 x_15)
      (ld (.agg [.int .u8,.int .i32,.int .i32,.int .i32]) c_2 fun (x_16:(Int × Int × Int × Int)) =>
      callW Tryz.prog Zdb [.agg ⟨[.int .u8 x_16.1,.int .i32 x_16.2.1,.int .i32 x_16.2.2.1,.int .i32 x_16.2.2.2]⟩,.int .i64 s_6.2] [.agg [.int .u64,.int .i64]] fun (x_17:(Int × Int)) =>
      newW 231 [.int .u64 1,.int .i64 1,.int .u64 0,.int .i64 1,.int .u64 x_17.1,.int .i64 x_17.2] fun x_18 =>
      rawW Tryz.prog (Builtin.append_ #[202,202] 202 #[.slice s_6.1.a s_6.1.n s_6.1.c,.slice (some x_18) 3 3]) [.sc .sl] fun (x_19:Sl) =>
      J_13 x_19))
    <| fun s_20 =>
    J_10 s_20))
  <| fun s_21 =>
  K_5 (s_21,IntKind.wrap .i64 (s_6.2+1)))
   (retW s_6.1))
  ((⟨none,0,0⟩:Sl),0)
def Zs8:Hints:={ con:=[(11033,[(5,.sc .sl)]),(9026,[(5,.sc .sl)])],lop:=[(0,[(5,.sc .sl),(11,.sc (.int .i64))])] }
theorem Z108 (was0:(Int × Int × Int × Int)) (c1:(Int × Int × Int × Int)):denF Tryz.prog Zs8 Tryz.f138 [.sc .sl] [.agg ⟨[.int .u8 was0.1,.int .i32 was0.2.1,.int .i32 was0.2.2.1,.int .i32 was0.2.2.2]⟩,.agg ⟨[.int .u8 c1.1,.int .i32 c1.2.1,.int .i32 c1.2.2.1,.int .i32 c1.2.2.2]⟩]=Zlr was0 c1:=by kernel_rfl
theorem Zzr {R:Type} (was0:(Int × Int × Int × Int)) (c1:(Int × Int × Int × Int)) (K:Res [.sc .sl]→W R) (Q:R→World→Prop) (w:World) (h:Zlr was0 c1 (fun r w=>K r Q w) w):callW Tryz.prog Zmb [.agg ⟨[.int .u8 was0.1,.int .i32 was0.2.1,.int .i32 was0.2.2.1,.int .i32 was0.2.2.2]⟩,.agg ⟨[.int .u8 c1.1,.int .i32 c1.2.1,.int .i32 c1.2.2.1,.int .i32 c1.2.2.2]⟩] [.sc .sl] K Q w :=
 Z0 mix Tryz.func138 Zs8 (ts:=[.sc .sl]) trivial (by rw [Tryz.ntmps138]; simp) (by rw [Z108]; exact h)
def Zm1 (l0:Sl) (id1:Int):W (Int) :=
 callW Tryz.prog Z4e [.slice l0.a l0.n l0.c,.int .u32 id1,.func (.func 171) #[] #[]] [.sc (.int .i64),.sc .bool] fun (x_1:Int × Bool) =>
 cond (!x_1.2)
  (retW (-1))
  (retW x_1.1)
def Zsi:Hints:={}
theorem Z10i (l0:Sl) (id1:Int):denF Tryz.prog Zsi Tryz.f139 [.sc (.int .i64)] [.slice l0.a l0.n l0.c,.int .u32 id1]=Zm1 l0 id1:=by kernel_rfl
theorem Z101 {R:Type} (l0:Sl) (id1:Int) (K:Res [.sc (.int .i64)]→W R) (Q:R→World→Prop) (w:World) (h:Zm1 l0 id1 (fun r w=>K r Q w) w):callW Tryz.prog Zmh [.slice l0.a l0.n l0.c,.int .u32 id1] [.sc (.int .i64)] K Q w :=
 Z0 mix Tryz.func139 Zsi (ts:=[.sc (.int .i64)]) trivial (by rw [Tryz.ntmps139]; simp) (by rw [Z10i]; exact h)
def Z1x (r0:Option Addr) (read1c0:Option Addr) (read1c1:Option Addr):W (Int × Int) :=
 cond (Option.isNone r0)
  (retW (0,10))
  (ptrW r0 fun x_1 =>
 ld (.agg [.sl,.int .i64]) x_1 fun (x_2:(Sl × Int)) =>
 newW 173 [.slice none 0 0,.int .i64 0] fun was_3 =>
 stoL was_3 [.slice x_2.1.a x_2.1.n x_2.1.c,.int .i64 x_2.2] 0 <|
 callW Tryz.prog Zhd [.pointer r0,.pointer read1c0,.pointer read1c1] [.sc (.int .i64),.sc (.int .i64)] fun (x_4:Int × Int) =>
 cond (x_4.2 != 0)
  (ld (.agg [.sl,.int .i64]) was_3 fun (x_5:(Sl × Int)) =>
  ptrW r0 fun x_6 =>
  stoL x_6 [.slice x_5.1.a x_5.1.n x_5.1.c,.int .i64 x_5.2] 0 <|
  retW (0,x_4.2))
  (retW (x_4.1,0)))
def Z3i:Hints:={}
theorem Z95 (r0:Option Addr) (read1c0:Option Addr) (read1c1:Option Addr):denF Tryz.prog Z3i Tryz.f140 [.sc (.int .i64),.sc (.int .i64)] [.pointer r0,.func (.func 141) #[] #[.pointer read1c0,.pointer read1c1]]=Z1x r0 read1c0 read1c1:=by kernel_rfl
theorem Z94 {R:Type} (r0:Option Addr) (read1c0:Option Addr) (read1c1:Option Addr) (K:Res [.sc (.int .i64),.sc (.int .i64)]→W R) (Q:R→World→Prop) (w:World) (h:Z1x r0 read1c0 read1c1 (fun r w=>K r Q w) w):callW Tryz.prog Zfx [.pointer r0,.func (.func 141) #[] #[.pointer read1c0,.pointer read1c1]] [.sc (.int .i64),.sc (.int .i64)] K Q w :=
 Z0 mix Tryz.func140 Z3i (ts:=[.sc (.int .i64),.sc (.int .i64)]) trivial (by rw [Tryz.ntmps140]; simp) (by rw [Z95]; exact h)
def Zbo (r0:Option Addr) (c1:Option Addr) (c2:Option Addr):W (Int × Int) :=
 ptrW c1 fun x_1 =>
 ld (.sc (.int .i64)) x_1 fun (x_2:Int) =>
 ptrW c2 fun x_3 =>
 ld (.sc (.int .i64)) x_3 fun (x_4:Int) =>
 callW Tryz.prog Zaa [.int .i64 x_2,.int .i64 x_4] [.sc (.int .i64)] fun (x_5:Int) =>
 callW Tryz.prog Z1a [.pointer r0,.int .i64 x_5] [.sc (.int .u64),.sc (.int .i64)] fun (x_6:Int × Int) =>
 cond (x_6.2 != 0)
  (retW (0,x_6.2))
  (ptrW c2 fun x_7 =>
  ld (.sc (.int .i64)) x_7 fun (x_8:Int) =>
  ptrW c1 fun x_9 =>
  ld (.sc (.int .i64)) x_9 fun (x_10:Int) =>
  cond (decide (x_6.1 > (IntKind.wrap .u64 ((IntKind.wrap .u64 x_8) - (IntKind.wrap .u64 x_10)))))
   (retW (0,5))
   (ptrW c1 fun x_11 =>
 ld (.sc (.int .i64)) x_11 fun (x_12:Int) =>
 retW (IntKind.wrap .i64 (IntKind.wrap .u64 ((IntKind.wrap .u64 x_12)+x_6.1)),0)))
def Zh4:Hints:={}
theorem Zs2 (r0:Option Addr) (c1:Option Addr) (c2:Option Addr):denF Tryz.prog Zh4 Tryz.f141 [.sc (.int .i64),.sc (.int .i64)] [.pointer r0,.pointer c1,.pointer c2]=Zbo r0 c1 c2:=by kernel_rfl
theorem Zrz {R:Type} (r0:Option Addr) (c1:Option Addr) (c2:Option Addr) (K:Res [.sc (.int .i64),.sc (.int .i64)]→W R) (Q:R→World→Prop) (w:World) (h:Zbo r0 c1 c2 (fun r w=>K r Q w) w):callW Tryz.prog Zhd [.pointer r0,.pointer c1,.pointer c2] [.sc (.int .i64),.sc (.int .i64)] K Q w :=
 Z0 mix Tryz.func141 Zh4 (ts:=[.sc (.int .i64),.sc (.int .i64)]) trivial (by rw [Tryz.ntmps141]; simp) (by rw [Zs2]; exact h)
def Z96 (r0:Option Addr) (n1:Int):W (Int × Int) :=
 cond (Option.isNone r0)
  (retW (0,10))
  (joinW (σ:=Bool) (fun J_1 =>
   cond (decide (n1 < 0))
    (J_1 true)
    (J_1 (decide (n1 > 64))))
  <| fun s_2 =>
  cond s_2
   (retW (0,1))
   (callW Tryz.prog Z8l [.pointer r0] [.sc (.int .i64)] fun (x_3:Int) =>
   cond (decide (n1 > x_3))
    (retW (0,2))
    (loopW (σ:=Int × Int) (fun K_4 s_5 =>
  cond (decide (s_5.2 < n1))
   (drawW <|
  ptrW r0 fun x_6 =>
  ld (.sc .sl) (Addr.add x_6 0) fun (x_7:Sl) =>
  ptrW r0 fun x_8 =>
  ld (.sc (.int .i64)) (Addr.add x_8 1) fun (x_9:Int) =>
  idxW x_7.a x_7.n 1 (IntKind.wrap .i64 (Int.tdiv x_9 8)) fun x_10 =>
  ld (.sc (.int .u8)) x_10 fun (x_11:Int) =>
  ptrW r0 fun x_12 =>
  ld (.sc (.int .i64)) (Addr.add x_12 1) fun (x_13:Int) =>
  chkW (0≤(Int.tmod x_13 8)) <|
  chkW (0≤s_5.2) <|
  ptrW r0 fun x_14 =>
  ld (.sc (.int .i64)) (Addr.add x_14 1) fun (x_15:Int) =>
  ptrW r0 fun x_16 =>
  stoL (Addr.add x_16 1) [.int .i64 (IntKind.wrap .i64 (x_15+1))] 0 <|
  K_4 (bOr .u64 s_5.1 (shL .u64 (IntKind.wrap .u64 (bAnd .u8 (shR .u8 x_11 (Int.tmod x_13 8)) 1)) s_5.2),IntKind.wrap .i64 (s_5.2+1)))
   (retW (s_5.1,0)))
  (0,0))))
def Zea:Hints:={ reg:=[(3,[(11,.sc .bool)])],lop:=[(1,[(6,.sc (.int .u64)),(24,.sc (.int .i64))])],dr:=[(11,([],[[(0,[]),(1,[]),(2,[]),(3,[]),(4,[]),(5,[]),(6,[]),(7,[]),(8,[]),(9,[]),(10,[]),(11,[]),(12,[]),(13,[]),(14,[]),(15,[]),(16,[]),(17,[]),(18,[]),(19,[]),(20,[]),(21,[]),(22,[]),(23,[])]]))] }
theorem Zp1 (r0:Option Addr) (n1:Int):denF Tryz.prog Zea Tryz.f142 [.sc (.int .u64),.sc (.int .i64)] [.pointer r0,.int .i64 n1]=Z96 r0 n1:=by kernel_rfl
theorem Zot {R:Type} (r0:Option Addr) (n1:Int) (K:Res [.sc (.int .u64),.sc (.int .i64)]→W R) (Q:R→World→Prop) (w:World) (h:Z96 r0 n1 (fun r w=>K r Q w) w):callW Tryz.prog Z1a [.pointer r0,.int .i64 n1] [.sc (.int .u64),.sc (.int .i64)] K Q w :=
 Z0 mix Tryz.func142 Zea (ts:=[.sc (.int .u64),.sc (.int .i64)]) trivial (by rw [Tryz.ntmps142]; simp) (by rw [Zp1]; exact h)
def Z5x (v0:Int) (e1:Int):W ((Int) ⊕ List PanicEntry) :=
 joinW (σ:=Unit) (fun J_1 =>
  cond (e1 != 0)
   (panW (.iface 171 (.agg ⟨[]⟩)))
   (J_1 ()))
 <| fun s_2 =>
 retW (.inl v0)
def Zaj:Hints:={ con:=[(3006,[])] }
theorem Zix (v0:Int) (e1:Int):denFP Tryz.prog Zaj Tryz.f143 [.sc (.int .u64)] [.int .u64 v0,.int .i64 e1]=Z5x v0 e1:=by kernel_rfl
theorem Zig {R:Type} [Pan R] (v0:Int) (e1:Int) (K:Res [.sc (.int .u64)]→W R) (Q:R→World→Prop) (w:World) (h:Z5x v0 e1 (kP K Q) w):callP Tryz.prog Z3b [.int .u64 v0,.int .i64 e1] [.sc (.int .u64)] K Q w :=
 Z4g mix Tryz.func143 Zaj (ts:=[.sc (.int .u64)]) (post:=kP K Q) trivial (by rw [Tryz.ntmps143]; simp) (by rw [Zix]; exact h)
def Zf2 (r0:Option Addr):W (Int × Int) :=
 callW Tryz.prog Zem [.pointer r0,.func (.func 174) #[] #[]] [.sc (.int .u64),.sc (.int .i64)] fun (x_1:Int × Int) =>
 retW (x_1.1,x_1.2)
def Zns:Hints:={}
theorem Zw3 (r0:Option Addr):denF Tryz.prog Zns Tryz.f144 [.sc (.int .u64),.sc (.int .i64)] [.pointer r0]=Zf2 r0:=by kernel_rfl
theorem Zvp {R:Type} (r0:Option Addr) (K:Res [.sc (.int .u64),.sc (.int .i64)]→W R) (Q:R→World→Prop) (w:World) (h:Zf2 r0 (fun r w=>K r Q w) w):callW Tryz.prog Zfm [.pointer r0] [.sc (.int .u64),.sc (.int .i64)] K Q w :=
 Z0 mix Tryz.func144 Zns (ts:=[.sc (.int .u64),.sc (.int .i64)]) trivial (by rw [Tryz.ntmps144]; simp) (by rw [Zw3]; exact h)
def Zpa (r0:Option Addr) (kind1:Int):W ((Int × Int × Int × Int) × Int) :=
 newW 60 [.pointer r0] fun r_1 =>
 newW 5 [.int .u8 kind1] fun kind_2 =>
 newW 92 [.int .u8 0,.int .i32 0,.int .i32 0,.int .i32 0] fun x_3 =>
 ld (.sc .ptr) r_1 fun (x_4:Option Addr) =>
 cond (Option.isNone x_4)
  (stoL x_3 [.int .u8 0,.int .i32 0,.int .i32 0,.int .i32 0] 0 <|
  ld (.agg [.int .u8,.int .i32,.int .i32,.int .i32]) x_3 fun (x_5:(Int × Int × Int × Int)) =>
  retW (x_5,10))
  (ld (.sc (.int .u8)) kind_2 fun (x_6:Int) =>
  callW Tryz.prog Z38 [.int .u8 x_6] [.sc (.int .i64)] fun (x_7:Int) =>
  cond (x_7 == 0)
   (stoL x_3 [.int .u8 0,.int .i32 0,.int .i32 0,.int .i32 0] 0 <|
   ld (.agg [.int .u8,.int .i32,.int .i32,.int .i32]) x_3 fun (x_8:(Int × Int × Int × Int)) =>
   retW (x_8,1))
   (ld (.sc .ptr) r_1 fun (x_9:Option Addr) =>
 ld (.sc (.int .u8)) kind_2 fun (x_10:Int) =>
 callW Tryz.prog Zfi [.pointer x_9,.agg ⟨[.int .u8 x_10,.int .i32 0,.int .i32 0,.int .i32 0]⟩,.func (.func 175) #[] #[.pointer (some r_1),.pointer (some kind_2)]] [.agg [.int .u8,.int .i32,.int .i32,.int .i32],.sc (.int .i64)] fun (x_11:(Int × Int × Int × Int) × Int) =>
 stoL x_3 [.int .u8 x_11.1.1,.int .i32 x_11.1.2.1,.int .i32 x_11.1.2.2.1,.int .i32 x_11.1.2.2.2] 0 <|
 ld (.agg [.int .u8,.int .i32,.int .i32,.int .i32]) x_3 fun (x_12:(Int × Int × Int × Int)) =>
 retW (x_12,x_11.2)))
def Zux:Hints:={}
theorem Z12r (r0:Option Addr) (kind1:Int):denF Tryz.prog Zux Tryz.f147 [.agg [.int .u8,.int .i32,.int .i32,.int .i32],.sc (.int .i64)] [.pointer r0,.int .u8 kind1]=Zpa r0 kind1:=by kernel_rfl
theorem Z12k {R:Type} (r0:Option Addr) (kind1:Int) (K:Res [.agg [.int .u8,.int .i32,.int .i32,.int .i32],.sc (.int .i64)]→W R) (Q:R→World→Prop) (w:World) (h:Zpa r0 kind1 (fun r w=>K r Q w) w):callW Tryz.prog Zpr [.pointer r0,.int .u8 kind1] [.agg [.int .u8,.int .i32,.int .i32,.int .i32],.sc (.int .i64)] K Q w :=
 Z0 mix Tryz.func147 Zux (ts:=[.agg [.int .u8,.int .i32,.int .i32,.int .i32],.sc (.int .i64)]) ⟨by kernel_rfl,trivial⟩ (by rw [Tryz.ntmps147]; simp) (by rw [Z12r]; exact h)
def Zl (x0:Sl):W (Unit) :=
 callW Tryz.prog Z5l [.slice x0.a x0.n x0.c,.int .i64 (x0.n:Int),.func (.func 150) #[] #[]] [] fun (x_1:Unit) =>
 retW ()
def Z1q:Hints:={}
theorem Z4c (x0:Sl):denF Tryz.prog Z1q Tryz.f149 [] [.slice x0.a x0.n x0.c,.func (.func 150) #[] #[]]=Zl x0:=by kernel_rfl
theorem Z4a {R:Type} (x0:Sl) (K:Res []→W R) (Q:R→World→Prop) (w:World) (h:Zl x0 (fun r w=>K r Q w) w):callW Tryz.prog Z2f [.slice x0.a x0.n x0.c,.func (.func 150) #[] #[]] [] K Q w :=
 Z0 mix Tryz.func149 Z1q (ts:=[]) trivial (by rw [Tryz.ntmps149]; simp) (by rw [Z4c]; exact h)
def Zdq (a0:(Int × Int × Int × Int)) (b1:(Int × Int × Int × Int)):W (Int) :=
 newW 92 [.int .u8 a0.1,.int .i32 a0.2.1,.int .i32 a0.2.2.1,.int .i32 a0.2.2.2] fun a_1 =>
 newW 92 [.int .u8 b1.1,.int .i32 b1.2.1,.int .i32 b1.2.2.1,.int .i32 b1.2.2.2] fun b_2 =>
 ld (.sc (.int .u8)) (Addr.add a_1 0) fun (x_3:Int) =>
 ld (.sc (.int .u8)) (Addr.add b_2 0) fun (x_4:Int) =>
 callW Tryz.prog Zda [.int .u8 x_3,.int .u8 x_4] [.sc (.int .i64)] fun (x_5:Int) =>
 retW x_5
def Zjn:Hints:={}
theorem Zu5 (a0:(Int × Int × Int × Int)) (b1:(Int × Int × Int × Int)):denF Tryz.prog Zjn Tryz.f150 [.sc (.int .i64)] [.agg ⟨[.int .u8 a0.1,.int .i32 a0.2.1,.int .i32 a0.2.2.1,.int .i32 a0.2.2.2]⟩,.agg ⟨[.int .u8 b1.1,.int .i32 b1.2.1,.int .i32 b1.2.2.1,.int .i32 b1.2.2.2]⟩]=Zdq a0 b1:=by kernel_rfl
theorem Ztr {R:Type} (a0:(Int × Int × Int × Int)) (b1:(Int × Int × Int × Int)) (K:Res [.sc (.int .i64)]→W R) (Q:R→World→Prop) (w:World) (h:Zdq a0 b1 (fun r w=>K r Q w) w):callW Tryz.prog Z9p [.agg ⟨[.int .u8 a0.1,.int .i32 a0.2.1,.int .i32 a0.2.2.1,.int .i32 a0.2.2.2]⟩,.agg ⟨[.int .u8 b1.1,.int .i32 b1.2.1,.int .i32 b1.2.2.1,.int .i32 b1.2.2.2]⟩] [.sc (.int .i64)] K Q w :=
 Z0 mix Tryz.func150 Zjn (ts:=[.sc (.int .i64)]) trivial (by rw [Tryz.ntmps150]; simp) (by rw [Zu5]; exact h)
def Zq (data0:Sl) (n1:Int):W (Unit) :=
 loopW (σ:=Int × Int) (fun K_1 s_2 =>
  cond (decide (s_2.2≤n1))
   (callW Tryz.prog Zt [.slice data0.a data0.n data0.c,.int .i64 s_2.1,.int .i64 s_2.2,.func (.func 121) #[] #[]] [] fun (x_3:Unit) =>
  K_1 (s_2.2,IntKind.wrap .i64 (s_2.2+20)))
   (callW Tryz.prog Zt [.slice data0.a data0.n data0.c,.int .i64 s_2.1,.int .i64 n1,.func (.func 121) #[] #[]] [] fun (x_4:Unit) =>
 loopW (σ:=Int) (fun K_5 s_6 =>
  cond (decide (s_6 < n1))
   (loopW (σ:=Int × Int) (fun K_7 s_8 =>
   cond (decide (s_8.2≤n1))
    (callW Tryz.prog Zc [.slice data0.a data0.n data0.c,.int .i64 s_8.1,.int .i64 (IntKind.wrap .i64 (s_8.1+s_6)),.int .i64 s_8.2,.func (.func 121) #[] #[]] [] fun (x_9:Unit) =>
   K_7 (s_8.2,IntKind.wrap .i64 (s_8.2+(IntKind.wrap .i64 (2 * s_6)))))
    (joinW (σ:=Unit) (fun J_10 =>
   cond (decide ((IntKind.wrap .i64 (s_8.1+s_6)) < n1))
    (callW Tryz.prog Zc [.slice data0.a data0.n data0.c,.int .i64 s_8.1,.int .i64 (IntKind.wrap .i64 (s_8.1+s_6)),.int .i64 n1,.func (.func 121) #[] #[]] [] fun (x_11:Unit) =>
    J_10 ())
    (J_10 ()))
  <| fun s_12 =>
  K_5 (IntKind.wrap .i64 (s_6 * 2))))
   (0,IntKind.wrap .i64 (2 * s_6)))
   (retW ()))
  20))
  (0,20)
def Z1w:Hints:={ con:=[(16054,[])],lop:=[(0,[(7,.sc (.int .i64)),(8,.sc (.int .i64))]),(2,[(6,.sc (.int .i64))]),(4,[(7,.sc (.int .i64)),(8,.sc (.int .i64))])] }
theorem Z4p (data0:Sl) (n1:Int):denF Tryz.prog Z1w Tryz.f152 [] [.slice data0.a data0.n data0.c,.int .i64 n1,.func (.func 121) #[] #[]]=Zq data0 n1:=by kernel_rfl
theorem Z4m {R:Type} (data0:Sl) (n1:Int) (K:Res []→W R) (Q:R→World→Prop) (w:World) (h:Zq data0 n1 (fun r w=>K r Q w) w):callW Tryz.prog Z2z [.slice data0.a data0.n data0.c,.int .i64 n1,.func (.func 121) #[] #[]] [] K Q w :=
 Z0 mix Tryz.func152 Z1w (ts:=[]) trivial (by rw [Tryz.ntmps152]; simp) (by rw [Z4p]; exact h)
def Zm3 (a0:Sl) (b1:Sl):W (Bool) :=
 callW Tryz.prog Z93 [.slice a0.a a0.n a0.c,.slice b1.a b1.n b1.c,.func (.func 182) #[] #[]] [.sc .bool] fun (x_1:Bool) =>
 retW x_1
def Zsk:Hints:={}
theorem Z10k (a0:Sl) (b1:Sl):denF Tryz.prog Zsk Tryz.f155 [.sc .bool] [.slice a0.a a0.n a0.c,.slice b1.a b1.n b1.c]=Zm3 a0 b1:=by kernel_rfl
theorem Z103 {R:Type} (a0:Sl) (b1:Sl) (K:Res [.sc .bool]→W R) (Q:R→World→Prop) (w:World) (h:Zm3 a0 b1 (fun r w=>K r Q w) w):callW Tryz.prog Zmi [.slice a0.a a0.n a0.c,.slice b1.a b1.n b1.c] [.sc .bool] K Q w :=
 Z0 mix Tryz.func155 Zsk (ts:=[.sc .bool]) trivial (by rw [Tryz.ntmps155]; simp) (by rw [Z10k]; exact h)
def Zw (s10:Sl) (s21:Sl):W (Bool) :=
 cond ((s10.n:Int) != (s21.n:Int))
  (retW false)
  (loopW (σ:=Int) (fun K_1 s_2 =>
  cond (decide (s_2 < (s10.n:Int)))
   (idxW s10.a s10.n 4 s_2 fun x_3 =>
  ld (.agg [.int .u32,.int .u8,.sl,.sl]) x_3 fun (x_4:(Int × Int × Sl × Sl)) =>
  newW 86 [.int .u32 0,.int .u8 0,.slice none 0 0,.slice none 0 0] fun v1_5 =>
  stoL v1_5 [.int .u32 x_4.1,.int .u8 x_4.2.1,.slice x_4.2.2.1.a x_4.2.2.1.n x_4.2.2.1.c,.slice x_4.2.2.2.a x_4.2.2.2.n x_4.2.2.2.c] 0 <|
  idxW s21.a s21.n 4 s_2 fun x_6 =>
  ld (.agg [.int .u32,.int .u8,.sl,.sl]) x_6 fun (x_7:(Int × Int × Sl × Sl)) =>
  newW 86 [.int .u32 0,.int .u8 0,.slice none 0 0,.slice none 0 0] fun v2_8 =>
  stoL v2_8 [.int .u32 x_7.1,.int .u8 x_7.2.1,.slice x_7.2.2.1.a x_7.2.2.1.n x_7.2.2.1.c,.slice x_7.2.2.2.a x_7.2.2.2.n x_7.2.2.2.c] 0 <|
  ld (.agg [.int .u32,.int .u8,.sl,.sl]) v1_5 fun (x_9:(Int × Int × Sl × Sl)) =>
  ld (.agg [.int .u32,.int .u8,.sl,.sl]) v2_8 fun (x_10:(Int × Int × Sl × Sl)) =>
  callW Tryz.prog Ze3 [.agg ⟨[.int .u32 x_9.1,.int .u8 x_9.2.1,.slice x_9.2.2.1.a x_9.2.2.1.n x_9.2.2.1.c,.slice x_9.2.2.2.a x_9.2.2.2.n x_9.2.2.2.c]⟩,.agg ⟨[.int .u32 x_10.1,.int .u8 x_10.2.1,.slice x_10.2.2.1.a x_10.2.2.1.n x_10.2.2.1.c,.slice x_10.2.2.2.a x_10.2.2.2.n x_10.2.2.2.c]⟩] [.sc .bool] fun (x_11:Bool) =>
  cond (!x_11)
   (retW false)
   (K_1 (IntKind.wrap .i64 (s_2+1))))
   (retW true))
  0)
def Z23:Hints:={ lop:=[(0,[(17,.sc (.int .i64))])] }
theorem Z55 (s10:Sl) (s21:Sl):denF Tryz.prog Z23 Tryz.f156 [.sc .bool] [.slice s10.a s10.n s10.c,.slice s21.a s21.n s21.c,.func (.func 157) #[] #[]]=Zw s10 s21:=by kernel_rfl
theorem Z53 {R:Type} (s10:Sl) (s21:Sl) (K:Res [.sc .bool]→W R) (Q:R→World→Prop) (w:World) (h:Zw s10 s21 (fun r w=>K r Q w) w):callW Tryz.prog Z6p [.slice s10.a s10.n s10.c,.slice s21.a s21.n s21.c,.func (.func 157) #[] #[]] [.sc .bool] K Q w :=
 Z0 mix Tryz.func156 Z23 (ts:=[.sc .bool]) trivial (by rw [Tryz.ntmps156]; simp) (by rw [Z55]; exact h)
def Zdp (x0:(Int × Int × Sl × Sl)) (y1:(Int × Int × Sl × Sl)):W (Bool) :=
 newW 86 [.int .u32 x0.1,.int .u8 x0.2.1,.slice x0.2.2.1.a x0.2.2.1.n x0.2.2.1.c,.slice x0.2.2.2.a x0.2.2.2.n x0.2.2.2.c] fun x_1 =>
 newW 86 [.int .u32 y1.1,.int .u8 y1.2.1,.slice y1.2.2.1.a y1.2.2.1.n y1.2.2.1.c,.slice y1.2.2.2.a y1.2.2.2.n y1.2.2.2.c] fun y_2 =>
 joinW (σ:=Bool) (fun J_3 =>
  ld (.sc (.int .u32)) (Addr.add x_1 0) fun (x_4:Int) =>
  ld (.sc (.int .u32)) (Addr.add y_2 0) fun (x_5:Int) =>
  cond (x_4 == x_5)
   (ld (.sc (.int .u8)) (Addr.add x_1 1) fun (x_6:Int) =>
    ld (.sc (.int .u8)) (Addr.add y_2 1) fun (x_7:Int) =>
      cond (x_6 == x_7)
        (ld (.sc .sl) (Addr.add x_1 2) fun (x_8:Sl) =>
         ld (.sc .sl) (Addr.add y_2 2) fun (x_9:Sl) =>
           callW Tryz.prog Z2s [.slice x_8.a x_8.n x_8.c,.slice x_9.a x_9.n x_9.c] [.sc .bool] fun (x_10:Bool) =>
            cond x_10
             (ld (.sc .sl) (Addr.add x_1 3) fun (x_11:Sl) =>
              ld (.sc .sl) (Addr.add y_2 3) fun (x_12:Sl) =>
                callW Tryz.prog Z2s [.slice x_11.a x_11.n x_11.c,.slice x_12.a x_12.n x_12.c] [.sc .bool] fun (x_13:Bool) =>
                 J_3 x_13)
             (J_3 false))
        (J_3 false))
   (J_3 false))
 <| fun s_14 =>
 retW s_14
def Zjm:Hints:={ reg:=[(1,[(4,.sc .bool)])] }
theorem Zu4 (x0:(Int × Int × Sl × Sl)) (y1:(Int × Int × Sl × Sl)):denF Tryz.prog Zjm Tryz.f157 [.sc .bool] [.agg ⟨[.int .u32 x0.1,.int .u8 x0.2.1,.slice x0.2.2.1.a x0.2.2.1.n x0.2.2.1.c,.slice x0.2.2.2.a x0.2.2.2.n x0.2.2.2.c]⟩,.agg ⟨[.int .u32 y1.1,.int .u8 y1.2.1,.slice y1.2.2.1.a y1.2.2.1.n y1.2.2.1.c,.slice y1.2.2.2.a y1.2.2.2.n y1.2.2.2.c]⟩]=Zdp x0 y1:=by kernel_rfl
theorem Ztq {R:Type} (x0:(Int × Int × Sl × Sl)) (y1:(Int × Int × Sl × Sl)) (K:Res [.sc .bool]→W R) (Q:R→World→Prop) (w:World) (h:Zdp x0 y1 (fun r w=>K r Q w) w):callW Tryz.prog Ze3 [.agg ⟨[.int .u32 x0.1,.int .u8 x0.2.1,.slice x0.2.2.1.a x0.2.2.1.n x0.2.2.1.c,.slice x0.2.2.2.a x0.2.2.2.n x0.2.2.2.c]⟩,.agg ⟨[.int .u32 y1.1,.int .u8 y1.2.1,.slice y1.2.2.1.a y1.2.2.1.n y1.2.2.1.c,.slice y1.2.2.2.a y1.2.2.2.n y1.2.2.2.c]⟩] [.sc .bool] K Q w :=
 Z0 mix Tryz.func157 Zjm (ts:=[.sc .bool]) trivial (by rw [Tryz.ntmps157]; simp) (by rw [Zu4]; exact h)
def Z8f (s0:Sl):W (Sl) :=
 cond (Option.isNone s0.a)
  (retW (⟨none,0,0⟩:Sl))
  (newW 57 [] fun x_1 =>
 rawW Tryz.prog (Builtin.append_ #[23,23] 23 #[.slice (some x_1) 0 0,.slice s0.a s0.n s0.c]) [.sc .sl] fun (x_2:Sl) =>
 retW x_2)
def Zd8:Hints:={}
theorem Znn (s0:Sl):denF Tryz.prog Zd8 Tryz.f159 [.sc .sl] [.slice s0.a s0.n s0.c]=Z8f s0:=by kernel_rfl
theorem Zn7 {R:Type} (s0:Sl) (K:Res [.sc .sl]→W R) (Q:R→World→Prop) (w:World) (h:Z8f s0 (fun r w=>K r Q w) w):callW Tryz.prog Z8r [.slice s0.a s0.n s0.c] [.sc .sl] K Q w :=
 Z0 mix Tryz.func159 Zd8 (ts:=[.sc .sl]) trivial (by rw [Tryz.ntmps159]; simp) (by rw [Znn]; exact h)
def Z2b (r0:Option Addr) (c1:(Int × Int × Int × Int)) (one2c0:Option Addr) (one2c1:Option Addr):W ((Int × Int × Int × Int) × Int) :=
 newW 92 [.int .u8 c1.1,.int .i32 c1.2.1,.int .i32 c1.2.2.1,.int .i32 c1.2.2.2] fun c_1 =>
 newW 92 [.int .u8 0,.int .i32 0,.int .i32 0,.int .i32 0] fun x_2 =>
 ptrW r0 fun x_3 =>
 ld (.agg [.sl,.int .i64]) x_3 fun (x_4:(Sl × Int)) =>
 newW 173 [.slice none 0 0,.int .i64 0] fun was_5 =>
 stoL was_5 [.slice x_4.1.a x_4.1.n x_4.1.c,.int .i64 x_4.2] 0 <|
 ld (.sc (.int .u8)) (Addr.add c_1 0) fun (x_6:Int) =>
 callW Tryz.prog Z38 [.int .u8 x_6] [.sc (.int .i64)] fun (x_7:Int) =>
 loopW (σ:=Int) (fun K_8 s_9 =>
  cond (decide (s_9 < x_7))
   (callW Tryz.prog Zel [.int .i64 s_9,.pointer one2c0,.pointer one2c1] [.sc (.int .i32),.sc (.int .i64)] fun (x_10:Int × Int) =>
  cond (x_10.2 != 0)
   (ld (.agg [.sl,.int .i64]) was_5 fun (x_11:(Sl × Int)) =>
   ptrW r0 fun x_12 =>
   stoL x_12 [.slice x_11.1.a x_11.1.n x_11.1.c,.int .i64 x_11.2] 0 <|
   stoL x_2 [.int .u8 0,.int .i32 0,.int .i32 0,.int .i32 0] 0 <|
   ld (.agg [.int .u8,.int .i32,.int .i32,.int .i32]) x_2 fun (x_13:(Int × Int × Int × Int)) =>
   retW (x_13,x_10.2))
   (idxW (some (Addr.add c_1 1)) 3 1 s_9 fun x_14 =>
  stoL x_14 [.int .i32 x_10.1] 0 <|
  K_8 (IntKind.wrap .i64 (s_9+1))))
   (ld (.agg [.int .u8,.int .i32,.int .i32,.int .i32]) c_1 fun (x_15:(Int × Int × Int × Int)) =>
 stoL x_2 [.int .u8 x_15.1,.int .i32 x_15.2.1,.int .i32 x_15.2.2.1,.int .i32 x_15.2.2.2] 0 <|
 ld (.agg [.int .u8,.int .i32,.int .i32,.int .i32]) x_2 fun (x_16:(Int × Int × Int × Int)) =>
 retW (x_16,0)))
  0
def Z4w:Hints:={ lop:=[(0,[(18,.sc (.int .i64))])] }
theorem Zb2 (r0:Option Addr) (c1:(Int × Int × Int × Int)) (one2c0:Option Addr) (one2c1:Option Addr):denF Tryz.prog Z4w Tryz.f160 [.agg [.int .u8,.int .i32,.int .i32,.int .i32],.sc (.int .i64)] [.pointer r0,.agg ⟨[.int .u8 c1.1,.int .i32 c1.2.1,.int .i32 c1.2.2.1,.int .i32 c1.2.2.2]⟩,.func (.func 161) #[] #[.pointer one2c0,.pointer one2c1]]=Z2b r0 c1 one2c0 one2c1:=by kernel_rfl
theorem Zb1 {R:Type} (r0:Option Addr) (c1:(Int × Int × Int × Int)) (one2c0:Option Addr) (one2c1:Option Addr) (K:Res [.agg [.int .u8,.int .i32,.int .i32,.int .i32],.sc (.int .i64)]→W R) (Q:R→World→Prop) (w:World) (h:Z2b r0 c1 one2c0 one2c1 (fun r w=>K r Q w) w):callW Tryz.prog Zfi [.pointer r0,.agg ⟨[.int .u8 c1.1,.int .i32 c1.2.1,.int .i32 c1.2.2.1,.int .i32 c1.2.2.2]⟩,.func (.func 161) #[] #[.pointer one2c0,.pointer one2c1]] [.agg [.int .u8,.int .i32,.int .i32,.int .i32],.sc (.int .i64)] K Q w :=
 Z0 mix Tryz.func160 Z4w (ts:=[.agg [.int .u8,.int .i32,.int .i32,.int .i32],.sc (.int .i64)]) ⟨by kernel_rfl,trivial⟩ (by rw [Tryz.ntmps160]; simp) (by rw [Zb2]; exact h)
def Z3g (r0:Option Addr) (c1:(Int × Int × Int × Int)) (one2c0:Option Addr) (one2c1:Option Addr):W ((Int × Int × Int × Int) × Int) :=
 newW 92 [.int .u8 c1.1,.int .i32 c1.2.1,.int .i32 c1.2.2.1,.int .i32 c1.2.2.2] fun c_1 =>
 newW 92 [.int .u8 0,.int .i32 0,.int .i32 0,.int .i32 0] fun x_2 =>
 ptrW r0 fun x_3 =>
 ld (.agg [.sl,.int .i64]) x_3 fun (x_4:(Sl × Int)) =>
 newW 173 [.slice none 0 0,.int .i64 0] fun was_5 =>
 stoL was_5 [.slice x_4.1.a x_4.1.n x_4.1.c,.int .i64 x_4.2] 0 <|
 ld (.sc (.int .u8)) (Addr.add c_1 0) fun (x_6:Int) =>
 callW Tryz.prog Z38 [.int .u8 x_6] [.sc (.int .i64)] fun (x_7:Int) =>
 loopW (σ:=Int) (fun K_8 s_9 =>
  cond (decide (s_9 < x_7))
   (callW Tryz.prog Zo7 [.int .i64 s_9,.pointer one2c0,.pointer one2c1] [.sc (.int .i32),.sc (.int .i64)] fun (x_10:Int × Int) =>
  cond (x_10.2 != 0)
   (ld (.agg [.sl,.int .i64]) was_5 fun (x_11:(Sl × Int)) =>
   ptrW r0 fun x_12 =>
   stoL x_12 [.slice x_11.1.a x_11.1.n x_11.1.c,.int .i64 x_11.2] 0 <|
   stoL x_2 [.int .u8 0,.int .i32 0,.int .i32 0,.int .i32 0] 0 <|
   ld (.agg [.int .u8,.int .i32,.int .i32,.int .i32]) x_2 fun (x_13:(Int × Int × Int × Int)) =>
   retW (x_13,x_10.2))
   (idxW (some (Addr.add c_1 1)) 3 1 s_9 fun x_14 =>
  stoL x_14 [.int .i32 x_10.1] 0 <|
  K_8 (IntKind.wrap .i64 (s_9+1))))
   (ld (.agg [.int .u8,.int .i32,.int .i32,.int .i32]) c_1 fun (x_15:(Int × Int × Int × Int)) =>
 stoL x_2 [.int .u8 x_15.1,.int .i32 x_15.2.1,.int .i32 x_15.2.2.1,.int .i32 x_15.2.2.2] 0 <|
 ld (.agg [.int .u8,.int .i32,.int .i32,.int .i32]) x_2 fun (x_16:(Int × Int × Int × Int)) =>
 retW (x_16,0)))
  0
def Z7x:Hints:={ lop:=[(0,[(18,.sc (.int .i64))])] }
theorem Ze8 (r0:Option Addr) (c1:(Int × Int × Int × Int)) (one2c0:Option Addr) (one2c1:Option Addr):denF Tryz.prog Z7x Tryz.f160 [.agg [.int .u8,.int .i32,.int .i32,.int .i32],.sc (.int .i64)] [.pointer r0,.agg ⟨[.int .u8 c1.1,.int .i32 c1.2.1,.int .i32 c1.2.2.1,.int .i32 c1.2.2.2]⟩,.func (.func 175) #[] #[.pointer one2c0,.pointer one2c1]]=Z3g r0 c1 one2c0 one2c1:=by kernel_rfl
theorem Ze6 {R:Type} (r0:Option Addr) (c1:(Int × Int × Int × Int)) (one2c0:Option Addr) (one2c1:Option Addr) (K:Res [.agg [.int .u8,.int .i32,.int .i32,.int .i32],.sc (.int .i64)]→W R) (Q:R→World→Prop) (w:World) (h:Z3g r0 c1 one2c0 one2c1 (fun r w=>K r Q w) w):callW Tryz.prog Zfi [.pointer r0,.agg ⟨[.int .u8 c1.1,.int .i32 c1.2.1,.int .i32 c1.2.2.1,.int .i32 c1.2.2.2]⟩,.func (.func 175) #[] #[.pointer one2c0,.pointer one2c1]] [.agg [.int .u8,.int .i32,.int .i32,.int .i32],.sc (.int .i64)] K Q w :=
 Z0 mix Tryz.func160 Z7x (ts:=[.agg [.int .u8,.int .i32,.int .i32,.int .i32],.sc (.int .i64)]) ⟨by kernel_rfl,trivial⟩ (by rw [Tryz.ntmps160]; simp) (by rw [Ze8]; exact h)
def Z99 (i0:Int) (c1:Option Addr) (c2:Option Addr):W (Int × Int) :=
 ptrW c1 fun x_1 =>
 ld (.sc .ptr) x_1 fun (x_2:Option Addr) =>
 ptrW c2 fun x_3 =>
 ld (.agg [.int .u8,.int .i32,.int .i32,.int .i32]) x_3 fun (x_4:(Int × Int × Int × Int)) =>
 callW Tryz.prog Zh8 [.pointer x_2,.agg ⟨[.int .u8 x_4.1,.int .i32 x_4.2.1,.int .i32 x_4.2.2.1,.int .i32 x_4.2.2.2]⟩,.int .i64 i0] [.sc (.int .i32),.sc (.int .i64)] fun (x_5:Int × Int) =>
 retW (x_5.1,x_5.2)
def Zed:Hints:={}
theorem Zp4 (i0:Int) (c1:Option Addr) (c2:Option Addr):denF Tryz.prog Zed Tryz.f161 [.sc (.int .i32),.sc (.int .i64)] [.int .i64 i0,.pointer c1,.pointer c2]=Z99 i0 c1 c2:=by kernel_rfl
theorem Zow {R:Type} (i0:Int) (c1:Option Addr) (c2:Option Addr) (K:Res [.sc (.int .i32),.sc (.int .i64)]→W R) (Q:R→World→Prop) (w:World) (h:Z99 i0 c1 c2 (fun r w=>K r Q w) w):callW Tryz.prog Zel [.int .i64 i0,.pointer c1,.pointer c2] [.sc (.int .i32),.sc (.int .i64)] K Q w :=
 Z0 mix Tryz.func161 Zed (ts:=[.sc (.int .i32),.sc (.int .i64)]) trivial (by rw [Tryz.ntmps161]; simp) (by rw [Zp4]; exact h)
def Zgr (d0:Option Addr) (o1:(Int × Int × Int × Int)) (p2:Int):W (Int × Int) :=
 newW 92 [.int .u8 o1.1,.int .i32 o1.2.1,.int .i32 o1.2.2.1,.int .i32 o1.2.2.2] fun x_1 =>
 callW Tryz.prog Z1a [.pointer d0,.int .i64 1] [.sc (.int .u64),.sc (.int .i64)] fun (x_2:Int × Int) =>
 joinW (σ:=Bool) (fun J_3 =>
  cond (x_2.2 != 0)
   (J_3 true)
   (J_3 (x_2.1 == 0)))
 <| fun s_4 =>
 cond s_4
  (idxW (some (Addr.add x_1 1)) 3 1 p2 fun x_5 =>
  ld (.sc (.int .i32)) x_5 fun (x_6:Int) =>
  retW (x_6,x_2.2))
  (callW Tryz.prog Z1a [.pointer d0,.int .i64 1] [.sc (.int .u64),.sc (.int .i64)] fun (x_7:Int × Int) =>
 cond (x_7.2 != 0)
  (retW (0,x_7.2))
  (cond (x_7.1 == 0)
  (ld (.sc (.int .u8)) (Addr.add x_1 0) fun (x_8:Int) =>
  callW Tryz.prog Zo8 [.pointer d0,.int .u8 x_8,.int .i64 p2] [.sc (.int .i32),.sc (.int .i64)] fun (x_9:Int × Int) =>
  joinW (σ:=Bool) (fun J_10 =>
   cond (x_9.2 == 0)
    (idxW (some (Addr.add x_1 1)) 3 1 p2 fun x_11 =>
        ld (.sc (.int .i32)) x_11 fun (x_12:Int) =>
         callW Tryz.prog Zia [.int .i64 (IntKind.wrap .i64 ((IntKind.wrap .i64 x_9.1) - (IntKind.wrap .i64 x_12)))] [.sc (.int .u64)] fun (x_13 : Int) =>
            J_10 (decide (x_13≤16)))
    (J_10 false))
  <| fun s_14 =>
  cond s_14
   (retW (0,4))
   (retW (x_9.1,x_9.2)))
  (callW Tryz.prog Z1a [.pointer d0,.int .i64 4] [.sc (.int .u64),.sc (.int .i64)] fun (x_15:Int × Int) =>
 cond (x_15.2 != 0)
  (retW (0,x_15.2))
  (drawW <|
 idxW (some (Addr.add x_1 1)) 3 1 p2 fun x_16 =>
 ld (.sc (.int .i32)) x_16 fun (x_17:Int) =>
 callW Tryz.prog Zpt [.int .u64 (IntKind.wrap .u64 (x_15.1+1))] [.sc (.int .i64)] fun (x_18:Int) =>
 andW (fun w=>Rd w x_16 (.sc (.int .i32)) x_17) <|
 ld (.sc (.int .u8)) (Addr.add x_1 0) fun (x_19:Int) =>
 callW Tryz.prog Z6o [.int .u8 x_19,.int .i64 p2] [.sc (.int .i32),.sc (.int .i32),.sc (.int .i64)] fun (x_20:Int × Int × Int) =>
 joinW (σ:=Bool) (fun J_21 =>
  cond (decide ((IntKind.wrap .i64 ((IntKind.wrap .i64 x_17)+x_18)) < (IntKind.wrap .i64 x_20.1)))
   (J_21 true)
   (J_21 (decide ((IntKind.wrap .i64 ((IntKind.wrap .i64 x_17)+x_18)) > (IntKind.wrap .i64 x_20.2.1)))))
 <| fun s_22 =>
 cond s_22
  (retW (0,5))
  (retW (IntKind.wrap .i32 (IntKind.wrap .i64 ((IntKind.wrap .i64 x_17)+x_18)),0))))))
def Zqd:Hints:={ reg:=[(2,[(29,.sc .bool)]),(9,[(66,.sc .bool)]),(17,[(103,.sc .bool)])],dr:=[(15,([],[[(0,[]),(1,[]),(2,[]),(3,[]),(4,[]),(5,[]),(6,[]),(7,[3]),(8,[]),(9,[])]]))] }
theorem Zxz (d0:Option Addr) (o1:(Int × Int × Int × Int)) (p2:Int):denF Tryz.prog Zqd Tryz.f162 [.sc (.int .i32),.sc (.int .i64)] [.pointer d0,.agg ⟨[.int .u8 o1.1,.int .i32 o1.2.1,.int .i32 o1.2.2.1,.int .i32 o1.2.2.2]⟩,.int .i64 p2]=Zgr d0 o1 p2:=by kernel_rfl
theorem Zxn {R:Type} (d0:Option Addr) (o1:(Int × Int × Int × Int)) (p2:Int) (K:Res [.sc (.int .i32),.sc (.int .i64)]→W R) (Q:R→World→Prop) (w:World) (h:Zgr d0 o1 p2 (fun r w=>K r Q w) w):callW Tryz.prog Zh8 [.pointer d0,.agg ⟨[.int .u8 o1.1,.int .i32 o1.2.1,.int .i32 o1.2.2.1,.int .i32 o1.2.2.2]⟩,.int .i64 p2] [.sc (.int .i32),.sc (.int .i64)] K Q w :=
 Z0 mix Tryz.func162 Zqd (ts:=[.sc (.int .i32),.sc (.int .i64)]) trivial (by rw [Tryz.ntmps162]; simp) (by rw [Zxz]; exact h)
def Zgs (c0:(Int × Int × Int × Int)):W (Sl) :=
 newW 92 [.int .u8 c0.1,.int .i32 c0.2.1,.int .i32 c0.2.2.1,.int .i32 c0.2.2.2] fun c_1 =>
 ld (.sc (.int .u8)) (Addr.add c_1 0) fun (x_2:Int) =>
 callW Tryz.prog Z38 [.int .u8 x_2] [.sc (.int .i64)] fun (x_3:Int) =>
 loopW (σ:=Sl × Int) (fun K_4 s_5 =>
  cond (decide (s_5.2 < x_3))
   (ld (.agg [.int .u8,.int .i32,.int .i32,.int .i32]) c_1 fun (x_6:(Int × Int × Int × Int)) =>
  callW Tryz.prog Zdb [.agg ⟨[.int .u8 x_6.1,.int .i32 x_6.2.1,.int .i32 x_6.2.2.1,.int .i32 x_6.2.2.2]⟩,.int .i64 s_5.2] [.agg [.int .u64,.int .i64]] fun (x_7:(Int × Int)) =>
  newW 231 [.int .u64 x_7.1,.int .i64 x_7.2] fun x_8 =>
  rawW Tryz.prog (Builtin.append_ #[202,202] 202 #[.slice s_5.1.a s_5.1.n s_5.1.c,.slice (some x_8) 1 1]) [.sc .sl] fun (x_9:Sl) =>
  K_4 (x_9,IntKind.wrap .i64 (s_5.2+1)))
   (retW s_5.1))
  ((⟨none,0,0⟩:Sl),0)
def Zqe:Hints:={ lop:=[(0,[(3,.sc .sl),(8,.sc (.int .i64))])] }
theorem Zy0 (c0:(Int × Int × Int × Int)):denF Tryz.prog Zqe Tryz.f164 [.sc .sl] [.agg ⟨[.int .u8 c0.1,.int .i32 c0.2.1,.int .i32 c0.2.2.1,.int .i32 c0.2.2.2]⟩]=Zgs c0:=by kernel_rfl
theorem Zxo {R:Type} (c0:(Int × Int × Int × Int)) (K:Res [.sc .sl]→W R) (Q:R→World→Prop) (w:World) (h:Zgs c0 (fun r w=>K r Q w) w):callW Tryz.prog Zh9 [.agg ⟨[.int .u8 c0.1,.int .i32 c0.2.1,.int .i32 c0.2.2.1,.int .i32 c0.2.2.2]⟩] [.sc .sl] K Q w :=
 Z0 mix Tryz.func164 Zqe (ts:=[.sc .sl]) trivial (by rw [Tryz.ntmps164]; simp) (by rw [Zy0]; exact h)
def Zdn (c0:(Int × Int × Int × Int)) (c1:Option Addr):W (Bool) :=
 newW 92 [.int .u8 c0.1,.int .i32 c0.2.1,.int .i32 c0.2.2.1,.int .i32 c0.2.2.2] fun c_1 =>
 ld (.sc (.int .u8)) (Addr.add c_1 0) fun (x_2:Int) =>
 ptrW c1 fun x_3 =>
 ld (.sc (.int .u8)) x_3 fun (x_4:Int) =>
 retW (x_2 == x_4)
def Zjk:Hints:={}
theorem Zu2 (c0:(Int × Int × Int × Int)) (c1:Option Addr):denF Tryz.prog Zjk Tryz.f165 [.sc .bool] [.agg ⟨[.int .u8 c0.1,.int .i32 c0.2.1,.int .i32 c0.2.2.1,.int .i32 c0.2.2.2]⟩,.pointer c1]=Zdn c0 c1:=by kernel_rfl
theorem Zto {R:Type} (c0:(Int × Int × Int × Int)) (c1:Option Addr) (K:Res [.sc .bool]→W R) (Q:R→World→Prop) (w:World) (h:Zdn c0 c1 (fun r w=>K r Q w) w):callW Tryz.prog Ze1 [.agg ⟨[.int .u8 c0.1,.int .i32 c0.2.1,.int .i32 c0.2.2.1,.int .i32 c0.2.2.2]⟩,.pointer c1] [.sc .bool] K Q w :=
 Z0 mix Tryz.func165 Zjk (ts:=[.sc .bool]) trivial (by rw [Tryz.ntmps165]; simp) (by rw [Zu2]; exact h)
def Zlq (l0:Sl):W (Int) :=
 loopW (σ:=Int × Int) (fun K_1 s_2 =>
  cond (decide (s_2.2 < (l0.n:Int)))
   (idxW l0.a l0.n 2 s_2.2 fun x_3 =>
  ld (.agg [.int .u64,.int .i64]) x_3 fun (x_4:(Int × Int)) =>
  newW 231 [.int .u64 0,.int .i64 0] fun p_5 =>
  stoL p_5 [.int .u64 x_4.1,.int .i64 x_4.2] 0 <|
  ld (.sc (.int .i64)) (Addr.add p_5 1) fun (x_6:Int) =>
  K_1 (IntKind.wrap .i64 (s_2.1+x_6),IntKind.wrap .i64 (s_2.2+1)))
   (retW s_2.1))
  (0,0)
def Zs7:Hints:={ lop:=[(0,[(3,.sc (.int .i64)),(8,.sc (.int .i64))])] }
theorem Z107 (l0:Sl):denF Tryz.prog Zs7 Tryz.f166 [.sc (.int .i64)] [.slice l0.a l0.n l0.c]=Zlq l0:=by kernel_rfl
theorem Zzq {R:Type} (l0:Sl) (K:Res [.sc (.int .i64)]→W R) (Q:R→World→Prop) (w:World) (h:Zlq l0 (fun r w=>K r Q w) w):callW Tryz.prog Zma [.slice l0.a l0.n l0.c] [.sc (.int .i64)] K Q w :=
 Z0 mix Tryz.func166 Zs7 (ts:=[.sc (.int .i64)]) trivial (by rw [Tryz.ntmps166]; simp) (by rw [Z107]; exact h)
def Zlo (was0:(Int × Int × Int × Int)) (c1:(Int × Int × Int × Int)) (i2:Int):W (Int) :=
 newW 92 [.int .u8 was0.1,.int .i32 was0.2.1,.int .i32 was0.2.2.1,.int .i32 was0.2.2.2] fun was_1 =>
 newW 92 [.int .u8 c1.1,.int .i32 c1.2.1,.int .i32 c1.2.2.1,.int .i32 c1.2.2.2] fun c_2 =>
 drawW <|
 idxW (some (Addr.add c_2 1)) 3 1 i2 fun x_3 =>
 ld (.sc (.int .i32)) x_3 fun (x_4:Int) =>
 idxW (some (Addr.add was_1 1)) 3 1 i2 fun x_5 =>
 ld (.sc (.int .i32)) x_5 fun (x_6:Int) =>
 callW Tryz.prog Zia [.int .i64 (IntKind.wrap .i64 ((IntKind.wrap .i64 x_4) - (IntKind.wrap .i64 x_6)))] [.sc (.int .u64)] fun (x_7:Int) =>
 retW x_7
def Zs5:Hints:={ dr:=[(1,([],[[(0,[]),(1,[]),(2,[]),(3,[]),(4,[]),(5,[]),(6,[]),(7,[]),(8,[]),(9,[]),(10,[]),(11,[]),(12,[])]]))] }
theorem Z105 (was0:(Int × Int × Int × Int)) (c1:(Int × Int × Int × Int)) (i2:Int):denF Tryz.prog Zs5 Tryz.f168 [.sc (.int .u64)] [.agg ⟨[.int .u8 was0.1,.int .i32 was0.2.1,.int .i32 was0.2.2.1,.int .i32 was0.2.2.2]⟩,.agg ⟨[.int .u8 c1.1,.int .i32 c1.2.1,.int .i32 c1.2.2.1,.int .i32 c1.2.2.2]⟩,.int .i64 i2]=Zlo was0 c1 i2:=by kernel_rfl
theorem Zzo {R:Type} (was0:(Int × Int × Int × Int)) (c1:(Int × Int × Int × Int)) (i2:Int) (K:Res [.sc (.int .u64)]→W R) (Q:R→World→Prop) (w:World) (h:Zlo was0 c1 i2 (fun r w=>K r Q w) w):callW Tryz.prog Zm8 [.agg ⟨[.int .u8 was0.1,.int .i32 was0.2.1,.int .i32 was0.2.2.1,.int .i32 was0.2.2.2]⟩,.agg ⟨[.int .u8 c1.1,.int .i32 c1.2.1,.int .i32 c1.2.2.1,.int .i32 c1.2.2.2]⟩,.int .i64 i2] [.sc (.int .u64)] K Q w :=
 Z0 mix Tryz.func168 Zs5 (ts:=[.sc (.int .u64)]) trivial (by rw [Tryz.ntmps168]; simp) (by rw [Z105]; exact h)
def Zgq (c0:(Int × Int × Int × Int)) (i1:Int):W ((Int × Int)) :=
 newW 92 [.int .u8 c0.1,.int .i32 c0.2.1,.int .i32 c0.2.2.1,.int .i32 c0.2.2.2] fun c_1 =>
 newW 231 [.int .u64 0,.int .i64 0] fun x_2 =>
 ld (.sc (.int .u8)) (Addr.add c_1 0) fun (x_3:Int) =>
 callW Tryz.prog Z6o [.int .u8 x_3,.int .i64 i1] [.sc (.int .i32),.sc (.int .i32),.sc (.int .i64)] fun (x_4:Int × Int × Int) =>
 drawW <|
 idxW (some (Addr.add c_1 1)) 3 1 i1 fun x_5 =>
 ld (.sc (.int .i32)) x_5 fun (x_6:Int) =>
 callW Tryz.prog Zaa [.int .i64 (IntKind.wrap .i64 x_4.1),.int .i64 (IntKind.wrap .i64 x_4.2.1)] [.sc (.int .i64)] fun (x_7:Int) =>
 andW (fun w=>Rd w x_5 (.sc (.int .i32)) x_6) <|
 stoL x_2 [.int .u64 (IntKind.wrap .u64 (IntKind.wrap .i64 ((IntKind.wrap .i64 x_6) - (IntKind.wrap .i64 x_4.1)))),.int .i64 x_7] 0 <|
 ld (.agg [.int .u64,.int .i64]) x_2 fun (x_8:(Int × Int)) =>
 retW x_8
def Zqc:Hints:={ dr:=[(2,([],[[(0,[]),(1,[]),(2,[]),(3,[]),(4,[]),(5,[]),(6,[]),(7,[]),(8,[]),(9,[]),(10,[]),(11,[]),(12,[]),(13,[3]),(14,[]),(15,[])]]))] }
theorem Zxy (c0:(Int × Int × Int × Int)) (i1:Int):denF Tryz.prog Zqc Tryz.f169 [.agg [.int .u64,.int .i64]] [.agg ⟨[.int .u8 c0.1,.int .i32 c0.2.1,.int .i32 c0.2.2.1,.int .i32 c0.2.2.2]⟩,.int .i64 i1]=Zgq c0 i1:=by kernel_rfl
theorem Zxm {R:Type} (c0:(Int × Int × Int × Int)) (i1:Int) (K:Res [.agg [.int .u64,.int .i64]]→W R) (Q:R→World→Prop) (w:World) (h:Zgq c0 i1 (fun r w=>K r Q w) w):callW Tryz.prog Zdb [.agg ⟨[.int .u8 c0.1,.int .i32 c0.2.1,.int .i32 c0.2.2.1,.int .i32 c0.2.2.2]⟩,.int .i64 i1] [.agg [.int .u64,.int .i64]] K Q w :=
 Z0 mix Tryz.func169 Zqc (ts:=[.agg [.int .u64,.int .i64]]) ⟨by kernel_rfl,trivial⟩ (by rw [Tryz.ntmps169]; simp) (by rw [Zxy]; exact h)
def Zj (x0:Sl) (target1:Int):W (Int × Bool) :=
 loopW (σ:=Int × Int) (fun K_1 s_2 =>
  cond (decide (s_2.1 < s_2.2))
   (idxW x0.a x0.n 2 (IntKind.wrap .i64 (shR .u64 (IntKind.wrap .u64 (IntKind.wrap .i64 (s_2.1+s_2.2))) 1)) fun x_3 =>
  ld (.agg [.int .u32,.sl]) x_3 fun (x_4:(Int × Sl)) =>
  callW Tryz.prog Z9s [.agg ⟨[.int .u32 x_4.1,.slice x_4.2.a x_4.2.n x_4.2.c]⟩,.int .u32 target1] [.sc (.int .i64)] fun (x_5:Int) =>
  joinW (σ:=Int × Int) (fun J_6 =>
   cond (decide (x_5 < 0))
    (J_6 (IntKind.wrap .i64 ((IntKind.wrap .i64 (shR .u64 (IntKind.wrap .u64 (IntKind.wrap .i64 (s_2.1+s_2.2))) 1))+1),s_2.2))
    (J_6 (s_2.1,IntKind.wrap .i64 (shR .u64 (IntKind.wrap .u64 (IntKind.wrap .i64 (s_2.1+s_2.2))) 1))))
  <| fun s_7 =>
  K_1 (s_7.1,s_7.2))
   (joinW (σ:=Int × Bool) (fun J_8 =>
  cond (decide (s_2.1 < (x0.n:Int)))
   (idxW x0.a x0.n 2 s_2.1 fun x_9 =>
      ld (.agg [.int .u32,.sl]) x_9 fun (x_10:(Int × Sl)) =>
       callW Tryz.prog Z9s [.agg ⟨[.int .u32 x_10.1,.slice x_10.2.a x_10.2.n x_10.2.c]⟩,.int .u32 target1] [.sc (.int .i64)] fun (x_11:Int) =>
         J_8 (s_2.1,(x_11 == 0)))
   (J_8 (s_2.1,false)))
 <| fun s_12 =>
 retW (s_12.1,s_12.2)))
  (0,(x0.n:Int))
def Z1f:Hints:={ reg:=[(8,[(6,.sc (.int .i64)),(7,.sc .bool)])],con:=[(7031,[(9,.sc (.int .i64)),(10,.sc (.int .i64))])],lop:=[(0,[(9,.sc (.int .i64)),(10,.sc (.int .i64))])] }
theorem Z3t (x0:Sl) (target1:Int):denF Tryz.prog Z1f Tryz.f170 [.sc (.int .i64),.sc .bool] [.slice x0.a x0.n x0.c,.int .u32 target1,.func (.func 171) #[] #[]]=Zj x0 target1:=by kernel_rfl
theorem Z3r {R:Type} (x0:Sl) (target1:Int) (K:Res [.sc (.int .i64),.sc .bool]→W R) (Q:R→World→Prop) (w:World) (h:Zj x0 target1 (fun r w=>K r Q w) w):callW Tryz.prog Z4e [.slice x0.a x0.n x0.c,.int .u32 target1,.func (.func 171) #[] #[]] [.sc (.int .i64),.sc .bool] K Q w :=
 Z0 mix Tryz.func170 Z1f (ts:=[.sc (.int .i64),.sc .bool]) trivial (by rw [Tryz.ntmps170]; simp) (by rw [Z3t]; exact h)
def Zdw (e0:(Int × Sl)) (id1:Int):W (Int) :=
 newW 57 [.int .u32 e0.1,.slice e0.2.a e0.2.n e0.2.c] fun e_1 =>
 ld (.sc (.int .u32)) (Addr.add e_1 0) fun (x_2:Int) =>
 callW Tryz.prog Z6s [.int .u32 x_2,.int .u32 id1] [.sc (.int .i64)] fun (x_3:Int) =>
 retW x_3
def Zjt:Hints:={}
theorem Zub (e0:(Int × Sl)) (id1:Int):denF Tryz.prog Zjt Tryz.f171 [.sc (.int .i64)] [.agg ⟨[.int .u32 e0.1,.slice e0.2.a e0.2.n e0.2.c]⟩,.int .u32 id1]=Zdw e0 id1:=by kernel_rfl
theorem Ztx {R:Type} (e0:(Int × Sl)) (id1:Int) (K:Res [.sc (.int .i64)]→W R) (Q:R→World→Prop) (w:World) (h:Zdw e0 id1 (fun r w=>K r Q w) w):callW Tryz.prog Z9s [.agg ⟨[.int .u32 e0.1,.slice e0.2.a e0.2.n e0.2.c]⟩,.int .u32 id1] [.sc (.int .i64)] K Q w :=
 Z0 mix Tryz.func171 Zjt (ts:=[.sc (.int .i64)]) trivial (by rw [Tryz.ntmps171]; simp) (by rw [Zub]; exact h)
def Z80 (r0:Option Addr):W (Int) :=
 cond (Option.isNone r0)
  (retW 0)
  (drawW <|
 ptrW r0 fun x_1 =>
 ld (.sc .sl) (Addr.add x_1 0) fun (x_2:Sl) =>
 ptrW r0 fun x_3 =>
 ld (.sc (.int .i64)) (Addr.add x_3 1) fun (x_4:Int) =>
 retW (IntKind.wrap .i64 ((IntKind.wrap .i64 (8 * (x_2.n:Int))) - x_4)))
def Zct:Hints:={ dr:=[(3,([],[[(0,[]),(1,[]),(2,[]),(3,[]),(4,[]),(5,[]),(6,[]),(7,[]),(8,[]),(9,[]),(10,[]),(11,[])]]))] }
theorem Zn8 (r0:Option Addr):denF Tryz.prog Zct Tryz.f172 [.sc (.int .i64)] [.pointer r0]=Z80 r0:=by kernel_rfl
theorem Zms {R:Type} (r0:Option Addr) (K:Res [.sc (.int .i64)]→W R) (Q:R→World→Prop) (w:World) (h:Z80 r0 (fun r w=>K r Q w) w):callW Tryz.prog Z8l [.pointer r0] [.sc (.int .i64)] K Q w :=
 Z0 mix Tryz.func172 Zct (ts:=[.sc (.int .i64)]) trivial (by rw [Tryz.ntmps172]; simp) (by rw [Zn8]; exact h)
def Z21 (r0:Option Addr):W (Int × Int) :=
 cond (Option.isNone r0)
  (retW (0,10))
  (ptrW r0 fun x_1 =>
 ld (.agg [.sl,.int .i64]) x_1 fun (x_2:(Sl × Int)) =>
 newW 173 [.slice none 0 0,.int .i64 0] fun was_3 =>
 stoL was_3 [.slice x_2.1.a x_2.1.n x_2.1.c,.int .i64 x_2.2] 0 <|
 callW Tryz.prog Zfn [.pointer r0] [.sc (.int .u64),.sc (.int .i64)] fun (x_4:Int × Int) =>
 cond (x_4.2 != 0)
  (ld (.agg [.sl,.int .i64]) was_3 fun (x_5:(Sl × Int)) =>
  ptrW r0 fun x_6 =>
  stoL x_6 [.slice x_5.1.a x_5.1.n x_5.1.c,.int .i64 x_5.2] 0 <|
  retW (0,x_4.2))
  (retW (x_4.1,0)))
def Z3q:Hints:={}
theorem Z9y (r0:Option Addr):denF Tryz.prog Z3q Tryz.f173 [.sc (.int .u64),.sc (.int .i64)] [.pointer r0,.func (.func 174) #[] #[]]=Z21 r0:=by kernel_rfl
theorem Z9x {R:Type} (r0:Option Addr) (K:Res [.sc (.int .u64),.sc (.int .i64)]→W R) (Q:R→World→Prop) (w:World) (h:Z21 r0 (fun r w=>K r Q w) w):callW Tryz.prog Zem [.pointer r0,.func (.func 174) #[] #[]] [.sc (.int .u64),.sc (.int .i64)] K Q w :=
 Z0 mix Tryz.func173 Z3q (ts:=[.sc (.int .u64),.sc (.int .i64)]) trivial (by rw [Tryz.ntmps173]; simp) (by rw [Z9y]; exact h)
def Zf5 (r0:Option Addr):W (Int × Int) :=
 loopW (σ:=Int × Int) (fun K_1 s_2 =>
  cond (decide (s_2.2 < 16))
   (callW Tryz.prog Z1a [.pointer r0,.int .i64 5] [.sc (.int .u64),.sc (.int .i64)] fun (x_3:Int × Int) =>
  cond (x_3.2 != 0)
   (retW (0,x_3.2))
   (chkW (0≤(IntKind.wrap .i64 (4 * s_2.2))) <|
  cond ((shR .u64 x_3.1 4) == 0)
   (callW Tryz.prog Zb7 [.int .u64 (bOr .u64 s_2.1 (shL .u64 (bAnd .u64 x_3.1 15) (IntKind.wrap .i64 (4 * s_2.2))))] [.sc (.int .i64)] fun (x_4:Int) =>
   cond (x_4 != (IntKind.wrap .i64 (s_2.2+1)))
    (retW (0,4))
    (retW (bOr .u64 s_2.1 (shL .u64 (bAnd .u64 x_3.1 15) (IntKind.wrap .i64 (4 * s_2.2))),0)))
   (K_1 (bOr .u64 s_2.1 (shL .u64 (bAnd .u64 x_3.1 15) (IntKind.wrap .i64 (4 * s_2.2))),IntKind.wrap .i64 (s_2.2+1)))))
   (retW (0,4)))
  (0,0)
def Znv:Hints:={ lop:=[(0,[(4,.sc (.int .u64)),(8,.sc (.int .i64))])] }
theorem Zw6 (r0:Option Addr):denF Tryz.prog Znv Tryz.f174 [.sc (.int .u64),.sc (.int .i64)] [.pointer r0]=Zf5 r0:=by kernel_rfl
theorem Zvs {R:Type} (r0:Option Addr) (K:Res [.sc (.int .u64),.sc (.int .i64)]→W R) (Q:R→World→Prop) (w:World) (h:Zf5 r0 (fun r w=>K r Q w) w):callW Tryz.prog Zfn [.pointer r0] [.sc (.int .u64),.sc (.int .i64)] K Q w :=
 Z0 mix Tryz.func174 Znv (ts:=[.sc (.int .u64),.sc (.int .i64)]) trivial (by rw [Tryz.ntmps174]; simp) (by rw [Zw6]; exact h)
def Zf0 (i0:Int) (c1:Option Addr) (c2:Option Addr):W (Int × Int) :=
 ptrW c1 fun x_1 =>
 ld (.sc .ptr) x_1 fun (x_2:Option Addr) =>
 ptrW c2 fun x_3 =>
 ld (.sc (.int .u8)) x_3 fun (x_4:Int) =>
 callW Tryz.prog Zo8 [.pointer x_2,.int .u8 x_4,.int .i64 i0] [.sc (.int .i32),.sc (.int .i64)] fun (x_5:Int × Int) =>
 retW (x_5.1,x_5.2)
def Znq:Hints:={}
theorem Zw1 (i0:Int) (c1:Option Addr) (c2:Option Addr):denF Tryz.prog Znq Tryz.f175 [.sc (.int .i32),.sc (.int .i64)] [.int .i64 i0,.pointer c1,.pointer c2]=Zf0 i0 c1 c2:=by kernel_rfl
theorem Zvn {R:Type} (i0:Int) (c1:Option Addr) (c2:Option Addr) (K:Res [.sc (.int .i32),.sc (.int .i64)]→W R) (Q:R→World→Prop) (w:World) (h:Zf0 i0 c1 c2 (fun r w=>K r Q w) w):callW Tryz.prog Zo7 [.int .i64 i0,.pointer c1,.pointer c2] [.sc (.int .i32),.sc (.int .i64)] K Q w :=
 Z0 mix Tryz.func175 Znq (ts:=[.sc (.int .i32),.sc (.int .i64)]) trivial (by rw [Tryz.ntmps175]; simp) (by rw [Zw1]; exact h)
def Zs3 (r0:Option Addr) (kind1:Int) (i2:Int):W (Int × Int) :=
 callW Tryz.prog Z6o [.int .u8 kind1,.int .i64 i2] [.sc (.int .i32),.sc (.int .i32),.sc (.int .i64)] fun (x_1:Int × Int × Int) =>
 callW Tryz.prog Z1b [.pointer r0,.int .i64 (IntKind.wrap .i64 x_1.1),.int .i64 (IntKind.wrap .i64 x_1.2.1)] [.sc (.int .i64),.sc (.int .i64)] fun (x_2:Int × Int) =>
 retW (IntKind.wrap .i32 x_2.1,x_2.2)
def Zya:Hints:={}
theorem Z13j (r0:Option Addr) (kind1:Int) (i2:Int):denF Tryz.prog Zya Tryz.f176 [.sc (.int .i32),.sc (.int .i64)] [.pointer r0,.int .u8 kind1,.int .i64 i2]=Zs3 r0 kind1 i2:=by kernel_rfl
theorem Z13i {R:Type} (r0:Option Addr) (kind1:Int) (i2:Int) (K:Res [.sc (.int .i32),.sc (.int .i64)]→W R) (Q:R→World→Prop) (w:World) (h:Zs3 r0 kind1 i2 (fun r w=>K r Q w) w):callW Tryz.prog Zo8 [.pointer r0,.int .u8 kind1,.int .i64 i2] [.sc (.int .i32),.sc (.int .i64)] K Q w :=
 Z0 mix Tryz.func176 Zya (ts:=[.sc (.int .i32),.sc (.int .i64)]) trivial (by rw [Tryz.ntmps176]; simp) (by rw [Z13j]; exact h)
def Zp (data0:Sl) (n1:Int):W (Unit) :=
 loopW (σ:=Int × Int) (fun K_1 s_2 =>
  cond (decide (s_2.2≤n1))
   (callW Tryz.prog Z1d [.slice data0.a data0.n data0.c,.int .i64 s_2.1,.int .i64 s_2.2,.func (.func 150) #[] #[]] [] fun (x_3:Unit) =>
  K_1 (s_2.2,IntKind.wrap .i64 (s_2.2+20)))
   (callW Tryz.prog Z1d [.slice data0.a data0.n data0.c,.int .i64 s_2.1,.int .i64 n1,.func (.func 150) #[] #[]] [] fun (x_4:Unit) =>
 loopW (σ:=Int) (fun K_5 s_6 =>
  cond (decide (s_6 < n1))
   (loopW (σ:=Int × Int) (fun K_7 s_8 =>
   cond (decide (s_8.2≤n1))
    (callW Tryz.prog Z4f [.slice data0.a data0.n data0.c,.int .i64 s_8.1,.int .i64 (IntKind.wrap .i64 (s_8.1+s_6)),.int .i64 s_8.2,.func (.func 150) #[] #[]] [] fun (x_9:Unit) =>
   K_7 (s_8.2,IntKind.wrap .i64 (s_8.2+(IntKind.wrap .i64 (2 * s_6)))))
    (joinW (σ:=Unit) (fun J_10 =>
   cond (decide ((IntKind.wrap .i64 (s_8.1+s_6)) < n1))
    (callW Tryz.prog Z4f [.slice data0.a data0.n data0.c,.int .i64 s_8.1,.int .i64 (IntKind.wrap .i64 (s_8.1+s_6)),.int .i64 n1,.func (.func 150) #[] #[]] [] fun (x_11:Unit) =>
    J_10 ())
    (J_10 ()))
  <| fun s_12 =>
  K_5 (IntKind.wrap .i64 (s_6 * 2))))
   (0,IntKind.wrap .i64 (2 * s_6)))
   (retW ()))
  20))
  (0,20)
def Z1v:Hints:={ con:=[(16054,[])],lop:=[(0,[(7,.sc (.int .i64)),(8,.sc (.int .i64))]),(2,[(6,.sc (.int .i64))]),(4,[(7,.sc (.int .i64)),(8,.sc (.int .i64))])] }
theorem Z4o (data0:Sl) (n1:Int):denF Tryz.prog Z1v Tryz.f177 [] [.slice data0.a data0.n data0.c,.int .i64 n1,.func (.func 150) #[] #[]]=Zp data0 n1:=by kernel_rfl
theorem Z4l {R:Type} (data0:Sl) (n1:Int) (K:Res []→W R) (Q:R→World→Prop) (w:World) (h:Zp data0 n1 (fun r w=>K r Q w) w):callW Tryz.prog Z5l [.slice data0.a data0.n data0.c,.int .i64 n1,.func (.func 150) #[] #[]] [] K Q w :=
 Z0 mix Tryz.func177 Z1v (ts:=[]) trivial (by rw [Tryz.ntmps177]; simp) (by rw [Z4o]; exact h)
def Zb (data0:Sl) (a1:Int) (b2:Int):W (Unit) :=
 loopW (σ:=Int) (fun K_1 s_2 =>
  cond (decide (s_2 < b2))
   (loopW (σ:=Int) (fun K_3 s_4 =>
   joinW (σ:=Bool) (fun J_5 =>
    drawW <|
    cond (decide (s_4 > a1))
     (idxW data0.a data0.n 2 s_4 fun x_6 =>
        ld (.agg [.int .u32,.sl]) x_6 fun (x_7:(Int × Sl)) =>
         idxW data0.a data0.n 2 (IntKind.wrap .i64 (s_4 - 1)) fun x_8 =>
             ld (.agg [.int .u32,.sl]) x_8 fun (x_9:(Int × Sl)) =>
              callW Tryz.prog Z24 [.agg ⟨[.int .u32 x_7.1,.slice x_7.2.a x_7.2.n x_7.2.c]⟩,.agg ⟨[.int .u32 x_9.1,.slice x_9.2.a x_9.2.n x_9.2.c]⟩] [.sc (.int .i64)] fun (x_10:Int) =>
               J_5 (decide (x_10 < 0)))
     (J_5 false))
   <| fun s_11 =>
   cond s_11
    (drawW <|
   idxW data0.a data0.n 2 (IntKind.wrap .i64 (s_4 - 1)) fun x_12 =>
   ld (.agg [.int .u32,.sl]) x_12 fun (x_13:(Int × Sl)) =>
   idxW data0.a data0.n 2 s_4 fun x_14 =>
   ld (.agg [.int .u32,.sl]) x_14 fun (x_15:(Int × Sl)) =>
   idxW data0.a data0.n 2 s_4 fun x_16 =>
   stoL x_16 [.int .u32 x_13.1,.slice x_13.2.a x_13.2.n x_13.2.c] 0 <|
   idxW data0.a data0.n 2 (IntKind.wrap .i64 (s_4 - 1)) fun x_17 =>
   stoL x_17 [.int .u32 x_15.1,.slice x_15.2.a x_15.2.n x_15.2.c] 0 <|
   K_3 (IntKind.wrap .i64 (s_4 - 1)))
    (K_1 (IntKind.wrap .i64 (s_2+1))))
   s_2)
   (retW ()))
  (IntKind.wrap .i64 (a1+1))
def Z14:Hints:={ reg:=[(4,[(34,.sc .bool)])],lop:=[(0,[(8,.sc (.int .i64))]),(2,[(9,.sc (.int .i64))])],dr:=[(4,([],[[(0,[]),(1,[]),(2,[]),(3,[]),(4,[]),(5,[]),(6,[]),(7,[]),(8,[]),(9,[]),(10,[]),(11,[]),(12,[]),(13,[]),(14,[]),(15,[]),(16,[])]])),(6,([],[[(0,[]),(1,[]),(2,[]),(3,[]),(4,[]),(5,[]),(6,[]),(7,[]),(8,[]),(9,[]),(10,[]),(11,[]),(12,[]),(13,[]),(14,[]),(15,[]),(16,[]),(17,[])]]))] }
theorem Z33 (data0:Sl) (a1:Int) (b2:Int):denF Tryz.prog Z14 Tryz.f179 [] [.slice data0.a data0.n data0.c,.int .i64 a1,.int .i64 b2,.func (.func 121) #[] #[]]=Zb data0 a1 b2:=by kernel_rfl
theorem Z31 {R:Type} (data0:Sl) (a1:Int) (b2:Int) (K:Res []→W R) (Q:R→World→Prop) (w:World) (h:Zb data0 a1 b2 (fun r w=>K r Q w) w):callW Tryz.prog Zt [.slice data0.a data0.n data0.c,.int .i64 a1,.int .i64 b2,.func (.func 121) #[] #[]] [] K Q w :=
 Z0 mix Tryz.func179 Z14 (ts:=[]) trivial (by rw [Tryz.ntmps179]; simp) (by rw [Z33]; exact h)
def Zk (d0:Sl) (o1:Int) (p2:Int) (p3:Int):W (Unit) :=
 cond ((IntKind.wrap .i64 (p2 - o1)) == 1)
  (loopW (σ:=Int × Int) (fun K_1 s_2 =>
   cond (decide (s_2.1 < s_2.2))
    (drawW <|
   idxW d0.a d0.n 2 (IntKind.wrap .i64 (shR .u64 (IntKind.wrap .u64 (IntKind.wrap .i64 (s_2.1+s_2.2))) 1)) fun x_3 =>
   ld (.agg [.int .u32,.sl]) x_3 fun (x_4:(Int × Sl)) =>
   idxW d0.a d0.n 2 o1 fun x_5 =>
   ld (.agg [.int .u32,.sl]) x_5 fun (x_6:(Int × Sl)) =>
   callW Tryz.prog Z24 [.agg ⟨[.int .u32 x_4.1,.slice x_4.2.a x_4.2.n x_4.2.c]⟩,.agg ⟨[.int .u32 x_6.1,.slice x_6.2.a x_6.2.n x_6.2.c]⟩] [.sc (.int .i64)] fun (x_7:Int) =>
   joinW (σ:=Int × Int) (fun J_8 =>
    cond (decide (x_7 < 0))
     (J_8 (IntKind.wrap .i64 ((IntKind.wrap .i64 (shR .u64 (IntKind.wrap .u64 (IntKind.wrap .i64 (s_2.1+s_2.2))) 1))+1),s_2.2))
     (J_8 (s_2.1,IntKind.wrap .i64 (shR .u64 (IntKind.wrap .u64 (IntKind.wrap .i64 (s_2.1+s_2.2))) 1))))
   <| fun s_9 =>
   K_1 (s_9.1,s_9.2))
    (loopW (σ:=Int) (fun K_10 s_11 =>
   cond (decide (s_11 < (IntKind.wrap .i64 (s_2.1 - 1))))
    (drawW <|
   idxW d0.a d0.n 2 (IntKind.wrap .i64 (s_11+1)) fun x_12 =>
   ld (.agg [.int .u32,.sl]) x_12 fun (x_13:(Int × Sl)) =>
   idxW d0.a d0.n 2 s_11 fun x_14 =>
   ld (.agg [.int .u32,.sl]) x_14 fun (x_15:(Int × Sl)) =>
   idxW d0.a d0.n 2 s_11 fun x_16 =>
   stoL x_16 [.int .u32 x_13.1,.slice x_13.2.a x_13.2.n x_13.2.c] 0 <|
   idxW d0.a d0.n 2 (IntKind.wrap .i64 (s_11+1)) fun x_17 =>
   stoL x_17 [.int .u32 x_15.1,.slice x_15.2.a x_15.2.n x_15.2.c] 0 <|
   K_10 (IntKind.wrap .i64 (s_11+1)))
    (retW ()))
   o1))
   (p2,p3))
  (cond ((IntKind.wrap .i64 (p3 - p2)) == 1)
  (loopW (σ:=Int × Int) (fun K_18 s_19 =>
   cond (decide (s_19.1 < s_19.2))
    (drawW <|
   idxW d0.a d0.n 2 p2 fun x_20 =>
   ld (.agg [.int .u32,.sl]) x_20 fun (x_21:(Int × Sl)) =>
   idxW d0.a d0.n 2 (IntKind.wrap .i64 (shR .u64 (IntKind.wrap .u64 (IntKind.wrap .i64 (s_19.1+s_19.2))) 1)) fun x_22 =>
   ld (.agg [.int .u32,.sl]) x_22 fun (x_23:(Int × Sl)) =>
   callW Tryz.prog Z24 [.agg ⟨[.int .u32 x_21.1,.slice x_21.2.a x_21.2.n x_21.2.c]⟩,.agg ⟨[.int .u32 x_23.1,.slice x_23.2.a x_23.2.n x_23.2.c]⟩] [.sc (.int .i64)] fun (x_24:Int) =>
   joinW (σ:=Int × Int) (fun J_25 =>
    cond (!(decide (x_24 < 0)))
     (J_25 (IntKind.wrap .i64 ((IntKind.wrap .i64 (shR .u64 (IntKind.wrap .u64 (IntKind.wrap .i64 (s_19.1+s_19.2))) 1))+1),s_19.2))
     (J_25 (s_19.1,IntKind.wrap .i64 (shR .u64 (IntKind.wrap .u64 (IntKind.wrap .i64 (s_19.1+s_19.2))) 1))))
   <| fun s_26 =>
   K_18 (s_26.1,s_26.2))
    (loopW (σ:=Int) (fun K_27 s_28 =>
   cond (decide (s_28 > s_19.1))
    (drawW <|
   idxW d0.a d0.n 2 (IntKind.wrap .i64 (s_28 - 1)) fun x_29 =>
   ld (.agg [.int .u32,.sl]) x_29 fun (x_30:(Int × Sl)) =>
   idxW d0.a d0.n 2 s_28 fun x_31 =>
   ld (.agg [.int .u32,.sl]) x_31 fun (x_32:(Int × Sl)) =>
   idxW d0.a d0.n 2 s_28 fun x_33 =>
   stoL x_33 [.int .u32 x_30.1,.slice x_30.2.a x_30.2.n x_30.2.c] 0 <|
   idxW d0.a d0.n 2 (IntKind.wrap .i64 (s_28 - 1)) fun x_34 =>
   stoL x_34 [.int .u32 x_32.1,.slice x_32.2.a x_32.2.n x_32.2.c] 0 <|
   K_27 (IntKind.wrap .i64 (s_28 - 1)))
    (retW ()))
   p2))
   (o1,p2))
  (joinW (σ:=Int × Int) (fun J_35 =>
  cond (decide (p2 > (IntKind.wrap .i64 (shR .u64 (IntKind.wrap .u64 (IntKind.wrap .i64 (o1+p3))) 1))))
   (J_35 (IntKind.wrap .i64 ((IntKind.wrap .i64 ((IntKind.wrap .i64 (shR .u64 (IntKind.wrap .u64 (IntKind.wrap .i64 (o1+p3))) 1))+p2)) - p3),IntKind.wrap .i64 (shR .u64 (IntKind.wrap .u64 (IntKind.wrap .i64 (o1+p3))) 1)))
   (J_35 (o1,p2)))
 <| fun s_36 =>
 loopW (σ:=Int × Int) (fun K_37 s_38 =>
  cond (decide (s_38.1 < s_38.2))
   (drawW <|
  idxW d0.a d0.n 2 (IntKind.wrap .i64 ((IntKind.wrap .i64 ((IntKind.wrap .i64 ((IntKind.wrap .i64 (shR .u64 (IntKind.wrap .u64 (IntKind.wrap .i64 (o1+p3))) 1))+p2)) - 1)) - (IntKind.wrap .i64 (shR .u64 (IntKind.wrap .u64 (IntKind.wrap .i64 (s_38.1+s_38.2))) 1)))) fun x_39 =>
  ld (.agg [.int .u32,.sl]) x_39 fun (x_40:(Int × Sl)) =>
  idxW d0.a d0.n 2 (IntKind.wrap .i64 (shR .u64 (IntKind.wrap .u64 (IntKind.wrap .i64 (s_38.1+s_38.2))) 1)) fun x_41 =>
  ld (.agg [.int .u32,.sl]) x_41 fun (x_42:(Int × Sl)) =>
  callW Tryz.prog Z24 [.agg ⟨[.int .u32 x_40.1,.slice x_40.2.a x_40.2.n x_40.2.c]⟩,.agg ⟨[.int .u32 x_42.1,.slice x_42.2.a x_42.2.n x_42.2.c]⟩] [.sc (.int .i64)] fun (x_43:Int) =>
  joinW (σ:=Int × Int) (fun J_44 =>
   cond (!(decide (x_43 < 0)))
    (J_44 (IntKind.wrap .i64 ((IntKind.wrap .i64 (shR .u64 (IntKind.wrap .u64 (IntKind.wrap .i64 (s_38.1+s_38.2))) 1))+1),s_38.2))
    (J_44 (s_38.1,IntKind.wrap .i64 (shR .u64 (IntKind.wrap .u64 (IntKind.wrap .i64 (s_38.1+s_38.2))) 1))))
  <| fun s_45 =>
  K_37 (s_45.1,s_45.2))
   (joinW (σ:=Bool) (fun J_46 =>
  cond (decide (s_38.1 < p2))
   (J_46 (decide (p2 < (IntKind.wrap .i64 ((IntKind.wrap .i64 ((IntKind.wrap .i64 (shR .u64 (IntKind.wrap .u64 (IntKind.wrap .i64 (o1+p3))) 1))+p2)) - s_38.1)))))
   (J_46 false))
 <| fun s_47 =>
 joinW (σ:=Unit) (fun J_48 =>
  cond s_47
   (callW Tryz.prog Z2y [.slice d0.a d0.n d0.c,.int .i64 s_38.1,.int .i64 p2,.int .i64 (IntKind.wrap .i64 ((IntKind.wrap .i64 ((IntKind.wrap .i64 (shR .u64 (IntKind.wrap .u64 (IntKind.wrap .i64 (o1+p3))) 1))+p2)) - s_38.1)),.func (.func 121) #[] #[]] [] fun (x_49:Unit) =>
   J_48 ())
   (J_48 ()))
 <| fun s_50 =>
 joinW (σ:=Bool) (fun J_51 =>
  cond (decide (o1 < s_38.1))
   (J_51 (decide (s_38.1 < (IntKind.wrap .i64 (shR .u64 (IntKind.wrap .u64 (IntKind.wrap .i64 (o1+p3))) 1)))))
   (J_51 false))
 <| fun s_52 =>
 joinW (σ:=Unit) (fun J_53 =>
  cond s_52
   (callW Tryz.prog Zc [.slice d0.a d0.n d0.c,.int .i64 o1,.int .i64 s_38.1,.int .i64 (IntKind.wrap .i64 (shR .u64 (IntKind.wrap .u64 (IntKind.wrap .i64 (o1+p3))) 1)),.func (.func 121) #[] #[]] [] fun (x_54:Unit) =>
   J_53 ())
   (J_53 ()))
 <| fun s_55 =>
 joinW (σ:=Bool) (fun J_56 =>
  cond (decide ((IntKind.wrap .i64 (shR .u64 (IntKind.wrap .u64 (IntKind.wrap .i64 (o1+p3))) 1)) < (IntKind.wrap .i64 ((IntKind.wrap .i64 ((IntKind.wrap .i64 (shR .u64 (IntKind.wrap .u64 (IntKind.wrap .i64 (o1+p3))) 1))+p2)) - s_38.1))))
   (J_56 (decide ((IntKind.wrap .i64 ((IntKind.wrap .i64 ((IntKind.wrap .i64 (shR .u64 (IntKind.wrap .u64 (IntKind.wrap .i64 (o1+p3))) 1))+p2)) - s_38.1)) < p3)))
   (J_56 false))
 <| fun s_57 =>
 joinW (σ:=Unit) (fun J_58 =>
  cond s_57
   (callW Tryz.prog Zc [.slice d0.a d0.n d0.c,.int .i64 (IntKind.wrap .i64 (shR .u64 (IntKind.wrap .u64 (IntKind.wrap .i64 (o1+p3))) 1)),.int .i64 (IntKind.wrap .i64 ((IntKind.wrap .i64 ((IntKind.wrap .i64 (shR .u64 (IntKind.wrap .u64 (IntKind.wrap .i64 (o1+p3))) 1))+p2)) - s_38.1)),.int .i64 p3,.func (.func 121) #[] #[]] [] fun (x_59:Unit) =>
   J_58 ())
   (J_58 ()))
 <| fun s_60 =>
 retW ()))
  (s_36.1,s_36.2)))
def Z1g:Hints:={ reg:=[(39,[(185,.sc .bool)]),(41,[(199,.sc .bool)]),(43,[(213,.sc .bool)])],con:=[(7050,[(10,.sc (.int .i64)),(11,.sc (.int .i64))]),(19103,[(14,.sc (.int .i64)),(15,.sc (.int .i64))]),(29140,[(20,.sc (.int .i64)),(21,.sc (.int .i64))]),(37171,[(20,.sc (.int .i64)),(21,.sc (.int .i64))]),(41185,[]),(43199,[]),(45213,[])],lop:=[(0,[(10,.sc (.int .i64)),(11,.sc (.int .i64))]),(2,[(13,.sc (.int .i64))]),(4,[(14,.sc (.int .i64)),(15,.sc (.int .i64))]),(6,[(17,.sc (.int .i64))]),(8,[(20,.sc (.int .i64)),(21,.sc (.int .i64))])],dr:=[(5,([],[[(0,[]),(1,[]),(2,[]),(3,[]),(4,[]),(5,[]),(6,[]),(7,[]),(8,[]),(9,[]),(10,[])]])),(11,([],[[(0,[]),(1,[]),(2,[]),(3,[]),(4,[]),(5,[]),(6,[]),(7,[]),(8,[]),(9,[]),(10,[]),(11,[]),(12,[]),(13,[]),(14,[]),(15,[]),(16,[]),(17,[])]])),(17,([],[[(0,[]),(1,[]),(2,[]),(3,[]),(4,[]),(5,[]),(6,[]),(7,[]),(8,[]),(9,[]),(10,[]),(11,[])]])),(23,([],[[(0,[]),(1,[]),(2,[]),(3,[]),(4,[]),(5,[]),(6,[]),(7,[]),(8,[]),(9,[]),(10,[]),(11,[]),(12,[]),(13,[]),(14,[]),(15,[]),(16,[]),(17,[])]])),(35,([],[[(0,[]),(1,[]),(2,[]),(3,[]),(4,[]),(5,[]),(6,[]),(7,[]),(8,[]),(9,[]),(10,[]),(11,[]),(12,[]),(13,[])]]))] }
set_option maxRecDepth 100000 in
theorem Z3u (d0:Sl) (o1:Int) (p2:Int) (p3:Int):denF Tryz.prog Z1g Tryz.f180 [] [.slice d0.a d0.n d0.c,.int .i64 o1,.int .i64 p2,.int .i64 p3,.func (.func 121) #[] #[]]=Zk d0 o1 p2 p3:=by kernel_rfl
theorem Z3s {R:Type} (d0:Sl) (o1:Int) (p2:Int) (p3:Int) (K:Res []→W R) (Q:R→World→Prop) (w:World) (h:Zk d0 o1 p2 p3 (fun r w=>K r Q w) w):callW Tryz.prog Zc [.slice d0.a d0.n d0.c,.int .i64 o1,.int .i64 p2,.int .i64 p3,.func (.func 121) #[] #[]] [] K Q w :=
 Z0 mix Tryz.func180 Z1g (ts:=[]) trivial (by rw [Tryz.ntmps180]; simp) (by rw [Z3u]; exact h)
def Z16 (s10:Sl) (s21:Sl):W (Bool) :=
 cond ((s10.n:Int) != (s21.n:Int))
  (retW false)
  (loopW (σ:=Int) (fun K_1 s_2 =>
  cond (decide (s_2 < (s10.n:Int)))
   (idxW s10.a s10.n 2 s_2 fun x_3 =>
  ld (.agg [.int .u32,.sl]) x_3 fun (x_4:(Int × Sl)) =>
  newW 57 [.int .u32 0,.slice none 0 0] fun v1_5 =>
  stoL v1_5 [.int .u32 x_4.1,.slice x_4.2.a x_4.2.n x_4.2.c] 0 <|
  idxW s21.a s21.n 2 s_2 fun x_6 =>
  ld (.agg [.int .u32,.sl]) x_6 fun (x_7:(Int × Sl)) =>
  newW 57 [.int .u32 0,.slice none 0 0] fun v2_8 =>
  stoL v2_8 [.int .u32 x_7.1,.slice x_7.2.a x_7.2.n x_7.2.c] 0 <|
  ld (.agg [.int .u32,.sl]) v1_5 fun (x_9:(Int × Sl)) =>
  ld (.agg [.int .u32,.sl]) v2_8 fun (x_10:(Int × Sl)) =>
  callW Tryz.prog Ze4 [.agg ⟨[.int .u32 x_9.1,.slice x_9.2.a x_9.2.n x_9.2.c]⟩,.agg ⟨[.int .u32 x_10.1,.slice x_10.2.a x_10.2.n x_10.2.c]⟩] [.sc .bool] fun (x_11:Bool) =>
  cond (!x_11)
   (retW false)
   (K_1 (IntKind.wrap .i64 (s_2+1))))
   (retW true))
  0)
def Z2g:Hints:={ lop:=[(0,[(17,.sc (.int .i64))])] }
theorem Z6m (s10:Sl) (s21:Sl):denF Tryz.prog Z2g Tryz.f181 [.sc .bool] [.slice s10.a s10.n s10.c,.slice s21.a s21.n s21.c,.func (.func 182) #[] #[]]=Z16 s10 s21:=by kernel_rfl
theorem Z6k {R:Type} (s10:Sl) (s21:Sl) (K:Res [.sc .bool]→W R) (Q:R→World→Prop) (w:World) (h:Z16 s10 s21 (fun r w=>K r Q w) w):callW Tryz.prog Z93 [.slice s10.a s10.n s10.c,.slice s21.a s21.n s21.c,.func (.func 182) #[] #[]] [.sc .bool] K Q w :=
 Z0 mix Tryz.func181 Z2g (ts:=[.sc .bool]) trivial (by rw [Tryz.ntmps181]; simp) (by rw [Z6m]; exact h)
def Zdx (x0:(Int × Sl)) (y1:(Int × Sl)):W (Bool) :=
 newW 57 [.int .u32 x0.1,.slice x0.2.a x0.2.n x0.2.c] fun x_1 =>
 newW 57 [.int .u32 y1.1,.slice y1.2.a y1.2.n y1.2.c] fun y_2 =>
 joinW (σ:=Bool) (fun J_3 =>
  ld (.sc (.int .u32)) (Addr.add x_1 0) fun (x_4:Int) =>
  ld (.sc (.int .u32)) (Addr.add y_2 0) fun (x_5:Int) =>
  cond (x_4 == x_5)
   (ld (.sc .sl) (Addr.add x_1 1) fun (x_6:Sl) =>
    ld (.sc .sl) (Addr.add y_2 1) fun (x_7:Sl) =>
      callW Tryz.prog Z2s [.slice x_6.a x_6.n x_6.c,.slice x_7.a x_7.n x_7.c] [.sc .bool] fun (x_8:Bool) =>
       J_3 x_8)
   (J_3 false))
 <| fun s_9 =>
 retW s_9
def Zju:Hints:={ reg:=[(1,[(4,.sc .bool)])] }
theorem Zuc (x0:(Int × Sl)) (y1:(Int × Sl)):denF Tryz.prog Zju Tryz.f182 [.sc .bool] [.agg ⟨[.int .u32 x0.1,.slice x0.2.a x0.2.n x0.2.c]⟩,.agg ⟨[.int .u32 y1.1,.slice y1.2.a y1.2.n y1.2.c]⟩]=Zdx x0 y1:=by kernel_rfl
theorem Zty {R:Type} (x0:(Int × Sl)) (y1:(Int × Sl)) (K:Res [.sc .bool]→W R) (Q:R→World→Prop) (w:World) (h:Zdx x0 y1 (fun r w=>K r Q w) w):callW Tryz.prog Ze4 [.agg ⟨[.int .u32 x0.1,.slice x0.2.a x0.2.n x0.2.c]⟩,.agg ⟨[.int .u32 y1.1,.slice y1.2.a y1.2.n y1.2.c]⟩] [.sc .bool] K Q w :=
 Z0 mix Tryz.func182 Zju (ts:=[.sc .bool]) trivial (by rw [Tryz.ntmps182]; simp) (by rw [Zuc]; exact h)
def Zpe (n0:Int):W (Int) :=
 retW (bXor .u64 (IntKind.wrap .u64 (shL .i64 n0 1)) (IntKind.wrap .u64 (shR .i64 n0 63)))
def Zv1:Hints:={}
theorem Z12v (n0:Int):denF Tryz.prog Zv1 Tryz.f183 [.sc (.int .u64)] [.int .i64 n0]=Zpe n0:=by kernel_rfl
theorem Z12o {R:Type} (n0:Int) (K:Res [.sc (.int .u64)]→W R) (Q:R→World→Prop) (w:World) (h:Zpe n0 (fun r w=>K r Q w) w):callW Tryz.prog Zia [.int .i64 n0] [.sc (.int .u64)] K Q w :=
 Z0 mix Tryz.func183 Zv1 (ts:=[.sc (.int .u64)]) trivial (by rw [Tryz.ntmps183]; simp) (by rw [Z12v]; exact h)
def Zpd (v0:Int):W (Int) :=
 retW (bXor .i64 (IntKind.wrap .i64 (shR .u64 v0 1)) (IntKind.wrap .i64 (0 - (IntKind.wrap .i64 (bAnd .u64 v0 1)))))
def Zv0:Hints:={}
theorem Z12u (v0:Int):denF Tryz.prog Zv0 Tryz.f184 [.sc (.int .i64)] [.int .u64 v0]=Zpd v0:=by kernel_rfl
theorem Z12n {R:Type} (v0:Int) (K:Res [.sc (.int .i64)]→W R) (Q:R→World→Prop) (w:World) (h:Zpd v0 (fun r w=>K r Q w) w):callW Tryz.prog Zpt [.int .u64 v0] [.sc (.int .i64)] K Q w :=
 Z0 mix Tryz.func184 Zv0 (ts:=[.sc (.int .i64)]) trivial (by rw [Tryz.ntmps184]; simp) (by rw [Z12u]; exact h)
def Za (data0:Sl) (a1:Int) (b2:Int):W (Unit) :=
 loopW (σ:=Int) (fun K_1 s_2 =>
  cond (decide (s_2 < b2))
   (loopW (σ:=Int) (fun K_3 s_4 =>
   joinW (σ:=Bool) (fun J_5 =>
    drawW <|
    cond (decide (s_4 > a1))
     (idxW data0.a data0.n 4 s_4 fun x_6 =>
        ld (.agg [.int .u8,.int .i32,.int .i32,.int .i32]) x_6 fun (x_7:(Int × Int × Int × Int)) =>
         idxW data0.a data0.n 4 (IntKind.wrap .i64 (s_4 - 1)) fun x_8 =>
             ld (.agg [.int .u8,.int .i32,.int .i32,.int .i32]) x_8 fun (x_9:(Int × Int × Int × Int)) =>
              callW Tryz.prog Z9p [.agg ⟨[.int .u8 x_7.1,.int .i32 x_7.2.1,.int .i32 x_7.2.2.1,.int .i32 x_7.2.2.2]⟩,.agg ⟨[.int .u8 x_9.1,.int .i32 x_9.2.1,.int .i32 x_9.2.2.1,.int .i32 x_9.2.2.2]⟩] [.sc (.int .i64)] fun (x_10:Int) =>
               J_5 (decide (x_10 < 0)))
     (J_5 false))
   <| fun s_11 =>
   cond s_11
    (drawW <|
   idxW data0.a data0.n 4 (IntKind.wrap .i64 (s_4 - 1)) fun x_12 =>
   ld (.agg [.int .u8,.int .i32,.int .i32,.int .i32]) x_12 fun (x_13:(Int × Int × Int × Int)) =>
   idxW data0.a data0.n 4 s_4 fun x_14 =>
   ld (.agg [.int .u8,.int .i32,.int .i32,.int .i32]) x_14 fun (x_15:(Int × Int × Int × Int)) =>
   idxW data0.a data0.n 4 s_4 fun x_16 =>
   stoL x_16 [.int .u8 x_13.1,.int .i32 x_13.2.1,.int .i32 x_13.2.2.1,.int .i32 x_13.2.2.2] 0 <|
   idxW data0.a data0.n 4 (IntKind.wrap .i64 (s_4 - 1)) fun x_17 =>
   stoL x_17 [.int .u8 x_15.1,.int .i32 x_15.2.1,.int .i32 x_15.2.2.1,.int .i32 x_15.2.2.2] 0 <|
   K_3 (IntKind.wrap .i64 (s_4 - 1)))
    (K_1 (IntKind.wrap .i64 (s_2+1))))
   s_2)
   (retW ()))
  (IntKind.wrap .i64 (a1+1))
def Z13:Hints:={ reg:=[(4,[(34,.sc .bool)])],lop:=[(0,[(8,.sc (.int .i64))]),(2,[(9,.sc (.int .i64))])],dr:=[(4,([],[[(0,[]),(1,[]),(2,[]),(3,[]),(4,[]),(5,[]),(6,[]),(7,[]),(8,[]),(9,[]),(10,[]),(11,[]),(12,[]),(13,[]),(14,[]),(15,[]),(16,[])]])),(6,([],[[(0,[]),(1,[]),(2,[]),(3,[]),(4,[]),(5,[]),(6,[]),(7,[]),(8,[]),(9,[]),(10,[]),(11,[]),(12,[]),(13,[]),(14,[]),(15,[]),(16,[]),(17,[])]]))] }
theorem Z32 (data0:Sl) (a1:Int) (b2:Int):denF Tryz.prog Z13 Tryz.f186 [] [.slice data0.a data0.n data0.c,.int .i64 a1,.int .i64 b2,.func (.func 150) #[] #[]]=Za data0 a1 b2:=by kernel_rfl
theorem Z30 {R:Type} (data0:Sl) (a1:Int) (b2:Int) (K:Res []→W R) (Q:R→World→Prop) (w:World) (h:Za data0 a1 b2 (fun r w=>K r Q w) w):callW Tryz.prog Z1d [.slice data0.a data0.n data0.c,.int .i64 a1,.int .i64 b2,.func (.func 150) #[] #[]] [] K Q w :=
 Z0 mix Tryz.func186 Z13 (ts:=[]) trivial (by rw [Tryz.ntmps186]; simp) (by rw [Z32]; exact h)
def Zo (data0:Sl) (a1:Int) (m2:Int) (b3:Int):W (Unit) :=
 loopW (σ:=Int × Int) (fun K_1 s_2 =>
  cond (s_2.1 != s_2.2)
   (joinW (σ:=Int × Int) (fun J_3 =>
   cond (decide (s_2.1 > s_2.2))
    (callW Tryz.prog Zn [.slice data0.a data0.n data0.c,.int .i64 (IntKind.wrap .i64 (m2 - s_2.1)),.int .i64 m2,.int .i64 s_2.2,.func (.func 121) #[] #[]] [] fun (x_4:Unit) =>
    J_3 (IntKind.wrap .i64 (s_2.1 - s_2.2),s_2.2))
    (callW Tryz.prog Zn [.slice data0.a data0.n data0.c,.int .i64 (IntKind.wrap .i64 (m2 - s_2.1)),.int .i64 (IntKind.wrap .i64 ((IntKind.wrap .i64 (m2+s_2.2)) - s_2.1)),.int .i64 s_2.1,.func (.func 121) #[] #[]] [] fun (x_5:Unit) =>
    J_3 (s_2.1,IntKind.wrap .i64 (s_2.2 - s_2.1))))
  <| fun s_6 =>
  K_1 (s_6.1,s_6.2))
   (callW Tryz.prog Zn [.slice data0.a data0.n data0.c,.int .i64 (IntKind.wrap .i64 (m2 - s_2.1)),.int .i64 m2,.int .i64 s_2.1,.func (.func 121) #[] #[]] [] fun (x_7:Unit) =>
 retW ()))
  (IntKind.wrap .i64 (m2 - a1),IntKind.wrap .i64 (b3 - m2))
def Z1u:Hints:={ con:=[(5023,[(10,.sc (.int .i64)),(11,.sc (.int .i64))])],lop:=[(0,[(10,.sc (.int .i64)),(11,.sc (.int .i64))])] }
theorem Z4n (data0:Sl) (a1:Int) (m2:Int) (b3:Int):denF Tryz.prog Z1u Tryz.f188 [] [.slice data0.a data0.n data0.c,.int .i64 a1,.int .i64 m2,.int .i64 b3,.func (.func 121) #[] #[]]=Zo data0 a1 m2 b3:=by kernel_rfl
theorem Z4k {R:Type} (data0:Sl) (a1:Int) (m2:Int) (b3:Int) (K:Res []→W R) (Q:R→World→Prop) (w:World) (h:Zo data0 a1 m2 b3 (fun r w=>K r Q w) w):callW Tryz.prog Z2y [.slice data0.a data0.n data0.c,.int .i64 a1,.int .i64 m2,.int .i64 b3,.func (.func 121) #[] #[]] [] K Q w :=
 Z0 mix Tryz.func188 Z1u (ts:=[]) trivial (by rw [Tryz.ntmps188]; simp) (by rw [Z4n]; exact h)
def Zg (data0:Sl) (a1:Int) (b2:Int) (n3:Int):W (Unit) :=
 loopW (σ:=Int) (fun K_1 s_2 =>
  cond (decide (s_2 < n3))
   (drawW <|
  idxW data0.a data0.n 2 (IntKind.wrap .i64 (b2+s_2)) fun x_3 =>
  ld (.agg [.int .u32,.sl]) x_3 fun (x_4:(Int × Sl)) =>
  idxW data0.a data0.n 2 (IntKind.wrap .i64 (a1+s_2)) fun x_5 =>
  ld (.agg [.int .u32,.sl]) x_5 fun (x_6:(Int × Sl)) =>
  idxW data0.a data0.n 2 (IntKind.wrap .i64 (a1+s_2)) fun x_7 =>
  stoL x_7 [.int .u32 x_4.1,.slice x_4.2.a x_4.2.n x_4.2.c] 0 <|
  idxW data0.a data0.n 2 (IntKind.wrap .i64 (b2+s_2)) fun x_8 =>
  stoL x_8 [.int .u32 x_6.1,.slice x_6.2.a x_6.2.n x_6.2.c] 0 <|
  K_1 (IntKind.wrap .i64 (s_2+1)))
   (retW ()))
  0
def Z1e:Hints:={ lop:=[(0,[(10,.sc (.int .i64))])],dr:=[(3,([],[[(0,[]),(1,[]),(2,[]),(3,[]),(4,[]),(5,[]),(6,[]),(7,[]),(8,[]),(9,[]),(10,[]),(11,[]),(12,[]),(13,[]),(14,[]),(15,[]),(16,[]),(17,[]),(18,[]),(19,[]),(20,[]),(21,[]),(22,[]),(23,[])]]))] }
theorem Z3p (data0:Sl) (a1:Int) (b2:Int) (n3:Int):denF Tryz.prog Z1e Tryz.f191 [] [.slice data0.a data0.n data0.c,.int .i64 a1,.int .i64 b2,.int .i64 n3,.func (.func 121) #[] #[]]=Zg data0 a1 b2 n3:=by kernel_rfl
theorem Z3o {R:Type} (data0:Sl) (a1:Int) (b2:Int) (n3:Int) (K:Res []→W R) (Q:R→World→Prop) (w:World) (h:Zg data0 a1 b2 n3 (fun r w=>K r Q w) w):callW Tryz.prog Zn [.slice data0.a data0.n data0.c,.int .i64 a1,.int .i64 b2,.int .i64 n3,.func (.func 121) #[] #[]] [] K Q w :=
 Z0 mix Tryz.func191 Z1e (ts:=[]) trivial (by rw [Tryz.ntmps191]; simp) (by rw [Z3p]; exact h)
end Go.Proofs.YtchhhjlpnecjkaaGreat
namespace Go.Proofs.YtchhhjlpnecjkaaGreat.Den
open Go Go.RowKit
variable {R:Type} {Q:R→World→Prop} {w:World} {P:Program} {T E ty:TypeId} {t:Ty} {bytes:Nat} {ok S:Nat→Prop} {s:Sl} {l:List t.T}
theorem SlT.from (h:SlT ok w t s l) {sz:Nat} (hsz:sz=t.size) {i:Int} {n:Nat} (hi:i=(n:Int)) (hl:n≤l.length) {K:Sl→W R} (hk:∀ r,SlT ok w t r (l.drop n)→r.c=s.c - n→K r Q w):slcW s.a s.n s.c sz (some i) none K Q w:=by
 subst hi; subst hsz
 have hlen:=h.len
 have hcap:=h.cap
 refine chkI (by simp only [Option.getD_some,Option.getD_none]; omega) ?_
 simp only [Option.getD_some,Option.getD_none,Int.toNat_natCast]
 refine hk _ ⟨by simp; omega,by simp; omega,?_⟩ rfl
 rcases h.at_ with rfl | ⟨b,o,ha,h1,h2,h3⟩
 ·left; simp
 ·by_cases hc:s.c=n
  ·left
   exact List.drop_eq_nil_of_le (by omega)
  ·right
   refine ⟨b,o+n * t.size,by simp only [if_neg hc,ha,Option.map_some,add_lit],h1,h2,fun i x hx=>?_⟩
   rw [List.getElem?_drop] at hx
   have:=h3 (n+i) x hx
   rwa [Nat.add_mul,← Nat.add_assoc] at this
theorem SlT.cutI (h:SlT ok w t s l) {sz:Nat} {hi:Int} {n:Nat} (hn:hi=(n:Int)) (hl:n≤l.length) {K:Sl→W R} (hk:∀ s',s'.c=s.c→(∀ ok' w',SlT ok' w' t s l→SlT ok' w' t s' (l.take n))→K s' Q w):slcW s.a s.n s.c sz none (some hi) K Q w:=by
 subst hn
 have hlen:=h.len
 have hcap:=h.cap
 refine chkI (by simp only [Option.getD_some,Option.getD_none]; omega) ?_
 simp only [Option.getD_some,Option.getD_none]
 refine hk _ (by simp) fun ok' w' h'=>⟨by simp; omega,by simp; omega,?_⟩
 rcases h'.at_ with rfl | ⟨b,o,ha,h1,h2,h3⟩
 ·left; simp
 ·right
  refine ⟨b,o,?_,h1,h2,fun i x hx=>?_⟩
  ·rw [ha]
   split
   ·rfl
   ·simp [Addr.add]
  ·rw [List.getElem?_take] at hx
   split at hx
   ·exact h3 i x hx
   ·cases hx
theorem cloneI (H:SlTy P T E t bytes) (h:SlT ok w t s l) (hb:l.length * bytes≤140737488355328) (hm:l.length≤9223372036854775807) {K:Sl→W R} (hk:∀ r w',Own (Up w.heap.size) w' E t r l→Fr None w w'→K r Q w') :
  newW E [] (fun a=>rawW P (Builtin.append_ #[T,T] ty #[.slice (some a) 0 0,.slice s.a s.n s.c]) [.sc .sl] K) Q w:=by
 refine newI fun w1 B1 f1 s1=>?_
 have own:=Own.mk' (S:=Up w.heap.size) (w:=w1) (E:=E) (t:=t) (l:=[]) (g:=w.heap.size) (c:=0) (cur:=⟨[]⟩) (Nat.le_refl _) B1 (Nat.le_refl _) (Nat.zero_le _) (by simp) (by simp)
 refine appI (s:=⟨some ⟨w.heap.size,0,none⟩,0,0⟩) (s2:=s) (S':=Up w.heap.size) H own (h.fr0 f1) (by simpa using hb) (by rw [Z1j]; simpa using hm) (fun _ h=>h) (by show _≤_; omega) fun r w2 o2 f2 s2=>?_
 rw [List.nil_append] at o2
 exact hk r w2 o2 (f1.newer f2 (fun x e=>own.own x e))
def idxF {α:Type} (p:α→Bool) (l:List α):Int:=match l.findIdx? p with
 | some i=>(i:Int)
 | none=>-1
theorem Zhn (w:World) (tn:TypeId) (i:TypeInfo) (z:Value) (k kn:IntKind) (ht:P.underlying T=some (.slice E)) (htn:P.underlying tn=some (.int kn)) (hi:P.info? E=some i) (hz:i.zero=some z)
  (b:Addr) (sLen sCap:Nat) (olds:List Value) (hlo:olds.length=sLen * i.size) (holds:∀ j v,olds[j]?=some v→w.cell? (b.add j)=some v) (n:Nat) (h0:0 < n * i.size)
  (hg:sCap < sLen+n) (h63:((sLen+n:Nat):Int)≤9223372036854775807) (hfit:Builtin.nextslicecap (sLen+n) sCap * i.bytes≤281474976710656) (h48:n * i.bytes≤281474976710656) :
  (Builtin.append_ #[T,tn] ty #[.slice (some b) sLen sCap,.int k n]).run P w =
   .ok (.slice (some ⟨w.heap.size,0,none⟩) (sLen+n) (grownCap w (sLen+n) sCap E))
    (w.drew.alloc (.cells (olds.toArray ++ Builtin.zeroCells z.cells n ++ Builtin.zeroCells z.cells (grownCap w (sLen+n) sCap E - (sLen+n))) E)):=by
 have hn:¬ (sLen+n≤sCap):=by omega
 have hw:IntKind.i64.wrap (n:Int)=n:=by rw [IntKind.wrap_i64]; omega
 have h63':¬ (9223372036854775807 < ((sLen:Int)+(n:Int))):=by omega
 have h48':¬ (281474976710656 < Builtin.nextslicecap (sLen+n) sCap * i.bytes):=by omega
 have h48i:¬ (281474976710656 < (n:Int) * (i.bytes:Int)):=by rw [← Int.natCast_mul]; omega
 have hns:¬ (n * i.size=0):=by omega
 have hns':¬ (n=0∨i.size=0):=by
  rintro (h | h)
  ·rw [h] at h0; simp at h0
  ·rw [h] at h0; simp at h0
 have hfo:=run_firstCells_some (P:=P) w.drew i.size sLen b sLen sCap olds hlo (by simpa using holds)
 simp [Builtin.append_,run_underlying ht,run_underlying htn,sizeOf,typeInfo,zeroValue,hi,hz,asInt,asIntOf,hw,hn,h63',h48',h48i,hns,show ¬ ((n:Int) < 0) by omega,Question.forced,hfo,newRow,grownCap]
end Go.Proofs.YtchhhjlpnecjkaaGreat.Den
namespace Go.Proofs.YtchhhjlpnecjkaaGreat
open Go Go.RowKit Go.Proofs.YtchhhjlpnecjkaaGreat.Den
variable {R:Type} {Q:R→World→Prop} {w:World}
structure SM where
 first:Int
 gen:List Int
 used:List Bool
 free:List Int
 fresh:Nat
def idOf (slot gen:Int):Int:=gen * 1024+slot
def genOf (id:Int):Int:=id / 1024
def SM.n (s:SM):Nat:=s.gen.length
def SM.count (s:SM):Nat:=s.used.countP (fun b=>b)
def SM.new (n:Nat) (first:Int):SM:=⟨first,List.replicate n 0,List.replicate n false,[],0⟩
def SM.use (s:SM) (i:Nat) (g:Int):SM:={ s with gen:=s.gen.set i g,used:=s.used.set i true }
def SM.take (s:SM):Option (Int × SM):=match s.free.getLast? with
 | some x=>match s.gen[x.toNat]? with
  | some g=>some (idOf x (g+1),{ s.use x.toNat (g+1) with free:=s.free.dropLast })
  | none=>none
 | none=>if s.fresh < s.n then some (idOf s.fresh s.first,{ s.use s.fresh s.first with fresh:=s.fresh+1 }) else none
def SM.ids (s:SM):Nat→List Int
 | 0=>[]
 | j+1=>s.ids j ++ (match s.used[j]?,s.gen[j]? with
  | some true,some g=>[idOf j g]
  | _,_=>[])
def SM.list (s:SM):List Int:=s.ids s.n
structure SMOk (s:SM):Prop where
 pos:1≤s.n
 le:s.n≤1024
 len:s.used.length=s.n
 first:1≤s.first∧s.first≤4194303
 fresh:s.fresh≤s.n
 old:∀ i g,s.gen[i]?=some g→i < s.fresh→1≤g∧g≤4194303
 new:∀ i g,s.gen[i]?=some g→s.fresh≤i→g=0
 unused:∀ i,s.used[i]?=some true→i < s.fresh
 free:∀ x,x∈s.free↔∃ i:Nat,x=(i:Int)∧i < s.fresh∧s.used[i]?=some false∧∃ g,s.gen[i]?=some g∧g < 4194303
 nodup:s.free.Nodup
theorem SMOk.use {s:SM} (h:SMOk s) {i:Nat} {g:Int} (hi:i < s.n) (hg:1≤g∧g≤4194303) {fr:Nat} (hfr:fr≤s.n) (hge:s.fresh≤fr) (hif:i < fr) (hle:∀ j,s.fresh≤j→j < fr→j=i) {free:List Int} (hfree:∀ x,x∈free↔x∈s.free∧x≠(i:Int)) (hnd:free.Nodup) :
  SMOk { s.use i g with fresh:=fr,free:=free }:=by
 refine ⟨?_,?_,?_,h.first,?_,fun j g' h1 h2=>?_,fun j g' h1 h2=>?_,fun j h1=>?_,fun x=>?_,hnd⟩
 ·simpa [SM.n,SM.use] using h.pos
 ·simpa [SM.n,SM.use] using h.le
 ·simpa [SM.n,SM.use] using h.len
 ·simpa [SM.n,SM.use] using hfr
 ·simp only [SM.use,List.getElem?_set] at h1
  split at h1
  ·split at h1
   ·cases h1; exact hg
   ·cases h1
  ·rename_i hne
   rcases Nat.lt_or_ge j s.fresh with hj | hj
   ·exact h.old j g' h1 hj
   ·exact absurd (hle j hj h2).symm hne
 ·simp only [SM.use,List.getElem?_set] at h1
  split at h1
  ·rename_i e; subst e; simp only at h2; omega
  ·exact h.new j g' h1 (Nat.le_trans hge h2)
 ·simp only [SM.use,List.getElem?_set] at h1
  split at h1
  ·rename_i e; subst e; exact hif
  ·exact Nat.lt_of_lt_of_le (h.unused j h1) hge
 ·rw [hfree,h.free]
  simp only [SM.use]
  constructor
  ·rintro ⟨⟨j,rfl,h1,h2,h3⟩,hne⟩
   have hji:¬ i=j:=fun e=>hne (by rw [e])
   exact ⟨j,rfl,Nat.lt_of_lt_of_le h1 hge,by rw [List.getElem?_set_ne hji]; exact h2,by rw [List.getElem?_set_ne hji]; exact h3⟩
  ·rintro ⟨j,rfl,h1,h2,h3⟩
   have hji:¬ i=j:=fun e=>by
    subst e
    rw [List.getElem?_set_self (by rw [h.len]; exact hi)] at h2
    cases h2
   rw [List.getElem?_set_ne hji] at h2 h3
   refine ⟨⟨j,rfl,?_,h2,h3⟩,fun e=>hji (by omega)⟩
   rcases Nat.lt_or_ge j s.fresh with hj | hj
   ·exact hj
   ·exact absurd (hle j hj h1).symm hji
theorem Zwo {α:Type} {l:List α} {x:α} (h:l.getLast?=some x):l=l.dropLast ++ [x]:=by
 obtain ⟨ys,rfl⟩:=List.getLast?_eq_some_iff.1 h
 simp
theorem SMOk.freeGet {s:SM} (h:SMOk s) {x:Int} (hx:x∈s.free):∃ i:Nat,x=(i:Int)∧i < s.n∧s.used[i]?=some false∧∃ g,s.gen[i]?=some g∧1≤g∧g < 4194303:=by
 obtain ⟨i,rfl,h1,h2,g,h3,h4⟩:=(h.free x).1 hx
 exact ⟨i,rfl,Nat.lt_of_lt_of_le h1 h.fresh,h2,g,h3,(h.old i g h3 h1).1,h4⟩
theorem SMOk.take {s s':SM} {id:Int} (h:SMOk s) (ht:s.take=some (id,s')):SMOk s':=by
 unfold SM.take at ht
 split at ht
 ·rename_i x hx
  have hmem:x∈s.free:=List.mem_of_getLast? hx
  obtain ⟨i,rfl,hi,hu,g,hg,h1,h2⟩:=h.freeGet hmem
  rw [Int.toNat_natCast,hg] at ht
  simp only [Option.some.injEq,Prod.mk.injEq] at ht
  obtain ⟨_,rfl⟩:=ht
  have hsp:=Zwo hx
  have hnd:=h.nodup
  rw [hsp] at hnd
  have hif:=(h.free _).1 hmem
  obtain ⟨i',e,hif,_⟩:=hif
  have:i'=i:=by omega
  subst this
  refine h.use (fr:=s.fresh) hi ⟨by omega,by omega⟩ h.fresh (Nat.le_refl _) hif (fun j h1 h2=>by omega) (fun y=>?_) (List.nodup_append.1 hnd).1
  conv=>rhs; rw [hsp]
  rw [List.mem_append,List.mem_singleton]
  constructor
  ·intro hy
   exact ⟨.inl hy,fun e=>(List.nodup_append.1 hnd).2.2 y hy _ (by simp) e⟩
  ·rintro ⟨hy | hy,hne⟩
   ·exact hy
   ·exact absurd hy hne
 ·rename_i hn
  have hfe:s.free=[]:=by simpa using hn
  split at ht
  ·rename_i hlt
   simp only [Option.some.injEq,Prod.mk.injEq] at ht
   obtain ⟨_,rfl⟩:=ht
   refine h.use (fr:=s.fresh+1) (free:=s.free) hlt h.first hlt (by omega) (by omega) (fun j h1 h2=>by omega) (fun y=>?_) h.nodup
   rw [hfe]; simp
  ·cases ht
abbrev boolT:Ty:=.sc .bool
theorem Z9n:SlTy Tryz.prog 70 4 boolT 1:=slTy (by kernel_rfl)
theorem Zur {id:Int} (h:0≤id∧id≤4294967295) {K:Res [.sc (.int .i64)]→W R} (hk:K (genOf id) Q w):callW Tryz.prog Zmf [.int .u32 id] [.sc (.int .i64)] K Q w:=by
 refine Zzz id K Q w ?_
 unfold Zlz
 have:IntKind.wrap .i64 (IntKind.wrap .u32 (Int.tdiv id 1024))=genOf id:=by rw [Int.tdiv_eq_ediv_of_nonneg h.1,wu32 (by omega),w64 (by omega)]; rfl
 rw [this]
 exact hk
end Go.Proofs.YtchhhjlpnecjkaaGreat
namespace Go.Proofs.YtchhhjlpnecjkaaGreat
open Go Go.RowKit Go.Proofs.YtchhhjlpnecjkaaGreat.Den
def bitN (b:Bool):Nat:=if b=true then 1 else 0
theorem Z4t (b:Bool):bitN b≤1:=by cases b <;> decide
def bitsOf (v:Nat):Nat→List Bool
 | 0=>[]
 | n+1=>bitsOf v n ++ [v.testBit n]
theorem Z4 (v:Nat):∀ n,(bitsOf v n).length=n
 | 0=>rfl
 | n+1=>by simp [bitsOf,Z4 v n]
def bitAt (L:List Bool) (k:Nat):Bool:=(L[k]?).getD false
def byteAt (L:List Bool) (j:Nat):Nat :=
 bitN (bitAt L (8 * j))+2 * bitN (bitAt L (8 * j+1))+4 * bitN (bitAt L (8 * j+2))+8 * bitN (bitAt L (8 * j+3))+16 * bitN (bitAt L (8 * j+4))+32 * bitN (bitAt L (8 * j+5))+64 * bitN (bitAt L (8 * j+6))+128 * bitN (bitAt L (8 * j+7))
def packM (L:List Bool):List Int:=(List.range ((L.length+7) / 8)).map fun j=>(byteAt L j:Int)
def packP (L:List Bool):List Int:=(List.range (L.length / 8+1)).map fun j=>(byteAt L j:Int)
theorem Zwe {L:List Bool} {k:Nat} (h:L.length≤k):bitAt L k=false:=by
 unfold bitAt
 rw [List.getElem?_eq_none h]
 rfl
theorem Zpg (L:List Bool) (b:Bool) (k:Nat):bitAt (L ++ [b]) k=if k=L.length then b else bitAt L k:=by
 unfold bitAt
 rcases Nat.lt_trichotomy k L.length with h | h | h
 ·rw [List.getElem?_append_left h,if_neg (by omega)]
 ·subst h
  rw [List.getElem?_append_right (Nat.le_refl _),if_pos rfl,Nat.sub_self]
  rfl
 ·rw [if_neg (by omega),List.getElem?_eq_none (by simp; omega),List.getElem?_eq_none (by omega)]
theorem Zqq {L:List Bool} {b:Bool} {j:Nat} (h:j≠L.length / 8):byteAt (L ++ [b]) j=byteAt L j:=by
 unfold byteAt
 simp only [Zpg]
 rw [if_neg (by omega),if_neg (by omega),if_neg (by omega),if_neg (by omega),if_neg (by omega),if_neg (by omega),if_neg (by omega),if_neg (by omega)]
theorem Zch {L:List Bool} {b:Bool}:byteAt (L ++ [b]) (L.length / 8)=byteAt L (L.length / 8)+bitN b * 2 ^ (L.length % 8)∧byteAt L (L.length / 8) < 2 ^ (L.length % 8):=by
 obtain ⟨j,r,hr,hL,h1,h2⟩:∃ j r,r < 8∧L.length=8 * j+r∧L.length / 8=j∧L.length % 8=r:=⟨L.length / 8,L.length % 8,Nat.mod_lt _ (by decide),by omega,rfl,rfl⟩
 rw [h1,h2]
 have ge:∀ k,8 * j+r≤k→bitAt L k=false:=fun k hk=>Zwe (by omega)
 have l0:=Z4t (bitAt L (8 * j))
 have l1:=Z4t (bitAt L (8 * j+1))
 have l2:=Z4t (bitAt L (8 * j+2))
 have l3:=Z4t (bitAt L (8 * j+3))
 have l4:=Z4t (bitAt L (8 * j+4))
 have l5:=Z4t (bitAt L (8 * j+5))
 have l6:=Z4t (bitAt L (8 * j+6))
 have z:bitN false=0:=rfl
 unfold byteAt
 simp only [Zpg,hL]
 have:r=0∨r=1∨r=2∨r=3∨r=4∨r=5∨r=6∨r=7:=by omega
 rcases this with rfl | rfl | rfl | rfl | rfl | rfl | rfl | rfl
 ·rw [ge (8 * j) (by omega),ge (8 * j+1) (by omega),ge (8 * j+2) (by omega),ge (8 * j+3) (by omega),ge (8 * j+4) (by omega),ge (8 * j+5) (by omega),ge (8 * j+6) (by omega),ge (8 * j+7) (by omega),z]
  simp [z]
 ·rw [ge (8 * j+1) (by omega),ge (8 * j+2) (by omega),ge (8 * j+3) (by omega),ge (8 * j+4) (by omega),ge (8 * j+5) (by omega),ge (8 * j+6) (by omega),ge (8 * j+7) (by omega),z]
  simp [z]; omega
 ·rw [ge (8 * j+2) (by omega),ge (8 * j+3) (by omega),ge (8 * j+4) (by omega),ge (8 * j+5) (by omega),ge (8 * j+6) (by omega),ge (8 * j+7) (by omega),z]
  simp [z]; omega
 ·rw [ge (8 * j+3) (by omega),ge (8 * j+4) (by omega),ge (8 * j+5) (by omega),ge (8 * j+6) (by omega),ge (8 * j+7) (by omega),z]
  simp [z]; omega
 ·rw [ge (8 * j+4) (by omega),ge (8 * j+5) (by omega),ge (8 * j+6) (by omega),ge (8 * j+7) (by omega),z]
  simp [z]; omega
 ·rw [ge (8 * j+5) (by omega),ge (8 * j+6) (by omega),ge (8 * j+7) (by omega),z]
  simp [z]; omega
 ·rw [ge (8 * j+6) (by omega),ge (8 * j+7) (by omega),z]
  simp [z]; omega
 ·rw [ge (8 * j+7) (by omega),z]
  simp [z]; omega
theorem Zoc (L:List Bool):(packM L).length=(L.length+7) / 8:=by simp [packM]
theorem Z150 (L:List Bool):(packP L).length=L.length / 8+1:=by simp [packP]
theorem Z170 (L:List Bool):(packP L)[L.length / 8]?=some (byteAt L (L.length / 8):Int):=by
 simp [packP]
theorem Z139 (L:List Bool) (b:Bool):packM (L ++ [b])=(packP L).set (L.length / 8) ((byteAt L (L.length / 8)+bitN b * 2 ^ (L.length % 8):Nat):Int):=by
 refine List.ext_getElem? fun i=>?_
 rw [List.getElem?_set]
 unfold packM packP
 simp only [List.length_append,List.length_cons,List.length_nil,List.length_map,List.length_range,List.getElem?_map]
 have e:(L.length+(0+1)+7) / 8=L.length / 8+1:=by omega
 rw [e]
 split
 ·rename_i h
  subst h
  rw [if_pos (by omega),List.getElem?_range (by omega)]
  simp only [Option.map_some]
  rw [Zch.1]
 ·rename_i h
  rcases Nat.lt_or_ge i (L.length / 8+1) with hi | hi
  ·rw [List.getElem?_range hi]
   simp only [Option.map_some]
   rw [Zqq (fun h2=>h h2.symm)]
  ·rw [List.getElem?_eq_none (by simpa using hi)]
   rfl
theorem Z18m {L:List Bool} (h:L.length % 8=0):packP L=packM L ++ [0]:=by
 unfold packP packM
 have e:(L.length+7) / 8=L.length / 8:=by omega
 rw [e,List.range_succ,List.map_append]
 have:byteAt L (L.length / 8)=0:=by
  have:=(Zch (L:=L) (b:=false)).2
  rw [h] at this
  omega
 simp [this]
theorem Z18n {L:List Bool} (h:L.length % 8≠0):packP L=packM L:=by
 unfold packP packM
 have e:(L.length+7) / 8=L.length / 8+1:=by omega
 rw [e]
theorem Z13o (L:List Bool) (j:Nat):byteAt L j≤255:=by
 have l0:=Z4t (bitAt L (8 * j))
 have l1:=Z4t (bitAt L (8 * j+1))
 have l2:=Z4t (bitAt L (8 * j+2))
 have l3:=Z4t (bitAt L (8 * j+3))
 have l4:=Z4t (bitAt L (8 * j+4))
 have l5:=Z4t (bitAt L (8 * j+5))
 have l6:=Z4t (bitAt L (8 * j+6))
 have l7:=Z4t (bitAt L (8 * j+7))
 unfold byteAt
 omega
theorem Z18k:∀ r:Fin 8,∀ b:Fin 2,∀ x:Fin 128,x.val < 2 ^ r.val→bOr .u8 ((x.val:Nat):Int) (shL .u8 ((b.val:Nat):Int) ((r.val:Nat):Int))=((x.val+b.val * 2 ^ r.val:Nat):Int):=by decide +kernel
theorem Zx3 {v:Int} {i:Nat} (h0:0≤v) (hi:i≤64):shR .u64 v (i:Int)=((v.toNat / 2 ^ i:Nat):Int):=by
 unfold shR
 rw [Int.toNat_natCast,show min i (IntKind.bits .u64)=i from Nat.min_eq_left hi]
 obtain ⟨n,rfl⟩:=Int.eq_ofNat_of_zero_le h0
 rw [Int.fdiv_eq_ediv_of_nonneg _ (by exact_mod_cast Nat.zero_le (2 ^ i))]
 simp
theorem Z183 {x:Int} (h0:0≤x) (h1:x≤18446744073709551615):bAnd .u64 x 1=x % 2:=by
 unfold bAnd
 rw [BitVec.toNat_and,BitVec.toNat_ofInt,BitVec.toNat_ofInt]
 have e1:(1 % ((2 ^ IntKind.bits .u64:Nat):Int)).toNat=1:=by decide
 have e2:(x % ((2 ^ IntKind.bits .u64:Nat):Int)).toNat=x.toNat:=by
  have:((2 ^ IntKind.bits .u64:Nat):Int)=18446744073709551616:=by decide
  rw [this]; omega
 rw [e1,e2,Nat.and_one_is_mod]
 rw [IntKind.wrap_u64]
 omega
theorem Z192 {v:Int} {i:Nat} (h0:0≤v) (h1:v≤18446744073709551615) (hi:i≤64):IntKind.wrap .u8 (bAnd .u64 (shR .u64 v (i:Int)) 1)=(bitN (v.toNat.testBit i):Int):=by
 have hd:v.toNat / 2 ^ i≤v.toNat:=Nat.div_le_self _ _
 rw [Zx3 h0 hi,Nat.testBit_eq_decide_div_mod_eq]
 generalize v.toNat / 2 ^ i=q at hd
 rw [Z183 (by omega) (by omega)]
 have:q % 2=0∨q % 2=1:=by omega
 rcases this with h | h
 ·have e:(q:Int) % 2=0:=by omega
  rw [e,h]; decide
 ·have e:(q:Int) % 2=1:=by omega
  rw [e,h]; decide
end Go.Proofs.YtchhhjlpnecjkaaGreat
namespace Go.Proofs.YtchhhjlpnecjkaaGreat
open Go Go.RowKit Go.Proofs.YtchhhjlpnecjkaaGreat.Den
variable {R:Type} {Q:R→World→Prop} {w:World}
theorem Z9o:SlTy Tryz.prog 22 5 u8T 1:=slTy (by kernel_rfl)
def Wr (b:Nat) (L:List Bool):OB:=fun F w=>L.length≤1048576∧F b∧∃ s:Sl,Blk w b 154 [.slice s.a s.n s.c,.int .i64 (L.length:Int)]∧Own (fun k=>F k∧k≠b) w 5 u8T s (packM L)
theorem Wr.st {b:Nat} {L:List Bool}:St (Wr b L):=fun ⟨h1,h2,s,h3,h4⟩ f hs =>
 ⟨h1,(hs b h3.lt h2).2,s,h3.fr f (hs b h3.lt h2).1,Own.st h4 f fun k hk e=>⟨(hs k hk e.1).1,(hs k hk e.1).2,e.2⟩⟩
theorem Zx5 {K:Res [.sc .ptr]→W R} (hk:∀ b w',Wr b [] (Up w.heap.size) w'→Fr None w w'→K (some ⟨b,0,none⟩) Q w'):callW Tryz.prog Zpq [] [.sc .ptr] K Q w:=by
 refine Z12j K Q w ?_
 unfold Zp9
 refine newI fun w1 B1 f1 s1=>?_
 exact hk _ w1 ⟨by simp,Nat.le_refl _,⟨none,0,0⟩,B1,Own.nil _ _ _ _⟩ f1
def putB (L:List Bool) (v n:Int):Int × List Bool :=
 if n < 0∨64 < n then (1,L) else if n < 64∧v.toNat / 2 ^ n.toNat≠0 then (5,L) else if 1048576 < (L.length:Int)+n then (3,L) else (0,L ++ bitsOf v.toNat n.toNat)
theorem Zbc {b:Nat} {L:List Bool} {F:Nat→Prop} (h:Wr b L F w) {v n:Int} (hv:0≤v∧v≤18446744073709551615) (hn:-9223372036854775808≤n∧n≤9223372036854775807) {K:Res [.sc (.int .i64)]→W R} (hk:∀ w',Wr b (putB L v n).2 (Ex F w) w'→Fr F w w'→K (putB L v n).1 Q w') :
  callW Tryz.prog Z2i [.pointer (some ⟨b,0,none⟩),.int .u64 v,.int .i64 n] [.sc (.int .i64)] K Q w:=by
 refine Zov _ _ _ K Q w ?_
 unfold Z98
 have same:Wr b L (Ex F w) w:=Wr.st.mono h fun k _ e=>.inl e
 have hlen:=h.1
 obtain ⟨_,hb,s0,B0,_⟩:=h
 refine condF rfl ?_
 refine joinI (fun z w'=>z=decide (n < 0∨64 < n)∧w'=w) ?_ ?_
 ·refine condD (fun h=>⟨by simp [h],rfl⟩) fun h=>⟨?_,rfl⟩
  simp only [h,false_or]
 rintro z w1 ⟨rfl,rfl⟩
 refine condD (fun h1=>?_) fun h1=>?_
 ·have e:putB L v n=(1,L):=by rw [putB,if_pos h1]
  rw [e] at hk
  exact hk _ same (Fr.refl _ _)
 have e1:putB L v n=if n < 64∧v.toNat / 2 ^ n.toNat≠0 then (5,L) else if 1048576 < (L.length:Int)+n then (3,L) else (0,L ++ bitsOf v.toNat n.toNat):=by rw [putB,if_neg h1]
 rw [e1] at hk
 clear e1
 have hn0:0≤n∧n≤64:=by omega
 clear hn
 obtain ⟨m,rfl⟩:=Int.eq_ofNat_of_zero_le hn0.1
 rw [Int.toNat_natCast] at hk
 refine joinI (fun z w'=>z=decide ((m:Int) < 64∧v.toNat / 2 ^ m≠0)∧w'=w1) ?_ ?_
 ·refine condD (fun h=>chkI hn0.1 ⟨?_,rfl⟩) fun h=>⟨by simp [h],rfl⟩
  rw [Zx3 hv.1 (by omega)]
  generalize v.toNat / 2 ^ m=q
  by_cases hq:q=0
  ·simp [hq]
  ·have:¬ (q:Int)=0:=by omega
   simp [hq,h]
 rintro z w2 ⟨rfl,rfl⟩
 refine condD (fun h2=>?_) fun h2=>?_
 ·rw [if_pos h2] at hk
  exact hk _ same (Fr.refl _ _)
 rw [if_neg h2] at hk
 refine ptrI (fldI B0 (i:=1) (x:=(L.length:Int)) rfl ?_)
 rw [w64 (by omega)]
 refine condD (fun h3=>?_) fun h3=>?_
 ·rw [if_pos h3] at hk
  exact hk _ same (Fr.refl _ _)
 have h3:¬ (1048576:Int) < (L.length:Int)+m:=h3
 rw [if_neg h3] at hk
 refine forI (N:=m) (fun s:Int=>s) (fun j i w'=>i=(j:Int)∧Wr b (L ++ bitsOf v.toNat j) (Ex F w2) w'∧Fr F w2 w') ⟨rfl,by rw [bitsOf,List.append_nil]; exact same,Fr.refl _ _⟩ (fun j s w' h=>h.1) ?_ ?_
 ·rintro j i w3 K' hj ⟨rfl,hw,f3⟩ - hK
  have hs3:=f3.size
  obtain ⟨L1,hL1⟩:∃ L1,L ++ bitsOf v.toNat j=L1:=⟨_,rfl⟩
  have hl1:L1.length=L.length+j:=by rw [← hL1,List.length_append,Z4]
  have hnext:L ++ bitsOf v.toNat (j+1)=L1 ++ [v.toNat.testBit j]:=by rw [bitsOf,← List.append_assoc,hL1]
  rw [hL1] at hw
  obtain ⟨_,hb3,s3,B3,o3⟩:=hw
  refine ptrI (fldI B3 (i:=1) (x:=(L1.length:Int)) rfl ?_)
  have hmod:Int.tmod (L1.length:Int) 8=((L1.length % 8:Nat):Int):=by rw [Int.tmod_eq_emod_of_nonneg (by omega)]; omega
  have hdiv:Int.tdiv (L1.length:Int) 8=((L1.length / 8:Nat):Int):=by rw [Int.tdiv_eq_ediv_of_nonneg (by omega)]; omega
  refine joinI (fun (_:Unit) w'=>∃ s4:Sl,Blk w' b 154 [.slice s4.a s4.n s4.c,.int .i64 (L1.length:Int)]∧Own (fun k=>Ex F w2 k∧k≠b) w' 5 u8T s4 (packP L1)∧Fr F w2 w') ?_ ?_
  ·rw [hmod]
   refine condI (fun hz=>?_) fun hz=>?_
   ·have hz:L1.length % 8=0:=by
     have:((L1.length % 8:Nat):Int)=0:=by simpa using hz
     omega
    refine ptrI (fldI B3 (i:=0) (x:=s3) rfl ?_)
    have hpl:=Zoc L1
    refine appP (x:=(0:Int)) Z9o rfl o3 (fun k e=>⟨.inr (by omega),fun e2=>by have:=B3.lt; omega⟩) (by omega) (by omega) fun r w4 o4 f4=>?_
    have B4:=B3.fr f4 fun e=>(o3.own b e).2 rfl
    have f24:Fr F w2 w4:=f3.exS f4 fun k e=>(o3.own k e).1
    refine ptrI ?_
    rw [add_lit]
    refine setI (i:=0) B4 (Nat.zero_lt_succ _) rfl fun w5 B5 f5 s5=>?_
    refine ⟨r,B5,?_,f24.exS f5 fun k e=>by rw [e]; exact .inl hb⟩
    rw [Z18m hz]
    exact o4.fr f5 fun k e e2=>e.2 e2
   ·have hz:L1.length % 8≠0:=by
     intro e
     rw [e] at hz
     simp at hz
    exact ⟨s3,B3,by rw [Z18n hz]; exact o3,f3⟩
  ·rintro _ w4 ⟨s4,B4,o4,f4⟩
   have fd:Fr None w4 w4.drew:=(Fr.refl _ _).drew
   have B4:=B4.fr fd fun h=>h
   have o4:=o4.none fd
   have f4:=f4.then0 fd
   have hpl:=Z150 L1
   refine ptrI (fldI B4 (i:=0) (x:=s4) rfl (ptrI (fldI B4 (i:=1) (x:=(L1.length:Int)) rfl ?_)))
   rw [hdiv,w64 (by omega)]
   refine o4.idx rfl (by omega) (by omega) fun g x hg hx hrd=>ldI x hrd ?_
   rw [Int.toNat_natCast,Z170] at hx
   cases hx
   refine chkI (by omega) (ptrI (fldI B4 (i:=1) (x:=(L1.length:Int)) rfl ?_))
   rw [hmod]
   refine chkI (by omega) (o4.idx rfl (by omega) (by omega) fun g2 x2 hg2 _ _=>?_)
   rw [hg] at hg2
   cases hg2
   have hbit:=Z192 (i:=j) hv.1 hv.2 (by omega)
   rw [hbit]
   have hlt:=Zch (L:=L1) (b:=false)
   have hor:bOr .u8 (byteAt L1 (L1.length / 8):Int) (shL .u8 (bitN (v.toNat.testBit j):Int) ((L1.length % 8:Nat):Int))=((byteAt L1 (L1.length / 8)+bitN (v.toNat.testBit j) * 2 ^ (L1.length % 8):Nat):Int) :=
    Z18k ⟨L1.length % 8,Nat.mod_lt _ (by decide)⟩ ⟨bitN (v.toNat.testBit j),by have:=Z4t (v.toNat.testBit j); omega⟩ ⟨byteAt L1 (L1.length / 8),by
     have h1:=hlt.2
     have h2:(2:Nat) ^ (L1.length % 8)≤2 ^ 7:=Nat.pow_le_pow_right (by decide) (by omega)
     omega⟩ hlt.2
   rw [hor,Int.toNat_natCast]
   refine o4.set rfl (i:=L1.length / 8) (by omega) hg _ fun w5 o5 f5 s5=>?_
   rw [← Z139,← hnext] at o5
   have B5:=B4.fr f5 fun e=>(o4.own b e).2 rfl
   refine ptrI (fldI B5 (i:=1) (x:=(L1.length:Int)) rfl (ptrI ?_))
   rw [add_lit]
   refine setI (i:=1) B5 (by simp) rfl fun w6 B6 f6 s6=>?_
   refine hK _ _ ⟨wsucc hj (by omega),⟨?_,.inl hb,s4,?_,o5.fr f6 fun k e e2=>e.2 e2⟩,(f4.exS f5 fun k e=>(o4.own k e).1).exS f6 fun k e=>by rw [e]; exact .inl hb⟩
   ·rw [hnext,List.length_append,hl1]; simp; omega
   ·rw [hnext,List.length_append]
    have:IntKind.wrap .i64 ((L1.length:Int)+1)=((L1.length+1:Nat):Int):=by rw [w64 (by omega)]; rfl
    rw [this] at B6
    exact B6
 ·rintro i w3 ⟨rfl,hw,f3⟩
  exact hk _ hw f3
theorem Zoi {b:Nat} {L:List Bool} {F:Nat→Prop} (h:Wr b L F w) {K:Res [.sc (.int .i64)]→W R} (hk:K (L.length:Int) Q w):callW Tryz.prog Z5o [.pointer (some ⟨b,0,none⟩)] [.sc (.int .i64)] K Q w:=by
 refine Zou _ K Q w ?_
 unfold Z97
 obtain ⟨_,_,s,B,_⟩:=h
 exact condF rfl (ptrI (fldI B (i:=1) (x:=(L.length:Int)) rfl hk))
end Go.Proofs.YtchhhjlpnecjkaaGreat
namespace Go.Proofs.YtchhhjlpnecjkaaGreat
open Go Go.RowKit Go.Shelf Go.Proofs.YtchhhjlpnecjkaaGreat.Den
variable {R:Type} {Q:R→World→Prop} {w:World}
def len64Ren:Ren where
 f:=fun x=>match x with
  | 129=>163
  | n=>n
 t:=fun x=>match x with
  | 46=>122
  | 3=>3
  | 53=>81
  | 4=>4
  | 5=>5
  | 9=>9
  | n=>n
 g:=fun n=>n
theorem len64Lays:Lays.n129 Tryz.prog len64Ren :=
 {mixed:=rfl,f129:=Eq.trans Tryz.func163 rfl,t3:=Tryz.underlying3,
  a3:=Tryz.isAgg3,z3:=Tryz.sizeOf3,v3:=Tryz.zeroValue3,t4:=Tryz.underlying4,a4:=Tryz.isAgg4,z4:=Tryz.sizeOf4,
  v4:=Tryz.zeroValue4,t5:=Tryz.underlying5,a5:=Tryz.isAgg5,z5:=Tryz.sizeOf5,v5:=Tryz.zeroValue5,
  t9:=Tryz.underlying9,a9:=Tryz.isAgg9,z9:=Tryz.sizeOf9,v9:=Tryz.zeroValue9,t46:=Tryz.underlying122,
  a46:=Tryz.isAgg122,z46:=Tryz.sizeOf122,v46:=Tryz.zeroValue122,t53:=Tryz.underlying81,a53:=Tryz.isAgg81,z53:=Tryz.sizeOf81,
  v53:=Tryz.zeroValue81 }
theorem Zvh {x:Int} (h0:0≤x) (h1:x≤18446744073709551615) {K:Res [.sc (.int .i64)]→W R} (hk:K (Lib.bitLen x.toNat:Int) Q w):callW Tryz.prog Z9f [.int .u64 x] [.sc (.int .i64)] K Q w :=
 (Any.bits_Len64 len64Lays x w h0 h1).mono fun e w' ⟨h1,h2⟩=>by
  subst h2
  exact ⟨_,h1,hk⟩
theorem wU64 {x:Int} (h:0≤x∧x≤18446744073709551615):IntKind.wrap .u64 x=x:=by rw [IntKind.wrap_u64]; omega
def groupsM (v:Nat):Nat:=max 1 ((Lib.bitLen v+3) / 4)
theorem Z9e {v:Int} (h0:0≤v) (h1:v≤18446744073709551615):1≤groupsM v.toNat∧groupsM v.toNat≤16:=by
 have:=Any.bitLen_le64 v h0 h1
 unfold groupsM
 omega
theorem Zg0 {v:Int} (h0:0≤v) (h1:v≤18446744073709551615) {K:Res [.sc (.int .i64)]→W R} (hk:K (groupsM v.toNat:Int) Q w):callW Tryz.prog Zb7 [.int .u64 v] [.sc (.int .i64)] K Q w:=by
 refine Zvr _ K Q w ?_
 unfold Zf4
 refine Zvh h0 h1 ?_
 have hb:=Any.bitLen_le64 v h0 h1
 have e:(if IntKind.wrap .i64 (Int.tdiv (IntKind.wrap .i64 (IntKind.wrap .i64 ((Lib.bitLen v.toNat:Int)+4) - 1)) 4) > 1 then IntKind.wrap .i64 (Int.tdiv (IntKind.wrap .i64 (IntKind.wrap .i64 ((Lib.bitLen v.toNat:Int)+4) - 1)) 4) else 1)=(groupsM v.toNat:Int):=by
  rw [w64 (x:=(Lib.bitLen v.toNat:Int)+4) (by omega),w64 (x:=(Lib.bitLen v.toNat:Int)+4 - 1) (by omega),Int.tdiv_eq_ediv_of_nonneg (by omega),w64 (by omega)]
  unfold groupsM
  split <;> omega
 rw [← e] at hk
 exact hk
def grpV (v n j:Nat):Nat:=v / 2 ^ (4 * j) % 16+if j+1 < n then 16 else 0
def varL (v n:Nat):Nat→List Bool
 | 0=>[]
 | j+1=>varL v n j ++ bitsOf (grpV v n j) 5
theorem Zrw (v n:Nat):∀ j,(varL v n j).length=5 * j
 | 0=>rfl
 | j+1=>by rw [varL,List.length_append,Zrw v n j,Z4]; omega
def varB (v:Nat):List Bool:=varL v (groupsM v) (groupsM v)
theorem Zdj (v:Nat):(varB v).length=5 * groupsM v:=Zrw _ _ _
def putVarM (L:List Bool) (v:Nat):Int × List Bool:=if 1048576 < L.length+5 * groupsM v then (3,L) else (0,L ++ varB v)
theorem Z18z {x:Int} (h0:0≤x) (h1:x≤18446744073709551615):bAnd .u64 x 15=x % 16:=by
 unfold bAnd
 rw [BitVec.toNat_and,BitVec.toNat_ofInt,BitVec.toNat_ofInt]
 have e1:(15 % ((2 ^ IntKind.bits .u64:Nat):Int)).toNat=2 ^ 4 - 1:=by decide
 have e2:(x % ((2 ^ IntKind.bits .u64:Nat):Int)).toNat=x.toNat:=by
  have:((2 ^ IntKind.bits .u64:Nat):Int)=18446744073709551616:=by decide
  rw [this]; omega
 rw [e1,e2,Nat.and_two_pow_sub_one_eq_mod]
 rw [IntKind.wrap_u64]
 omega
theorem or_16:∀ x:Fin 16,bOr .u64 ((x.val:Nat):Int) 16=((x.val+16:Nat):Int):=by decide +kernel
theorem Z18g (v n j:Nat):grpV v n j < 32:=by unfold grpV; split <;> omega
theorem Zaf {b:Nat} {L:List Bool} {F:Nat→Prop} (h:Wr b L F w) {v:Int} (hv:0≤v∧v≤18446744073709551615) {K:Res [.sc (.int .i64)]→W R} (hk:∀ w',Wr b (putVarM L v.toNat).2 (Ex F w) w'→Fr F w w'→K (putVarM L v.toNat).1 Q w') :
  callW Tryz.prog Z3y [.pointer (some ⟨b,0,none⟩),.int .u64 v] [.sc (.int .i64)] K Q w:=by
 refine Zvq _ _ K Q w ?_
 unfold Zf3
 obtain ⟨hg1,hg2⟩:=Z9e hv.1 hv.2
 have hlen:=h.1
 refine Zg0 hv.1 hv.2 (condF rfl (Zoi h ?_))
 obtain ⟨g,hg⟩:∃ g,groupsM v.toNat=g:=⟨_,rfl⟩
 unfold putVarM varB at hk
 rw [hg] at hg1 hg2 hk ⊢
 rw [w64 (x:=(g:Int) * 5) (by omega),w64 (by omega)]
 refine condD (fun h3=>?_) fun h3=>?_
 ·have h3:(1048576:Int) < (L.length:Int)+(g:Int) * 5:=h3
  rw [if_pos (by omega)] at hk
  exact hk w (Wr.st.mono h fun k _ e=>.inl e) (Fr.refl _ _)
 have h3:¬ (1048576:Int) < (L.length:Int)+(g:Int) * 5:=h3
 rw [if_neg (by omega)] at hk
 refine forI (N:=g) (fun s:Int=>s) (fun j i w'=>i=(j:Int)∧Wr b (L ++ varL v.toNat g j) (Ex F w) w'∧Fr F w w') ⟨rfl,by rw [varL,List.append_nil]; exact Wr.st.mono h fun k _ e=>.inl e,Fr.refl _ _⟩ (fun j s w' h=>h.1) ?_ ?_
 ·rintro j i w3 K' hj ⟨rfl,hw,f3⟩ - hK
  have hs3:=f3.size
  rw [w64 (x:=4 * (j:Int)) (by omega),w64 (x:=(g:Int) - 1) (by omega)]
  refine chkI (by omega) ?_
  have e4:(4 * (j:Int))=((4 * j:Nat):Int):=by omega
  have hd:v.toNat / 2 ^ (4 * j)≤v.toNat:=Nat.div_le_self _ _
  have ea:bAnd .u64 (shR .u64 v (4 * (j:Int))) 15=((v.toNat / 2 ^ (4 * j) % 16:Nat):Int):=by
   rw [e4,Zx3 hv.1 (by omega)]
   generalize v.toNat / 2 ^ (4 * j)=q at hd
   rw [Z18z (by omega) (by omega)]
   omega
  refine joinI (fun z w'=>z=(grpV v.toNat g j:Int)∧w'=w3) ?_ ?_
  ·refine condD (fun h=>⟨?_,rfl⟩) fun h=>⟨?_,rfl⟩
   ·rw [ea,or_16 ⟨v.toNat / 2 ^ (4 * j) % 16,Nat.mod_lt _ (by decide)⟩]
    unfold grpV
    rw [if_pos (by omega)]
   ·rw [ea]
    unfold grpV
    rw [if_neg (by omega),Nat.add_zero]
  rintro z w4 ⟨rfl,rfl⟩
  have hlt:=Z18g v.toNat g j
  have hll:=Zrw v.toNat g j
  have ep:putB (L ++ varL v.toNat g j) (grpV v.toNat g j:Int) 5=(0,L ++ varL v.toNat g (j+1)):=by
   rw [putB,if_neg (by omega),if_neg,if_neg (by rw [List.length_append,hll]; omega)]
   ·rw [Int.toNat_natCast,show (5:Int).toNat=5 from rfl,varL,List.append_assoc]
   ·rintro ⟨_,h⟩
    apply h
    rw [Int.toNat_natCast,show (5:Int).toNat=5 from rfl]
    exact Nat.div_eq_of_lt (by omega)
  refine Zbc hw (v:=(grpV v.toNat g j:Int)) (n:=5) (by omega) (by omega) fun w5 hw5 f5=>?_
  rw [ep] at hw5
  have hs5:=f5.size
  refine hK _ _ ⟨wsucc hj (by omega),Wr.st.mono hw5 fun k _ e=>?_,f3.exS f5 fun k e=>e⟩
  rcases e with e | e
  ·exact e
  ·exact .inr (by omega)
 ·rintro i w3 ⟨rfl,hw,f3⟩
  exact hk _ hw f3
def widthM (lo hi:Int):Nat:=if hi < lo then 0 else Lib.bitLen (hi - lo).toNat
theorem Zi2 {lo hi:Int} (h1:-9223372036854775808≤lo) (h2:lo≤hi) (h3:hi≤9223372036854775807):IntKind.wrap .u64 (IntKind.wrap .u64 hi - IntKind.wrap .u64 lo)=hi - lo:=by
 rw [IntKind.wrap_u64,IntKind.wrap_u64,IntKind.wrap_u64]
 omega
theorem Zco {lo hi:Int} (h1:-9223372036854775808≤lo∧lo≤9223372036854775807) (h2:-9223372036854775808≤hi∧hi≤9223372036854775807) {K:Res [.sc (.int .i64)]→W R} (hk:K (widthM lo hi:Int) Q w):callW Tryz.prog Zaa [.int .i64 lo,.int .i64 hi] [.sc (.int .i64)] K Q w:=by
 refine Zxw _ _ K Q w ?_
 unfold Zh0
 unfold widthM at hk
 refine condD (fun h=>?_) fun h=>?_
 ·rw [if_pos h] at hk
  exact hk
 ·rw [if_neg h] at hk
  rw [Zi2 h1.1 (by omega) h2.2]
  exact Zvh (by omega) (by omega) hk
def putInM (L:List Bool) (n lo hi:Int):Int × List Bool:=if hi < lo then (1,L) else if n < lo∨hi < n then (5,L) else putB L (n - lo) (widthM lo hi)
theorem Zte {b:Nat} {L:List Bool} {F:Nat→Prop} (h:Wr b L F w) {n lo hi:Int} (h1:-9223372036854775808≤lo∧lo≤9223372036854775807) (h2:-9223372036854775808≤hi∧hi≤9223372036854775807) {K:Res [.sc (.int .i64)]→W R}
  (hk:∀ w',Wr b (putInM L n lo hi).2 (Ex F w) w'→Fr F w w'→K (putInM L n lo hi).1 Q w') :
  callW Tryz.prog Za9 [.pointer (some ⟨b,0,none⟩),.int .i64 n,.int .i64 lo,.int .i64 hi] [.sc (.int .i64)] K Q w:=by
 refine Zxv _ _ _ _ K Q w ?_
 unfold Zgz
 unfold putInM at hk
 have same:Wr b L (Ex F w) w:=Wr.st.mono h fun k _ e=>.inl e
 refine condF rfl (condD (fun h3=>?_) fun h3=>?_)
 ·rw [if_pos h3] at hk
  exact hk _ same (Fr.refl _ _)
 rw [if_neg h3] at hk
 refine joinI (fun z w'=>z=decide (n < lo∨hi < n)∧w'=w) ?_ ?_
 ·refine condD (fun h=>⟨by simp [h],rfl⟩) fun h=>⟨?_,rfl⟩
  simp [h]
 rintro z w1 ⟨rfl,rfl⟩
 refine condD (fun h4=>?_) fun h4=>?_
 ·rw [if_pos h4] at hk
  exact hk _ same (Fr.refl _ _)
 rw [if_neg h4] at hk
 refine Zco h1 h2 ?_
 rw [Zi2 (lo:=lo) (hi:=n) h1.1 (by omega) (by omega)]
 have hw:(widthM lo hi:Int)≤64:=by
  unfold widthM
  split
  ·decide
  ·have:=Any.bitLen_le64 (hi - lo) (by omega) (by omega)
   omega
 exact Zbc h (by omega) (by omega) hk
end Go.Proofs.YtchhhjlpnecjkaaGreat
set_option linter.unusedVariables false
namespace Go.Proofs.YtchhhjlpnecjkaaGreat
open Go Go.Proofs.YtchhhjlpnecjkaaGreat.Den
def Zad (x0:Int) (y1:Int):W (Int) :=
 callW Tryz.prog Zdy [.int .u32 x0] [.sc .bool] fun (x_1:Bool) =>
 callW Tryz.prog Zdy [.int .u32 y1] [.sc .bool] fun (x_2:Bool) =>
 cond x_1
  (cond x_2
   (retW 0)
   (retW (-1)))
  (cond x_2
  (retW 1)
  (cond (decide (x0 < y1))
  (retW (-1))
  (cond (decide (x0 > y1))
  (retW 1)
  (retW 0))))
def Zfv:Hints:={}
theorem Zr6 (x0:Int) (y1:Int):denF Tryz.prog Zfv Tryz.f122 [.sc (.int .i64)] [.int .u32 x0,.int .u32 y1]=Zad x0 y1:=by kernel_rfl
theorem Zr5 {R:Type} (x0:Int) (y1:Int) (K:Res [.sc (.int .i64)]→W R) (Q:R→World→Prop) (w:World) (h:Zad x0 y1 (fun r w=>K r Q w) w):callW Tryz.prog Z6s [.int .u32 x0,.int .u32 y1] [.sc (.int .i64)] K Q w :=
 Z0 mix Tryz.func122 Zfv (ts:=[.sc (.int .i64)]) trivial (by rw [Tryz.ntmps122]; simp) (by rw [Zr6]; exact h)
def Z81 (x0:Int) (y1:Int):W (Int) :=
 callW Tryz.prog Zae [.int .u8 x0] [.sc .bool] fun (x_1:Bool) =>
 callW Tryz.prog Zae [.int .u8 y1] [.sc .bool] fun (x_2:Bool) =>
 cond x_1
  (cond x_2
   (retW 0)
   (retW (-1)))
  (cond x_2
  (retW 1)
  (cond (decide (x0 < y1))
  (retW (-1))
  (cond (decide (x0 > y1))
  (retW 1)
  (retW 0))))
def Zcu:Hints:={}
theorem Zn9 (x0:Int) (y1:Int):denF Tryz.prog Zcu Tryz.f151 [.sc (.int .i64)] [.int .u8 x0,.int .u8 y1]=Z81 x0 y1:=by kernel_rfl
theorem Zmt {R:Type} (x0:Int) (y1:Int) (K:Res [.sc (.int .i64)]→W R) (Q:R→World→Prop) (w:World) (h:Z81 x0 y1 (fun r w=>K r Q w) w):callW Tryz.prog Zda [.int .u8 x0,.int .u8 y1] [.sc (.int .i64)] K Q w :=
 Z0 mix Tryz.func151 Zcu (ts:=[.sc (.int .i64)]) trivial (by rw [Tryz.ntmps151]; simp) (by rw [Zn9]; exact h)
def Z9m (x0:Int):W (Bool) :=
 retW (x0 != x0)
def Zjh:Hints:={}
theorem Ztz (x0:Int):denF Tryz.prog Zjh Tryz.f153 [.sc .bool] [.int .u32 x0]=Z9m x0:=by kernel_rfl
theorem Zjg {R:Type} (x0:Int) (K:Res [.sc .bool]→W R) (Q:R→World→Prop) (w:World) (h:Z9m x0 (fun r w=>K r Q w) w):callW Tryz.prog Zdy [.int .u32 x0] [.sc .bool] K Q w :=
 Z0 mix Tryz.func153 Zjh (ts:=[.sc .bool]) trivial (by rw [Tryz.ntmps153]; simp) (by rw [Ztz]; exact h)
end Go.Proofs.YtchhhjlpnecjkaaGreat
namespace Go.Proofs.YtchhhjlpnecjkaaGreat
open Go Go.RowKit Go.Proofs.YtchhhjlpnecjkaaGreat.Den
variable {R:Type} {Q:R→World→Prop} {w:World}
theorem fIdx {b:Nat} {i:Int} {j:Nat} (hi:i=(j:Int)) (hj:j < 3) {K:Addr→W R} (hk:K ⟨b,1+j,none⟩ Q w):idxW (some (Addr.add ⟨b,0,none⟩ 1)) 3 1 i K Q w:=by
 subst hi
 refine idxA (by omega) (by omega) ?_
 rw [addA,add_lit]
 simpa using hk
theorem Zuq {k i:Int} {K:Res [.agg [.str,.int .i32,.int .i32],.sc .bool]→W R} (h0:(i < 0∨((fieldsM k).length:Int)≤i)→∀ w',Fr None w w'→K ((⟨#[]⟩,0,0),false) Q w')
  (hk:∀ p w',0≤i→(fieldsM k)[i.toNat]?=some p→Fr None w w'→K (p,true) Q w'):callW Tryz.prog Zme [.int .u8 k,.int .i64 i] [.agg [.str,.int .i32,.int .i32],.sc .bool] K Q w:=by
 refine Zzx _ _ K Q w ?_
 unfold Zlx
 refine newI fun w1 B1 f1 s1=>Z9v fun s w2 hS f2=>?_
 have B2:=B1.fr f2 fun h=>h
 have hn:s.n=(fieldsM k).length:=hS.len
 have f02:=f1.then0 f2
 refine joinI (fun z w'=>z=decide (i < 0∨((fieldsM k).length:Int)≤i)∧w'=w2) ?_ ?_
 ·refine condD (fun h=>⟨by simp [h],rfl⟩) fun h=>⟨?_,rfl⟩
  rw [hn]
  simp [h]
 ·rintro z w' ⟨rfl,rfl⟩
  refine condD (fun h=>?_) fun h=>?_
  ·refine stoAll B2 rfl rfl fun w3 B3 f3 s3=>aggI B3 (x:=((⟨#[]⟩:ByteArray),(0:Int),(0:Int))) rfl ?_
   exact h0 h w3 (f02.newer f3 fun k e=>by omega)
  ·have hi0:0≤i:=by omega
   have hi1:i < ((fieldsM k).length:Int):=by omega
   refine hS.get (j:=i.toNat) rfl (by omega) (by omega) fun y hy=>?_
   refine stoAll B2 rfl rfl fun w3 B3 f3 s3=>aggI B3 (x:=y) rfl ?_
   exact hk y w3 hi0 hy (f02.newer f3 fun k e=>by omega)
theorem Z9l {k i:Int} {K:Res [.sc (.int .i32),.sc (.int .i32),.sc (.int .i64)]→W R} (hk:∀ w',Fr None w w'→K (rangeM k i) Q w') :
  callW Tryz.prog Z6o [.int .u8 k,.int .i64 i] [.sc (.int .i32),.sc (.int .i32),.sc (.int .i64)] K Q w:=by
 refine Ztw _ _ K Q w ?_
 unfold Zdv
 refine Zuq (fun h w1 f1=>?_) fun p w1 h0 hp f1=>?_
 ·refine newI fun w2 B2 f2 s2=>stoAll B2 rfl rfl fun w3 B3 f3 s3=>condT rfl ?_
  have e:rangeM k i=(0,0,1):=by
   unfold rangeM
   split
   ·rw [List.getElem?_eq_none (by omega)]
   ·rfl
  have:=hk w3 (f1.then0 (f2.newer f3 fun k e=>by omega))
  rw [e] at this
  exact this
 ·refine newI fun w2 B2 f2 s2=>stoAll B2 rfl rfl fun w3 B3 f3 s3=>condF rfl ?_
  have fd:Fr None w3 w3.drew:=(Fr.refl _ _).drew
  have B3:=B3.fr fd fun h=>h
  refine fldI B3 (i:=1) (x:=p.2.1) rfl (fldI B3 (i:=2) (x:=p.2.2) rfl ?_)
  have e:rangeM k i=(p.2.1,p.2.2,0):=by
   unfold rangeM
   rw [if_pos h0,hp]
  have:=hk _ ((f1.then0 (f2.newer f3 fun k e=>by omega)).then0 fd)
  rw [e] at this
  exact this
theorem Den.SlT.readK {ok:Nat→Prop} {t:Ty} {s:Sl} {l:List t.T} (h:SlT ok w t s l) {sz:Nat} (hsz:sz=t.size) {i:Int} {j:Nat} (hi:i=j) {x:t.T} (hj:l[j]?=some x) {K:Addr→W R} (hk:∀ a,(∀ w',SlT ok w' t s l→Rd w' a t x)→K a Q w) :
  (idxW s.a s.n sz i K) Q w:=by
 subst hi; subst hsz
 have hjl:=(List.getElem?_eq_some_iff.1 hj).1
 have hn:=h.len
 rcases h.at_ with e | ⟨b,o,ha,_,_,hrd⟩
 ·rw [e] at hjl; simp at hjl
 ·rw [ha]
  refine ⟨_,rfl,by omega,by omega,hk _ fun w' h'=>?_⟩
  rw [add_lit,Int.toNat_natCast]
  rcases h'.at_ with e | ⟨b',o',ha',_,_,hrd'⟩
  ·rw [e] at hjl; simp at hjl
  ·rw [ha] at ha'
   cases ha'
   exact hrd' j x hj
end Go.Proofs.YtchhhjlpnecjkaaGreat
namespace Go.Proofs.YtchhhjlpnecjkaaGreat
open Go Go.RowKit Go.Proofs.YtchhhjlpnecjkaaGreat.Den
variable {R:Type} {Q:R→World→Prop} {w:World}
theorem Zri {k:Int} {K:Res [.sc .bool]→W R} (hk:∀ w',Fr None w w'→K (toldM k) Q w'):callW Tryz.prog Zfp [.int .u8 k] [.sc .bool] K Q w:=by
 refine Zvx _ K Q w ?_
 unfold Zfa
 exact Z9v fun s w1 _ f1=>hk w1 f1
theorem Zrj {c:Comp} {K:Res [.sc .bool]→W R} (hk:∀ w',Fr None w w'→K (!toldM c.1) Q w'):callW Tryz.prog Zfq [.agg ⟨compC c⟩] [.sc .bool] K Q w:=by
 refine Zvy c K Q w ?_
 unfold Zfb
 exact newI fun w1 B1 f1 s1=>fldI B1 (i:=0) (x:=c.1) rfl (Zri fun w2 f2=>hk w2 (f1.then0 f2))
def secretM (l:List Comp):Bool:=l.any fun c=>!toldM c.1
theorem Zmp {ok:Nat→Prop} {s:Sl} {l:List Comp} (hS:SlT ok w compT s l) (hm:l.length≤9223372036854775807) {K:Res [.sc .bool]→W R} (hk:∀ w',Fr None w w'→K (secretM l) Q w') :
  callW Tryz.prog Z2x [.slice s.a s.n s.c,.func (.func 71) #[] #[]] [.sc .bool] K Q w:=by
 refine Z52 s K Q w ?_
 unfold Zv
 refine Z6l s _ _ w ?_
 unfold Z17
 have hlen:=hS.len
 refine forI (N:=s.n) (fun s:Int=>s) (fun j i w'=>i=j∧Fr None w w'∧secretM (l.take j)=false) ⟨rfl,Fr.refl _ _,rfl⟩ (fun j s w' h=>h.1) ?_ ?_
 ·rintro j i w1 K' hj ⟨rfl,f1,hno⟩ - hK
  refine (hS.fr0 f1).get rfl rfl (by omega) fun c hc=>Zrj fun w2 f2=>?_
  have e:secretM (l.take (j+1))=(secretM (l.take j) || !toldM c.1):=by unfold secretM; rw [Z8 hc,List.any_append]; simp
  refine condI (fun h=>?_) fun h=>?_
  ·have:secretM l=true:=by
    unfold secretM
    exact List.any_eq_true.2 ⟨c,List.mem_of_getElem? hc,h⟩
   have hk:=hk w2 (f1.then0 f2)
   rw [this] at hk
   have e2:decide ((j:Int) ≥ 0)=true:=decide_eq_true (by omega)
   rw [← e2] at hk
   exact hk
  ·exact hK _ _ ⟨wsucc hj (by omega),f1.then0 f2,by rw [e,hno,h]; rfl⟩
 ·rintro i w1 ⟨rfl,f1,hno⟩
  rw [List.take_of_length_le (by omega)] at hno
  have hk:=hk w1 f1
  rw [hno] at hk
  exact hk
def oneM (e:Ent):Int:=if genOf e.1 < 1∨4194303 < genOf e.1 then 4 else listE e.2
theorem Zxh {ok:Nat→Prop} {r:Int × Sl} {e:Ent} (h1:r.1=e.1) (hS:SlT ok w compT r.2 e.2) (hm:Small e.2) (hid:IdOk e.1) {K:Res [.sc (.int .i64)]→W R} (hk:∀ w',Fr None w w'→K (oneM e) Q w') :
  callW Tryz.prog Zpu [.agg ⟨[.int .u32 r.1,.slice r.2.a r.2.n r.2.c]⟩] [.sc (.int .i64)] K Q w:=by
 refine Z12p r K Q w ?_
 unfold Zpf
 unfold oneM at hk
 refine newI fun w1 B1 f1 s1=>fldI B1 (i:=0) (x:=r.1) rfl ?_
 rw [h1]
 refine Zur hid ?_
 refine joinI (fun z w'=>z=decide (genOf e.1 < 1∨4194303 < genOf e.1)∧w'=w1) ?_ ?_
 ·refine condD (fun h=>⟨by simp [h],rfl⟩) fun h=>⟨?_,rfl⟩
  simp [h]
 rintro z w2 ⟨rfl,rfl⟩
 refine condD (fun h=>?_) fun h=>?_
 ·rw [if_pos h] at hk
  exact hk w2 f1
 ·rw [if_neg h] at hk
  exact fldI B1 (i:=1) (x:=r.2) rfl (Zrh (hS.fr0 f1) hm fun w3 f3=>hk w3 (f1.then0 f3))
def formM:Int→List Ent→Int
 | _,[]=>0
 | last,e :: r=>if e.1≤last then 4 else if oneM e≠0 then oneM e else if secretM e.2=true then 4 else formM e.1 r
def lastE (l:List Ent) (j:Nat):Int:=match j with
 | 0=>0
 | j+1=>((l[j]?).map (·.1)).getD 0
theorem Z9w {ok:Nat→Prop} {s:Sl} {raws:List (Int × Sl)} {L:List Ent} (hS:SlT ok w entT s raws) (hE:EntsR ok w raws L) (hm:L.length≤9223372036854775807) (hL:∀ e∈L,IdOk e.1∧Small e.2) {K:Res [.sc (.int .i64)]→W R} (hk:∀ w',Fr None w w'→K (formM 0 L) Q w') :
  callW Tryz.prog Z7t [.slice s.a s.n s.c] [.sc (.int .i64)] K Q w:=by
 refine Z102 s K Q w ?_
 unfold Zm2
 have hlen:=hS.len
 have hel:=hE.len
 refine forI (N:=s.n) (fun s:Int × Int=>s.2) (fun j s w'=>s=(lastE L j,(j:Int))∧Fr None w w'∧formM 0 L=formM (lastE L j) (L.drop j)) ⟨rfl,Fr.refl _ _,rfl⟩ (fun j s w' h=>by rw [h.1]) ?_ ?_
 ·rintro j s1 w1 K' hj ⟨rfl,f1,hf⟩ - hK
  obtain ⟨e,he⟩:∃ e,L[j]?=some e:=⟨_,List.getElem?_eq_getElem (by omega)⟩
  obtain ⟨r1,hr1,ha1,ha2⟩:=hE.get he
  obtain ⟨hid,hsm⟩:=hL e (List.mem_of_getElem? he)
  have hdrop:L.drop j=e :: L.drop (j+1):=by
   obtain ⟨hl,hg⟩:=List.getElem?_eq_some_iff.1 he
   rw [List.drop_eq_getElem_cons hl,hg]
  rw [hdrop,formM] at hf
  rw [hf] at hk
  refine (hS.fr0 f1).get rfl rfl (by omega) fun y hy=>?_
  rw [hr1] at hy
  cases hy
  refine newI fun w2 B2 f2 s2=>stoAll B2 rfl rfl fun w3 B3 f3 s3=>fldI B3 (i:=0) (x:=r1.1) rfl ?_
  have f13:Fr None w1 w3:=f2.newer f3 fun k e=>by omega
  have f03:=f1.then0 f13
  rw [ha1]
  refine condD (fun h=>?_) fun h=>?_
  ·rw [if_pos h] at hk
   exact hk w3 f03
  rw [if_neg h] at hk hf
  refine fldI B3 (i:=0) (x:=r1.1) rfl (aggI B3 (x:=r1) rfl (Zxh ha1 (ha2.fr0 f03) hsm hid fun w4 f4=>?_))
  have f04:=f03.then0 f4
  refine condN (fun hne=>?_) fun heq=>?_
  ·rw [if_pos hne] at hk
   exact hk w4 f04
  rw [if_neg (by omega)] at hk hf
  refine fldI (B3.fr f4 fun h=>h) (i:=1) (x:=r1.2) rfl (Zmp (ha2.fr0 f04) (Nat.le_trans hsm (by decide)) fun w5 f5=>?_)
  have f05:=f04.then0 f5
  refine condI (fun h=>?_) fun h=>?_
  ·rw [if_pos h] at hk
   exact hk w5 f05
  ·rw [if_neg (by rw [h]; decide)] at hk hf
   have hlast:lastE L (j+1)=e.1:=by
    show ((L[j]?).map (·.1)).getD 0=e.1
    rw [he]; rfl
   refine hK _ _ ⟨?_,f05,by rw [hlast]; exact hf⟩
   rw [wsucc hj (by omega),hlast,ha1]
 ·rintro s1 w1 ⟨rfl,f1,hf⟩
  rw [List.drop_of_length_le (by omega),formM] at hf
  have hk:=hk w1 f1
  rw [hf] at hk
  exact hk
end Go.Proofs.YtchhhjlpnecjkaaGreat
namespace Go.Proofs.YtchhhjlpnecjkaaGreat
open Go Go.RowKit Go.Proofs.YtchhhjlpnecjkaaGreat.Den
variable {R:Type} {Q:R→World→Prop} {w:World}
def cmp3 (x y:Int):Int:=if x < y then -1 else if x > y then 1 else 0
theorem half {i j:Nat} (h:i+j≤9223372036854775807):IntKind.wrap .i64 (shR .u64 (IntKind.wrap .u64 (IntKind.wrap .i64 ((i:Int)+(j:Int)))) 1)=(((i+j) / 2:Nat):Int):=by
 have e:IntKind.wrap .u64 (IntKind.wrap .i64 ((i:Int)+(j:Int)))=((i+j:Nat):Int):=by
  rw [w64 (by omega),IntKind.wrap_u64]; omega
 rw [e,show (1:Int)=((1:Nat):Int) from rfl,Zx3 (by omega) (by decide),Int.toNat_natCast,w64 (by omega)]
theorem Zhr {x y:Int} {K:Res [.sc (.int .i64)]→W R} (hk:K (cmp3 x y) Q w):callW Tryz.prog Z6s [.int .u32 x,.int .u32 y] [.sc (.int .i64)] K Q w:=by
 refine Zr5 _ _ K Q w ?_
 unfold Zad
 refine Zjg _ _ _ _ ?_
 unfold Z9m
 refine Zjg _ _ _ _ ?_
 unfold Z9m
 unfold cmp3 at hk
 refine condF (by simp) (condF (by simp) (condD (fun h=>?_) fun h=>condD (fun h2=>?_) fun h2=>?_))
 ·rw [if_pos h] at hk; exact hk
 ·rw [if_neg h,if_pos h2] at hk; exact hk
 ·rw [if_neg h,if_neg h2] at hk; exact hk
theorem Zev {r:Int × Sl} {id:Int} {K:Res [.sc (.int .i64)]→W R} (hk:∀ w',Fr None w w'→K (cmp3 r.1 id) Q w'):callW Tryz.prog Z9s [.agg ⟨[.int .u32 r.1,.slice r.2.a r.2.n r.2.c]⟩,.int .u32 id] [.sc (.int .i64)] K Q w:=by
 refine Ztx r _ K Q w ?_
 unfold Zdw
 exact newI fun w1 B1 f1 s1=>fldI B1 (i:=0) (x:=r.1) rfl (Zhr (hk w1 f1))
def findE (L:List Ent) (id:Int):Int:=match L.findIdx? (fun e=>e.1 == id) with
 | some i=>i
 | none=>-1
theorem Z10s {x y:Int}:cmp3 x y < 0↔x < y:=by
 unfold cmp3
 split
 ·simp; assumption
 ·split
  ·simp; omega
  ·simp; omega
theorem Z17o {x y:Int}:cmp3 x y=0↔x=y:=by
 unfold cmp3
 split
 ·simp; omega
 ·split
  ·simp; omega
  ·simp; omega
theorem Zd9 {L:List Ent} (hs:L.Pairwise fun a b=>a.1 < b.1) {p q:Nat} {a b:Ent} (hpq:p < q) (ha:L[p]?=some a) (hb:L[q]?=some b):a.1 < b.1:=by
 obtain ⟨h1,rfl⟩:=List.getElem?_eq_some_iff.1 ha
 obtain ⟨h2,rfl⟩:=List.getElem?_eq_some_iff.1 hb
 exact List.pairwise_iff_getElem.1 hs p q h1 h2 hpq
theorem Zv6 {L:List Ent} (hs:L.Pairwise fun a b=>a.1 < b.1) {i:Nat} {e:Ent} (he:L[i]?=some e):findE L e.1=(i:Int):=by
 have:L.findIdx? (fun x=>x.1 == e.1)=some i:=by
  rw [List.findIdx?_eq_some_iff_getElem]
  obtain ⟨hl,hg⟩:=List.getElem?_eq_some_iff.1 he
  refine ⟨hl,by rw [hg]; simp,fun q hq=>?_⟩
  have:=Zd9 hs hq (List.getElem?_eq_getElem (by omega)) he
  simp; omega
 rw [findE,this]
theorem Zpm {L:List Ent} {id:Int} (h:∀ (q:Nat) e,L[q]?=some e→e.1≠id):findE L id=-1:=by
 have:L.findIdx? (fun x=>x.1 == id)=none:=by
  rw [List.findIdx?_eq_none_iff]
  intro x hx
  obtain ⟨q,hq⟩:=List.mem_iff_getElem?.1 hx
  simpa using h q x hq
 rw [findE,this]
theorem Zut {ok:Nat→Prop} {s:Sl} {raws:List (Int × Sl)} {L:List Ent} (hS:SlT ok w entT s raws) (hE:EntsR ok w raws L) (hs:L.Pairwise fun a b=>a.1 < b.1) (hm:L.length≤4611686018427387903) {id:Int} {K:Res [.sc (.int .i64)]→W R} (hk:∀ w',Fr None w w'→K (findE L id) Q w') :
  callW Tryz.prog Zmh [.slice s.a s.n s.c,.int .u32 id] [.sc (.int .i64)] K Q w:=by
 refine Z101 s _ K Q w ?_
 unfold Zm1
 refine Z3r s _ _ _ w ?_
 unfold Zj
 have hlen:=hS.len
 have hel:=hE.len
 refine loopI (fun (st:Int × Int) w'=>∃ i j:Nat,st=((i:Int),(j:Int))∧i≤j∧j≤L.length∧(∀ (q:Nat) e,q < i→L[q]?=some e→e.1 < id)∧(∀ (q:Nat) e,j≤q→L[q]?=some e→id≤e.1)∧Fr None w w') (fun st _=>(st.2 - st.1).toNat)
  ⟨0,s.n,rfl,by omega,by omega,fun q e h=>absurd h (by omega),fun q e h he=>by have:=(List.getElem?_eq_some_iff.1 he).1; omega,Fr.refl _ _⟩ ?_
 rintro st w1 ⟨i,j,rfl,hij,hj,hlo,hhi,f1⟩
 dsimp only
 rw [half (i:=i) (j:=j) (by omega)]
 refine condD (fun hlt=>?_) fun hge=>?_
 ·have hlt:(i:Int) < j:=hlt
  obtain ⟨h,hh⟩:∃ h,(i+j) / 2=h:=⟨_,rfl⟩
  rw [hh]
  have h1:i≤h:=by omega
  have h2:h < j:=by omega
  obtain ⟨e,he⟩:∃ e,L[h]?=some e:=⟨_,List.getElem?_eq_getElem (by omega)⟩
  obtain ⟨r1,hr1,ha1,_⟩:=hE.get he
  refine (hS.fr0 f1).get (j:=h) rfl rfl (by omega) fun y hy=>?_
  rw [hr1] at hy
  cases hy
  refine Zev fun w2 f2=>?_
  rw [ha1]
  refine joinI (fun (z:Int × Int) w'=>z=(if e.1 < id then (((h+1:Nat):Int),(j:Int)) else ((i:Int),(h:Int)))∧w'=w2) ?_ ?_
  ·refine condD (fun hc=>⟨?_,rfl⟩) fun hc=>⟨?_,rfl⟩
   ·rw [if_pos (Z10s.1 hc),w64 (by omega)]; rfl
   ·rw [if_neg fun hx=>hc (Z10s.2 hx)]
  rintro z w3 ⟨rfl,rfl⟩
  by_cases hc:e.1 < id
  ·rw [if_pos hc]
   refine ⟨⟨h+1,j,rfl,by omega,hj,fun q e' hq he'=>?_,hhi,f1.then0 f2⟩,by dsimp only; omega⟩
   rcases Nat.lt_succ_iff_lt_or_eq.1 hq with hq | rfl
   ·have:=Zd9 hs hq he' he; omega
   ·rw [he] at he'; cases he'; exact hc
  ·rw [if_neg hc]
   refine ⟨⟨i,h,rfl,h1,by omega,hlo,fun q e' hq he'=>?_,f1.then0 f2⟩,by dsimp only; omega⟩
   rcases Nat.lt_or_eq_of_le hq with hq | rfl
   ·have:=Zd9 hs hq he he'; omega
   ·rw [he] at he'; cases he'; omega
 ·have hge:¬ (i:Int) < j:=hge
  have:i=j:=by omega
  subst this
  refine joinI (fun (z:Int × Bool) w'=>z.1=(i:Int)∧(if z.2=true then z.1 else -1)=findE L id∧Fr None w w') ?_ ?_
  ·refine condD (fun hin=>?_) fun hout=>?_
   ·have hin:(i:Int) < s.n:=hin
    obtain ⟨e,he⟩:∃ e,L[i]?=some e:=⟨_,List.getElem?_eq_getElem (by omega)⟩
    obtain ⟨r1,hr1,ha1,_⟩:=hE.get he
    refine (hS.fr0 f1).get (j:=i) rfl rfl (by omega) fun y hy=>?_
    rw [hr1] at hy
    cases hy
    refine Zev fun w2 f2=>⟨rfl,?_,f1.then0 f2⟩
    rw [ha1]
    by_cases hc:e.1=id
    ·subst hc
     have:(cmp3 e.1 e.1 == 0)=true:=by simpa using Z17o.2 rfl
     dsimp only
     rw [if_pos this,Zv6 hs he]
    ·have:¬ (cmp3 e.1 id == 0)=true:=by simpa using fun x=>hc (Z17o.1 x)
     dsimp only
     rw [if_neg this,Zpm fun q e' he'=>?_]
     rcases Nat.lt_trichotomy q i with h | h | h
     ·have:=hlo q e' h he'; omega
     ·subst h; rw [he] at he'; cases he'; exact hc
     ·have:=Zd9 hs h he he'; have:=hhi i e (Nat.le_refl _) he; omega
   ·have hout:¬ (i:Int) < s.n:=hout
    refine ⟨rfl,?_,f1⟩
    dsimp only
    rw [if_neg (by decide),Zpm fun q e' he'=>?_]
    have:=hlo q e' (by have:=(List.getElem?_eq_some_iff.1 he').1; omega) he'
    omega
  rintro ⟨z1,z2⟩ w2 ⟨h1,h2,f2⟩
  dsimp only at h1 h2
  cases z2 with
  | true =>
   rw [if_pos rfl] at h2
   subst h2
   exact hk w2 f2
  | false =>
   rw [if_neg (by decide)] at h2
   have:=hk w2 f2
   rw [← h2] at this
   exact this
end Go.Proofs.YtchhhjlpnecjkaaGreat
namespace Go.Proofs.YtchhhjlpnecjkaaGreat
open Go Go.RowKit Go.Proofs.YtchhhjlpnecjkaaGreat.Den
variable {R:Type} {Q:R→World→Prop} {w:World}
def oldM (L:List Ent) (id k:Int):Comp:=match L.findIdx? (fun e=>e.1 == id) with
 | some i=>(((L[i]?).bind fun e=>e.2.find? fun c=>c.1 == k)).getD (0,0,0,0)
 | none=>(0,0,0,0)
theorem Zhv {ok:Nat→Prop} {s:Sl} {raws:List (Int × Sl)} {L:List Ent} (hS:SlT ok w entT s raws) (hE:EntsR ok w raws L) (hs:L.Pairwise fun a b=>a.1 < b.1) (hm:L.length≤4611686018427387903) (hL:∀ e∈L,e.2.length≤9223372036854775807) {id k:Int} {K:Res [.agg [.int .u8,.int .i32,.int .i32,.int .i32]]→W R} (hk:∀ w',Fr None w w'→K (oldM L id k) Q w') :
  callW Tryz.prog Zde [.slice s.a s.n s.c,.int .u32 id,.int .u8 k] [.agg [.int .u8,.int .i32,.int .i32,.int .i32]] K Q w:=by
 refine Zxx s _ _ K Q w ?_
 unfold Zh1
 refine newI fun w1 B1 f1 s1=>Zut (hS.fr0 f1) (hE.fr f1 fun _ _ h=>h) hs hm fun w2 f2=>?_
 have B2:=B1.fr f2 fun h=>h
 have f02:=f1.then0 f2
 have hs2:=f02.size
 unfold oldM at hk
 unfold findE
 cases hf:L.findIdx? (fun e=>e.1 == id) with
 | none =>
  rw [hf] at hk
  refine condT rfl (stoAll B2 rfl rfl fun w3 B3 f3 s3=>aggI B3 (x:=((0,0,0,0):Comp)) rfl ?_)
  exact hk w3 (f02.newer f3 fun k e=>by omega)
 | some i =>
  rw [hf] at hk
  dsimp only at hk
  have hil:i < L.length:=by
   rw [List.findIdx?_eq_some_iff_getElem] at hf
   exact hf.1
  obtain ⟨e,he⟩:∃ e,L[i]?=some e:=⟨_,List.getElem?_eq_getElem hil⟩
  obtain ⟨r1,hr1,ha1,ha2⟩:=hE.get he
  rw [he] at hk
  refine condF (decide_eq_false (by show ¬ ((i:Int) < 0); omega)) ?_
  refine (hS.fr0 f02).readK rfl rfl hr1 fun ad had=>(had _ (hS.fr0 f02)).fld (i:=1) (s:=.sl) (y:=r1.2) rfl ?_
  have hcl:=ha2.len
  have hle:=hL e (List.mem_of_getElem? he)
  refine forI (N:=r1.2.n) (fun s:Int=>s) (fun j t v=>t=(j:Int)∧Fr None w2 v∧(∀ (q:Nat) c,q < j→e.2[q]?=some c→c.1≠k)) ⟨rfl,Fr.refl _ _,fun q c h=>absurd h (by omega)⟩ (fun j s w' h=>h.1) ?_ ?_
  ·rintro j t v K' hj ⟨rfl,fv,hno⟩ - hK
   refine ((ha2.fr0 f02).fr0 fv).get rfl rfl (by omega) fun c hc=>?_
   refine newI fun v1 C1 g1 t1=>stoAll C1 rfl rfl fun v2 C2 g2 t2=>fldI C2 (i:=0) (x:=c.1) rfl ?_
   have gv:Fr None v v2:=g1.newer g2 fun k e=>by omega
   have hsv:=(fv.then0 gv).size
   refine condE (fun h=>?_) fun h=>?_
   ·refine aggI C2 (x:=c) rfl (stoAll ((B2.fr fv fun h=>h).fr gv fun h=>h) rfl rfl fun v3 C3 g3 t3=>aggI C3 (x:=c) rfl ?_)
    have hfd:e.2.find? (fun c=>c.1 == k)=some c:=by
     rw [List.find?_eq_some_iff_getElem]
     obtain ⟨hl,hg⟩:=List.getElem?_eq_some_iff.1 hc
     refine ⟨by simpa using h,j,hl,hg,fun q hq=>?_⟩
     have:=hno q _ hq (List.getElem?_eq_getElem (by omega))
     simpa using this
    have:=hk v3 (((f02.then0 fv).then0 gv).newer g3 fun k e=>by omega)
    simp only [Option.bind_some,hfd,Option.getD_some] at this
    exact this
   ·refine hK _ _ ⟨wsucc hj (by omega),fv.then0 gv,fun q c' hq hc'=>?_⟩
    rcases Nat.lt_succ_iff_lt_or_eq.1 hq with h1 | h1
    ·exact hno q c' h1 hc'
    ·subst h1; rw [hc] at hc'; cases hc'; exact h
  ·rintro t v ⟨_,fv,hno⟩
   have hfd:e.2.find? (fun c=>c.1 == k)=none:=by
    rw [List.find?_eq_none]
    intro x hx
    obtain ⟨q,hq⟩:=List.mem_iff_getElem?.1 hx
    have:=hno q x (by have:=(List.getElem?_eq_some_iff.1 hq).1; omega) hq
    simpa using this
   have hsv:=fv.size
   refine stoAll (B2.fr fv fun h=>h) rfl rfl fun v3 C3 g3 t3=>aggI C3 (x:=((0,0,0,0):Comp)) rfl ?_
   have:=hk v3 ((f02.then0 fv).newer g3 fun k e=>by omega)
   simp only [Option.bind_some,hfd,Option.getD_none] at this
   exact this
end Go.Proofs.YtchhhjlpnecjkaaGreat
namespace Go.Proofs.YtchhhjlpnecjkaaGreat.Den
open Go Go.RowKit
variable {R:Type} {Q:R→World→Prop} {w:World} {α β:Type}
structure All2 (p:α→β→Prop) (l:List α) (k:List β):Prop where
 len:l.length=k.length
 at_:∀ (i:Nat) (a:α) (b:β),l[i]?=some a→k[i]?=some b→p a b
theorem All2.nil (p:α→β→Prop):All2 p [] []:=⟨rfl,fun i a b h=>by simp at h⟩
theorem All2.imp {p q:α→β→Prop} {l:List α} {k:List β} (h:All2 p l k) (hi:∀ a b,p a b→q a b):All2 q l k:=⟨h.len,fun i a b h1 h2=>hi a b (h.at_ i a b h1 h2)⟩
theorem All2.snoc {p:α→β→Prop} {l:List α} {k:List β} {a:α} {b:β} (h:All2 p l k) (hp:p a b):All2 p (l ++ [a]) (k ++ [b]):=by
 refine ⟨by simp [h.len],fun i x y h1 h2=>?_⟩
 have hl:=h.len
 by_cases hi:i < l.length
 ·rw [List.getElem?_append_left hi] at h1
  rw [List.getElem?_append_left (by omega)] at h2
  exact h.at_ i x y h1 h2
 ·rw [List.getElem?_append_right (by omega)] at h1 h2
  have hz:i - l.length=0:=by have:=(List.getElem?_eq_some_iff.1 h1).1; simp at this; omega
  rw [hz] at h1
  rw [show i - k.length=0 by omega] at h2
  simp at h1 h2
  subst h1; subst h2
  exact hp
theorem All2.get {p:α→β→Prop} {l:List α} {k:List β} (h:All2 p l k) {i:Nat} {b:β} (hb:k[i]?=some b):∃ a,l[i]?=some a∧p a b:=by
 obtain ⟨hl,_⟩:=List.getElem?_eq_some_iff.1 hb
 have ha:=List.getElem?_eq_getElem (l:=l) (i:=i) (by rw [h.len]; exact hl)
 exact ⟨_,ha,h.at_ i _ b ha hb⟩
theorem All2.getL {p:α→β→Prop} {l:List α} {k:List β} (h:All2 p l k) {i:Nat} {a:α} (ha:l[i]?=some a):∃ b,k[i]?=some b∧p a b:=by
 obtain ⟨hl,_⟩:=List.getElem?_eq_some_iff.1 ha
 have hb:=List.getElem?_eq_getElem (l:=k) (i:=i) (by rw [← h.len]; exact hl)
 exact ⟨_,hb,h.at_ i a _ ha hb⟩
theorem All2.take {p:α→β→Prop} {l:List α} {k:List β} (h:All2 p l k) (n:Nat):All2 p (l.take n) (k.take n):=by
 refine ⟨by simp [h.len],fun i a b h1 h2=>?_⟩
 rw [List.getElem?_take] at h1 h2
 split at h1
 ·rename_i hi; rw [if_pos hi] at h2; exact h.at_ i a b h1 h2
 ·cases h1
theorem All2.drop {p:α→β→Prop} {l:List α} {k:List β} (h:All2 p l k) (n:Nat):All2 p (l.drop n) (k.drop n):=by
 refine ⟨by simp [h.len],fun i a b h1 h2=>?_⟩
 rw [List.getElem?_drop] at h1 h2
 exact h.at_ _ a b h1 h2
abbrev Rel (α β:Type):=(Nat→Prop)→World→α→β→Prop
def Rel.st (ρ:Rel α β):Prop:=∀ a b,St fun F w=>ρ F w a b
structure DR {t:Ty} (ρ:Rel t.T β) (ok:Nat→Prop) (w:World) (s:Sl) (raws:List t.T) (L:List β):Prop where
 sl:SlT ok w t s raws
 all:All2 (fun a b=>ρ ok w a b) raws L
theorem DR.st {t:Ty} {ρ:Rel t.T β} (hρ:ρ.st) {s:Sl} {raws:List t.T} {L:List β}:St fun F w=>DR ρ F w s raws L:=fun {_F _F' _S _w _w'} h f hs =>
 ⟨SlT.st h.sl f hs,h.all.imp fun a b hab=>hρ a b hab f hs⟩
structure DO {t:Ty} (ρ:Rel t.T β) (E:TypeId) (S:Nat→Prop) (w:World) (s:Sl) (raws:List t.T) (L:List β) (lab:Nat→Nat):Prop where
 own:Own (fun k=>S k∧lab k=0) w E t s raws
 len:raws.length=L.length
 at_:∀ (i:Nat) (a:t.T) (b:β),raws[i]?=some a→L[i]?=some b→ρ (fun k=>S k∧lab k=i+1) w a b
section
variable {t:Ty} {ρ:Rel t.T β} {E:TypeId} {S:Nat→Prop} {s:Sl} {raws:List t.T} {L:List β} {lab:Nat→Nat}
theorem DO.nil (S:Nat→Prop) (w:World):DO ρ E S w ⟨none,0,0⟩ [] [] (fun _=>0):=⟨Own.nil _ _ _ _,rfl,fun i a b h=>by simp at h⟩
theorem DO.read (hρ:ρ.st) (h:DO ρ E S w s raws L lab):DR ρ S w s raws L:=⟨SlT.st.mono h.own.sl fun _ _ e=>e.1,h.len,fun i a b h1 h2=>St.mono (A:=fun F w=>ρ F w a b) (hρ a b) (h.at_ i a b h1 h2) fun _ _ e=>e.1⟩
theorem DO.fr (hρ:ρ.st) (h:DO ρ E S w s raws L lab) {S' T:Nat→Prop} {w':World} (f:Fr T w w') (hs:∀ k,k < w.heap.size→S k→¬ T k∧S' k):DO ρ E S' w' s raws L lab :=
 ⟨Own.st h.own f fun k hk e=>⟨(hs k hk e.1).1,(hs k hk e.1).2,e.2⟩,h.len,fun i a b h1 h2=>hρ a b (h.at_ i a b h1 h2) f fun k hk e=>⟨(hs k hk e.1).1,(hs k hk e.1).2,e.2⟩⟩
theorem DO.fr0 (hρ:ρ.st) (h:DO ρ E S w s raws L lab) {w':World} (f:Fr None w w'):DO ρ E S w' s raws L lab:=h.fr hρ f fun _ _ e=>⟨fun h=>h,e⟩
theorem DO.app {P:Program} {T ty:TypeId} {bytes:Nat} (H:SlTy P T E t bytes) (hρ:ρ.st) {w1:World} (h:DO ρ E S w1 s raws L lab) (f:Fr None w1 w) (hS:∀ k,w1.heap.size≤k→S k) {a:t.T} {b:β} (hab:ρ (fun k=>w1.heap.size≤k) w a b)
  {cs:List Value} (hc:cs=t.cells a) (hb:(L.length+1) * bytes≤140737488355328) (hm:L.length+1≤9223372036854775807) {K:Sl→W R}
  (hk:∀ r lab' w',DO ρ E S w' r (raws ++ [a]) (L ++ [b]) lab'→Fr (fun k=>s.v.ownBlock=some k) w w'→K r Q w') :
  newW E cs (fun x=>rawW P (Builtin.append_ #[T,T] ty #[.slice s.a s.n s.c,.slice (some x) 1 1]) [.sc .sl] K) Q w:=by
 have hfs:=f.size
 have hl:=h.len
 have o1:Own (fun k=>(S k∧lab k=0∧k < w1.heap.size)∨w.heap.size≤k) w E t s raws:=Own.st h.own f fun k hk e=>⟨fun h=>h,.inl ⟨e.1,e.2,hk⟩⟩
 have own0:∀ k,s.v.ownBlock=some k→lab k=0∧k < w1.heap.size:=fun k e=>⟨(h.own.own k e).2,h.own.lt e⟩
 refine appP H hc o1 (fun k e=>.inr e) (by rw [hl]; exact hb) (by rw [hl]; exact hm) fun r w' o' f'=>?_
 have hfs':=f'.size
 refine hk r (fun k=>if k < w1.heap.size then lab k else if k < w.heap.size then L.length+1 else 0) w' ⟨?_,by simp [hl],fun i x y h1 h2=>?_⟩ f'
 ·refine o'.mono fun k _ e=>?_
  rcases e with e | e
  ·exact ⟨e.1,by simp only [if_pos e.2.2]; exact e.2.1⟩
  ·exact ⟨hS k (by omega),by simp only [if_neg (show ¬ k < w1.heap.size by omega),if_neg (show ¬ k < w.heap.size by omega)]⟩
 ·by_cases hi:i < raws.length
  ·rw [List.getElem?_append_left hi] at h1
   rw [List.getElem?_append_left (by omega)] at h2
   have h3:=h.at_ i x y h1 h2
   refine hρ x y h3 (f.any.then f') fun k hk e=>⟨fun e2=>?_,e.1,?_⟩
   ·have:=(own0 k e2).1; omega
   ·simp only [if_pos hk]; exact e.2
  ·rw [List.getElem?_append_right (by omega)] at h1 h2
   have hz:i - raws.length=0:=by have:=(List.getElem?_eq_some_iff.1 h1).1; simp at this; omega
   rw [hz] at h1
   rw [show i - L.length=0 by omega] at h2
   simp at h1 h2
   subst h1; subst h2
   refine hρ a b hab f' fun k hk e=>⟨fun e2=>?_,hS k e,?_⟩
   ·have:=(own0 k e2).2; omega
   ·have e:w1.heap.size≤k:=e
    simp only [if_neg (show ¬ k < w1.heap.size by omega),if_pos hk]
    omega
end
end Go.Proofs.YtchhhjlpnecjkaaGreat.Den
namespace Go.Proofs.YtchhhjlpnecjkaaGreat
open Go Go.RowKit Go.Proofs.YtchhhjlpnecjkaaGreat.Den
variable {R:Type} {Q:R→World→Prop} {w:World}
theorem Zq2 {c:Comp} {k:Int} {bk:Nat} {T:TypeId} (B:Blk w bk T [.int .u8 k]) {K:Res [.sc .bool]→W R} (hk:∀ w',Fr None w w'→K (c.1 == k) Q w') :
  callW Tryz.prog Ze1 [.agg ⟨compC c⟩,.pointer (some ⟨bk,0,none⟩)] [.sc .bool] K Q w:=by
 refine Zto c _ K Q w ?_
 unfold Zdn
 refine newI fun w1 B1 f1 s1=>fldI B1 (i:=0) (x:=c.1) rfl (ptrI (fld0 (B.fr f1 fun h=>h) (i:=0) (x:=k) rfl (hk w1 f1)))
theorem Zmm {ok:Nat→Prop} {s:Sl} {l:List Comp} (hS:SlT ok w compT s l) (hm:l.length≤9223372036854775807) {k:Int} {bk:Nat} {T:TypeId} (B:Blk w bk T [.int .u8 k]) {K:Res [.sc (.int .i64)]→W R} (hk:∀ w',Fr None w w'→K (findM l k) Q w') :
  callW Tryz.prog Z1i [.slice s.a s.n s.c,.func (.func 165) #[] #[.pointer (some ⟨bk,0,none⟩)]] [.sc (.int .i64)] K Q w:=by
 refine Z5v s _ K Q w ?_
 unfold Z10
 have hlen:=hS.len
 refine forI (N:=s.n) (fun s:Int=>s) (fun j i w'=>i=j∧Fr None w w'∧∀ q y,q < j→l[q]?=some y→y.1≠k) ⟨rfl,Fr.refl _ _,by omega⟩ (fun j s w' h=>h.1) ?_ ?_
 ·rintro j i w1 K' hj ⟨rfl,f1,hno⟩ - hK
  refine (hS.fr0 f1).get rfl rfl (by omega) fun x hx=>Zq2 (B.fr f1 fun h=>h) fun w2 f2=>?_
  refine condE (fun h=>?_) fun h=>?_
  ·have:l.findIdx? (fun c=>c.1 == k)=some j:=by
    rw [List.findIdx?_eq_some_iff_getElem]
    obtain ⟨hl,he⟩:=List.getElem?_eq_some_iff.1 hx
    refine ⟨hl,by rw [he]; simpa using h,fun q hq=>?_⟩
    have:=hno q _ hq (List.getElem?_eq_getElem (by omega))
    simpa using this
   have e:=hk w2 (f1.then0 f2)
   rw [findM,this] at e
   exact e
  ·refine hK _ _ ⟨wsucc hj (by omega),f1.then0 f2,fun q y hq hy=>?_⟩
   rcases Nat.lt_succ_iff_lt_or_eq.1 hq with h1 | h1
   ·exact hno q y h1 hy
   ·subst h1; rw [hx] at hy; cases hy; exact h
 ·rintro i w1 ⟨rfl,f1,hno⟩
  have:l.findIdx? (fun c=>c.1 == k)=none:=by
   rw [List.findIdx?_eq_none_iff]
   intro x hx
   obtain ⟨q,hq⟩:=List.mem_iff_getElem?.1 hx
   have:=hno q x (by rw [hlen]; exact (List.getElem?_eq_some_iff.1 hq).1) hq
   simpa using this
  have e:=hk w1 f1
  rw [findM,this] at e
  exact e
def findC (l:List Comp) (k:Int):Comp × Bool:=match l.findIdx? (fun c=>c.1 == k) with
 | some i=>((l[i]?).getD (0,0,0,0),true)
 | none=>((0,0,0,0),false)
theorem Zjz {ok:Nat→Prop} {s:Sl} {l:List Comp} (hS:SlT ok w compT s l) (hm:l.length≤9223372036854775807) {k:Int} {K:Res [.agg [.int .u8,.int .i32,.int .i32,.int .i32],.sc .bool]→W R} (hk:∀ w',Fr None w w'→K (findC l k) Q w') :
  callW Tryz.prog Zfk [.slice s.a s.n s.c,.int .u8 k] [.agg [.int .u8,.int .i32,.int .i32,.int .i32],.sc .bool] K Q w:=by
 refine Zzt s _ K Q w ?_
 unfold Zlt
 refine newI fun w1 B1 f1 s1=>newI fun w2 B2 f2 s2=>?_
 have f02:=f1.then0 f2
 refine Zmm (hS.fr0 f02) hm (B1.fr f2 fun h=>h) fun w3 f3=>?_
 have B3:=B2.fr f3 fun h=>h
 have f03:=f02.then0 f3
 have hs:=f03.size
 unfold findC at hk
 unfold findM
 cases hf:l.findIdx? (fun c=>c.1 == k) with
 | none =>
  rw [hf] at hk
  refine condT rfl (stoAll B3 rfl rfl fun w4 B4 f4 s4=>aggI B4 (x:=((0,0,0,0):Comp)) rfl ?_)
  exact hk w4 (f03.newer f4 fun k e=>by omega)
 | some i =>
  rw [hf] at hk
  dsimp only at hk
  have hil:i < l.length:=by
   rw [List.findIdx?_eq_some_iff_getElem] at hf
   exact hf.1
  refine condF (decide_eq_false (by show ¬ ((i:Int) < 0); omega)) ?_
  refine (hS.fr0 f03).get (j:=i) rfl rfl hil fun y hy=>?_
  rw [hy] at hk
  refine stoAll B3 rfl rfl fun w4 B4 f4 s4=>aggI B4 (x:=y) rfl ?_
  exact hk w4 (f03.newer f4 fun k e=>by omega)
end Go.Proofs.YtchhhjlpnecjkaaGreat
namespace Go.Proofs.YtchhhjlpnecjkaaGreat
open Go Go.RowKit Go.Proofs.YtchhhjlpnecjkaaGreat.Den
variable {R:Type} {Q:R→World→Prop} {w:World}
abbrev ChgRaw:=Int × Int × Sl × Sl
theorem Zq3 {r:ChgRaw} {K:Res [.sc .bool]→W R} (hk:∀ w',Fr None w w'→K (decide (r.2.1=0∧r.2.2.1.n=0∧r.2.2.2.n=0)) Q w') :
  callW Tryz.prog Ze2 [.agg ⟨[.int .u32 r.1,.int .u8 r.2.1,.slice r.2.2.1.a r.2.2.1.n r.2.2.1.c,.slice r.2.2.2.a r.2.2.2.n r.2.2.2.c]⟩] [.sc .bool] K Q w:=by
 refine Ztp r K Q w ?_
 unfold Zdo
 refine newI fun w1 B f1 s1=>?_
 refine joinI (fun z w'=>z=decide (r.2.1=0∧r.2.2.1.n=0∧r.2.2.2.n=0)∧w'=w1) ?_ fun z w' ⟨hz,hw⟩=>by subst hz; subst hw; exact hk _ f1
 refine fldI B (i:=1) (x:=r.2.1) rfl (condE (fun a=>?_) fun a=>⟨by simp [a],rfl⟩)
 refine fldI B (i:=2) (x:=r.2.2.1) rfl (condE (fun b=>?_) fun b=>⟨?_,rfl⟩)
 ·have b:r.2.2.1.n=0:=by have b:(r.2.2.1.n:Int)=0:=b; omega
  refine fldI B (i:=3) (x:=r.2.2.2) rfl ⟨?_,rfl⟩
  by_cases c:r.2.2.2.n=0
  ·simp [a,b,c]
  ·have:¬ (r.2.2.2.n:Int)=0:=by omega
   simp [a,b,c]
 ·have b:¬ r.2.2.1.n=0:=by have b:¬ (r.2.2.1.n:Int)=0:=b; omega
  simp [b]
end Go.Proofs.YtchhhjlpnecjkaaGreat
namespace Go.Proofs.YtchhhjlpnecjkaaGreat
open Go Go.RowKit Go.Proofs.YtchhhjlpnecjkaaGreat.Den
variable {R:Type} {Q:R→World→Prop} {w:World}
theorem appLab {P:Program} {T E ty:TypeId} {t:Ty} {bytes:Nat} (H:SlTy P T E t bytes) {lab:Nat→Nat} {i:Nat} {o:Sl} {lo:List t.T} {x:t.T} {cs:List Value} (hc:cs=t.cells x) (ho:Own (fun k=>lab k=i) w E t o lo)
  (hb:(lo.length+1) * bytes≤140737488355328) (hm:lo.length+1≤9223372036854775807) {K:Sl→W R}
  (hk:∀ r w',Own (fun k=>relab lab w.heap.size w'.heap.size i k=i) w' E t r (lo ++ [x])→Fr (fun k=>lab k=i) w w'→K r Q w'):newW E cs (fun a=>rawW P (Builtin.append_ #[T,T] ty #[.slice o.a o.n o.c,.slice (some a) 1 1]) [.sc .sl] K) Q w :=
 appP H hc (ho.mono fun k _ e=>Or.inl e:Own (Ex (fun k=>lab k=i) w) w E t o lo) (fun k e=>.inr e) hb hm fun r w' o' f' =>
  hk r w' (St.grown (A:=fun F w=>Own F w E t r (lo ++ [x])) Own.st o') (f'.sub fun k e=>ho.own k e)
abbrev Chg:=Int × Int × List Comp × List Comp
abbrev chgT:Ty:=.agg [.int .u32,.int .u8,.sl,.sl]
theorem Z13t:SlTy Tryz.prog 78 86 chgT 56:=slTy (by kernel_rfl)
def chgR:Rel ChgRaw Chg:=fun F w r d=>r.1=d.1∧r.2.1=d.2.1∧SlT F w compT r.2.2.1 d.2.2.1∧SlT F w compT r.2.2.2 d.2.2.2
theorem Z3j:chgR.st:=fun a b=>fun {F F' S w w'} h f hs=>⟨h.1,h.2.1,SlT.st h.2.2.1 f hs,SlT.st h.2.2.2 f hs⟩
def lostM (a b:List Comp):Int:=bNot .u8 (maskN a:Int) (maskN b:Int)
def newM (a l:List Comp):List Comp:=l.filter fun c=>!(findC a c.1).2
def chM (a l:List Comp):List Comp:=l.filter fun c=>(findC a c.1).2 && !decide ((findC a c.1).1=c)
def changeM (a b:Ent):Chg:=(b.1,lostM a.2 b.2,newM a.2 b.2,chM a.2 b.2)
theorem Zpx (a l:List Comp):(newM a l).length≤l.length:=List.length_filter_le _ _
theorem Zv4 (a l:List Comp):(chM a l).length≤l.length:=List.length_filter_le _ _
theorem Zob (a l:List Comp) (c:Comp):newM a (l ++ [c])=newM a l ++ if (findC a c.1).2=false then [c] else []:=by
 unfold newM
 rw [List.filter_append]
 congr 1
 by_cases h:(findC a c.1).2=true
 ·simp [List.filter,h]
 ·simp [List.filter,h]
theorem Zrk (a l:List Comp) (c:Comp):chM a (l ++ [c])=chM a l ++ if (findC a c.1).2=true∧(findC a c.1).1≠c then [c] else []:=by
 unfold chM
 rw [List.filter_append]
 congr 1
 by_cases h:(findC a c.1).2=true
 ·by_cases hq:(findC a c.1).1=c
  ·simp [List.filter,h,hq]
  ·simp [List.filter,h,hq]
 ·simp [List.filter,h]
structure ChgI (n bd:Nat) (id lost:Int) (a l:List Comp) (lab:Nat→Nat) (sn ss:Sl) (w:World):Prop where
 blk:Blk w bd 86 [.int .u32 id,.int .u8 lost,.slice sn.a sn.n sn.c,.slice ss.a ss.n ss.c]
 lb:lab bd=3
 new:Own (fun k=>lab k=1) w 92 compT sn (newM a l)
 set:Own (fun k=>lab k=2) w 92 compT ss (chM a l)
 up:∀ k,lab k≠0→n≤k∧k < w.heap.size
theorem ChgI.fr0 {n bd:Nat} {id lost:Int} {a l:List Comp} {lab:Nat→Nat} {sn ss:Sl} (h:ChgI n bd id lost a l lab sn ss w) {w':World} (f:Fr None w w'):ChgI n bd id lost a l lab sn ss w' :=
 ⟨h.blk.fr f fun h=>h,h.lb,h.new.none f,h.set.none f,fun k e=>⟨(h.up k e).1,Nat.lt_of_lt_of_le (h.up k e).2 f.size⟩⟩
theorem Zfz {ok ok2:Nat→Prop} {r1 r2:Int × Sl} {e1 e2:Ent} (h1:SlT ok w compT r1.2 e1.2) (h2:SlT ok2 w compT r2.2 e2.2) (hid:r2.1=e2.1) (hm1:Small e1.2) (hm2:Small e2.2) (hc1:∀ c∈e1.2,CompOk c) (hc2:∀ c∈e2.2,CompOk c) {K:Res [.agg [.int .u32,.int .u8,.sl,.sl]]→W R}
  (hk:∀ r w',chgR (Up w.heap.size) w' r (changeM e1 e2)→Fr None w w'→K r Q w') :
  callW Tryz.prog Zb6 [.agg ⟨[.int .u32 r1.1,.slice r1.2.a r1.2.n r1.2.c]⟩,.agg ⟨[.int .u32 r2.1,.slice r2.2.a r2.2.n r2.2.c]⟩] [.agg [.int .u32,.int .u8,.sl,.sl]] K Q w:=by
 refine Zvo r1 r2 K Q w ?_
 unfold Zf1
 refine newI fun w1 B1 f1 s1=>newI fun w2 B2 f2 s2=>newI fun w3 B3 f3 s3=>?_
 have B1:=(B1.fr f2 fun h=>h).fr f3 fun h=>h
 have B2:=B2.fr f3 fun h=>h
 have f03:=(f1.then0 f2).then0 f3
 have l1:=h1.len
 have l2:=h2.len
 have hz:=f03.size
 refine joinI (fun s v=>∃ bd,s=some ⟨bd,0,none⟩∧w3.heap.size≤bd∧Blk v bd 86 [.int .u32 e2.1,.int .u8 (lostM e1.2 e2.2),.slice none 0 0,.slice none 0 0]∧Fr None w3 v) ?_ ?_
 ·have fd:Fr None w3 w3.drew:=(Fr.refl _ _).drew
  have B1:=B1.fr fd fun h=>h
  have B2:=B2.fr fd fun h=>h
  have f0d:=f03.then0 fd
  have g1:=h1.fr0 f0d
  have g2:=h2.fr0 f0d
  refine bothI ?_ (bothI ?_ ?_)
  ·refine fldI B2 (i:=0) (x:=r2.1) rfl (fldI B1 (i:=1) (x:=r1.2) rfl (fldI B2 (i:=1) (x:=r2.2) rfl ?_))
   refine Z18 g1 hm1 hc1 fun w4 f4=>?_
   refine andI ((B2.fr f4 fun h=>h).rd (s:=.sl) (i:=1) (x:=r2.2) rfl) (andI ((B2.fr f4 fun h=>h).rd (s:=.int .u32) (i:=0) (x:=r2.1) rfl) ?_)
   refine Z18 (g2.fr0 f4) hm2 hc2 fun w5 f5=>andI (((B2.fr f4 fun h=>h).fr f5 fun h=>h).rd (s:=.int .u32) (i:=0) (x:=r2.1) rfl) ?_
   have f35:=(fd.then0 f4).then0 f5
   have hs:=f35.size
   refine newI fun w6 B6 f6 s6=>stoAll B6 rfl rfl fun w7 B7 f7 s7=>⟨_,rfl,hs,?_,(f35.then0 f6).newer f7 fun k e=>by omega⟩
   rw [← hid]; exact B7
  ·refine fldI B2 (i:=0) (x:=r2.1) rfl (fldI B1 (i:=1) (x:=r1.2) rfl (fldI B2 (i:=1) (x:=r2.2) rfl ?_))
   refine Z18 g1 hm1 hc1 fun w4 f4=>?_
   refine andI ((B2.fr f4 fun h=>h).rd (s:=.sl) (i:=1) (x:=r2.2) rfl) (andI ((B2.fr f4 fun h=>h).rd (s:=.int .u32) (i:=0) (x:=r2.1) rfl) ?_)
   have f34:=fd.then0 f4
   have hs:=f34.size
   refine newI fun w5 B5 f5 s5=>?_
   refine Z18 ((g2.fr0 f4).fr0 f5) hm2 hc2 fun w6 f6=>andI ((((B2.fr f4 fun h=>h).fr f5 fun h=>h).fr f6 fun h=>h).rd (s:=.int .u32) (i:=0) (x:=r2.1) rfl) ?_
   refine stoAll (B5.fr f6 fun h=>h) rfl rfl fun w7 B7 f7 s7=>⟨_,rfl,hs,?_,((f34.then0 f5).then0 f6).newer f7 fun k e=>by omega⟩
   rw [← hid]; exact B7
  ·refine fldI B2 (i:=0) (x:=r2.1) rfl (fldI B1 (i:=1) (x:=r1.2) rfl (fldI B2 (i:=1) (x:=r2.2) rfl ?_))
   have hs:=fd.size
   refine newI fun w4 B4 f4 s4=>?_
   refine Z18 (g1.fr0 f4) hm1 hc1 fun w5 f5=>?_
   have B25:=(B2.fr f4 fun h=>h).fr f5 fun h=>h
   refine andI (B25.rd (s:=.sl) (i:=1) (x:=r2.2) rfl) (andI (B25.rd (s:=.int .u32) (i:=0) (x:=r2.1) rfl) ?_)
   refine Z18 ((g2.fr0 f4).fr0 f5) hm2 hc2 fun w6 f6=>andI ((B25.fr f6 fun h=>h).rd (s:=.int .u32) (i:=0) (x:=r2.1) rfl) ?_
   refine stoAll ((B4.fr f5 fun h=>h).fr f6 fun h=>h) rfl rfl fun w7 B7 f7 s7=>⟨_,rfl,hs,?_,(((fd.then0 f4).then0 f5).then0 f6).newer f7 fun k e=>by have:w3.drew.heap.size=w3.heap.size:=rfl; omega⟩
   rw [← hid]; exact B7
 rintro s v0 ⟨bd,rfl,hbd,B0,f3v⟩
 refine fldI (B2.fr f3v fun h=>h) (i:=1) (x:=r2.2) rfl ?_
 have hbl:=B0.lt
 refine forI (N:=r2.2.n) (fun s:Int=>s) (fun j i v=>i=(j:Int)∧(∃ lab sn ss,ChgI w3.heap.size bd e2.1 (lostM e1.2 e2.2) e1.2 (e2.2.take j) lab sn ss v)∧Fr None w3 v)
  ⟨rfl,⟨fun k=>if k=bd then 3 else 0,⟨none,0,0⟩,⟨none,0,0⟩,B0,by simp,Own.nil _ _ _ _,Own.nil _ _ _ _,fun k e=>by
   by_cases hkb:k=bd
   ·subst hkb; exact ⟨hbd,hbl⟩
   ·exact absurd (if_neg hkb) e⟩,f3v⟩ (fun j s w' h=>h.1) ?_ ?_
 ·rintro j i v K' hj ⟨rfl,⟨lab,sn,ss,D⟩,fv⟩ - hK
  refine (h2.fr0 (f03.then0 fv)).get rfl rfl (by omega) fun c hc=>?_
  refine newI fun v1 C1 g1 t1=>stoAll C1 rfl rfl fun v2 C2 g2 t2=>?_
  have gv2:Fr None v v2:=g1.newer g2 fun k e=>by omega
  have fv2:=fv.then0 gv2
  refine fldI (B1.fr fv2 fun h=>h) (i:=1) (x:=r1.2) rfl (fldI C2 (i:=0) (x:=c.1) rfl ?_)
  refine Zjz (h1.fr0 (f03.then0 fv2)) (Nat.le_trans hm1 (by decide)) fun v3 g3=>?_
  have C3:=C2.fr g3 fun h=>h
  refine newI fun v4 C4 g4 t4=>stoAll C4 rfl rfl fun v5 C5 g5 t5=>?_
  have g35:Fr None v3 v5:=g4.newer g5 fun k e=>by omega
  have C35:=C3.fr g35 fun h=>h
  have gv5:=(gv2.then0 g3).then0 g35
  have D5:=D.fr0 gv5
  have fv5:=fv.then0 gv5
  have hs5:=gv5.size
  have hcl:c∈e2.2:=List.mem_of_getElem? hc
  have eN:=Zob e1.2 (e2.2.take j) c
  have eS:=Zrk e1.2 (e2.2.take j) c
  rw [← Z8 hc] at eN eS
  have lN:(newM e1.2 (e2.2.take j)).length≤1048576:=Nat.le_trans (Zpx _ _) (Nat.le_trans (by simp; omega) hm2)
  have lS:(chM e1.2 (e2.2.take j)).length≤1048576:=Nat.le_trans (Zv4 _ _) (Nat.le_trans (by simp; omega) hm2)
  generalize findC e1.2 c.1=fc at C5 eN eS
  refine joinI (fun (_:Unit) v=>(∃ lab sn ss,ChgI w3.heap.size bd e2.1 (lostM e1.2 e2.2) e1.2 (e2.2.take (j+1)) lab sn ss v)∧Fr None w3 v) ?_ ?_
  ·refine condI (fun hb=>?_) fun hb=>?_
   ·have hb:fc.2=false:=by simpa using hb
    refine ptrI (fldI D5.blk (i:=2) (x:=sn) rfl (aggI C35 (x:=c) rfl ?_))
    refine appLab (x:=c) Z2u rfl D5.new (by omega) (by omega) fun r v6 o6 g6=>?_
    have hs6:=g6.size
    have B6:=D5.blk.fr g6 fun e=>by have:=D5.lb; omega
    refine ptrI ?_
    rw [add_lit]
    refine setI (i:=2) B6 (by simp) rfl fun v7 B7 g7 t7=>?_
    have nb:∀ k,relab lab v5.heap.size v6.heap.size 1 k≠3→k≠bd:=fun k e e2=>by
     subst e2
     rw [Z1k (D5.blk.lt)] at e
     exact e D5.lb
    refine ⟨⟨relab lab v5.heap.size v6.heap.size 1,r,ss,B7,?_,?_,?_,fun k e=>?_⟩,?_⟩
    ·rw [Z1k D5.blk.lt]; exact D5.lb
    ·rw [eN,if_pos hb]
     exact o6.fr g7 fun k e=>nb k (by omega)
    ·rw [eS,if_neg (by simp [hb]),List.append_nil]
     have:=St.other (A:=fun F w=>Own F w 92 compT ss (chM e1.2 (e2.2.take j))) Own.st (c:=1) D5.set g6 (by decide)
     exact this.fr g7 fun k e=>nb k (by omega)
    ·rcases Zbb e with e | e
     ·have:=D5.up k e.1; omega
     ·have:=fv5.size; omega
    ·refine (fv5.newer g6 fun k e=>?_).newer g7 fun k e=>by omega
     exact (D5.up k (by omega)).1
   ·have hb:fc.2=true:=by simpa using hb
    refine aggI C5 (x:=fc.1) rfl (aggI C35 (x:=c) rfl ?_)
    refine neqI Zro (Zrp fc.1 c) ?_
    refine joinI (fun (_:Unit) v=>(∃ lab sn ss,ChgI w3.heap.size bd e2.1 (lostM e1.2 e2.2) e1.2 (e2.2.take (j+1)) lab sn ss v)∧Fr None w3 v) ?_ fun _ v h=>h
    refine condI (fun hd=>?_) fun hd=>?_
    ·have hd:fc.1≠c:=by simpa using hd
     refine ptrI (fldI D5.blk (i:=3) (x:=ss) rfl (aggI C35 (x:=c) rfl ?_))
     refine appLab (x:=c) Z2u rfl D5.set (by omega) (by omega) fun r v6 o6 g6=>?_
     have hs6:=g6.size
     have B6:=D5.blk.fr g6 fun e=>by have:=D5.lb; omega
     refine ptrI ?_
     rw [add_lit]
     refine setI (i:=3) B6 (by simp) rfl fun v7 B7 g7 t7=>?_
     have nb:∀ k,relab lab v5.heap.size v6.heap.size 2 k≠3→k≠bd:=fun k e e2=>by
      subst e2
      rw [Z1k (D5.blk.lt)] at e
      exact e D5.lb
     refine ⟨⟨relab lab v5.heap.size v6.heap.size 2,sn,r,B7,?_,?_,?_,fun k e=>?_⟩,?_⟩
     ·rw [Z1k D5.blk.lt]; exact D5.lb
     ·rw [eN,if_neg (by simp [hb]),List.append_nil]
      have:=St.other (A:=fun F w=>Own F w 92 compT sn (newM e1.2 (e2.2.take j))) Own.st (c:=2) D5.new g6 (by decide)
      exact this.fr g7 fun k e=>nb k (by omega)
     ·rw [eS,if_pos ⟨hb,hd⟩]
      exact o6.fr g7 fun k e=>nb k (by omega)
     ·rcases Zbb e with e | e
      ·have:=D5.up k e.1; omega
      ·have:=fv5.size; omega
     ·refine (fv5.newer g6 fun k e=>?_).newer g7 fun k e=>by omega
      exact (D5.up k (by omega)).1
    ·have hd:fc.1=c:=by simpa using hd
     refine ⟨⟨lab,sn,ss,D5.blk,D5.lb,?_,?_,D5.up⟩,fv5⟩
     ·rw [eN,if_neg (by simp [hb]),List.append_nil]; exact D5.new
     ·rw [eS,if_neg (fun h=>h.2 hd),List.append_nil]; exact D5.set
  ·rintro _ v6 ⟨hD,f6⟩
   exact hK _ _ ⟨wsucc hj (by omega),hD,f6⟩
 ·rintro i v ⟨_,⟨lab,sn,ss,D⟩,fv⟩
  rw [List.take_of_length_le (by omega)] at D
  have hs:=fv.size
  refine ptrI (aggI D.blk (x:=((e2.1,lostM e1.2 e2.2,sn,ss):ChgRaw)) rfl ?_)
  refine stoAll (B3.fr fv fun h=>h) rfl rfl fun v1 C1 g1 t1=>aggI C1 (x:=((e2.1,lostM e1.2 e2.2,sn,ss):ChgRaw)) rfl ?_
  refine hk _ v1 ⟨rfl,rfl,?_,?_⟩ ((f03.then0 fv).newer g1 fun k e=>by omega)
  ·exact SlT.st D.new.sl g1 fun k hk e=>by
    have:=D.up k (by omega)
    exact ⟨by omega,show w.heap.size≤k by omega⟩
  ·exact SlT.st D.set.sl g1 fun k hk e=>by
    have:=D.up k (by omega)
    exact ⟨by omega,show w.heap.size≤k by omega⟩
end Go.Proofs.YtchhhjlpnecjkaaGreat
namespace Go.Proofs.YtchhhjlpnecjkaaGreat
open Go Go.RowKit Go.Proofs.YtchhhjlpnecjkaaGreat.Den
variable {R:Type} {Q:R→World→Prop} {w:World}
theorem Zzd {k:Int} {K:Res [.sc .bool]→W R} (hk:K (decide (k < 5)) Q w):callW Tryz.prog Z7n [.int .u8 k] [.sc .bool] K Q w:=by
 refine Zkg _ K Q w ?_
 unfold Z75
 exact hk
def fewM (l:List Ent):Int:=l.foldl (fun n e=>IntKind.wrap .i64 (n+(e.2.length:Int))) (l.length:Int)
theorem Zzc {ok:Nat→Prop} {s:Sl} {raws:List (Int × Sl)} {L:List Ent} (hS:SlT ok w entT s raws) (hE:EntsR ok w raws L) (hm:L.length≤9223372036854775807) {K:Res [.sc .bool]→W R} (hk:∀ w',Fr None w w'→K (decide (fewM L≤400)) Q w') :
  callW Tryz.prog Z8q [.slice s.a s.n s.c] [.sc .bool] K Q w:=by
 refine Zn6 s K Q w ?_
 unfold Z8e
 have hlen:=hS.len
 have hel:=hE.len
 have hsn:(s.n:Int)=(L.length:Int):=by omega
 refine forI (N:=s.n) (fun s:Int × Int=>s.2) (fun j s w'=>s=((L.take j).foldl (fun n e=>IntKind.wrap .i64 (n+(e.2.length:Int))) (L.length:Int),(j:Int))∧Fr None w w') ⟨by rw [hsn]; rfl,Fr.refl _ _⟩ (fun j s w' h=>by rw [h.1]) ?_ ?_
 ·rintro j s1 w1 K' hj ⟨rfl,f1⟩ - hK
  obtain ⟨e,he⟩:∃ e,L[j]?=some e:=⟨_,List.getElem?_eq_getElem (by omega)⟩
  obtain ⟨r1,hr1,ha1,ha2⟩:=hE.get he
  have hn:=ha2.len
  have ef:(L.take (j+1)).foldl (fun n e=>IntKind.wrap .i64 (n+(e.2.length:Int))) (L.length:Int)=IntKind.wrap .i64 ((L.take j).foldl (fun n e=>IntKind.wrap .i64 (n+(e.2.length:Int))) (L.length:Int)+(e.2.length:Int)):=by rw [Z8 he,List.foldl_append]; rfl
  refine (hS.fr0 f1).get rfl rfl (by omega) fun y hy=>?_
  rw [hr1] at hy
  cases hy
  refine newI fun w2 B2 f2 s2=>stoAll B2 rfl rfl fun w3 B3 f3 s3=>fldI B3 (i:=1) (x:=r1.2) rfl ?_
  refine hK _ _ ⟨?_,f1.then0 (f2.newer f3 fun k e=>by omega)⟩
  rw [wsucc hj (by omega),ef,hn]
 ·rintro s1 w1 ⟨rfl,f1⟩
  rw [List.take_of_length_le (by omega)]
  exact hk w1 f1
theorem Zzf {id:Int} (hid:IdOk id) {K:Res [.sc (.int .i64)]→W R} (hk:K (genOf id) Q w):callW Tryz.prog Z8p [.int .u32 id] [.sc (.int .i64)] K Q w:=by
 refine Zn5 _ K Q w ?_
 unfold Z8d
 obtain ⟨h0,h1⟩:=hid
 have:IntKind.wrap .i64 (Int.tdiv (IntKind.wrap .i64 id) 1024)=genOf id:=by rw [w64 (x:=id) (by omega),Int.tdiv_eq_ediv_of_nonneg h0,w64 (by omega)]; rfl
 rw [this]
 exact hk
def toldAll (l:List Comp):Bool:=l.all fun c=>decide (c.1 < 5)
def badD (prev:Int) (first:Bool) (e:Ent):Prop:=genOf e.1 < 1∨4194303 < genOf e.1∨(first=false∧e.1≤prev)
instance (prev:Int) (first:Bool) (e:Ent):Decidable (badD prev first e):=by unfold badD; infer_instance
def formD:Int→Bool→List Ent→Int
 | _,_,[]=>0
 | prev,first,e :: r=>if badD prev first e then 4 else if listE e.2≠0 then listE e.2 else if toldAll e.2=false then 4 else formD e.1 false r
theorem Z8v {ok:Nat→Prop} {s:Sl} {raws:List (Int × Sl)} {L:List Ent} (hS:SlT ok w entT s raws) (hE:EntsR ok w raws L) (hm:L.length≤9223372036854775807) (hL:∀ e∈L,IdOk e.1∧e.2.length≤9223372036854775807∧∀ c∈e.2,CompOk c) {K:Res [.sc (.int .i64)]→W R} (hk:∀ w',Fr None w w'→K (formD 0 true L) Q w') :
  callW Tryz.prog Z19 [.slice s.a s.n s.c] [.sc (.int .i64)] K Q w:=by
 refine Zkm s K Q w ?_
 unfold Z7b
 have hlen:=hS.len
 have hel:=hE.len
 refine forI (N:=s.n) (fun s:Int=>s) (fun j i w'=>i=(j:Int)∧Fr None w w'∧formD 0 true L=formD (lastE L j) (j == 0) (L.drop j)) ⟨rfl,Fr.refl _ _,rfl⟩ (fun j s w' h=>h.1) ?_ ?_
 ·rintro j i w1 K' hj ⟨rfl,f1,hf⟩ - hK
  obtain ⟨e,he⟩:∃ e,L[j]?=some e:=⟨_,List.getElem?_eq_getElem (by omega)⟩
  obtain ⟨r1,hr1,ha1,ha2⟩:=hE.get he
  obtain ⟨hid,hsm,hco⟩:=hL e (List.mem_of_getElem? he)
  have hdrop:L.drop j=e :: L.drop (j+1):=by
   obtain ⟨hl,hg⟩:=List.getElem?_eq_some_iff.1 he
   rw [List.drop_eq_getElem_cons hl,hg]
  rw [hdrop,formD] at hf
  rw [hf] at hk
  refine (hS.fr0 f1).get rfl rfl (by omega) fun y hy=>?_
  rw [hr1] at hy
  cases hy
  refine newI fun w2 B2 f2 s2=>stoAll B2 rfl rfl fun w3 B3 f3 s3=>fldI B3 (i:=0) (x:=r1.1) rfl ?_
  have f13:Fr None w1 w3:=f2.newer f3 fun k e=>by omega
  have f03:=f1.then0 f13
  rw [ha1]
  refine Zzf hid ?_
  have fd:Fr None w3 w3.drew:=(Fr.refl _ _).drew
  have f0d:=f03.then0 fd
  have Bd:=B3.fr fd fun h=>h
  refine joinI (fun z w'=>z=decide (badD (lastE L j) (j == 0) e)∧w'=w3.drew) ?_ ?_
  ·refine condD (fun h=>⟨(decide_eq_true (.inl h)).symm,rfl⟩) fun h1=>condD (fun h=>⟨(decide_eq_true (.inr (.inl h))).symm,rfl⟩) fun h2=>?_
   refine condD (fun h=>?_) fun h=>⟨?_,rfl⟩
   ·obtain ⟨q,rfl⟩:∃ q,j=q+1:=⟨j - 1,by omega⟩
    refine fldI Bd (i:=0) (x:=r1.1) rfl ?_
    obtain ⟨e0,he0⟩:∃ e0,L[q]?=some e0:=⟨_,List.getElem?_eq_getElem (by omega)⟩
    obtain ⟨r0,hr0,hb1,_⟩:=hE.get he0
    have hq:IntKind.wrap .i64 (((q+1:Nat):Int) - 1)=(q:Int):=by rw [w64 (by omega)]; omega
    rw [hq]
    refine (hS.fr0 f0d).readK rfl rfl hr0 fun ad had=>(had _ (hS.fr0 f0d)).fld (i:=0) (s:=.int .u32) (y:=r0.1) rfl ⟨?_,rfl⟩
    have hl:lastE L (q+1)=e0.1:=by show ((L[q]?).map (·.1)).getD 0=e0.1; rw [he0]; rfl
    rw [hl,ha1,hb1]
    unfold badD
    simp [h1,h2]
   ·have:j=0:=by omega
    subst this
    unfold badD
    simp [h1,h2]
  rintro z w4 ⟨rfl,rfl⟩
  refine condD (fun h=>?_) fun h=>?_
  ·rw [if_pos h] at hk
   exact hk _ f0d
  rw [if_neg h] at hk hf
  refine fldI Bd (i:=1) (x:=r1.2) rfl (Zxf (ha2.fr0 f0d) hsm hco fun w5 f5=>?_)
  have f05:=f0d.then0 f5
  refine condN (fun hne=>?_) fun heq=>?_
  ·rw [if_pos hne] at hk
   exact hk w5 f05
  rw [if_neg (by omega)] at hk hf
  have hcl:=ha2.len
  refine fldI (Bd.fr f5 fun h=>h) (i:=1) (x:=r1.2) rfl ?_
  refine forI (N:=r1.2.n) (fun s:Int=>s) (fun i t w'=>t=(i:Int)∧Fr None w w'∧toldAll (e.2.take i)=true) ⟨rfl,f05,rfl⟩ (fun j s w' h=>h.1) ?_ ?_
  ·rintro i t w6 K2 hi ⟨rfl,f6,hno⟩ - hK2
   refine (ha2.fr0 f6).get rfl rfl (by omega) fun c hc=>?_
   refine newI fun w7 B7 f7 s7=>stoAll B7 rfl rfl fun w8 B8 f8 s8=>fldI B8 (i:=0) (x:=c.1) rfl (Zzd ?_)
   have f68:Fr None w6 w8:=f7.newer f8 fun k e=>by omega
   by_cases hk5:c.1 < 5
   ·refine condF (by simp [hk5]) (hK2 _ _ ⟨wsucc hi (by omega),f6.then0 f68,?_⟩)
    unfold toldAll at hno ⊢
    rw [Z8 hc,List.all_append,hno]
    simp [hk5]
   ·refine condT (by simp [hk5]) ?_
    have:toldAll e.2=false:=by
     unfold toldAll
     rw [List.all_eq_false]
     exact ⟨c,List.mem_of_getElem? hc,by simpa using hk5⟩
    rw [if_pos this] at hk
    exact hk w8 (f6.then0 f68)
  ·rintro t w6 ⟨rfl,f6,hno⟩
   rw [List.take_of_length_le (by omega)] at hno
   rw [if_neg (by rw [hno]; decide)] at hf
   have hlast:lastE L (j+1)=e.1:=by
    show ((L[j]?).map (·.1)).getD 0=e.1
    rw [he]; rfl
   exact hK _ _ ⟨wsucc hj (by omega),f6,by rw [hlast]; exact hf⟩
 ·rintro i w1 ⟨rfl,f1,hf⟩
  rw [List.drop_of_length_le (by omega),formD] at hf
  have hk:=hk w1 f1
  rw [hf] at hk
  exact hk
theorem Z15n {k:Int} (h:0≤k∧k≤5):toldM k=decide (k < 5):=by
 have:k=0∨k=1∨k=2∨k=3∨k=4∨k=5:=by omega
 rcases this with rfl | rfl | rfl | rfl | rfl | rfl <;> rfl
theorem Z117 {l:List Comp} (h:listE l=0):secretM l=!toldAll l:=by
 unfold secretM toldAll
 rw [List.not_all_eq_any_not]
 have hc:=(Z28.1 h).1
 clear h
 induction l with
 | nil=>rfl
 | cons c r ih =>
  rw [List.any_cons,List.any_cons,ih fun x hx=>hc x (List.mem_cons_of_mem _ hx),Z15n (Z3w (hc c List.mem_cons_self))]
theorem Zej:∀ (L:List Ent) (prev:Int) (first:Bool),(first=true→prev=0)→formM prev L=formD prev first L
 | [],_,_,_=>rfl
 | e :: r,prev,first,h=>by
  have ih:=Zej r e.1 false (fun h=>by cases h)
  rw [formM,formD,ih]
  unfold oneM
  by_cases hg:genOf e.1 < 1∨4194303 < genOf e.1
  ·rw [if_pos hg]
   have hb:badD prev first e:=by
    rcases hg with h | h
    ·exact .inl h
    ·exact .inr (.inl h)
   rw [if_pos hb]
   split
   ·rfl
   ·rfl
  ·rw [if_neg hg]
   have he:(e.1≤prev)↔badD prev first e:=by
    constructor
    ·intro hle
     cases first with
     | false=>exact .inr (.inr ⟨rfl,hle⟩)
     | true =>
      have:=h rfl
      refine .inl ?_
      unfold genOf
      omega
    ·rintro (h1 | h1 | h1)
     ·exact absurd (.inl h1) hg
     ·exact absurd (.inr h1) hg
     ·exact h1.2
   by_cases hle:e.1≤prev
   ·rw [if_pos hle,if_pos (he.1 hle)]
   ·rw [if_neg hle,if_neg fun x=>hle (he.2 x)]
    by_cases hl:listE e.2=0
    ·rw [if_neg (c:=listE e.2≠0) (fun x=>x hl),if_neg (c:=listE e.2≠0) (fun x=>x hl),Z117 hl]
     cases toldAll e.2 <;> rfl
    ·rw [if_pos hl,if_pos hl]
end Go.Proofs.YtchhhjlpnecjkaaGreat
namespace Go.Proofs.YtchhhjlpnecjkaaGreat
open Go Go.RowKit Go.Proofs.YtchhhjlpnecjkaaGreat.Den
def hasE (L:List Ent) (id:Int):Bool:=L.any fun e=>e.1 == id
def goneM (was now:List Ent):List Int:=(was.filter fun e=>!hasE now e.1).map (·.1)
def comeM (was now:List Ent):List Ent:=now.filter fun e=>!hasE was e.1
def nothingM (c:Chg):Bool:=decide (c.2.1=0∧c.2.2.1.length=0∧c.2.2.2.length=0)
def chgOne (was:List Ent) (e:Ent):Option Chg:=match was.find? (fun a=>a.1 == e.1) with
 | none=>none
 | some a=>if nothingM (changeM a e)=true then none else some (changeM a e)
def chgsM (was now:List Ent):List Chg:=now.filterMap (chgOne was)
def goneP (was now:List Ent):List Int:=(was.filter fun e=>!hasE now e.1).map (·.1)
theorem Z3x {L:List Ent} {id:Int}:hasE L id=true↔∃ e∈L,e.1=id:=by simp [hasE]
theorem Z6r {L:List Ent} {id:Int}:hasE L id=false↔∀ e∈L,e.1≠id:=by simp [hasE]
structure FormOk (L:List Ent):Prop where
 rise:L.Pairwise fun a b=>a.1 < b.1
 one:∀ e∈L,oneM e=0
 told:∀ e∈L,secretM e.2=false
 pos:∀ e∈L,0 < e.1
theorem Z11p:∀ (L:List Ent) (prev:Int),formM prev L=0↔(∀ e∈L,prev < e.1)∧L.Pairwise (fun a b=>a.1 < b.1)∧(∀ e∈L,oneM e=0)∧(∀ e∈L,secretM e.2=false)
 | [],_=>by simp [formM]
 | e :: r,prev=>by
  have ih:=Z11p r e.1
  rw [formM]
  by_cases h1:e.1≤prev
  ·rw [if_pos h1]
   refine ⟨fun h=>absurd h (by decide),fun h=>absurd (h.1 e List.mem_cons_self) (by omega)⟩
  ·rw [if_neg h1]
   by_cases h2:oneM e=0
   ·rw [if_neg (c:=oneM e≠0) (fun x=>x h2)]
    by_cases h3:secretM e.2=true
    ·rw [if_pos h3]
     refine ⟨fun h=>absurd h (by decide),fun h=>absurd (h.2.2.2 e List.mem_cons_self) (by rw [h3]; decide)⟩
    ·rw [if_neg h3,ih]
     have h3:secretM e.2=false:=by simpa using h3
     constructor
     ·rintro ⟨a,b,c,d⟩
      refine ⟨fun x hx=>?_,List.pairwise_cons.2 ⟨a,b⟩,fun x hx=>?_,fun x hx=>?_⟩
      ·rcases List.mem_cons.1 hx with rfl | hx
       ·omega
       ·have:=a x hx; omega
      ·rcases List.mem_cons.1 hx with rfl | hx
       ·exact h2
       ·exact c x hx
      ·rcases List.mem_cons.1 hx with rfl | hx
       ·exact h3
       ·exact d x hx
     ·rintro ⟨a,b,c,d⟩
      have hb:=List.pairwise_cons.1 b
      exact ⟨hb.1,hb.2,fun x hx=>c x (List.mem_cons_of_mem _ hx),fun x hx=>d x (List.mem_cons_of_mem _ hx)⟩
   ·rw [if_pos h2]
    exact ⟨fun h=>absurd h h2,fun h=>absurd (h.2.2.1 e List.mem_cons_self) h2⟩
theorem formOk {L:List Ent}:formM 0 L=0↔FormOk L:=by
 rw [Z11p]
 exact ⟨fun ⟨a,b,c,d⟩=>⟨b,c,d,a⟩,fun ⟨a,b,c,d⟩=>⟨d,a,b,c⟩⟩
theorem FormOk.list {L:List Ent} (h:FormOk L) {e:Ent} (he:e∈L):listE e.2=0:=by
 have:=h.one e he
 unfold oneM at this
 split at this
 ·exact absurd this (by decide)
 ·exact this
theorem Z147 {L:List Ent} (hs:L.Pairwise fun a b=>a.1 < b.1) {i:Nat} {a:Ent} (ha:L[i]?=some a):L.find? (fun x=>x.1 == a.1)=some a:=by
 rw [List.find?_eq_some_iff_getElem]
 obtain ⟨hl,hg⟩:=List.getElem?_eq_some_iff.1 ha
 refine ⟨by simp,i,hl,hg,fun q hq=>?_⟩
 have:=Zd9 hs hq (List.getElem?_eq_getElem (by omega)) ha
 simp
 omega
theorem Zpo {was now:List Ent} {i:Nat} {a:Ent} (ha:was[i]?=some a):goneP (was.take (i+1)) now=goneP (was.take i) now ++ if hasE now a.1=false then [a.1] else []:=by
 unfold goneP
 rw [Z8 ha,List.filter_append,List.map_append]
 congr 1
 by_cases h:hasE now a.1=true
 ·simp [List.filter,h]
 ·simp [List.filter,h]
theorem Zpj {was now:List Ent} {i:Nat} {a:Ent} (ha:now[i]?=some a):comeM was (now.take (i+1))=comeM was (now.take i) ++ if hasE was a.1=false then [a] else []:=by
 unfold comeM
 rw [Z8 ha,List.filter_append]
 congr 1
 by_cases h:hasE was a.1=true
 ·simp [List.filter,h]
 ·simp [List.filter,h]
theorem Zpi {was now:List Ent} {i:Nat} {a:Ent} (ha:now[i]?=some a):chgsM was (now.take (i+1))=chgsM was (now.take i) ++ match chgOne was a with
  | some c=>[c]
  | none=>[]:=by
 unfold chgsM
 rw [Z8 ha,List.filterMap_append]
 congr 1
 cases h:chgOne was a <;> simp [h]
structure Side (was now:List Ent) (i k:Nat):Prop where
 lt:∀ (p q:Nat) a b,p < i→k≤q→was[p]?=some a→now[q]?=some b→a.1 < b.1
 gt:∀ (p q:Nat) a b,i≤p→q < k→was[p]?=some a→now[q]?=some b→b.1 < a.1
theorem Side.zero (was now:List Ent):Side was now 0 0:=⟨fun p q a b h=>absurd h (by omega),fun p q a b h h2=>absurd h2 (by omega)⟩
section
variable {was now:List Ent} {i k:Nat}
theorem Side.left (h:Side was now i k) (_hw:was.Pairwise fun a b=>a.1 < b.1) (hn:now.Pairwise fun a b=>a.1 < b.1) {a:Ent} (ha:was[i]?=some a) (hb:∀ b,now[k]?=some b→a.1 < b.1):Side was now (i+1) k∧hasE now a.1=false:=by
 have key:∀ (q:Nat) b,k≤q→now[q]?=some b→a.1 < b.1:=fun q b hq hb2=>by
  rcases Nat.lt_or_ge k q with h1 | h1
  ·obtain ⟨c,hc⟩:∃ c,now[k]?=some c:=⟨_,List.getElem?_eq_getElem (by have:=(List.getElem?_eq_some_iff.1 hb2).1; omega)⟩
   have:=hb c hc
   have:=Zd9 hn h1 hc hb2
   omega
  ·have:q=k:=by omega
   subst this
   exact hb b hb2
 refine ⟨⟨fun p q x y hp hq hx hy=>?_,fun p q x y hp hq hx hy=>h.gt p q x y (by omega) hq hx hy⟩,Z6r.2 fun e he=>?_⟩
 ·rcases Nat.lt_or_ge p i with h1 | h1
  ·exact h.lt p q x y h1 hq hx hy
  ·have:p=i:=by omega
   subst this
   rw [ha] at hx; cases hx
   exact key q y hq hy
 ·obtain ⟨q,hq⟩:=List.mem_iff_getElem?.1 he
  rcases Nat.lt_or_ge q k with h1 | h1
  ·have:=h.gt i q a e (Nat.le_refl _) h1 ha hq; omega
  ·have:=key q e h1 hq; omega
theorem Side.right (h:Side was now i k) (hw:was.Pairwise fun a b=>a.1 < b.1) (_hn:now.Pairwise fun a b=>a.1 < b.1) {b:Ent} (hb:now[k]?=some b) (ha:∀ a,was[i]?=some a→b.1 < a.1):Side was now i (k+1)∧hasE was b.1=false:=by
 have key:∀ (p:Nat) a,i≤p→was[p]?=some a→b.1 < a.1:=fun p a hp ha2=>by
  rcases Nat.lt_or_ge i p with h1 | h1
  ·obtain ⟨c,hc⟩:∃ c,was[i]?=some c:=⟨_,List.getElem?_eq_getElem (by have:=(List.getElem?_eq_some_iff.1 ha2).1; omega)⟩
   have:=ha c hc
   have:=Zd9 hw h1 hc ha2
   omega
  ·have:p=i:=by omega
   subst this
   exact ha a ha2
 refine ⟨⟨fun p q x y hp hq hx hy=>h.lt p q x y hp (by omega) hx hy,fun p q x y hp hq hx hy=>?_⟩,Z6r.2 fun e he=>?_⟩
 ·rcases Nat.lt_or_ge q k with h1 | h1
  ·exact h.gt p q x y hp h1 hx hy
  ·have:q=k:=by omega
   subst this
   rw [hb] at hy; cases hy
   exact key p x hp hx
 ·obtain ⟨p,hp⟩:=List.mem_iff_getElem?.1 he
  rcases Nat.lt_or_ge p i with h1 | h1
  ·have:=h.lt p k e b h1 (Nat.le_refl _) hp hb; omega
  ·have:=key p e h1 hp; omega
theorem Side.both (h:Side was now i k) (hw:was.Pairwise fun a b=>a.1 < b.1) (hn:now.Pairwise fun a b=>a.1 < b.1) {a b:Ent} (ha:was[i]?=some a) (hb:now[k]?=some b) (hab:a.1=b.1):Side was now (i+1) (k+1)∧hasE now a.1=true∧hasE was b.1=true∧chgOne was b=if nothingM (changeM a b)=true then none else some (changeM a b):=by
 refine ⟨⟨fun p q x y hp hq hx hy=>?_,fun p q x y hp hq hx hy=>?_⟩,Z3x.2 ⟨b,List.mem_of_getElem? hb,hab.symm⟩,Z3x.2 ⟨a,List.mem_of_getElem? ha,hab⟩,?_⟩
 ·have h1:=Zd9 hn (show k < q by omega) hb hy
  rcases Nat.lt_or_ge p i with h2 | h2
  ·have:=Zd9 hw h2 hx ha; omega
  ·have:p=i:=by omega
   subst this
   rw [ha] at hx; cases hx
   omega
 ·have h1:=Zd9 hw (show i < p by omega) ha hx
  rcases Nat.lt_or_ge q k with h2 | h2
  ·have:=Zd9 hn h2 hy hb; omega
  ·have:q=k:=by omega
   subst this
   rw [hb] at hy; cases hy
   omega
 ·unfold chgOne
  rw [← hab,Z147 hw ha]
end
end Go.Proofs.YtchhhjlpnecjkaaGreat
namespace Go.Proofs.YtchhhjlpnecjkaaGreat
open Go Go.RowKit Go.Proofs.YtchhhjlpnecjkaaGreat.Den
variable {R:Type} {Q:R→World→Prop} {w:World}
theorem Zhq {ok:Nat→Prop} {s:Sl} {l:List Comp} (hS:SlT ok w compT s l) (hm:l.length * 16≤140737488355328) {K:Res [.sc .sl]→W R} (hk:∀ r w',Own (Up w.heap.size) w' 92 compT r l→Fr None w w'→K r Q w') :
  callW Tryz.prog Z45 [.slice s.a s.n s.c] [.sc .sl] K Q w:=by
 refine Zku _ K Q w ?_
 unfold Z7j
 rcases hS.at_ with rfl | ⟨b,o,ha,_⟩
 ·cases hsa:s.a with
  | none=>exact condT rfl (hk _ w (Own.nil _ _ _ _) (Fr.refl _ _))
  | some a =>
   refine condF rfl ?_
   rw [← hsa]
   refine newI fun w1 B1 f1 s1=>?_
   have own:=Own.mk' (S:=Up w.heap.size) (w:=w1) (E:=92) (t:=compT) (l:=[]) (g:=w.heap.size) (c:=0) (cur:=⟨[]⟩) (Nat.le_refl _) B1 (Nat.le_refl _) (Nat.zero_le _) (by simp) (by simp)
   refine appI (s:=⟨some ⟨w.heap.size,0,none⟩,0,0⟩) (s2:=s) (S':=Up w.heap.size) Z2u own (hS.fr0 f1) (by simp) (by simp) (fun _ h=>h) (by show _≤_; omega) fun r w2 o2 f2 s2=>hk r w2 (by simpa using o2) (f1.newer f2 (fun x e=>own.own x e))
 ·rw [ha]
  refine condF rfl ?_
  rw [← ha]
  exact cloneI Z2u hS hm (by omega) hk
end Go.Proofs.YtchhhjlpnecjkaaGreat
namespace Go.Proofs.YtchhhjlpnecjkaaGreat
open Go Go.RowKit Go.Proofs.YtchhhjlpnecjkaaGreat.Den
variable {R:Type} {Q:R→World→Prop} {w:World}
def zigM (n:Int):Int:=if 0≤n then 2 * n else -2 * n - 1
theorem xor_0 {x:Int} (h0:0≤x) (h1:x≤18446744073709551615):bXor .u64 x 0=x:=by
 unfold bXor
 rw [BitVec.toNat_xor,BitVec.toNat_ofInt,BitVec.toNat_ofInt]
 have e1:(0 % ((2 ^ IntKind.bits .u64:Nat):Int)).toNat=0:=by decide
 have e2:(x % ((2 ^ IntKind.bits .u64:Nat):Int)).toNat=x.toNat:=by
  have:((2 ^ IntKind.bits .u64:Nat):Int)=18446744073709551616:=by decide
  rw [this]; omega
 rw [e1,e2,Nat.xor_zero,IntKind.wrap_u64]
 omega
theorem Z17l {x:Int} (h0:0≤x) (h1:x≤18446744073709551615):bXor .u64 x 18446744073709551615=18446744073709551615 - x:=by
 change IntKind.wrap .u64 (((BitVec.ofInt 64 x ^^^ BitVec.ofInt 64 18446744073709551615).toNat:Nat):Int)=_
 have e:BitVec.ofInt 64 18446744073709551615=BitVec.allOnes 64:=by decide
 rw [e,BitVec.xor_allOnes,BitVec.toNat_not,BitVec.toNat_ofInt]
 have e2:(x % ((2 ^ 64:Nat):Int)).toNat=x.toNat:=by
  have:((2 ^ 64:Nat):Int)=18446744073709551616:=by decide
  rw [this]; omega
 rw [e2,IntKind.wrap_u64]
 omega
theorem Zok {n:Int} (hn:-4611686018427387904≤n∧n≤4611686018427387903) {K:Res [.sc (.int .u64)]→W R} (hk:K (zigM n) Q w):callW Tryz.prog Zia [.int .i64 n] [.sc (.int .u64)] K Q w:=by
 refine Z12o _ K Q w ?_
 unfold Zpe
 have e1:shL .i64 n 1=n * 2:=by
  unfold shL
  have:(2:Int) ^ (min (Int.toNat 1) (IntKind.bits .i64))=2:=by decide
  rw [this,w64 (by omega)]
 have e2:shR .i64 n 63=if 0≤n then 0 else -1:=by
  unfold shR
  have:(2:Int) ^ (min (Int.toNat 63) (IntKind.bits .i64))=9223372036854775808:=by decide
  rw [this,Int.fdiv_eq_ediv_of_nonneg _ (by decide)]
  split <;> omega
 rw [e1,e2]
 unfold zigM at hk
 by_cases h:0≤n
 ·rw [if_pos h] at hk ⊢
  have:bXor .u64 (IntKind.wrap .u64 (n * 2)) (IntKind.wrap .u64 0)=2 * n:=by
   rw [wU64 (by omega),wU64 (by omega),xor_0 (by omega) (by omega)]
   omega
  rw [this]
  exact hk
 ·rw [if_neg h] at hk ⊢
  have:bXor .u64 (IntKind.wrap .u64 (n * 2)) (IntKind.wrap .u64 (-1))=-2 * n - 1:=by
   have a1:IntKind.wrap .u64 (-1)=18446744073709551615:=by decide
   have a2:IntKind.wrap .u64 (n * 2)=18446744073709551616+n * 2:=by rw [IntKind.wrap_u64]; omega
   rw [a1,a2,Z17l (by omega) (by omega)]
   omega
  rw [this]
  exact hk
abbrev Part:=Int × Int
abbrev partT:Ty:=.agg [.int .u64,.int .i64]
def fieldP (c:Comp) (i:Nat):Part:=(IntKind.wrap .u64 (fl c i - (rangeM c.1 (i:Int)).1),(widthM (rangeM c.1 (i:Int)).1 (rangeM c.1 (i:Int)).2.1:Int))
def wholeP (c:Comp):List Part:=(List.range (cntM c.1)).map (fieldP c)
def oneP (was c:Comp) (i:Nat):List Part :=
 if zigM (fl c i - fl was i)=0 then [(0,1)] else if zigM (fl c i - fl was i)≤16 then [(1,1),(1,1),(zigM (fl c i - fl was i) - 1,4)] else [(1,1),(0,1),fieldP c i]
def stepP (was c:Comp):List Part:=(List.range (cntM c.1)).flatMap (oneP was c)
def partsB (l:List Part):List Bool:=l.flatMap fun p=>bitsOf p.1.toNat p.2.toNat
def PartOk (p:Part):Prop:=(0≤p.1∧p.1.toNat < 2 ^ p.2.toNat)∧0≤p.2∧p.2≤64
theorem Z127:SlTy Tryz.prog 202 231 partT 16:=slTy (by kernel_rfl)
theorem flI {c:Comp} (h:CompOk c):∀ i, -2147483648≤fl c i∧fl c i≤2147483647
 | 0=>h.2.1
 | 1=>h.2.2.1
 | _+2=>h.2.2.2
theorem Z1p (k i:Int):(-2147483648≤(rangeM k i).1∧(rangeM k i).1≤2147483647)∧(-2147483648≤(rangeM k i).2.1∧(rangeM k i).2.1≤2147483647):=by
 unfold rangeM
 split
 ·split
  ·rename_i p hp
   have hm:=List.mem_of_getElem? hp
   unfold fieldsM at hm
   repeat' split at hm
   all_goals first
    | (simp only [List.mem_cons,List.not_mem_nil,or_false] at hm; rcases hm with rfl | rfl | rfl <;> decide)
    | (simp only [List.mem_cons,List.not_mem_nil,or_false] at hm; rcases hm with rfl | rfl <;> decide)
    | (simp only [List.mem_cons,List.not_mem_nil,or_false] at hm; subst hm; decide)
    | simp at hm
  ·decide
 ·decide
theorem Zht {c:Comp} (hc:CompOk c) {i:Nat} (hi:i < 3) {K:Res [.agg [.int .u64,.int .i64]]→W R} (hk:∀ w',Fr None w w'→K (fieldP c i) Q w') :
  callW Tryz.prog Zdb [.agg ⟨compC c⟩,.int .i64 (i:Int)] [.agg [.int .u64,.int .i64]] K Q w:=by
 refine Zxm c _ K Q w ?_
 unfold Zgq
 refine newI fun w1 B1 f1 s1=>newI fun w2 B2 f2 s2=>?_
 have B1:=B1.fr f2 fun h=>h
 refine fldI B1 (i:=0) (x:=c.1) rfl (Z9l fun w3 f3=>?_)
 have fd:Fr None w3 w3.drew:=(Fr.refl _ _).drew
 have B1:=(B1.fr f3 fun h=>h).fr fd fun h=>h
 have B2:=(B2.fr f3 fun h=>h).fr fd fun h=>h
 refine fIdx (j:=i) rfl hi (fld0 B1 (x:=fl c i) (Z2c c hi) ?_)
 obtain ⟨r1,r2⟩:=Z1p c.1 (i:Int)
 have hf:=flI hc i
 rw [w64 (x:=(rangeM c.1 (i:Int)).1) (by omega),w64 (x:=(rangeM c.1 (i:Int)).2.1) (by omega),w64 (x:=fl c i) (by omega),w64 (x:=fl c i - _) (by omega)]
 refine Zco (by omega) (by omega) (andI ?_ ?_)
 ·exact (B1.cell (1+i)).trans (Z2c c hi)
 ·refine stoAll B2 rfl rfl fun w4 B4 f4 s4=>aggI B4 (x:=fieldP c i) rfl ?_
  exact hk w4 ((((f1.then0 f2).then0 f3).then0 fd).newer f4 fun k e=>by omega)
theorem Z3n {k:Int} {K:Res [.sc (.int .i64)]→W R} (hk:∀ w',Fr None w w'→K ((cntM k:Nat):Int) Q w'):callW Tryz.prog Z38 [.int .u8 k] [.sc (.int .i64)] K Q w:=by
 refine Ztv _ K Q w ?_
 unfold Zdu
 refine Z9v fun s w1 hS f1=>?_
 have hn:s.n=cntM k:=hS.len
 show K ((s.n:Nat):Int) Q w1
 rw [hn]
 exact hk w1 f1
theorem Zt9 {c:Comp} (hc:CompOk c) {K:Res [.sc .sl]→W R} (hk:∀ r w',Own (Up w.heap.size) w' 231 partT r (wholeP c)→Fr None w w'→K r Q w') :
  callW Tryz.prog Zh9 [.agg ⟨compC c⟩] [.sc .sl] K Q w:=by
 refine Zxo c K Q w ?_
 unfold Zgs
 refine newI fun w1 B1 f1 s1=>?_
 have h3:=Z5j c.1
 refine fldI B1 (i:=0) (x:=c.1) rfl (Z3n fun w2 f2=>?_)
 refine forI (N:=cntM c.1) (fun s:Sl × Int=>s.2) (fun j s w'=>s.2=(j:Int)∧Own (fun k=>w.heap.size≤k∧k≠w.heap.size) w' 231 partT s.1 ((List.range j).map (fieldP c))∧Blk w' w.heap.size 92 (compC c)∧Fr None w w') ⟨rfl,Own.nil _ _ _ _,B1.fr f2 fun h=>h,f1.then0 f2⟩ (fun j s w' h=>h.1) ?_ ?_
 ·rintro j ⟨z,_⟩ w3 K' hj ⟨rfl,o3,B3,f3⟩ - hK
  have hs3:=f3.size
  refine aggI B3 (x:=c) rfl (Zht hc (by omega) fun w4 f4=>?_)
  have hs4:=f4.size
  refine appP (x:=fieldP c j) Z127 rfl (o3.none f4) (fun k e=>⟨by omega,by have:=B3.lt; omega⟩) (by simp; omega) (by simp; omega) fun r w5 o5 f5=>?_
  have hr:(List.range (j+1)).map (fieldP c)=(List.range j).map (fieldP c) ++ [fieldP c j]:=by rw [List.range_succ,List.map_append]; rfl
  refine hK _ _ ⟨wsucc hj (by omega),by rw [hr]; exact o5,?_,(f3.then0 f4).newer f5 fun k e=>(o3.own k e).1⟩
  exact (B3.fr f4 fun h=>h).fr f5 fun e=>(o3.own _ e).2 rfl
 ·rintro ⟨z,_⟩ w3 ⟨_,o3,_,f3⟩
  exact hk z w3 (o3.mono fun k _ e=>e.1) f3
theorem Zuh {was c:Comp} (hw:CompOk was) (hc:CompOk c) {i:Nat} (hi:i < 3) {K:Res [.sc (.int .u64)]→W R} (hk:∀ w',Fr None w w'→K (zigM (fl c i - fl was i)) Q w') :
  callW Tryz.prog Zm8 [.agg ⟨compC was⟩,.agg ⟨compC c⟩,.int .i64 (i:Int)] [.sc (.int .u64)] K Q w:=by
 refine Zzo was c _ K Q w ?_
 unfold Zlo
 refine newI fun w1 B1 f1 s1=>newI fun w2 B2 f2 s2=>?_
 have fd:Fr None w2 w2.drew:=(Fr.refl _ _).drew
 have B1:=(B1.fr f2 fun h=>h).fr fd fun h=>h
 have B2:=B2.fr fd fun h=>h
 have a:=flI hc i
 have b:=flI hw i
 refine fIdx (j:=i) rfl hi (fld0 B2 (x:=fl c i) (Z2c c hi) (fIdx (j:=i) rfl hi (fld0 B1 (x:=fl was i) (Z2c was hi) ?_)))
 rw [w64 (x:=fl c i) (by omega),w64 (x:=fl was i) (by omega),w64 (x:=fl c i - fl was i) (by omega)]
 exact Zok (by omega) (hk _ ((f1.then0 f2).then0 fd))
theorem Z16w (was c:Comp) (i:Nat):(oneP was c i).length≤3:=by
 unfold oneP
 split
 ·simp
 ·split <;> simp
theorem Zvi (was c:Comp) (j:Nat):((List.range j).flatMap (oneP was c)).length≤3 * j:=by
 induction j with
 | zero=>simp
 | succ j ih =>
  rw [List.range_succ,List.flatMap_append,List.length_append]
  have:=Z16w was c j
  simp only [List.flatMap_cons,List.flatMap_nil,List.append_nil]
  omega
theorem Zuk {was c:Comp} (hw:CompOk was) (hc:CompOk c) {K:Res [.sc .sl]→W R} (hk:∀ r w',Own (Up w.heap.size) w' 231 partT r (stepP was c)→Fr None w w'→K r Q w') :
  callW Tryz.prog Zmb [.agg ⟨compC was⟩,.agg ⟨compC c⟩] [.sc .sl] K Q w:=by
 refine Zzr was c K Q w ?_
 unfold Zlr
 refine newI fun w1 B1 f1 s1=>newI fun w2 B2 f2 s2=>?_
 have B1:=B1.fr f2 fun h=>h
 have h3:=Z5j c.1
 refine fldI B2 (i:=0) (x:=c.1) rfl (Z3n fun w3 f3=>?_)
 have fs:=(f1.then0 f2).then0 f3
 refine forI (N:=cntM c.1) (fun s:Sl × Int=>s.2) (fun j s w'=>s.2=(j:Int)∧Own (fun k=>w.heap.size≤k∧k≠w.heap.size∧k≠w1.heap.size) w' 231 partT s.1 ((List.range j).flatMap (oneP was c))∧Blk w' w.heap.size 92 (compC was)∧Blk w' w1.heap.size 92 (compC c)∧Fr None w w') ⟨rfl,Own.nil _ _ _ _,B1.fr f3 fun h=>h,B2.fr f3 fun h=>h,fs⟩ (fun j s w' h=>h.1) ?_ ?_
 ·rintro j ⟨z,_⟩ w4 K' hj ⟨rfl,o4,B14,B24,f4⟩ - hK
  have hl1:=B14.lt
  have hl2:=B24.lt
  refine aggI B14 (x:=was) rfl (aggI B24 (x:=c) rfl (Zuh hw hc (by omega) fun w5 f5=>?_))
  have hs5:=f5.size
  have o5:=o4.none f5
  have B15:=B14.fr f5 fun h=>h
  have B25:=B24.fr f5 fun h=>h
  have hpl:=Zvi was c j
  refine joinI (fun (z:Sl) w'=>Own (fun k=>w.heap.size≤k∧k≠w.heap.size∧k≠w1.heap.size) w' 231 partT z ((List.range j).flatMap (oneP was c) ++ oneP was c j)∧Blk w' w.heap.size 92 (compC was)∧Blk w' w1.heap.size 92 (compC c)∧Fr None w w') ?_ ?_
  ·have app:∀ {z5:Sl} {v:World} {ps:List Part} {cs:List Value} {n:Nat} {R2:Type} {K2:Sl→W R2} {Q2:R2→World→Prop},Fr None w v→Blk v w.heap.size 92 (compC was)→Blk v w1.heap.size 92 (compC c)→Own (fun k=>w.heap.size≤k∧k≠w.heap.size∧k≠w1.heap.size) v 231 partT z5 ((List.range j).flatMap (oneP was c))→cs=ps.flatMap partT.cells→cs.length=ps.length * 2→n=ps.length→ps.length≤3 →
     (∀ r v',Own (fun k=>w.heap.size≤k∧k≠w.heap.size∧k≠w1.heap.size) v' 231 partT r ((List.range j).flatMap (oneP was c) ++ ps)→Blk v' w.heap.size 92 (compC was)→Blk v' w1.heap.size 92 (compC c)→Fr None w v'→K2 r Q2 v') →
     newW 231 cs (fun a=>rawW Tryz.prog (Builtin.append_ #[202,202] 202 #[.slice z5.a z5.n z5.c,.slice (some a) n n]) [.sc .sl] K2) Q2 v:=by
    intro z5 v ps cs n R2 K2 Q2 fv V1 V2 ov hcs hcl hn hp hk2
    have hsv:=fv.size
    refine newI fun v1 Bv g1 t1=>?_
    subst hn
    have lit:Own (fun _=>True) v1 231 partT ⟨some ⟨v.heap.size,0,none⟩,ps.length,ps.length⟩ ps:=Own.mk' (S:=fun _=>True) (E:=231) (t:=partT) (l:=ps) (g:=v.heap.size) (c:=ps.length) (cur:=⟨cs⟩) trivial Bv (Nat.le_refl _) (by rw [Z1j]; omega) hcl (by rw [hcs,show partT.size=2 from rfl,← hcl,hcs]; exact List.take_length)
    refine appI (s:=z5) (s2:=⟨some ⟨v.heap.size,0,none⟩,ps.length,ps.length⟩) (S':=fun k=>w.heap.size≤k∧k≠w.heap.size∧k≠w1.heap.size) Z127 (ov.none g1) lit.sl (by omega) (by rw [Z1j]; omega) (fun _ h=>h) ⟨by have:=g1.size; omega,by have:=V1.lt; have:=g1.size; omega,by have:=V2.lt; have:=g1.size; omega⟩ fun r v2 o2 g2 _=>?_
    exact hk2 r v2 o2 ((V1.fr g1 fun h=>h).fr g2 fun e=>(ov.own _ e).2.1 rfl) ((V2.fr g1 fun h=>h).fr g2 fun e=>(ov.own _ e).2.2 rfl) ((fv.then0 g1).newer g2 fun k e=>(ov.own k e).1)
   refine condE (fun hz=>?_) fun hz=>?_
   ·have e:oneP was c j=[(0,1)]:=by rw [oneP,if_pos hz]
    rw [e]
    refine app (z5:=z) (ps:=[(0,1)]) (n:=1) (f4.then0 f5) B15 B25 o5 rfl rfl rfl (by simp) ?_
    exact fun r v' o b1 b2 f=>⟨o,b1,b2,f⟩
   ·refine joinI (fun (z:Sl) w'=>Own (fun k=>w.heap.size≤k∧k≠w.heap.size∧k≠w1.heap.size) w' 231 partT z ((List.range j).flatMap (oneP was c) ++ oneP was c j)∧Blk w' w.heap.size 92 (compC was)∧Blk w' w1.heap.size 92 (compC c)∧Fr None w w') ?_ fun z w' h=>h
    refine condD (fun h16=>?_) fun h16=>?_
    ·have e:oneP was c j=[(1,1),(1,1),(zigM (fl c j - fl was j) - 1,4)]:=by rw [oneP,if_neg hz,if_pos h16]
     have hz0:0≤zigM (fl c j - fl was j):=by unfold zigM; split <;> omega
     have ew:IntKind.wrap .u64 (zigM (fl c j - fl was j) - 1)=zigM (fl c j - fl was j) - 1:=wU64 (by omega)
     rw [e,ew]
     refine app (z5:=z) (ps:=[(1,1),(1,1),(zigM (fl c j - fl was j) - 1,4)]) (n:=3) (f4.then0 f5) B15 B25 o5 rfl rfl rfl (by simp) ?_
     exact fun r v' o b1 b2 f=>⟨o,b1,b2,f⟩
    ·have e:oneP was c j=[(1,1),(0,1),fieldP c j]:=by rw [oneP,if_neg hz,if_neg h16]
     rw [e]
     refine aggI B25 (x:=c) rfl (Zht hc (by omega) fun w6 f6=>?_)
     refine app (z5:=z) (ps:=[(1,1),(0,1),fieldP c j]) (n:=3) ((f4.then0 f5).then0 f6) (B15.fr f6 fun h=>h) (B25.fr f6 fun h=>h) (o5.none f6) rfl rfl rfl (Nat.le_refl 3) ?_
     exact fun r v' o b1 b2 f=>⟨o,b1,b2,f⟩
  ·rintro z w6 ⟨o6,b1,b2,f6⟩
   have hr:(List.range (j+1)).flatMap (oneP was c)=(List.range j).flatMap (oneP was c) ++ oneP was c j:=by rw [List.range_succ,List.flatMap_append]; simp
   exact hK _ _ ⟨wsucc hj (by omega),by rw [hr]; exact o6,b1,b2,f6⟩
 ·rintro ⟨z,_⟩ w4 ⟨_,o4,_,_,f4⟩
  exact hk z w4 (o4.mono fun k _ e=>e.1) f4
end Go.Proofs.YtchhhjlpnecjkaaGreat
namespace Go.Proofs.YtchhhjlpnecjkaaGreat
open Go Go.RowKit Go.Proofs.YtchhhjlpnecjkaaGreat.Den
variable {R:Type} {Q:R→World→Prop} {w:World}
theorem Z112 (l:List Part) (p:Part):partsB (l ++ [p])=partsB l ++ bitsOf p.1.toNat p.2.toNat:=by simp [partsB]
theorem Zmk {l:List Part} {j:Nat} {p:Part} (h:l[j]?=some p):partsB (l.take (j+1))=partsB (l.take j) ++ bitsOf p.1.toNat p.2.toNat:=by rw [Z8 h,Z112]
theorem Z154 {l:List Part} (j:Nat):(partsB (l.take j)).length≤(partsB l).length:=by
 conv=>rhs; rw [← List.take_append_drop j l]
 unfold partsB
 rw [List.flatMap_append,List.length_append]
 omega
theorem Zqx {l:List Part} (hP:∀ p∈l,PartOk p):(partsB l).length≤64 * l.length:=by
 induction l with
 | nil=>simp [partsB]
 | cons p r ih =>
  have h1:=ih fun q hq=>hP q (List.mem_cons_of_mem _ hq)
  have h2:=(hP p List.mem_cons_self).2
  unfold partsB at h1 ⊢
  simp only [List.flatMap_cons,List.length_append,Z4,List.length_cons]
  omega
theorem Zuj {ok:Nat→Prop} {s:Sl} {l:List Part} (hS:SlT ok w partT s l) (hP:∀ p∈l,PartOk p) (hl:l.length≤100) {K:Res [.sc (.int .i64)]→W R} (hk:∀ w',Fr None w w'→K ((partsB l).length:Int) Q w') :
  callW Tryz.prog Zma [.slice s.a s.n s.c] [.sc (.int .i64)] K Q w:=by
 refine Zzq s K Q w ?_
 unfold Zlq
 have hlen:=hS.len
 refine forI (N:=s.n) (fun s:Int × Int=>s.2) (fun j s w'=>s=(((partsB (l.take j)).length:Int),(j:Int))∧Fr None w w') ⟨rfl,Fr.refl _ _⟩ (fun j s w' h=>by rw [h.1]) ?_ ?_
 ·rintro j s1 w1 K' hj ⟨rfl,f1⟩ - hK
  refine (hS.fr0 f1).get rfl rfl (by omega) fun p hp=>?_
  refine newI fun w2 B2 f2 s2=>stoAll B2 rfl rfl fun w3 B3 f3 s3=>fldI B3 (i:=1) (x:=p.2) rfl ?_
  have hpo:=(hP p (List.mem_of_getElem? hp)).2
  have hsm:=Zqx (l:=l.take j) fun q hq=>hP q (List.mem_of_mem_take hq)
  rw [List.length_take] at hsm
  refine hK _ _ ⟨?_,f1.then0 (f2.newer f3 fun k e=>by omega)⟩
  rw [wsucc hj (by omega),Zmk hp,List.length_append,Z4,w64 (by omega)]
  have:(((partsB (l.take j)).length:Nat):Int)+p.2=(((partsB (l.take j)).length+p.2.toNat:Nat):Int):=by omega
  rw [this]
 ·rintro s1 w1 ⟨rfl,f1⟩
  rw [List.take_of_length_le (by omega)]
  exact hk w1 f1
def putP (L:List Bool) (l:List Part):Int × List Bool:=if 1048576 < L.length+(partsB l).length then (3,L) else (0,L ++ partsB l)
theorem Zoj {b:Nat} {L:List Bool} {F:Nat→Prop} (h:Wr b L F w) {ok:Nat→Prop} {s:Sl} {l:List Part} (hS:SlT ok w partT s l) (hd:∀ k,k < w.heap.size→ok k→¬ F k) (hP:∀ p∈l,PartOk p) (hl:l.length≤100) {K:Res [.sc (.int .i64)]→W R}
  (hk:∀ w',Wr b (putP L l).2 (Ex F w) w'→Fr F w w'→K (putP L l).1 Q w'):callW Tryz.prog Zi9 [.pointer (some ⟨b,0,none⟩),.slice s.a s.n s.c] [.sc (.int .i64)] K Q w:=by
 refine Z12m _ s K Q w ?_
 unfold Zpc
 have hlen:=hS.len
 have hL:=h.1
 have hsm:=Zqx hP
 refine Zoi h (Zuj hS hP hl fun w1 f1=>?_)
 have hs1:=f1.size
 rw [w64 (by omega)]
 unfold putP at hk
 have h1:=Wr.st.fr0 h f1
 refine condD (fun h3=>?_) fun h3=>?_
 ·have h3:(1048576:Int) < (L.length:Int)+((partsB l).length:Int):=h3
  rw [if_pos (by omega)] at hk
  exact hk w1 (Wr.st.mono h1 fun k _ e=>.inl e) f1.any
 have h3:¬ (1048576:Int) < (L.length:Int)+((partsB l).length:Int):=h3
 rw [if_neg (by omega)] at hk
 have hS0:SlT (fun k=>ok k∧k < w.heap.size) w partT s l:=hS.mono fun k hk e=>⟨e,hk⟩
 refine forI (N:=s.n) (fun s:Int=>s) (fun j i w'=>i=(j:Int)∧Wr b (L ++ partsB (l.take j)) (Ex F w) w'∧Fr F w w') ⟨rfl,by rw [List.take_zero]; simp only [partsB,List.flatMap_nil,List.append_nil]; exact Wr.st.mono h1 fun k _ e=>.inl e,f1.any⟩ (fun j s w' h=>h.1) ?_ ?_
 ·rintro j i w2 K' hj ⟨rfl,hw,f2⟩ - hK
  have hs2:=f2.size
  refine (hS0.fr f2 fun k e e2=>hd k e.2 e.1 e2).get rfl rfl (by omega) fun p hp=>?_
  refine newI fun w3 B3 f3 s3=>stoAll B3 rfl rfl fun w4 B4 f4 s4=>fldI B4 (i:=0) (x:=p.1) rfl (fldI B4 (i:=1) (x:=p.2) rfl ?_)
  have f24:Fr None w2 w4:=f3.newer f4 fun k e=>by omega
  have hs4:=f24.size
  obtain ⟨⟨hp1,hp2⟩,hp3,hp4⟩:=hP p (List.mem_of_getElem? hp)
  have hle:=Z154 (l:=l) (j+1)
  rw [Zmk hp,List.length_append,Z4] at hle
  have ep:putB (L ++ partsB (l.take j)) p.1 p.2=(0,L ++ partsB (l.take (j+1))):=by
   rw [putB,if_neg (by omega),if_neg,if_neg (by rw [List.length_append]; omega)]
   ·rw [Zmk hp,List.append_assoc]
   ·rintro ⟨_,h⟩
    exact h (Nat.div_eq_of_lt hp2)
  have h64:p.1.toNat < 2 ^ 64:=Nat.lt_of_lt_of_le hp2 (Nat.pow_le_pow_right (by decide) (by omega))
  refine Zbc (Wr.st.fr0 hw f24) (v:=p.1) (n:=p.2) (by omega) (by omega) fun w5 hw5 f5=>?_
  rw [ep] at hw5
  have hs5:=f5.size
  refine hK _ _ ⟨wsucc hj (by omega),Wr.st.mono hw5 fun k _ e=>?_,(f2.then0 f24).exS f5 fun k e=>e⟩
  rcases e with e | e
  ·exact e
  ·exact .inr (by omega)
 ·rintro i w2 ⟨rfl,hw,f2⟩
  rw [List.take_of_length_le (by omega)] at hw
  exact hk w2 hw f2
theorem Zxk {lo hi x:Int} (h1:lo≤x) (h2:x≤hi) (h3:hi - lo≤18446744073709551615):(x - lo).toNat < 2 ^ widthM lo hi:=by
 unfold widthM
 rw [if_neg (by omega)]
 by_cases h0:(hi - lo).toNat=0
 ·have:(x - lo).toNat=0:=by omega
  rw [this]
  exact Nat.two_pow_pos _
 ·have:=(Lib.bitLenAux_bounds 64 (hi - lo).toNat (by omega) h0).2.2
  have e:(x - lo).toNat≤(hi - lo).toNat:=by omega
  exact Nat.lt_of_le_of_lt e this
theorem Z49 {lo hi:Int} (h3:hi - lo≤18446744073709551615):widthM lo hi≤64:=by
 unfold widthM
 split
 ·decide
 ·exact Lib.bitLen_le _ 64 (by decide) (by omega)
theorem Zwf {c:Comp} (h:checkM c=0) {i:Nat} (hi:i < cntM c.1):(rangeM c.1 (i:Int)).1≤fl c i∧fl c i≤(rangeM c.1 (i:Int)).2.1:=by
 have h3:=Z5j c.1
 have hall:(List.range 3).all (inR c)=true:=by
  unfold checkM at h
  split at h
  ·cases h
  ·split at h
   ·cases h
   ·split at h
    ·assumption
    ·cases h
 have:=List.all_eq_true.1 hall i (List.mem_range.2 (by omega))
 unfold inR at this
 obtain ⟨p,hp⟩:∃ p,(fieldsM c.1)[i]?=some p:=⟨_,List.getElem?_eq_getElem hi⟩
 rw [hp] at this
 simp only [Bool.and_eq_true,decide_eq_true_eq] at this
 unfold rangeM
 rw [if_pos (by omega),Int.toNat_natCast,hp]
 exact this
theorem Zyq {c:Comp} (h:checkM c=0) {i:Nat} (hi:i < cntM c.1):PartOk (fieldP c i):=by
 obtain ⟨h1,h2⟩:=Zwf h hi
 obtain ⟨r1,r2⟩:=Z1p c.1 (i:Int)
 have hw:=Z49 (lo:=(rangeM c.1 (i:Int)).1) (hi:=(rangeM c.1 (i:Int)).2.1) (by omega)
 have hl:=Zxk h1 h2 (by omega)
 unfold PartOk fieldP
 dsimp only
 rw [wU64 (by omega),Int.toNat_natCast]
 exact ⟨⟨by omega,hl⟩,by omega,by omega⟩
theorem Z15r {c:Comp} (h:checkM c=0):∀ p∈wholeP c,PartOk p:=fun p hp=>by
 obtain ⟨i,hi,rfl⟩:=List.mem_map.1 hp
 exact Zyq h (List.mem_range.1 hi)
theorem Z17g {was c:Comp} (h:checkM c=0):∀ p∈stepP was c,PartOk p:=fun p hp=>by
 obtain ⟨i,hi,hp⟩:=List.mem_flatMap.1 hp
 have hi:=List.mem_range.1 hi
 have hz0:0≤zigM (fl c i - fl was i):=by unfold zigM; split <;> omega
 unfold oneP at hp
 split at hp
 ·simp only [List.mem_singleton] at hp
  subst hp
  exact ⟨⟨by decide,by decide⟩,by decide,by decide⟩
 ·split at hp
  ·simp only [List.mem_cons,List.not_mem_nil,or_false] at hp
   rcases hp with rfl | rfl | rfl
   ·exact ⟨⟨by decide,by decide⟩,by decide,by decide⟩
   ·exact ⟨⟨by decide,by decide⟩,by decide,by decide⟩
   ·refine ⟨⟨by dsimp only; omega,?_⟩,(by decide:(0:Int)≤4),(by decide:(4:Int)≤64)⟩
    show (zigM (fl c i - fl was i) - 1).toNat < 2 ^ (4:Int).toNat
    rw [show (2:Nat) ^ (4:Int).toNat=16 from rfl]
    omega
  ·simp only [List.mem_cons,List.not_mem_nil,or_false] at hp
   rcases hp with rfl | rfl | rfl
   ·exact ⟨⟨by decide,by decide⟩,by decide,by decide⟩
   ·exact ⟨⟨by decide,by decide⟩,by decide,by decide⟩
   ·exact Zyq h hi
def putC (L:List Bool) (c:Comp):Int × List Bool:=if checkM c≠0 then (checkM c,L) else putP L (wholeP c)
theorem Zx7 {b:Nat} {L:List Bool} {F:Nat→Prop} (h:Wr b L F w) {c:Comp} (hc:CompOk c) (hF:∀ k,F k→k < w.heap.size) {K:Res [.sc (.int .i64)]→W R} (hk:∀ w',Wr b (putC L c).2 (Ex F w) w'→Fr F w w'→K (putC L c).1 Q w') :
  callW Tryz.prog Zps [.pointer (some ⟨b,0,none⟩),.agg ⟨compC c⟩] [.sc (.int .i64)] K Q w:=by
 refine Z12l _ c K Q w ?_
 unfold Zpb
 refine newI fun w1 B1 f1 s1=>condF rfl (aggI B1 (x:=c) rfl (Z3m fun w2 f2=>?_))
 have f02:=f1.then0 f2
 have hs2:=f02.size
 unfold putC at hk
 refine condN (fun hne=>?_) fun heq=>?_
 ·rw [if_pos hne] at hk
  exact hk w2 (Wr.st.mono (Wr.st.fr0 h f02) fun k _ e=>.inl e) f02.any
 ·rw [if_neg (by omega)] at hk
  refine aggI (B1.fr f2 fun h=>h) (x:=c) rfl (Zt9 hc fun r w3 o3 f3=>?_)
  have f03:=f02.then0 f3
  have hs3:=f03.size
  refine Zoj (Wr.st.fr0 h f03) o3.sl (fun k _ e e2=>by have e:w2.heap.size≤k:=e; have:=hF k e2; omega) (Z15r (by omega)) (by have:=Z5j c.1; simp [wholeP]; omega) fun w4 hw f4=>?_
  exact hk w4 (Wr.st.mono hw fun k _ e=>e.imp id fun e=>by omega) ((f03.any).exS f4 fun k e=>.inl e)
def pairM (was c:Comp):Int:=if checkM was≠0 then checkM was else if checkM c≠0 then checkM c else if was.1=c.1 then 0 else 4
theorem Zui {was c:Comp} {K:Res [.sc (.int .i64)]→W R} (hk:∀ w',Fr None w w'→K (pairM was c) Q w'):callW Tryz.prog Zm9 [.agg ⟨compC was⟩,.agg ⟨compC c⟩] [.sc (.int .i64)] K Q w:=by
 refine Zzp was c K Q w ?_
 unfold Zlp
 unfold pairM at hk
 refine newI fun w1 B1 f1 s1=>newI fun w2 B2 f2 s2=>?_
 have B1:=B1.fr f2 fun h=>h
 refine aggI B1 (x:=was) rfl (Z3m fun w3 f3=>?_)
 have f03:=(f1.then0 f2).then0 f3
 refine condN (fun hne=>?_) fun heq=>?_
 ·rw [if_pos hne] at hk
  exact hk w3 f03
 rw [if_neg (by omega)] at hk
 have B1:=B1.fr f3 fun h=>h
 have B2:=B2.fr f3 fun h=>h
 refine aggI B2 (x:=c) rfl (Z3m fun w4 f4=>?_)
 refine condN (fun hne=>?_) fun heq2=>?_
 ·rw [if_pos hne] at hk
  exact hk w4 (f03.then0 f4)
 rw [if_neg (by omega)] at hk
 refine fldI (B1.fr f4 fun h=>h) (i:=0) (x:=was.1) rfl (fldI (B2.fr f4 fun h=>h) (i:=0) (x:=c.1) rfl ?_)
 refine condN (fun hne=>?_) fun heq3=>?_
 ·rw [if_neg hne] at hk
  exact hk w4 (f03.then0 f4)
 ·rw [if_pos heq3] at hk
  exact hk w4 (f03.then0 f4)
def putS (L:List Bool) (was c:Comp):Int × List Bool:=if pairM was c≠0 then (pairM was c,L) else putP L (stepP was c)
theorem Zq1 {b:Nat} {L:List Bool} {F:Nat→Prop} (h:Wr b L F w) {was c:Comp} (hw:CompOk was) (hc:CompOk c) (hF:∀ k,F k→k < w.heap.size) {K:Res [.sc (.int .i64)]→W R} (hk:∀ w',Wr b (putS L was c).2 (Ex F w) w'→Fr F w w'→K (putS L was c).1 Q w') :
  callW Tryz.prog Ze0 [.pointer (some ⟨b,0,none⟩),.agg ⟨compC was⟩,.agg ⟨compC c⟩] [.sc (.int .i64)] K Q w:=by
 refine Ztn _ was c K Q w ?_
 unfold Zdm
 refine newI fun w0 B0 f0 s0=>newI fun w1 B1 f1 s1=>condF rfl ?_
 have B0:=B0.fr f1 fun h=>h
 refine aggI B0 (x:=was) rfl (aggI B1 (x:=c) rfl (Zui fun w2 f2=>?_))
 have f02:=(f0.then0 f1).then0 f2
 have hs2:=f02.size
 unfold putS at hk
 refine condN (fun hne=>?_) fun heq=>?_
 ·rw [if_pos hne] at hk
  exact hk w2 (Wr.st.mono (Wr.st.fr0 h f02) fun k _ e=>.inl e) f02.any
 ·rw [if_neg (by omega)] at hk
  have hc0:checkM c=0:=by
   unfold pairM at heq
   split at heq
   ·omega
   ·split at heq
    ·omega
    ·omega
  refine aggI (B0.fr f2 fun h=>h) (x:=was) rfl (aggI (B1.fr f2 fun h=>h) (x:=c) rfl (Zuk hw hc fun r w3 o3 f3=>?_))
  have f03:=f02.then0 f3
  have hs3:=f03.size
  have hl:(stepP was c).length≤100:=by have:=Zvi was c (cntM c.1); have:=Z5j c.1; unfold stepP; omega
  refine Zoj (Wr.st.fr0 h f03) o3.sl (fun k _ e e2=>by have e:w2.heap.size≤k:=e; have:=hF k e2; omega) (Z17g hc0) hl fun w4 hw f4=>?_
  exact hk w4 (Wr.st.mono hw fun k _ e=>e.imp id fun e=>by omega) ((f03.any).exS f4 fun k e=>.inl e)
end Go.Proofs.YtchhhjlpnecjkaaGreat
namespace Go.Proofs.YtchhhjlpnecjkaaGreat
open Go Go.RowKit Go.Proofs.YtchhhjlpnecjkaaGreat.Den
variable {R:Type} {Q:R→World→Prop} {w:World}
abbrev WS:=List Bool × Int
def keepM (e x:Int):Int:=if e=0 then x else e
def doM (s:WS) (p:Int × List Bool):WS:=(p.2,keepM s.2 p.1)
def PW (bw b:Nat) (s:WS):OB:=fun F w=>F bw∧(∀ k,F k→k < w.heap.size)∧Blk w bw 102 [.pointer (some ⟨b,0,none⟩),.int .i64 s.2]∧Wr b s.1 (fun k=>F k∧k≠bw) w
section
variable {bw b:Nat} {s:WS} {F:Nat→Prop}
theorem PW.fr0 (h:PW bw b s F w) {w':World} (f:Fr None w w'):PW bw b s F w':=by
 obtain ⟨h1,h2,h3,h4⟩:=h
 have:=f.size
 exact ⟨h1,fun k e=>by have:=h2 k e; omega,h3.fr f fun h=>h,Wr.st.fr0 h4 f⟩
abbrev Gw (F:Nat→Prop) (w w':World):Nat→Prop:=fun k=>F k∨(w.heap.size≤k∧k < w'.heap.size)
theorem Zag (h:PW bw b s F w) {x:Int} {K:Res []→W R} (hk:∀ w',PW bw b (s.1,keepM s.2 x) F w'→Fr F w w'→w'.heap.size=w.heap.size→K () Q w') :
  callW Tryz.prog Z1 [.pointer (some ⟨bw,0,none⟩),.int .i64 x] [] K Q w:=by
 refine Zil _ _ K Q w ?_
 unfold Z62
 obtain ⟨h1,h2,B,hw⟩:=h
 refine ptrI (fldI B (i:=1) (x:=s.2) rfl ?_)
 refine joinI (fun (_:Unit) w'=>PW bw b (s.1,keepM s.2 x) F w'∧Fr F w w'∧w'.heap.size=w.heap.size) ?_ fun _ w' ⟨a,b,c⟩=>hk w' a b c
 refine condE (fun he=>?_) fun he=>?_
 ·refine ptrI ?_
  rw [add_lit]
  refine setI (i:=1) B (by simp) rfl fun w2 B2 f2 s2=>?_
  have e:keepM s.2 x=x:=by rw [keepM,if_pos he]
  rw [e]
  exact ⟨⟨h1,fun k e=>by rw [s2]; exact h2 k e,B2,Wr.st.fr hw f2 fun k e e2=>e.2 e2⟩,f2.sub fun k e=>by rw [e]; exact h1,s2⟩
 ·have e:keepM s.2 x=s.2:=by rw [keepM,if_neg he]
  rw [e]
  exact ⟨⟨h1,h2,B,hw⟩,Fr.refl _ _,rfl⟩
theorem PW.put (h:PW bw b s F w):Wr b s.1 (fun k=>F k∧k≠bw) w∧(∀ k,F k∧k≠bw→k < w.heap.size)∧∀ (p:Int × List Bool) (w':World) {K:Res []→W R},Wr b p.2 (Ex (fun k=>F k∧k≠bw) w) w'→Fr (fun k=>F k∧k≠bw) w w' →
  (∀ w2,PW bw b (doM s p) (Gw F w w2) w2→Fr F w w2→K () Q w2)→callW Tryz.prog Z1 [.pointer (some ⟨bw,0,none⟩),.int .i64 p.1] [] K Q w':=by
 obtain ⟨h1,h2,B,hw⟩:=h
 refine ⟨hw,fun k e=>h2 k e.1,fun p w' K hw' f hk=>?_⟩
 have hs:=f.size
 have hbw:=h2 bw h1
 have pw:PW bw b (p.2,s.2) (Gw F w w') w':=by
  refine ⟨.inl h1,fun k e=>?_,B.fr f fun e=>e.2 rfl,Wr.st.mono hw' fun k hk e=>?_⟩
  ·rcases e with e | e
   ·have:=h2 k e; omega
   ·exact e.2
  ·rcases e with e | e
   ·exact ⟨.inl e.1,e.2⟩
   ·exact ⟨.inr ⟨e,hk⟩,by omega⟩
 refine Zag pw fun w2 hp f2 s2=>hk w2 ?_ ?_
 ·have e:Gw F w w2=Gw F w w':=by unfold Gw; rw [s2]
  rw [e]
  exact hp
 ·exact (f.sub fun k e=>e.1).exS f2 fun k e=>by
   rcases e with e | e
   ·exact .inl e
   ·exact .inr e.1
theorem PW.fr (h:PW bw b s F w) {S:Nat→Prop} {w':World} (f:Fr S w w') (hS:∀ k,F k→¬ S k):PW bw b s F w':=by
 obtain ⟨h1,h2,h3,h4⟩:=h
 have:=f.size
 exact ⟨h1,fun k e=>by have:=h2 k e; omega,h3.fr f (hS bw h1),Wr.st.fr h4 f fun k e=>hS k e.1⟩
theorem PW.mono (h:PW bw b s F w) {F':Nat→Prop} (hs:∀ k,k < w.heap.size→F k→F' k) (hb:∀ k,F' k→k < w.heap.size):PW bw b s F' w:=by
 obtain ⟨h1,h2,h3,h4⟩:=h
 exact ⟨hs bw h3.lt h1,hb,h3,Wr.st.mono h4 fun k hk e=>⟨hs k hk e.1,e.2⟩⟩
theorem PW.ptr (h:PW bw b s F w) {K:Option Addr→W R} (hk:K (some ⟨b,0,none⟩) Q w):ld (.sc .ptr) (Addr.add ⟨bw,0,none⟩ 0) K Q w:=fldI h.2.2.1 (i:=0) (x:=some ⟨b,0,none⟩) rfl hk
theorem PW.err (h:PW bw b s F w) {K:Int→W R} (hk:K s.2 Q w):ld (.sc (.int .i64)) (Addr.add ⟨bw,0,none⟩ 1) K Q w:=fldI h.2.2.1 (i:=1) (x:=s.2) rfl hk
theorem PW.two {w1 w2 w3:World} {s':WS} {G:Nat→Prop} (hG:∀ k,G k→Gw F w w1 k) (h:PW bw b s' (Gw G w2 w3) w3) (h1:w.heap.size≤w1.heap.size) (h2:w1.heap.size≤w2.heap.size) (h3:w2.heap.size≤w3.heap.size) (hF:∀ k,F k→k < w.heap.size):PW bw b s' (Gw F w w3) w3 :=
 h.mono (fun k hk e=>by
  rcases e with e | e
  ·rcases hG k e with e | e
   ·exact .inl e
   ·exact .inr (by omega)
  ·exact .inr (by omega)) fun k e=>by
  rcases e with e | e
  ·have:=hF k e; omega
  ·exact e.2
def plainM (s:WS) (v n:Int):WS:=doM s (putB s.1 v n)
def varM (s:WS) (v:Nat):WS:=doM s (putVarM s.1 v)
theorem Z9j (h:PW bw b s F w) {v n:Int} (hv:0≤v∧v≤18446744073709551615) (hn:-9223372036854775808≤n∧n≤9223372036854775807) {K:Res []→W R} (hk:∀ w',PW bw b (plainM s v n) (Gw F w w') w'→Fr F w w'→K () Q w') :
  callW Tryz.prog Zi [.pointer (some ⟨bw,0,none⟩),.int .u64 v,.int .i64 n] [] K Q w:=by
 refine Zgf _ _ _ K Q w ?_
 unfold Z5d
 obtain ⟨hw,hF,hk2⟩:=h.put
 exact ptrI (h.ptr (Zbc hw hv hn fun w1 hw1 f1=>hk2 (putB s.1 v n) w1 hw1 f1 hk))
theorem Zes (h:PW bw b s F w) {n:Nat} (hn:(n:Int)≤18446744073709551615) {K:Res []→W R} (hk:∀ w',PW bw b (varM s n) (Gw F w w') w'→Fr F w w'→K () Q w') :
  callW Tryz.prog Z1c [.pointer (some ⟨bw,0,none⟩),.int .i64 (n:Int)] [] K Q w:=by
 refine Zgd _ _ K Q w ?_
 unfold Z5b
 obtain ⟨hw,hF,hk2⟩:=h.put
 refine ptrI (h.ptr ?_)
 rw [wU64 (x:=(n:Int)) (by omega)]
 refine Zaf hw (by omega) fun w1 hw1 f1=>?_
 rw [Int.toNat_natCast] at hw1 ⊢
 exact hk2 (putVarM s.1 n) w1 hw1 f1 hk
def idD (last id:Int):Nat:=((id - last - 1) % 4294967296).toNat
theorem Zk1 (h:PW bw b s F w) {bl:Nat} {T:TypeId} {last id:Int} (B:Blk w bl T [.int .u32 last]) (hbl:¬ F bl) {K:Res []→W R}
  (hk:∀ w',PW bw b (varM s (idD last id)) (Gw F w w') w'→Blk w' bl T [.int .u32 id]→Fr (fun k=>F k∨k=bl) w w'→K () Q w') :
  callW Tryz.prog Z27 [.pointer (some ⟨bw,0,none⟩),.pointer (some ⟨bl,0,none⟩),.int .u32 id] [] K Q w:=by
 refine Zmw _ _ _ K Q w ?_
 unfold Z84
 have fd:Fr None w w.drew:=(Fr.refl _ _).drew
 have hd:PW bw b s F w.drew:=h.fr0 fd
 have hlt:=B.lt
 obtain ⟨hw,hF,hk2⟩:=hd.put
 refine ptrI (hd.ptr (ptrI (fld0 (B.fr fd fun h=>h) (i:=0) (x:=last) rfl ?_)))
 have e:IntKind.wrap .u64 (IntKind.wrap .u32 (IntKind.wrap .u32 (id - last) - 1))=((idD last id:Nat):Int):=by
  have a:∀ x:Int,IntKind.wrap .u32 x=x % 4294967296:=fun x=>by rw [IntKind.wrap_u32]
  rw [a,a,wU64 (by omega)]
  unfold idD
  omega
 rw [e]
 have hv:idD last id < 4294967296:=by unfold idD; omega
 refine Zaf hw (v:=(idD last id:Int)) (by omega) fun w1 hw1 f1=>?_
 rw [Int.toNat_natCast] at hw1 ⊢
 refine hk2 (putVarM s.1 (idD last id)) w1 hw1 f1 fun w2 hp f2=>ptrI ?_
 have B2:=(B.fr fd fun h=>h).fr f2 hbl
 refine setI (i:=0) B2 (by simp) rfl fun w3 B3 f3 s3=>?_
 refine hk w3 ?_ B3 ((fd.any.then (f2.sub fun k e=>.inl e)).then (f3.sub fun k e=>.inr e))
 have h3:=PW.fr hp f3 fun k e e2=>by
  subst e2
  rcases e with e | e
  ·exact hbl e
  ·have:k < w.drew.heap.size:=hlt
   omega
 refine h3.mono (fun k _ e=>e.imp (fun h=>h) fun e=>?_) fun k e=>?_
 ·have:w.drew.heap.size=w.heap.size:=rfl
  omega
 ·rcases e with e | e
  ·have:=h.2.1 k e; have:=f2.size; have:w.drew.heap.size=w.heap.size:=rfl; omega
  ·exact e.2
def compsM (s:WS) (l:List Comp):WS:=l.foldl (fun s c=>doM s (putC s.1 c)) s
theorem Zer (h:PW bw b s F w) {ok:Nat→Prop} {r:Sl} {l:List Comp} (hS:SlT ok w compT r l) (hd:∀ k,k < w.heap.size→ok k→¬ F k) (hc:∀ c∈l,CompOk c) (hm:l.length≤9223372036854775807) {K:Res []→W R} (hk:∀ w',PW bw b (compsM s l) (Gw F w w') w'→Fr F w w'→K () Q w') :
  callW Tryz.prog Z25 [.pointer (some ⟨bw,0,none⟩),.slice r.a r.n r.c] [] K Q w:=by
 refine Zgc _ r K Q w ?_
 unfold Z5a
 have hlen:=hS.len
 have hFb:=h.2.1
 have hS0:SlT (fun k=>ok k∧k < w.heap.size) w compT r l:=hS.mono fun k hk e=>⟨e,hk⟩
 refine forI (N:=r.n) (fun s:Int=>s) (fun j i w'=>i=(j:Int)∧PW bw b (compsM s (l.take j)) (Gw F w w') w'∧Fr F w w') ⟨rfl,h.mono (fun k _ e=>.inl e) fun k e=>by
  rcases e with e | e
  ·exact hFb k e
  ·omega,Fr.refl _ _⟩ (fun j s w' h=>h.1) ?_ ?_
 ·rintro j i w1 K' hj ⟨rfl,h1,f1⟩ - hK
  have hs1:=f1.size
  refine (hS0.fr f1 fun k e e2=>hd k e.2 e.1 e2).get rfl rfl (by omega) fun c hcj=>?_
  refine newI fun w2 B2 f2 s2=>stoAll B2 rfl rfl fun w3 B3 f3 s3=>?_
  have f13:Fr None w1 w3:=f2.newer f3 fun k e=>by omega
  have fd:Fr None w3 w3.drew:=(Fr.refl _ _).drew
  have f1d:=f13.then0 fd
  have hs3:=f1d.size
  have h3:=h1.fr0 f1d
  obtain ⟨hw,hF,hk2⟩:=h3.put
  refine ptrI (h3.ptr (aggI (B3.fr fd fun h=>h) (x:=c) rfl ?_))
  refine Zx7 hw (hc c (List.mem_of_getElem? hcj)) hF fun w4 hw4 f4=>hk2 (putC (compsM s (l.take j)).1 c) w4 hw4 f4 fun w5 hp f5=>?_
  have hs5:=f5.size
  have e:compsM s (l.take (j+1))=doM (compsM s (l.take j)) (putC (compsM s (l.take j)).1 c):=by unfold compsM; rw [Z8 hcj,List.foldl_append]; rfl
  refine hK _ _ ⟨wsucc hj (by omega),?_,?_⟩
  ·rw [e]
   exact PW.two (fun k e=>e) hp hs1 hs3 hs5 hFb
  ·exact (f1.then0 f1d).exS f5 fun k e=>e.imp id fun e=>e.1
 ·rintro i w1 ⟨rfl,h1,f1⟩
  rw [List.take_of_length_le (by omega)] at h1
  exact hk w1 h1 f1
end
end Go.Proofs.YtchhhjlpnecjkaaGreat
namespace Go.Proofs.YtchhhjlpnecjkaaGreat
open Go Go.RowKit Go.Proofs.YtchhhjlpnecjkaaGreat.Den
variable {R:Type} {Q:R→World→Prop} {w:World}
variable {bw b:Nat} {s:WS} {F:Nat→Prop}
abbrev Head:=Int × Int × Int × Int × Int
def HeadOk (h:Head):Prop:=(0≤h.1∧h.1≤255)∧(0≤h.2.1∧h.2.1≤255)∧(0≤h.2.2.1∧h.2.2.1≤4294967295)∧(0≤h.2.2.2.1∧h.2.2.2.1≤4294967295)∧(0≤h.2.2.2.2∧h.2.2.2.2≤4294967295)
def inM (s:WS) (n lo hi:Int):WS:=doM s (putInM s.1 n lo hi)
def headM (s:WS) (h:Head):WS :=
 let s3:=varM (inM (inM s h.1 1 5) h.2.1 0 15) h.2.2.1.toNat
 let s4:=if h.1≤3 then plainM s3 h.2.2.2.1 32 else s3
 if h.1=2 then varM s4 (idD h.2.2.2.2 h.2.2.2.1) else s4
theorem PW.self (h:PW bw b s F w):PW bw b s (Gw F w w) w:=h.mono (fun k _ e=>.inl e) fun k e=>by
 rcases e with e | e
 ·exact h.2.1 k e
 ·omega
theorem pw_in {w0:World} (h:PW bw b s (Gw F w0 w) w) (h0:w0.heap.size≤w.heap.size) (hF:∀ k,F k→k < w0.heap.size) (f0:Fr F w0 w) {n lo hi:Int} (h1:-9223372036854775808≤lo∧lo≤9223372036854775807) (h2:-9223372036854775808≤hi∧hi≤9223372036854775807) {K:Unit→W R}
  (hk:∀ w',PW bw b (inM s n lo hi) (Gw F w0 w') w'→Fr F w0 w'→Fr (Gw F w0 w) w w'→K () Q w') :
  callW Tryz.prog Za9 [.pointer (some ⟨b,0,none⟩),.int .i64 n,.int .i64 lo,.int .i64 hi] [.sc (.int .i64)] (fun x=>callW Tryz.prog Z1 [.pointer (some ⟨bw,0,none⟩),.int .i64 x] [] K) Q w:=by
 obtain ⟨hw,_,hk2⟩:=h.put
 refine Zte hw h1 h2 fun w1 hw1 f1=>hk2 (putInM s.1 n lo hi) w1 hw1 f1 fun w2 hp f2=>?_
 have hs:=f2.size
 exact hk w2 (PW.two (fun k e=>e) hp h0 (Nat.le_refl _) hs hF) (f0.exS f2 fun k e=>e.imp (fun h=>h) fun e=>e.1) f2
theorem Z17v {w0:World} (h:PW bw b s (Gw F w0 w) w) (h0:w0.heap.size≤w.heap.size) (hF:∀ k,F k→k < w0.heap.size) (f0:Fr F w0 w) {v:Nat} (hv:v < 18446744073709551616) {K:Unit→W R}
  (hk:∀ w',PW bw b (varM s v) (Gw F w0 w') w'→Fr F w0 w'→Fr (Gw F w0 w) w w'→K () Q w') :
  callW Tryz.prog Z3y [.pointer (some ⟨b,0,none⟩),.int .u64 (v:Int)] [.sc (.int .i64)] (fun x=>callW Tryz.prog Z1 [.pointer (some ⟨bw,0,none⟩),.int .i64 x] [] K) Q w:=by
 obtain ⟨hw,_,hk2⟩:=h.put
 refine Zaf hw (v:=(v:Int)) (by omega) fun w1 hw1 f1=>?_
 rw [Int.toNat_natCast] at hw1 ⊢
 refine hk2 (putVarM s.1 v) w1 hw1 f1 fun w2 hp f2=>?_
 have hs:=f2.size
 exact hk w2 (PW.two (fun k e=>e) hp h0 (Nat.le_refl _) hs hF) (f0.exS f2 fun k e=>e.imp (fun h=>h) fun e=>e.1) f2
theorem Z173 {w0:World} (h:PW bw b s (Gw F w0 w) w) (h0:w0.heap.size≤w.heap.size) (hF:∀ k,F k→k < w0.heap.size) (f0:Fr F w0 w) {v n:Int} (hv:0≤v∧v≤18446744073709551615) (hn:-9223372036854775808≤n∧n≤9223372036854775807) {K:Res []→W R}
  (hk:∀ w',PW bw b (plainM s v n) (Gw F w0 w') w'→Fr F w0 w'→Fr (Gw F w0 w) w w'→K () Q w') :
  callW Tryz.prog Zi [.pointer (some ⟨bw,0,none⟩),.int .u64 v,.int .i64 n] [] K Q w :=
 Z9j h hv hn fun w2 hp f2=>by
  have hs:=f2.size
  exact hk w2 (PW.two (fun k e=>e) hp h0 (Nat.le_refl _) hs hF) (f0.exS f2 fun k e=>e.imp (fun h=>h) fun e=>e.1) f2
theorem PW.draw {w0:World} (h:PW bw b s (Gw F w0 w) w):PW bw b s (Gw F w0 w.drew) w.drew:=h.fr0 ((Fr.refl _ _).drew)
theorem Zrd (h:PW bw b s F w) {hd:Head} (hok:HeadOk hd) {K:Res []→W R} (hk:∀ w',PW bw b (headM s hd) (Gw F w w') w'→Fr F w w'→K () Q w') :
  callW Tryz.prog Z3c [.pointer (some ⟨bw,0,none⟩),.agg ⟨[.int .u8 hd.1,.int .u8 hd.2.1,.int .u32 hd.2.2.1,.int .u32 hd.2.2.2.1,.int .u32 hd.2.2.2.2]⟩] [] K Q w:=by
 refine Zik _ hd K Q w ?_
 unfold Z61
 obtain ⟨⟨k0,k1⟩,⟨c0,c1⟩,⟨e0,e1⟩,⟨t0,t1⟩,⟨b0,b1⟩⟩:=hok
 have hF:=h.2.1
 refine newI fun w1 B1 f1 s1=>?_
 have hs1:=f1.size
 have hF1:∀ k,F k→k < w1.heap.size:=fun k e=>by have:=hF k e; omega
 have nb:∀ v:World,¬ Gw F w1 v w.heap.size:=fun v e=>by
  rcases e with e | e
  ·have:=hF _ e; omega
  ·omega
 have dr:∀ v:World,Fr None v v.drew:=fun v=>(Fr.refl _ _).drew
 have fin:∀ {s':WS} {v:World},PW bw b s' (Gw F w1 v) v→PW bw b s' (Gw F w v) v:=fun hp=>hp.mono (fun k _ e=>e.imp (fun h=>h) fun e=>by omega) fun k e=>by
  rcases e with e | e
  ·exact hp.2.1 k (.inl e)
  ·exact e.2
 have q1:=((h.fr0 f1).self).draw
 have B1:=B1.fr (dr w1) fun h=>h
 refine ptrI (q1.ptr (fldI B1 (i:=0) (x:=hd.1) rfl ?_))
 rw [w64 (x:=hd.1) (by omega)]
 refine pw_in q1 (Nat.le_refl _) hF1 ((Fr.refl _ _).drew) (by decide) (by decide) fun w2 p2 f2 g2=>?_
 have B2:=(B1.fr g2 (nb _)).fr (dr w2) fun h=>h
 have q2:=p2.draw
 refine ptrI (q2.ptr (fldI B2 (i:=1) (x:=hd.2.1) rfl ?_))
 rw [w64 (x:=hd.2.1) (by omega)]
 refine pw_in q2 f2.size hF1 (f2.then0 (dr w2)) (by decide) (by decide) fun w3 p3 f3 g3=>?_
 have B3:=(B2.fr g3 (nb _)).fr (dr w3) fun h=>h
 have q3:=p3.draw
 refine ptrI (q3.ptr (fldI B3 (i:=2) (x:=hd.2.2.1) rfl ?_))
 have ee:IntKind.wrap .u64 hd.2.2.1=((hd.2.2.1.toNat:Nat):Int):=by rw [wU64 (by omega)]; omega
 rw [ee]
 refine Z17v q3 f3.size hF1 (f3.then0 (dr w3)) (by omega) fun w4 p4 f4 g4=>?_
 have B4:=B3.fr g4 (nb _)
 refine fldI B4 (i:=0) (x:=hd.1) rfl ?_
 refine joinI (fun (_:Unit) w'=>PW bw b (if hd.1≤3 then plainM (varM (inM (inM s hd.1 1 5) hd.2.1 0 15) hd.2.2.1.toNat) hd.2.2.2.1 32 else varM (inM (inM s hd.1 1 5) hd.2.1 0 15) hd.2.2.1.toNat) (Gw F w1 w') w'∧Fr F w1 w'∧Blk w' w.heap.size 30 [.int .u8 hd.1,.int .u8 hd.2.1,.int .u32 hd.2.2.1,.int .u32 hd.2.2.2.1,.int .u32 hd.2.2.2.2]) ?_ ?_
 ·refine condD (fun h3=>?_) fun h3=>?_
  ·rw [if_pos h3]
   refine fldI B4 (i:=3) (x:=hd.2.2.2.1) rfl ?_
   rw [wU64 (x:=hd.2.2.2.1) (by omega)]
   exact Z173 p4 f4.size hF1 f4 (by omega) (by decide) fun w5 p5 f5 g5=>⟨p5,f5,B4.fr g5 (nb _)⟩
  ·rw [if_neg h3]
   exact ⟨p4,f4,B4⟩
 ·rintro _ w5 ⟨p5,f5,B5⟩
  refine fldI B5 (i:=0) (x:=hd.1) rfl ?_
  refine joinI (fun (_:Unit) w'=>PW bw b (headM s hd) (Gw F w1 w') w'∧Fr F w1 w') ?_ fun _ w6 ⟨p6,f6⟩=>hk w6 (fin p6) (f1.any.exS f6 fun k e=>.inl e)
  unfold headM
  dsimp only
  refine condE (fun h2=>?_) fun h2=>?_
  ·rw [if_pos h2]
   have q5:=p5.draw
   have B5:=B5.fr (dr w5) fun h=>h
   refine ptrI (q5.ptr (fldI B5 (i:=3) (x:=hd.2.2.2.1) rfl (fldI B5 (i:=4) (x:=hd.2.2.2.2) rfl ?_)))
   have e:IntKind.wrap .u64 (IntKind.wrap .u32 (IntKind.wrap .u32 (hd.2.2.2.1 - hd.2.2.2.2) - 1))=((idD hd.2.2.2.2 hd.2.2.2.1:Nat):Int):=by
    have a:∀ x:Int,IntKind.wrap .u32 x=x % 4294967296:=fun x=>by rw [IntKind.wrap_u32]
    rw [a,a,wU64 (by omega)]
    unfold idD
    omega
   rw [e]
   exact Z17v q5 f5.size hF1 (f5.then0 (dr w5)) (by unfold idD; omega) fun w6 p6 f6 _=>⟨p6,f6⟩
  ·rw [if_neg h2]
   exact ⟨p5,f5⟩
end Go.Proofs.YtchhhjlpnecjkaaGreat
namespace Go.Proofs.YtchhhjlpnecjkaaGreat
open Go Go.RowKit Go.Proofs.YtchhhjlpnecjkaaGreat.Den
variable {R:Type} {Q:R→World→Prop} {w:World}
variable {bw b:Nat} {s:WS} {F:Nat→Prop}
def entM (p:WS × Int) (e:Ent):WS × Int:=(compsM (plainM (varM p.1 (idD p.2 e.1)) (maskN e.2) 5) e.2,e.1)
def entsW (s:WS) (l:List Ent):WS:=(l.foldl entM (varM s l.length,0)).1
def EntFit (e:Ent):Prop:=(0≤e.1∧e.1≤4294967295)∧e.2.length≤1048576∧∀ c∈e.2,CompOk c
theorem Zrc (h:PW bw b s F w) {ok:Nat→Prop} {r:Sl} {raws:List (Int × Sl)} {L:List Ent} (hS:SlT ok w entT r raws) (hE:EntsR ok w raws L) (hd:∀ k,k < w.heap.size→ok k→¬ F k) (hL:∀ e∈L,EntFit e) (hm:L.length≤1048576) {K:Res []→W R} (hk:∀ w',PW bw b (entsW s L) (Gw F w w') w'→Fr F w w'→K () Q w') :
  callW Tryz.prog Z2a [.pointer (some ⟨bw,0,none⟩),.slice r.a r.n r.c] [] K Q w:=by
 refine Zij _ r K Q w ?_
 unfold Z60
 have hF:=h.2.1
 have hrn:r.n=L.length:=hS.len.trans hE.len
 have hS0:SlT (fun k=>ok k∧k < w.heap.size) w entT r raws:=hS.mono fun k hk e=>⟨e,hk⟩
 have hE0:EntsR (fun k=>ok k∧k < w.heap.size) w raws L:=hE.mono fun k hk e=>⟨e,hk⟩
 refine Zes h (by omega) fun w1 p1 f1=>?_
 rw [hrn] at p1
 have hs1:=f1.size
 refine newI fun w2 B2 f2 s2=>stoAll B2 rfl rfl fun w3 B3 f3 s3=>?_
 have f13:Fr None w1 w3:=f2.newer f3 fun k e=>by omega
 have hs3:=f13.size
 have p3:PW bw b (varM s L.length) (Gw F w w1) w3:=p1.fr0 f13
 have two:∀ {v:World} {s':WS},w3.heap.size≤v.heap.size→PW bw b s' (Gw (Gw F w w1) w3 v) v→PW bw b s' (Gw F w v) v:=fun hv hp=>hp.mono (fun k _ e=>by
  rcases e with (e | e) | e
  ·exact .inl e
  ·exact .inr (by omega)
  ·exact .inr (by omega)) fun k e=>by
  rcases e with e | e
  ·have:=hF k e; omega
  ·exact e.2
 have nbl:∀ v:World,¬ Gw (Gw F w w1) w3 v w1.heap.size:=fun v e=>by
  rcases e with (e | e) | e
  ·have:=hF _ e; omega
  ·omega
  ·omega
 have b1:∀ k,Gw F w w1 k→k < w3.heap.size:=fun k e=>by
  rcases e with e | e
  ·have:=hF k e; omega
  ·omega
 refine forI (N:=r.n) (fun s:Int=>s) (fun j i v=>i=(j:Int)∧PW bw b ((L.take j).foldl entM (varM s L.length,0)).1 (Gw (Gw F w w1) w3 v) v∧Blk v w1.heap.size 54 [.int .u32 ((L.take j).foldl entM (varM s L.length,0)).2]∧Fr (fun k=>F k∨w.heap.size≤k) w v∧w3.heap.size≤v.heap.size)
  ⟨rfl,p3.self,B3,(f1.sub fun k e=>.inl e).then0 f13,Nat.le_refl _⟩ (fun j s w' h=>h.1) ?_ ?_
 ·rintro j i v K' hj ⟨rfl,hp,Bl,fv,hsv⟩ - hK
  obtain ⟨e,he⟩:∃ e,L[j]?=some e:=⟨_,List.getElem?_eq_getElem (by omega)⟩
  have hfit:=hL e (List.mem_of_getElem? he)
  obtain ⟨r1,hr1,ha1,ha2⟩:=hE0.get he
  have hno:∀ k,ok k∧k < w.heap.size→¬ (F k∨w.heap.size≤k):=fun k e e2=>by
   rcases e2 with e2 | e2
   ·exact hd k e.2 e.1 e2
   ·omega
  have efold:(L.take (j+1)).foldl entM (varM s L.length,0)=entM ((L.take j).foldl entM (varM s L.length,0)) e:=by rw [Z8 he,List.foldl_append]; rfl
  generalize (L.take j).foldl entM (varM s L.length,0)=p at hp Bl efold
  refine (hS0.fr fv hno).get (j:=j) rfl rfl (by have:=hE.len; omega) fun y hy=>?_
  rw [hr1] at hy
  cases hy
  refine newI fun v1 C1 g1 t1=>stoAll C1 rfl rfl fun v2 C2 g2 t2=>?_
  have gv2:Fr None v v2:=g1.newer g2 fun k e=>by omega
  have hsv2:=gv2.size
  obtain ⟨F',hF'⟩:∃ F',F'=Gw (Gw F w w1) w3 v:=⟨_,rfl⟩
  have hp2:PW bw b p.1 F' v2:=by rw [hF']; exact hp.fr0 gv2
  have bF':∀ k,F' k→k < v.heap.size:=fun k e=>by rw [hF'] at e; exact hp.2.1 k e
  have nb':¬ F' w1.heap.size:=by rw [hF']; exact nbl v
  have exF:∀ k,F' k→F k∨w.heap.size≤k:=fun k e=>by
   rw [hF'] at e
   rcases e with (e | e) | e
   ·exact .inl e
   ·exact .inr e.1
   ·exact .inr (by omega)
  have fv2:Fr (fun k=>F k∨w.heap.size≤k) w v2:=fv.then0 gv2
  refine fldI C2 (i:=0) (x:=r1.1) rfl ?_
  rw [ha1]
  refine Zk1 hp2 (Bl.fr gv2 fun h=>h) nb' fun v3 p4 Bl3 f4=>?_
  have hs4:=f4.size
  have C3:=C2.fr f4 fun e=>by
   rcases e with e | e
   ·have:=bF' _ e; omega
   ·have:=Bl.lt; omega
  have fv3:Fr (fun k=>F k∨w.heap.size≤k) w v3:=fv2.then (f4.sub fun k e=>by
   rcases e with e | e
   ·exact exF k e
   ·exact .inr (by omega))
  refine fldI C3 (i:=1) (x:=r1.2) rfl ?_
  refine Z18 (ha2.fr fv3 hno) hfit.2.1 hfit.2.2 fun v4 f5=>?_
  have hs5:=f5.size
  have fv4:=fv3.then0 f5
  have hmk:=Z9t e.2
  rw [wU64 (x:=((maskN e.2:Nat):Int)) (by omega)]
  refine Z9j (p4.fr0 f5) (v:=((maskN e.2:Nat):Int)) (n:=5) (by omega) (by decide) fun v5 p6 f6=>?_
  have hs6:=f6.size
  have p6:PW bw b (plainM (varM p.1 (idD p.2 e.1)) (maskN e.2) 5) (Gw F' v2 v5) v5:=PW.two (fun k e=>e) p6 hs4 hs5 hs6 fun k e=>by have:=bF' k e; omega
  have C5:=(C3.fr f5 fun h=>h).fr f6 fun e=>by
   rcases e with e | e
   ·have:=bF' _ e; omega
   ·omega
  have Bl5:=(Bl3.fr f5 fun h=>h).fr f6 fun e=>by
   rcases e with e | e
   ·exact nb' e
   ·have:=Bl.lt; omega
  have ex2:∀ {x y:World} k,w.heap.size≤x.heap.size→Gw F' x y k→F k∨w.heap.size≤k:=fun k hx e=>by
   rcases e with e | e
   ·exact exF k e
   ·exact .inr (by omega)
  have fv5:Fr (fun k=>F k∨w.heap.size≤k) w v5:=fv4.then (f6.sub fun k e=>ex2 k (by omega) e)
  refine fldI C5 (i:=1) (x:=r1.2) rfl ?_
  refine Zer p6 (ha2.fr fv5 hno) (fun k hk e e2=>hno k e (ex2 k (by omega) e2)) hfit.2.2 (by have:=hfit.2.1; omega) fun v6 p7 f7=>?_
  have hs7:=f7.size
  have p7:PW bw b (entM p e).1 (Gw F' v2 v6) v6:=PW.two (fun k e=>e) p7 (by omega) (Nat.le_refl _) hs7 fun k e=>by have:=bF' k e; omega
  have Bl6:=Bl5.fr f7 fun e=>by
   rcases e with e | e
   ·exact nb' e
   ·have:=Bl.lt; omega
  refine hK _ _ ⟨wsucc hj (by omega),?_,?_,fv5.then (f7.sub fun k e=>ex2 k (by omega) e),by omega⟩
  ·rw [efold]
   refine p7.mono (fun k _ e=>?_) fun k e=>?_
   ·rcases e with e | e
    ·rw [hF'] at e
     exact e.imp (fun h=>h) fun e=>by omega
    ·exact .inr (by omega)
   ·rcases e with e | e
    ·have:=b1 k e; omega
    ·exact e.2
  ·rw [efold]
   exact Bl6
 ·rintro i v ⟨_,hp,_,fv,hsv⟩
  rw [List.take_of_length_le (by omega)] at hp
  refine hk v (two hsv hp) ?_
  exact (Fr.refl F w).exS fv fun k e=>e
end Go.Proofs.YtchhhjlpnecjkaaGreat
