/-
  What the proof of rows:R15e,R15t,R15q,R15r leans on, laid together by a program of this session (wip/pack.py) out of its own texts; the last of these texts holds rows:R15e,R15t,R15q,R15r.
-/
import Derived.Test.YtoiahhpgkoknfaaGreatW4
set_option linter.unusedVariables false
set_option linter.unusedSimpArgs false
set_option linter.unusedVariables false
namespace Go.Proofs.YtoiahhpgkoknfaaGreat
open Go Go.Proofs.YtoiahhpgkoknfaaGreat.Den
set_option maxRecDepth 100000 in
theorem Z1p {R:Type} (d0:Sl) (o1:Int) (p2:Int) (K:Res [.sc .bool]→W R) (Q:R→World→Prop) (w:World) (h:Zb d0 o1 p2 (fun r w=>K r Q w) w):callW Tryz.prog Zk [.slice d0.a d0.n d0.c,.int .i64 o1,.int .i64 p2,.func (.func 135) #[] #[]] [.sc .bool] K Q w:=den_c (K:=K) mix Tryz.func238 { reg:=[(5,[(36,.sc .bool)])],con:=[(14065,[]),(20104,[])],blk:=[(4,[]),(6,[])],lop:=[(0,[(9,.sc (.int .i64)),(10,.sc (.int .i64))]),(2,[(9,.sc (.int .i64))]),(4,[(11,.sc (.int .i64))]),(6,[(12,.sc (.int .i64))])],dr:=[(5,([],[[(0,[]),(1,[]),(2,[]),(3,[]),(4,[]),(5,[]),(6,[]),(7,[]),(8,[]),(9,[]),(10,[]),(11,[]),(12,[]),(13,[]),(14,[]),(15,[]),(16,[]),(17,[])]])),(11,([],[[(0,[]),(1,[]),(2,[]),(3,[]),(4,[]),(5,[]),(6,[]),(7,[]),(8,[]),(9,[]),(10,[]),(11,[]),(12,[]),(13,[]),(14,[]),(15,[]),(16,[]),(17,[])]])),(16,([],[[(0,[]),(1,[]),(2,[]),(3,[]),(4,[]),(5,[]),(6,[]),(7,[]),(8,[]),(9,[]),(10,[]),(11,[]),(12,[])]])),(17,([],[[(0,[]),(1,[]),(2,[]),(3,[]),(4,[]),(5,[]),(6,[]),(7,[]),(8,[]),(9,[]),(10,[]),(11,[]),(12,[]),(13,[]),(14,[]),(15,[]),(16,[]),(17,[])]])),(22,([],[[(0,[]),(1,[]),(2,[]),(3,[]),(4,[]),(5,[]),(6,[]),(7,[]),(8,[]),(9,[]),(10,[]),(11,[]),(12,[])]])),(23,([],[[(0,[]),(1,[]),(2,[]),(3,[]),(4,[]),(5,[]),(6,[]),(7,[]),(8,[]),(9,[]),(10,[]),(11,[]),(12,[]),(13,[]),(14,[]),(15,[]),(16,[]),(17,[])]]))] } trivial rfl (by kernel_rfl) h
def Zf (d0:Sl) (o1:Int) (p2:Int) (p3:Int):W (Int) :=
 drawW <|
 idxW d0.a d0.n 4 p3 fun x_1 =>
 ld (.agg [.int .u32,.bool,.int .i32,.int .i32]) x_1 fun (x_2:(Int × Bool × Int × Int)) =>
 idxW d0.a d0.n 4 o1 fun x_3 =>
 ld (.agg [.int .u32,.bool,.int .i32,.int .i32]) x_3 fun (x_4:(Int × Bool × Int × Int)) =>
 idxW d0.a d0.n 4 o1 fun x_5 =>
 stoL x_5 [.int .u32 x_2.1,.bool x_2.2.1,.int .i32 x_2.2.2.1,.int .i32 x_2.2.2.2] 0 <|
 idxW d0.a d0.n 4 p3 fun x_6 =>
 stoL x_6 [.int .u32 x_4.1,.bool x_4.2.1,.int .i32 x_4.2.2.1,.int .i32 x_4.2.2.2] 0 <|
 loopW (σ:=Int × Int) (fun K_7 s_8 =>
  loopW (σ:=Int) (fun K_9 s_10 =>
   joinW (σ:=Bool) (fun J_11 =>
    drawW <|
    cond (decide (s_10≤s_8.2))
     (idxW d0.a d0.n 4 o1 fun x_12 =>
        ld (.agg [.int .u32,.bool,.int .i32,.int .i32]) x_12 fun (x_13:(Int × Bool × Int × Int)) =>
         idxW d0.a d0.n 4 s_10 fun x_14 =>
            ld (.agg [.int .u32,.bool,.int .i32,.int .i32]) x_14 fun (x_15:(Int × Bool × Int × Int)) =>
             callW Tryz.prog Z1 [.agg ⟨[.int .u32 x_13.1,.bool x_13.2.1,.int .i32 x_13.2.2.1,.int .i32 x_13.2.2.2]⟩,.agg ⟨[.int .u32 x_15.1,.bool x_15.2.1,.int .i32 x_15.2.2.1,.int .i32 x_15.2.2.2]⟩] [.sc (.int .i64)] fun (x_16:Int) =>
              J_11 (!(decide (x_16 < 0))))
     (J_11 false))
   <| fun s_17 =>
   cond s_17
    (K_9 (IntKind.wrap .i64 (s_10+1)))
    (loopW (σ:=Int) (fun K_18 s_19 =>
   joinW (σ:=Bool) (fun J_20 =>
    drawW <|
    cond (decide (s_10≤s_19))
     (idxW d0.a d0.n 4 o1 fun x_21 =>
        ld (.agg [.int .u32,.bool,.int .i32,.int .i32]) x_21 fun (x_22:(Int × Bool × Int × Int)) =>
         idxW d0.a d0.n 4 s_19 fun x_23 =>
            ld (.agg [.int .u32,.bool,.int .i32,.int .i32]) x_23 fun (x_24:(Int × Bool × Int × Int)) =>
             callW Tryz.prog Z1 [.agg ⟨[.int .u32 x_22.1,.bool x_22.2.1,.int .i32 x_22.2.2.1,.int .i32 x_22.2.2.2]⟩,.agg ⟨[.int .u32 x_24.1,.bool x_24.2.1,.int .i32 x_24.2.2.1,.int .i32 x_24.2.2.2]⟩] [.sc (.int .i64)] fun (x_25:Int) =>
              J_20 (decide (x_25 < 0)))
     (J_20 false))
   <| fun s_26 =>
   cond s_26
    (K_18 (IntKind.wrap .i64 (s_19 - 1)))
    (cond (decide (s_10 > s_19))
   (retW s_10)
   (drawW <|
  idxW d0.a d0.n 4 s_19 fun x_27 =>
  ld (.agg [.int .u32,.bool,.int .i32,.int .i32]) x_27 fun (x_28:(Int × Bool × Int × Int)) =>
  idxW d0.a d0.n 4 s_10 fun x_29 =>
  ld (.agg [.int .u32,.bool,.int .i32,.int .i32]) x_29 fun (x_30:(Int × Bool × Int × Int)) =>
  idxW d0.a d0.n 4 s_10 fun x_31 =>
  stoL x_31 [.int .u32 x_28.1,.bool x_28.2.1,.int .i32 x_28.2.2.1,.int .i32 x_28.2.2.2] 0 <|
  idxW d0.a d0.n 4 s_19 fun x_32 =>
  stoL x_32 [.int .u32 x_30.1,.bool x_30.2.1,.int .i32 x_30.2.2.1,.int .i32 x_30.2.2.2] 0 <|
  K_7 (IntKind.wrap .i64 (s_10+1),IntKind.wrap .i64 (s_19 - 1)))))
   s_8.2))
   s_8.1)
  (IntKind.wrap .i64 (o1+1),IntKind.wrap .i64 (p2 - 1))
theorem Z27 {R:Type} (d0:Sl) (o1:Int) (p2:Int) (p3:Int) (K:Res [.sc (.int .i64)]→W R) (Q:R→World→Prop) (w:World) (h:Zf d0 o1 p2 p3 (fun r w=>K r Q w) w):callW Tryz.prog Z19 [.slice d0.a d0.n d0.c,.int .i64 o1,.int .i64 p2,.int .i64 p3,.func (.func 135) #[] #[]] [.sc (.int .i64)] K Q w:=den_c (K:=K) mix Tryz.func239 { reg:=[(3,[(47,.sc .bool)]),(5,[(65,.sc .bool)])],lop:=[(0,[(11,.sc (.int .i64)),(12,.sc (.int .i64))]),(2,[(11,.sc (.int .i64))]),(4,[(12,.sc (.int .i64))])],dr:=[(1,([],[[(0,[]),(1,[]),(2,[]),(3,[]),(4,[]),(5,[]),(6,[]),(7,[]),(8,[]),(9,[]),(10,[]),(11,[]),(12,[]),(13,[]),(14,[]),(15,[])]])),(3,([],[[(0,[]),(1,[]),(2,[]),(3,[]),(4,[]),(5,[]),(6,[]),(7,[]),(8,[]),(9,[]),(10,[]),(11,[]),(12,[]),(13,[]),(14,[]),(15,[]),(16,[])]])),(5,([],[[(0,[]),(1,[]),(2,[]),(3,[]),(4,[]),(5,[]),(6,[]),(7,[]),(8,[]),(9,[]),(10,[]),(11,[]),(12,[]),(13,[]),(14,[]),(15,[])]])),(8,([],[[(0,[]),(1,[]),(2,[]),(3,[]),(4,[]),(5,[]),(6,[]),(7,[]),(8,[]),(9,[]),(10,[]),(11,[]),(12,[]),(13,[]),(14,[]),(15,[])]]))] } trivial rfl (by kernel_rfl) h
def Zs (d0:Sl) (o1:Int) (p2:Int) (p3:Int):W (Int × Bool) :=
 drawW <|
 idxW d0.a d0.n 4 p3 fun x_1 =>
 ld (.agg [.int .u32,.bool,.int .i32,.int .i32]) x_1 fun (x_2:(Int × Bool × Int × Int)) =>
 idxW d0.a d0.n 4 o1 fun x_3 =>
 ld (.agg [.int .u32,.bool,.int .i32,.int .i32]) x_3 fun (x_4:(Int × Bool × Int × Int)) =>
 idxW d0.a d0.n 4 o1 fun x_5 =>
 stoL x_5 [.int .u32 x_2.1,.bool x_2.2.1,.int .i32 x_2.2.2.1,.int .i32 x_2.2.2.2] 0 <|
 idxW d0.a d0.n 4 p3 fun x_6 =>
 stoL x_6 [.int .u32 x_4.1,.bool x_4.2.1,.int .i32 x_4.2.2.1,.int .i32 x_4.2.2.2] 0 <|
 loopW (σ:=Int) (fun K_7 s_8 =>
  joinW (σ:=Bool) (fun J_9 =>
   drawW <|
   cond (decide (s_8≤(IntKind.wrap .i64 (p2 - 1))))
    (idxW d0.a d0.n 4 s_8 fun x_10 =>
       ld (.agg [.int .u32,.bool,.int .i32,.int .i32]) x_10 fun (x_11:(Int × Bool × Int × Int)) =>
        idxW d0.a d0.n 4 o1 fun x_12 =>
           ld (.agg [.int .u32,.bool,.int .i32,.int .i32]) x_12 fun (x_13:(Int × Bool × Int × Int)) =>
            callW Tryz.prog Z1 [.agg ⟨[.int .u32 x_11.1,.bool x_11.2.1,.int .i32 x_11.2.2.1,.int .i32 x_11.2.2.2]⟩,.agg ⟨[.int .u32 x_13.1,.bool x_13.2.1,.int .i32 x_13.2.2.1,.int .i32 x_13.2.2.2]⟩] [.sc (.int .i64)] fun (x_14:Int) =>
             J_9 (decide (x_14 < 0)))
    (J_9 false))
  <| fun s_15 =>
  cond s_15
   (K_7 (IntKind.wrap .i64 (s_8+1)))
   (loopW (σ:=Int) (fun K_16 s_17 =>
  joinW (σ:=Bool) (fun J_18 =>
   drawW <|
   cond (decide (s_8≤s_17))
    (idxW d0.a d0.n 4 s_17 fun x_19 =>
       ld (.agg [.int .u32,.bool,.int .i32,.int .i32]) x_19 fun (x_20:(Int × Bool × Int × Int)) =>
        idxW d0.a d0.n 4 o1 fun x_21 =>
           ld (.agg [.int .u32,.bool,.int .i32,.int .i32]) x_21 fun (x_22:(Int × Bool × Int × Int)) =>
            callW Tryz.prog Z1 [.agg ⟨[.int .u32 x_20.1,.bool x_20.2.1,.int .i32 x_20.2.2.1,.int .i32 x_20.2.2.2]⟩,.agg ⟨[.int .u32 x_22.1,.bool x_22.2.1,.int .i32 x_22.2.2.1,.int .i32 x_22.2.2.2]⟩] [.sc (.int .i64)] fun (x_23:Int) =>
             J_18 (!(decide (x_23 < 0))))
    (J_18 false))
  <| fun s_24 =>
  cond s_24
   (K_16 (IntKind.wrap .i64 (s_17 - 1)))
   (cond (decide (s_8 > s_17))
  (drawW <|
  idxW d0.a d0.n 4 o1 fun x_25 =>
  ld (.agg [.int .u32,.bool,.int .i32,.int .i32]) x_25 fun (x_26:(Int × Bool × Int × Int)) =>
  idxW d0.a d0.n 4 s_17 fun x_27 =>
  ld (.agg [.int .u32,.bool,.int .i32,.int .i32]) x_27 fun (x_28:(Int × Bool × Int × Int)) =>
  idxW d0.a d0.n 4 s_17 fun x_29 =>
  stoL x_29 [.int .u32 x_26.1,.bool x_26.2.1,.int .i32 x_26.2.2.1,.int .i32 x_26.2.2.2] 0 <|
  idxW d0.a d0.n 4 o1 fun x_30 =>
  stoL x_30 [.int .u32 x_28.1,.bool x_28.2.1,.int .i32 x_28.2.2.1,.int .i32 x_28.2.2.2] 0 <|
  retW (s_17,true))
  (drawW <|
 idxW d0.a d0.n 4 s_17 fun x_31 =>
 ld (.agg [.int .u32,.bool,.int .i32,.int .i32]) x_31 fun (x_32:(Int × Bool × Int × Int)) =>
 idxW d0.a d0.n 4 s_8 fun x_33 =>
 ld (.agg [.int .u32,.bool,.int .i32,.int .i32]) x_33 fun (x_34:(Int × Bool × Int × Int)) =>
 idxW d0.a d0.n 4 s_8 fun x_35 =>
 stoL x_35 [.int .u32 x_32.1,.bool x_32.2.1,.int .i32 x_32.2.2.1,.int .i32 x_32.2.2.2] 0 <|
 idxW d0.a d0.n 4 s_17 fun x_36 =>
 stoL x_36 [.int .u32 x_34.1,.bool x_34.2.1,.int .i32 x_34.2.2.1,.int .i32 x_34.2.2.2] 0 <|
 loopW (σ:=Int × Int) (fun K_37 s_38 =>
  loopW (σ:=Int) (fun K_39 s_40 =>
   joinW (σ:=Bool) (fun J_41 =>
    drawW <|
    cond (decide (s_40≤s_38.2))
     (idxW d0.a d0.n 4 s_40 fun x_42 =>
        ld (.agg [.int .u32,.bool,.int .i32,.int .i32]) x_42 fun (x_43:(Int × Bool × Int × Int)) =>
         idxW d0.a d0.n 4 o1 fun x_44 =>
            ld (.agg [.int .u32,.bool,.int .i32,.int .i32]) x_44 fun (x_45:(Int × Bool × Int × Int)) =>
             callW Tryz.prog Z1 [.agg ⟨[.int .u32 x_43.1,.bool x_43.2.1,.int .i32 x_43.2.2.1,.int .i32 x_43.2.2.2]⟩,.agg ⟨[.int .u32 x_45.1,.bool x_45.2.1,.int .i32 x_45.2.2.1,.int .i32 x_45.2.2.2]⟩] [.sc (.int .i64)] fun (x_46:Int) =>
              J_41 (decide (x_46 < 0)))
     (J_41 false))
   <| fun s_47 =>
   cond s_47
    (K_39 (IntKind.wrap .i64 (s_40+1)))
    (loopW (σ:=Int) (fun K_48 s_49 =>
   joinW (σ:=Bool) (fun J_50 =>
    drawW <|
    cond (decide (s_40≤s_49))
     (idxW d0.a d0.n 4 s_49 fun x_51 =>
        ld (.agg [.int .u32,.bool,.int .i32,.int .i32]) x_51 fun (x_52:(Int × Bool × Int × Int)) =>
         idxW d0.a d0.n 4 o1 fun x_53 =>
            ld (.agg [.int .u32,.bool,.int .i32,.int .i32]) x_53 fun (x_54:(Int × Bool × Int × Int)) =>
             callW Tryz.prog Z1 [.agg ⟨[.int .u32 x_52.1,.bool x_52.2.1,.int .i32 x_52.2.2.1,.int .i32 x_52.2.2.2]⟩,.agg ⟨[.int .u32 x_54.1,.bool x_54.2.1,.int .i32 x_54.2.2.1,.int .i32 x_54.2.2.2]⟩] [.sc (.int .i64)] fun (x_55:Int) =>
              J_50 (!(decide (x_55 < 0))))
     (J_50 false))
   <| fun s_56 =>
   cond s_56
    (K_48 (IntKind.wrap .i64 (s_49 - 1)))
    (cond (decide (s_40 > s_49))
   (drawW <|
 idxW d0.a d0.n 4 o1 fun x_57 =>
 ld (.agg [.int .u32,.bool,.int .i32,.int .i32]) x_57 fun (x_58:(Int × Bool × Int × Int)) =>
 idxW d0.a d0.n 4 s_49 fun x_59 =>
 ld (.agg [.int .u32,.bool,.int .i32,.int .i32]) x_59 fun (x_60:(Int × Bool × Int × Int)) =>
 idxW d0.a d0.n 4 s_49 fun x_61 =>
 stoL x_61 [.int .u32 x_58.1,.bool x_58.2.1,.int .i32 x_58.2.2.1,.int .i32 x_58.2.2.2] 0 <|
 idxW d0.a d0.n 4 o1 fun x_62 =>
 stoL x_62 [.int .u32 x_60.1,.bool x_60.2.1,.int .i32 x_60.2.2.1,.int .i32 x_60.2.2.2] 0 <|
 retW (s_49,false))
   (drawW <|
  idxW d0.a d0.n 4 s_49 fun x_63 =>
  ld (.agg [.int .u32,.bool,.int .i32,.int .i32]) x_63 fun (x_64:(Int × Bool × Int × Int)) =>
  idxW d0.a d0.n 4 s_40 fun x_65 =>
  ld (.agg [.int .u32,.bool,.int .i32,.int .i32]) x_65 fun (x_66:(Int × Bool × Int × Int)) =>
  idxW d0.a d0.n 4 s_40 fun x_67 =>
  stoL x_67 [.int .u32 x_64.1,.bool x_64.2.1,.int .i32 x_64.2.2.1,.int .i32 x_64.2.2.2] 0 <|
  idxW d0.a d0.n 4 s_49 fun x_68 =>
  stoL x_68 [.int .u32 x_66.1,.bool x_66.2.1,.int .i32 x_66.2.2.1,.int .i32 x_66.2.2.2] 0 <|
  K_37 (IntKind.wrap .i64 (s_40+1),IntKind.wrap .i64 (s_49 - 1)))))
   s_38.2))
   s_38.1)
  (IntKind.wrap .i64 (s_8+1),IntKind.wrap .i64 (s_17 - 1)))))
  (IntKind.wrap .i64 (p2 - 1))))
  (IntKind.wrap .i64 (o1+1))
set_option maxRecDepth 100000 in
theorem Z2r {R:Type} (d0:Sl) (o1:Int) (p2:Int) (p3:Int) (K:Res [.sc (.int .i64),.sc .bool]→W R) (Q:R→World→Prop) (w:World) (h:Zs d0 o1 p2 p3 (fun r w=>K r Q w) w):callW Tryz.prog Z24 [.slice d0.a d0.n d0.c,.int .i64 o1,.int .i64 p2,.int .i64 p3,.func (.func 135) #[] #[]] [.sc (.int .i64),.sc .bool] K Q w:=den_c (K:=K) mix Tryz.func240 { reg:=[(3,[(47,.sc .bool)]),(5,[(66,.sc .bool)]),(13,[(120,.sc .bool)]),(15,[(139,.sc .bool)])],lop:=[(0,[(12,.sc (.int .i64))]),(2,[(13,.sc (.int .i64))]),(4,[(12,.sc (.int .i64)),(13,.sc (.int .i64))]),(6,[(12,.sc (.int .i64))]),(8,[(13,.sc (.int .i64))])],dr:=[(1,([],[[(0,[]),(1,[]),(2,[]),(3,[]),(4,[]),(5,[]),(6,[]),(7,[]),(8,[]),(9,[]),(10,[]),(11,[]),(12,[]),(13,[]),(14,[]),(15,[])]])),(3,([],[[(0,[]),(1,[]),(2,[]),(3,[]),(4,[]),(5,[]),(6,[]),(7,[]),(8,[]),(9,[]),(10,[]),(11,[]),(12,[]),(13,[]),(14,[]),(15,[])]])),(5,([],[[(0,[]),(1,[]),(2,[]),(3,[]),(4,[]),(5,[]),(6,[]),(7,[]),(8,[]),(9,[]),(10,[]),(11,[]),(12,[]),(13,[]),(14,[]),(15,[]),(16,[])]])),(8,([],[[(0,[]),(1,[]),(2,[]),(3,[]),(4,[]),(5,[]),(6,[]),(7,[]),(8,[]),(9,[]),(10,[]),(11,[]),(12,[]),(13,[]),(14,[]),(15,[])]])),(10,([],[[(0,[]),(1,[]),(2,[]),(3,[]),(4,[]),(5,[]),(6,[]),(7,[]),(8,[]),(9,[]),(10,[]),(11,[]),(12,[]),(13,[]),(14,[]),(15,[])]])),(13,([],[[(0,[]),(1,[]),(2,[]),(3,[]),(4,[]),(5,[]),(6,[]),(7,[]),(8,[]),(9,[]),(10,[]),(11,[]),(12,[]),(13,[]),(14,[]),(15,[])]])),(15,([],[[(0,[]),(1,[]),(2,[]),(3,[]),(4,[]),(5,[]),(6,[]),(7,[]),(8,[]),(9,[]),(10,[]),(11,[]),(12,[]),(13,[]),(14,[]),(15,[]),(16,[])]])),(18,([],[[(0,[]),(1,[]),(2,[]),(3,[]),(4,[]),(5,[]),(6,[]),(7,[]),(8,[]),(9,[]),(10,[]),(11,[]),(12,[]),(13,[]),(14,[]),(15,[])]])),(21,([],[[(0,[]),(1,[]),(2,[]),(3,[]),(4,[]),(5,[]),(6,[]),(7,[]),(8,[]),(9,[]),(10,[]),(11,[]),(12,[]),(13,[]),(14,[]),(15,[])]]))] } trivial rfl (by kernel_rfl) h
def Zu (d0:Sl) (o1:Int) (p2:Int) (p3:Int):W (Unit) :=
 loopW (σ:=Int) (fun K_1 s_2 =>
  cond (decide ((IntKind.wrap .i64 ((IntKind.wrap .i64 (2 * s_2))+1)) ≥ p2))
   (retW ())
   (joinW (σ:=Bool) (fun J_3 =>
   drawW <|
   cond (decide ((IntKind.wrap .i64 ((IntKind.wrap .i64 ((IntKind.wrap .i64 (2 * s_2))+1))+1)) < p2))
    (idxW d0.a d0.n 4 (IntKind.wrap .i64 (p3 + (IntKind.wrap .i64 ((IntKind.wrap .i64 (2 * s_2)) + 1)))) fun x_4 =>
         ld (.agg [.int .u32,.bool,.int .i32,.int .i32]) x_4 fun (x_5:(Int × Bool × Int × Int)) =>
          idxW d0.a d0.n 4 (IntKind.wrap .i64 ((IntKind.wrap .i64 (p3 + (IntKind.wrap .i64 ((IntKind.wrap .i64 (2 * s_2)) + 1)))) + 1)) fun x_6 =>
                ld (.agg [.int .u32,.bool,.int .i32,.int .i32]) x_6 fun (x_7:(Int × Bool × Int × Int)) =>
                 callW Tryz.prog Z1 [.agg ⟨[.int .u32 x_5.1,.bool x_5.2.1,.int .i32 x_5.2.2.1,.int .i32 x_5.2.2.2]⟩,.agg ⟨[.int .u32 x_7.1,.bool x_7.2.1,.int .i32 x_7.2.2.1,.int .i32 x_7.2.2.2]⟩] [.sc (.int .i64)] fun (x_8:Int) =>
                  J_3 (decide (x_8 < 0)))
    (J_3 false))
  <| fun s_9 =>
  joinW (σ:=Int) (fun J_10 =>
   cond s_9
    (J_10 (IntKind.wrap .i64 ((IntKind.wrap .i64 ((IntKind.wrap .i64 (2 * s_2))+1))+1)))
    (J_10 (IntKind.wrap .i64 ((IntKind.wrap .i64 (2 * s_2))+1))))
  <| fun s_11 =>
  drawW <|
  idxW d0.a d0.n 4 (IntKind.wrap .i64 (p3+s_2)) fun x_12 =>
  ld (.agg [.int .u32,.bool,.int .i32,.int .i32]) x_12 fun (x_13:(Int × Bool × Int × Int)) =>
  idxW d0.a d0.n 4 (IntKind.wrap .i64 (p3+s_11)) fun x_14 =>
  ld (.agg [.int .u32,.bool,.int .i32,.int .i32]) x_14 fun (x_15:(Int × Bool × Int × Int)) =>
  callW Tryz.prog Z1 [.agg ⟨[.int .u32 x_13.1,.bool x_13.2.1,.int .i32 x_13.2.2.1,.int .i32 x_13.2.2.2]⟩,.agg ⟨[.int .u32 x_15.1,.bool x_15.2.1,.int .i32 x_15.2.2.1,.int .i32 x_15.2.2.2]⟩] [.sc (.int .i64)] fun (x_16:Int) =>
  cond (!(decide (x_16 < 0)))
   (retW ())
   (drawW <|
  idxW d0.a d0.n 4 (IntKind.wrap .i64 (p3+s_11)) fun x_17 =>
  ld (.agg [.int .u32,.bool,.int .i32,.int .i32]) x_17 fun (x_18:(Int × Bool × Int × Int)) =>
  idxW d0.a d0.n 4 (IntKind.wrap .i64 (p3+s_2)) fun x_19 =>
  ld (.agg [.int .u32,.bool,.int .i32,.int .i32]) x_19 fun (x_20:(Int × Bool × Int × Int)) =>
  idxW d0.a d0.n 4 (IntKind.wrap .i64 (p3+s_2)) fun x_21 =>
  stoL x_21 [.int .u32 x_18.1,.bool x_18.2.1,.int .i32 x_18.2.2.1,.int .i32 x_18.2.2.2] 0 <|
  idxW d0.a d0.n 4 (IntKind.wrap .i64 (p3+s_11)) fun x_22 =>
  stoL x_22 [.int .u32 x_20.1,.bool x_20.2.1,.int .i32 x_20.2.2.1,.int .i32 x_20.2.2.2] 0 <|
  K_1 s_11)))
  o1
theorem Z2v {R:Type} (d0:Sl) (o1:Int) (p2:Int) (p3:Int) (K:Res []→W R) (Q:R→World→Prop) (w:World) (h:Zu d0 o1 p2 p3 (fun r w=>K r Q w) w):callW Tryz.prog Z18 [.slice d0.a d0.n d0.c,.int .i64 o1,.int .i64 p2,.int .i64 p3,.func (.func 135) #[] #[]] [] K Q w:=den_c (K:=K) mix Tryz.func270 { reg:=[(3,[(40,.sc .bool)])],con:=[(5040,[(11,.sc (.int .i64))])],lop:=[(0,[(10,.sc (.int .i64))])],dr:=[(3,([],[[(0,[]),(1,[]),(2,[]),(3,[]),(4,[]),(5,[]),(6,[]),(7,[]),(8,[]),(9,[]),(10,[]),(11,[]),(12,[]),(13,[]),(14,[]),(15,[]),(16,[]),(17,[]),(18,[]),(19,[]),(20,[]),(21,[])]])),(5,([],[[(0,[]),(1,[]),(2,[]),(3,[]),(4,[]),(5,[]),(6,[]),(7,[]),(8,[]),(9,[]),(10,[]),(11,[]),(12,[]),(13,[]),(14,[]),(15,[])]])),(6,([],[[(0,[]),(1,[]),(2,[]),(3,[]),(4,[]),(5,[]),(6,[]),(7,[]),(8,[]),(9,[]),(10,[]),(11,[]),(12,[]),(13,[]),(14,[]),(15,[]),(16,[]),(17,[]),(18,[]),(19,[]),(20,[]),(21,[]),(22,[]),(23,[])]]))] } trivial rfl (by kernel_rfl) h
def Ze (data0:Sl) (a1:Int) (swaps2:Option Addr):W (Int) :=
 callW Tryz.prog Z1k [.slice data0.a data0.n data0.c,.int .i64 (IntKind.wrap .i64 (a1 - 1)),.int .i64 a1,.int .i64 (IntKind.wrap .i64 (a1+1)),.pointer swaps2,.func (.func 135) #[] #[]] [.sc (.int .i64)] fun (x_1:Int) =>
 retW x_1
theorem Z26 {R:Type} (data0:Sl) (a1:Int) (swaps2:Option Addr) (K:Res [.sc (.int .i64)]→W R) (Q:R→World→Prop) (w:World) (h:Ze data0 a1 swaps2 (fun r w=>K r Q w) w):callW Tryz.prog Z8 [.slice data0.a data0.n data0.c,.int .i64 a1,.pointer swaps2,.func (.func 135) #[] #[]] [.sc (.int .i64)] K Q w:=den_c (K:=K) mix Tryz.func271 {} trivial rfl (by kernel_rfl) h
def Z13 (data0:Sl) (a1:Int) (b2:Int) (c3:Int) (swaps4:Option Addr):W (Int) :=
 callW Tryz.prog Zp [.slice data0.a data0.n data0.c,.int .i64 a1,.int .i64 b2,.pointer swaps4,.func (.func 135) #[] #[]] [.sc (.int .i64),.sc (.int .i64)] fun (x_1:Int × Int) =>
 callW Tryz.prog Zp [.slice data0.a data0.n data0.c,.int .i64 x_1.2,.int .i64 c3,.pointer swaps4,.func (.func 135) #[] #[]] [.sc (.int .i64),.sc (.int .i64)] fun (x_2:Int × Int) =>
 callW Tryz.prog Zp [.slice data0.a data0.n data0.c,.int .i64 x_1.1,.int .i64 x_2.1,.pointer swaps4,.func (.func 135) #[] #[]] [.sc (.int .i64),.sc (.int .i64)] fun (x_3:Int × Int) =>
 retW x_3.2
theorem Z38 {R:Type} (data0:Sl) (a1:Int) (b2:Int) (c3:Int) (swaps4:Option Addr) (K:Res [.sc (.int .i64)]→W R) (Q:R→World→Prop) (w:World) (h:Z13 data0 a1 b2 c3 swaps4 (fun r w=>K r Q w) w):callW Tryz.prog Z1k [.slice data0.a data0.n data0.c,.int .i64 a1,.int .i64 b2,.int .i64 c3,.pointer swaps4,.func (.func 135) #[] #[]] [.sc (.int .i64)] K Q w:=den_c (K:=K) mix Tryz.func272 {} trivial rfl (by kernel_rfl) h
def Z14 (data0:Sl) (a1:Int) (b2:Int) (swaps3:Option Addr):W (Int × Int) :=
 drawW <|
 idxW data0.a data0.n 4 b2 fun x_1 =>
 ld (.agg [.int .u32,.bool,.int .i32,.int .i32]) x_1 fun (x_2:(Int × Bool × Int × Int)) =>
 idxW data0.a data0.n 4 a1 fun x_3 =>
 ld (.agg [.int .u32,.bool,.int .i32,.int .i32]) x_3 fun (x_4:(Int × Bool × Int × Int)) =>
 callW Tryz.prog Z1 [.agg ⟨[.int .u32 x_2.1,.bool x_2.2.1,.int .i32 x_2.2.2.1,.int .i32 x_2.2.2.2]⟩,.agg ⟨[.int .u32 x_4.1,.bool x_4.2.1,.int .i32 x_4.2.2.1,.int .i32 x_4.2.2.2]⟩] [.sc (.int .i64)] fun (x_5:Int) =>
 cond (decide (x_5 < 0))
  (ptrW swaps3 fun x_6 =>
  ld (.sc (.int .i64)) x_6 fun (x_7:Int) =>
  ptrW swaps3 fun x_8 =>
  stoL x_8 [.int .i64 (IntKind.wrap .i64 (x_7+1))] 0 <|
  retW (b2,a1))
  (retW (a1,b2))
theorem Z39 {R:Type} (data0:Sl) (a1:Int) (b2:Int) (swaps3:Option Addr) (K:Res [.sc (.int .i64),.sc (.int .i64)]→W R) (Q:R→World→Prop) (w:World) (h:Z14 data0 a1 b2 swaps3 (fun r w=>K r Q w) w):callW Tryz.prog Zp [.slice data0.a data0.n data0.c,.int .i64 a1,.int .i64 b2,.pointer swaps3,.func (.func 135) #[] #[]] [.sc (.int .i64),.sc (.int .i64)] K Q w:=den_c (K:=K) mix Tryz.func292 { dr:=[(1,([],[[(0,[]),(1,[]),(2,[]),(3,[]),(4,[]),(5,[]),(6,[]),(7,[]),(8,[]),(9,[]),(10,[])]]))] } trivial rfl (by kernel_rfl) h
end Go.Proofs.YtoiahhpgkoknfaaGreat
namespace Go.Proofs.YtoiahhpgkoknfaaGreat
open Go Go.RowKit Go.Proofs.YtoiahhpgkoknfaaGreat.Den
variable {R:Type} {Q:R→World→Prop} {w:World}
abbrev plcT:Ty:=.agg [.int .u32,.bool,.int .i32,.int .i32]
def ltP (x y:Plc):Bool:=decide (x.1 < y.1)
theorem swoP:Go.Sort.SWO ltP where
 irrefl x:=by simp [ltP]
 trans x y z h1 h2:=by simp only [ltP,decide_eq_true_eq] at *; omega
 ntrans x y z h1 h2:=by simp only [ltP,decide_eq_false_iff_not] at *; omega
theorem Zqr {x y:Int} {K:Res [.sc (.int .i64)]→W R} (hk:∀ r:Int,decide (r < 0)=decide (x < y)→K r Q w):callW Tryz.prog Z82 [.int .u32 x,.int .u32 y] [.sc (.int .i64)] K Q w:=by
 refine Zj7 _ _ K Q w ?_
 unfold Zct
 refine Zex _ _ _ _ ?_
 unfold Zb6
 refine Zex _ _ _ _ ?_
 unfold Zb6
 refine condF (by simp) (condF (by simp) (condD (fun h=>hk _ (by simp [h])) fun h=>condD (fun h2=>hk _ (by simp [h])) fun h2=>hk _ (by simp [h])))
theorem Z4v {x y:Plc} {K:Res [.sc (.int .i64)]→W R} (hk:∀ (r:Int) w',decide (r < 0)=ltP x y→Fr None w w'→K r Q w') :
  callW Tryz.prog Z1 [.agg ⟨[.int .u32 x.1,.bool x.2.1,.int .i32 x.2.2.1,.int .i32 x.2.2.2]⟩,.agg ⟨[.int .u32 y.1,.bool y.2.1,.int .i32 y.2.2.1,.int .i32 y.2.2.2]⟩] [.sc (.int .i64)] K Q w:=by
 refine Zdl x y K Q w ?_
 unfold Z7t
 refine newI fun w1 B1 f1 s1=>newI fun w2 B2 f2 s2=>fldI (B1.fr f2 fun h=>h) (i:=0) (x:=x.1) rfl (fldI B2 (i:=0) (x:=y.1) rfl (Zqr fun r hr=>hk r w2 hr (f1.then0 f2)))
end Go.Proofs.YtoiahhpgkoknfaaGreat
namespace Go.Proofs.YtoiahhpgkoknfaaGreat
open Go Go.RowKit Go.Proofs.YtoiahhpgkoknfaaGreat.Den
open Go.Sort (swp PermIn SortedIn)
variable {R:Type} {Q:R→World→Prop} {w:World}
abbrev DAP (S:Nat→Prop) (w:World) (s:Sl) (d:Array Plc):Prop:=Den.Own S w 45 plcT s d.toList
section
variable {S:Nat→Prop} {s:Sl} {d:Array Plc}
theorem DAP.n (h:DAP S w s d):s.n=d.size:=by rw [h.len]; rfl
theorem rdAP (h:DAP S w s d) {ie:Int} {j:Nat} (hi:ie=(j:Int)) (hj:j < d.size) {K:Plc→W R} (hk:K d[j]! Q w):idxW s.a s.n 4 ie (fun a=>ld (.agg [.int .u32,.bool,.int .i32,.int .i32]) a K) Q w:=by
 refine h.sl.get rfl hi (by simpa using hj) fun x hx=>?_
 rw [Array.getElem?_toList] at hx
 have e:d[j]! = x:=by
  rw [getElem!_pos d j hj]
  exact (Array.getElem?_eq_some_iff.1 hx).2
 rw [e] at hk
 exact hk
theorem Zj0 (d:Array Plc) (i:Nat) (x:Plc):(d.setIfInBounds i x).toList=d.toList.set i x:=by simp
theorem swpAP (h:DAP S w s d) {ie je:Int} {i j:Nat} (ei:ie=(i:Int)) (ej:je=(j:Int)) (hi:i < d.size) (hj:j < d.size) {K:W R} (hk:∀ w',DAP S w' s (swp d i j)→Fr (OwnB s) w w'→K Q w') :
  (idxW s.a s.n 4 je fun a=>ld (.agg [.int .u32,.bool,.int .i32,.int .i32]) a fun (x:Plc)=>idxW s.a s.n 4 ie fun b=>ld (.agg [.int .u32,.bool,.int .i32,.int .i32]) b fun (y:Plc) =>
   idxW s.a s.n 4 ie fun c=>stoL c [.int .u32 x.1,.bool x.2.1,.int .i32 x.2.2.1,.int .i32 x.2.2.2] 0 <| idxW s.a s.n 4 je fun e=>stoL e [.int .u32 y.1,.bool y.2.1,.int .i32 y.2.2.1,.int .i32 y.2.2.2] 0 K) Q w:=by
 subst ei; subst ej
 refine rdAP h rfl hj (rdAP h rfl hi ?_)
 refine h.idx rfl (by omega) (by rw [Array.length_toList]; omega) fun g u hg hu _=>?_
 refine h.set rfl (by rw [Array.length_toList]; omega) hg d[j]! fun w4 o4 f4 _=>?_
 refine o4.idx rfl (by omega) (by rw [List.length_set,Array.length_toList]; omega) fun g2 u2 hg2 hu2 _=>?_
 refine o4.set rfl (by rw [List.length_set,Array.length_toList]; omega) hg2 d[i]! fun w5 o5 f5 _=>?_
 refine hk w5 ?_ (f4.then f5)
 show Den.Own S w5 45 plcT s (swp d i j).toList
 rw [swp,Zj0,Zj0]
 simpa using o5
theorem szsP (d:Array Plc) (i j:Nat):(swp d i j).size=d.size:=Go.Sort.size_swp d i j
theorem Zu5 (h:DAP S w s d) (hm:d.size≤1048576) {a b:Nat} (hab:a≤b) (hb:b≤d.size) {K:Res []→W R} (hk:∀ w',DAP S w' s (Go.Sort.insertionSort ltP d a b)→Fr (OwnB s) w w'→K () Q w') :
  callW Tryz.prog Z1d [.slice s.a s.n s.c,.int .i64 (a:Int),.int .i64 (b:Int),.func (.func Z1) #[] #[]] [] K Q w:=by
 refine Z2e _ _ _ K Q w ?_
 unfold Zi
 have hn:=h.n
 rw [show IntKind.wrap .i64 ((a:Int)+1)=((a+1:Nat):Int) by rw [w64 (by omega)]; rfl]
 refine loopI (fun i w'=>∃ (n:Nat) (d':Array Plc),i=(n:Int)∧a < n∧DAP S w' s d'∧d'.size=d.size∧Go.Sort.insOuter ltP a b n d'=Go.Sort.insertionSort ltP d a b∧Fr (OwnB s) w w') (fun i _=>b - i.toNat) ⟨a+1,d,rfl,by omega,h,rfl,rfl,Fr.refl _ _⟩ ?_
 rintro i w1 ⟨n,d',rfl,hn1,o1,hz,he,f1⟩
 refine condD (fun hlt=>?_) fun hge=>?_
 ·have hnb:n < b:=by have:(n:Int) < (b:Int):=hlt; omega
  refine loopI (fun j w'=>∃ (q:Nat) (e:Array Plc),j=(q:Int)∧q≤n∧DAP S w' s e∧e.size=d.size∧Go.Sort.insInner ltP a q e=Go.Sort.insInner ltP a n d'∧Fr (OwnB s) w w') (fun j _=>j.toNat) ⟨n,d',rfl,Nat.le_refl _,o1,hz,rfl,f1⟩ ?_
  rintro j w2 ⟨q,e,rfl,hq,o2,hz2,he2,f2⟩
  have fd:Fr None w2 w2.drew:=(Fr.refl _ _).drew
  have out:∀ {w':World},Fr None w2 w'→Go.Sort.insInner ltP a q e=e→∃ (n':Nat) (d':Array Plc),IntKind.wrap .i64 ((n:Int)+1)=(n':Int)∧a < n'∧DAP S w' s d'∧d'.size=d.size∧Go.Sort.insOuter ltP a b n' d'=Go.Sort.insertionSort ltP d a b∧Fr (OwnB s) w w':=fun f h=>by
   refine ⟨n+1,e,wsucc hnb (by omega),by omega,o2.none f,hz2,?_,f2.then f.any⟩
   rw [← he,← h,he2]
   conv=>rhs; rw [Go.Sort.insOuter,if_pos hnb]
  have meas:b - (IntKind.wrap .i64 ((n:Int)+1)).toNat < b - (n:Int).toNat:=by rw [wsucc hnb (by omega)]; omega
  refine joinI (fun z w'=>Fr None w2 w'∧((z=true∧∃ k,q=k+1∧Go.Sort.insInner ltP a q e=Go.Sort.insInner ltP a k (swp e (k+1) k))∨(z=false∧Go.Sort.insInner ltP a q e=e))) ?_ ?_
  ·refine condD (fun h0=>?_) fun h0=>⟨fd,.inr ⟨rfl,?_⟩⟩
   ·have h0:(q:Int) > (a:Int):=h0
    obtain ⟨k,rfl⟩:∃ k,q=k+1:=⟨q - 1,by omega⟩
    have e1:IntKind.wrap .i64 (((k+1:Nat):Int) - 1)=(k:Int):=by rw [w64 (by omega)]; omega
    refine rdAP (o2.none fd) rfl (by omega) (rdAP (o2.none fd) e1 (by omega) (Z4v fun z0 v0 hz0 fv=>⟨fd.then0 fv,?_⟩))
    have hdef:Go.Sort.insInner ltP a (k+1) e=if k+1 > a && ltP e[k+1]! e[k]! then Go.Sort.insInner ltP a k (swp e (k+1) k) else e:=rfl
    have hka:k+1 > a:=by omega
    cases hl:ltP e[k+1]! e[k]! with
    | true =>
     refine .inl ⟨hz0.trans hl,k,rfl,?_⟩
     rw [hdef,if_pos (by simp [hl,hka])]
    | false =>
     refine .inr ⟨hz0.trans hl,?_⟩
     rw [hdef,if_neg (by simp [hl])]
   ·have h0:¬ (q:Int) > (a:Int):=h0
    cases q with
    | zero=>rfl
    | succ k =>
     have hdef:Go.Sort.insInner ltP a (k+1) e=if k+1 > a && ltP e[k+1]! e[k]! then Go.Sort.insInner ltP a k (swp e (k+1) k) else e:=rfl
     rw [hdef,if_neg (by simp; omega)]
  ·rintro z w3 ⟨f3,⟨rfl,k,rfl,hx⟩ | ⟨rfl,hx⟩⟩
   ·have e1:IntKind.wrap .i64 (((k+1:Nat):Int) - 1)=(k:Int):=by rw [w64 (by omega)]; omega
    have fdd:=f3.then0 (Fr.refl None w3).drew
    refine condT rfl (swpAP (o2.none fdd) rfl e1 (by omega) (by omega) fun w4 o4 f4=>?_)
    refine ⟨⟨k,_,e1,by omega,o4,by rw [szsP]; exact hz2,by rw [← hx,he2],(f2.then fdd.any).then f4⟩,?_⟩
    rw [e1]; omega
   ·exact condF rfl ⟨out f3 hx,meas⟩
 ·have:¬ n < b:=fun h=>hge (show (n:Int) < (b:Int) by omega)
  refine hk w1 ?_ f1
  rw [← he,Go.Sort.insOuter,if_neg this]
  exact o1
end
end Go.Proofs.YtoiahhpgkoknfaaGreat
namespace Go.Proofs.YtoiahhpgkoknfaaGreat
open Go Go.RowKit Go.Proofs.YtoiahhpgkoknfaaGreat.Den
open Go.Sort (swp PermIn SortedIn)
variable {R:Type} {Q:R→World→Prop} {w:World}
section
variable {S:Nat→Prop} {s:Sl} {d:Array Plc}
theorem Zmw (h:DAP S w s d) (hm:d.size≤1048576) {root hi first:Nat} (hf:first+hi≤d.size) (hr:root≤1048576) (_hr2:root < hi∨2 * root+1 ≥ hi) {K:Res []→W R} (hk:∀ w',DAP S w' s (Go.Sort.siftDown ltP hi first root d)→(Go.Sort.siftDown ltP hi first root d).size=d.size→Fr (OwnB s) w w'→K () Q w') :
  callW Tryz.prog Z18 [.slice s.a s.n s.c,.int .i64 (root:Int),.int .i64 (hi:Int),.int .i64 (first:Int),.func (.func Z1) #[] #[]] [] K Q w:=by
 refine Z2v _ _ _ _ K Q w ?_
 unfold Zu
 refine loopI (fun i w'=>∃ (r:Nat) (e:Array Plc),i=(r:Int)∧r≤1048576∧DAP S w' s e∧e.size=d.size∧Go.Sort.siftDown ltP hi first r e=Go.Sort.siftDown ltP hi first root d∧Fr (OwnB s) w w') (fun i _=>hi - i.toNat) ⟨root,d,rfl,hr,h,rfl,rfl,Fr.refl _ _⟩ ?_
 rintro i w1 ⟨r,e,rfl,hr,o1,hz,he,f1⟩
 have e2:IntKind.wrap .i64 (IntKind.wrap .i64 (2 * (r:Int))+1)=((2 * r+1:Nat):Int):=by rw [wn (x:=2 * (r:Int)) (n:=2 * r) (by omega) (by omega)]; exact wn (by omega) (by omega)
 have e3:IntKind.wrap .i64 (IntKind.wrap .i64 (IntKind.wrap .i64 (2 * (r:Int))+1)+1)=((2 * r+2:Nat):Int):=by rw [e2]; exact wn (by omega) (by omega)
 rw [e3,e2]
 refine condD (fun hge=>?_) fun hlt=>?_
 ·have hge:(((2 * r+1:Nat):Int)) ≥ (hi:Int):=hge
  rw [Go.Sort.siftDown,dif_pos (show 2 * r+1 ≥ hi by omega)] at he
  rw [← he] at hk
  exact hk w1 o1 hz f1
 ·have hlt:¬ (((2 * r+1:Nat):Int)) ≥ (hi:Int):=hlt
  have hr2:2 * r+1 < hi:=by omega
  have e4:IntKind.wrap .i64 ((first:Int)+((2 * r+1:Nat):Int))=((first+(2 * r+1):Nat):Int):=wn (by omega) (by omega)
  have e5:IntKind.wrap .i64 (((first+(2 * r+1):Nat):Int)+1)=((first+(2 * r+1)+1:Nat):Int):=wn (by omega) (by omega)
  have hdef:=Go.Sort.siftDown.eq_def ltP hi first r e
  rw [dif_neg (show ¬ 2 * r+1 ≥ hi by omega)] at hdef
  have fd:Fr None w1 w1.drew:=(Fr.refl _ _).drew
  refine joinI (fun z w'=>Fr None w1 w'∧z=(decide (2 * r+1+1 < hi) && ltP e[first+(2 * r+1)]! e[first+(2 * r+1)+1]!)) ?_ ?_
  ·refine condD (fun h1=>?_) fun h1=>⟨fd,?_⟩
   ·have h1:((2 * r+2:Nat):Int) < (hi:Int):=h1
    refine rdAP (o1.none fd) e4 (by omega) (rdAP (o1.none fd) (by rw [e4]; exact e5) (by omega) (Z4v fun z0 v0 hz0 fv=>⟨fd.then0 fv,?_⟩))
    rw [decide_eq_true (show 2 * r+1+1 < hi by omega),hz0]
    rfl
   ·have h1:¬ ((2 * r+2:Nat):Int) < (hi:Int):=h1
    rw [decide_eq_false (show ¬ 2 * r+1+1 < hi by omega)]
    rfl
  rintro z w2 ⟨f2,hz1⟩
  rw [← hz1] at hdef
  refine joinI (fun (c:Int) w'=>Fr None w1 w'∧∃ q:Nat,c=(q:Int)∧r < q∧q < hi∧Go.Sort.siftDown ltP hi first r e=if !ltP e[first+r]! e[first+q]! then e else Go.Sort.siftDown ltP hi first q (swp e (first+r) (first+q))) ?_ ?_
  ·cases z with
   | true =>
    simp only [if_true] at hdef
    have hq:2 * r+2 < hi:=by
     have:=hz1.symm
     simp only [Bool.and_eq_true,decide_eq_true_eq] at this
     omega
    rw [dif_pos hq] at hdef
    exact ⟨f2,2 * r+2,rfl,by omega,hq,hdef⟩
   | false =>
    simp only [Bool.false_eq_true,if_false] at hdef
    exact ⟨f2,2 * r+1,rfl,by omega,by omega,hdef⟩
  rintro c w3 ⟨f3,q,rfl,hrq,hq,hdef2⟩
  have e6:IntKind.wrap .i64 ((first:Int)+(r:Int))=((first+r:Nat):Int):=wn (by omega) (by omega)
  have e7:IntKind.wrap .i64 ((first:Int)+(q:Int))=((first+q:Nat):Int):=wn (by omega) (by omega)
  have fd2:=f3.then0 (Fr.refl None w3).drew
  refine rdAP (o1.none fd2) e6 (by omega) (rdAP (o1.none fd2) e7 (by omega) (Z4v fun z0 v0 hz0 fv=>?_))
  rw [hz0]
  have fd2:=fd2.then0 fv
  refine condI (fun hb=>?_) fun hb=>?_
  ·rw [if_pos (show (!ltP e[first+r]! e[first+q]!)=true from hb)] at hdef2
   rw [hdef2] at he
   rw [← he] at hk
   exact hk _ (o1.none fd2) hz (f1.then fd2.any)
  ·rw [if_neg (show ¬ (!ltP e[first+r]! e[first+q]!)=true from fun h=>by rw [show (!ltP e[first+r]! e[first+q]!)=false from hb] at h; cases h)] at hdef2
   have fd3:=fd2.then0 (Fr.refl None _).drew
   refine swpAP (o1.none fd3) e6 e7 (by omega) (by omega) fun w4 o4 f4=>⟨⟨q,_,rfl,by omega,o4,by rw [szsP]; exact hz,by rw [← hdef2,he],(f1.then fd3.any).then f4⟩,by omega⟩
theorem Zsj (h:DAP S w s d) (hm:d.size≤1048576) {a b:Nat} (hab:a < b) (hb:b≤d.size) {K:Res []→W R} (hk:∀ w',DAP S w' s (Go.Sort.heapSort ltP d a b)→Fr (OwnB s) w w'→K () Q w') :
  callW Tryz.prog Z29 [.slice s.a s.n s.c,.int .i64 (a:Int),.int .i64 (b:Int),.func (.func Z1) #[] #[]] [] K Q w:=by
 refine Z2u _ _ _ K Q w ?_
 unfold Zt
 have e1:IntKind.wrap .i64 ((b:Int) - (a:Int))=((b - a:Nat):Int):=wn (by omega) (by omega)
 have e2:IntKind.wrap .i64 (((b - a:Nat):Int) - 1)=((b - a - 1:Nat):Int):=wn (by omega) (by omega)
 have e3:IntKind.wrap .i64 (Int.tdiv ((b - a - 1:Nat):Int) 2)=(((b - a - 1) / 2:Nat):Int):=wn (by rw [Int.tdiv_eq_ediv_of_nonneg (by omega)]; omega) (by omega)
 rw [e1,e2,e3]
 refine loopI (fun i w'=>∃ (k:Nat) (e:Array Plc),i=(k:Int) - 1∧k≤(b - a - 1) / 2+1∧DAP S w' s e∧e.size=d.size∧Go.Sort.heapBuild ltP (b - a) a k e=Go.Sort.heapBuild ltP (b - a) a ((b - a - 1) / 2+1) d∧Fr (OwnB s) w w') (fun i _=>(i+1).toNat) ⟨(b - a - 1) / 2+1,d,by omega,Nat.le_refl _,h,rfl,rfl,Fr.refl _ _⟩ ?_
 rintro i w1 ⟨k,e,rfl,hk1,o1,hz,he,f1⟩
 refine condD (fun hge=>?_) fun hlt=>?_
 ·have hge:(k:Int) - 1 ≥ 0:=hge
  obtain ⟨q,rfl⟩:∃ q,k=q+1:=⟨k - 1,by omega⟩
  rw [show (((q+1:Nat):Int) - 1)=(q:Int) by omega]
  refine Zmw o1 (by omega) (by omega) (by omega) (by omega) fun w2 o2 hz2 f2=>?_
  have e4:IntKind.wrap .i64 ((q:Int) - 1)=(q:Int) - 1:=w64 (by omega)
  rw [e4]
  exact ⟨⟨q,_,rfl,by omega,o2,by rw [hz2]; exact hz,by rw [← he]; rfl,f1.then f2⟩,by omega⟩
 ·have hlt:¬ (k:Int) - 1 ≥ 0:=hlt
  have hk0:k=0:=by omega
  subst hk0
  have he:e=Go.Sort.heapBuild ltP (b - a) a ((b - a - 1) / 2+1) d:=he
  refine loopI (fun i w'=>∃ (k:Nat) (g:Array Plc),i=(k:Int) - 1∧k≤b - a∧DAP S w' s g∧g.size=d.size∧Go.Sort.heapPop ltP a k g=Go.Sort.heapSort ltP d a b∧Fr (OwnB s) w w') (fun i _=>(i+1).toNat) ⟨b - a,e,by omega,Nat.le_refl _,o1,hz,by rw [Go.Sort.heapSort,← he],f1⟩ ?_
  rintro i w2 ⟨k,g,rfl,hk2,o2,hz2,he2,f2⟩
  refine condD (fun hge=>?_) fun hlt=>?_
  ·have hge:(k:Int) - 1 ≥ 0:=hge
   obtain ⟨q,rfl⟩:∃ q,k=q+1:=⟨k - 1,by omega⟩
   rw [show (((q+1:Nat):Int) - 1)=(q:Int) by omega]
   have fd:Fr None w2 w2.drew:=(Fr.refl _ _).drew
   have e5:IntKind.wrap .i64 ((a:Int)+(q:Int))=((a+q:Nat):Int):=wn (by omega) (by omega)
   refine swpAP (o2.none fd) rfl e5 (by omega) (by omega) fun w3 o3 f3=>?_
   refine Zmw (root:=0) (hi:=q) (first:=a) o3 (by rw [szsP]; omega) (by rw [szsP]; omega) (by omega) (by omega) fun w4 o4 hz4 f4=>?_
   have e4:IntKind.wrap .i64 ((q:Int) - 1)=(q:Int) - 1:=w64 (by omega)
   rw [e4]
   exact ⟨⟨q,_,rfl,by omega,o4,by rw [hz4,szsP]; exact hz2,by rw [← he2]; rfl,((f2.then fd.any).then f3).then f4⟩,by omega⟩
  ·have hlt:¬ (k:Int) - 1 ≥ 0:=hlt
   have hk0:k=0:=by omega
   subst hk0
   rw [← he2] at hk
   exact hk w2 o2 f2
theorem Zo2 (h:DAP S w s d) (hm:d.size≤1048576) {a b:Nat} (hab:a < b) (hb:b≤d.size) {K:Res []→W R} (hk:∀ d' w',DAP S w' s d'→PermIn a b d d'→Fr (OwnB s) w w'→K () Q w') :
  callW Tryz.prog Z1n [.slice s.a s.n s.c,.int .i64 (a:Int),.int .i64 (b:Int),.func (.func Z1) #[] #[]] [] K Q w:=by
 refine Z2h _ _ _ K Q w ?_
 unfold Zj
 have e1:IntKind.wrap .i64 ((b:Int) - 1)=((b - 1:Nat):Int):=wn (by omega) (by omega)
 rw [e1]
 refine loopI (fun (st:Int × Int) w'=>∃ (i j:Nat) (e:Array Plc),st=((i:Int),(j:Int))∧a≤i∧i≤b∧j < b∧DAP S w' s e∧PermIn a b d e∧Fr (OwnB s) w w') (fun st _=>(st.2 - st.1).toNat) ⟨a,b - 1,d,rfl,Nat.le_refl _,by omega,by omega,h,Go.Sort.permIn_refl _ _ _,Fr.refl _ _⟩ ?_
 rintro st w1 ⟨i,j,e,rfl,h1,h2,h3,o1,hp,f1⟩
 have hz:e.size=d.size:=hp.1
 refine condD (fun hlt=>?_) fun hge=>hk e w1 o1 hp f1
 have hlt:(i:Int) < (j:Int):=hlt
 have fd:Fr None w1 w1.drew:=(Fr.refl _ _).drew
 refine swpAP (o1.none fd) rfl rfl (by omega) (by omega) fun w2 o2 f2=>?_
 have e2:IntKind.wrap .i64 ((i:Int)+1)=((i+1:Nat):Int):=wn (by omega) (by omega)
 have e3:IntKind.wrap .i64 ((j:Int) - 1)=((j - 1:Nat):Int):=wn (by omega) (by omega)
 rw [e2,e3]
 refine ⟨⟨i+1,j - 1,_,rfl,by omega,by omega,by omega,o2,Go.Sort.permIn_trans _ _ _ _ _ hp (Go.Sort.swp_permIn _ _ _ _ _ (by omega) (by omega) (by omega) (by omega) (by omega)),(f1.then fd.any).then f2⟩,?_⟩
 show (((j - 1:Nat):Int) - ((i+1:Nat):Int)).toNat < ((j:Int) - (i:Int)).toNat
 omega
theorem scanUpIP (p:Plc→Bool) (d:Array Plc) {jhi:Int} {j:Nat} (hj:jhi=(j:Int)) (hjm:j≤1048576) {body:Int→(Bool→W R)→W R} {done:Int→W R} {i0:Nat} (hi0:i0≤1048577)
  (hb:∀ i w' J,i0≤i→i≤j→Fr None w w'→(∀ w'',Fr None w' w''→J (p d[i]!) Q w'')→body (i:Int) J Q w') (hd:∀ w',Fr None w w'→done ((Go.Sort.scanUp p d j i0:Nat):Int) Q w') :
  loopW (fun K i=>joinW (σ:=Bool) (fun J=>drawW (cond (decide (i≤jhi)) (body i J) (J false))) fun b=>cond b (K (IntKind.wrap .i64 (i+1))) (done i)) (i0:Int) Q w:=by
 subst hj
 refine loopI (fun i w'=>∃ q:Nat,i=(q:Int)∧i0≤q∧q≤1048577∧Go.Sort.scanUp p d j q=Go.Sort.scanUp p d j i0∧Fr None w w') (fun i _=>j+1 - i.toNat) ⟨i0,rfl,Nat.le_refl _,hi0,rfl,Fr.refl _ _⟩ ?_
 rintro i w1 ⟨q,rfl,hq0,hq,he,f1⟩
 have f1d:=f1.then0 (Fr.refl None w1).drew
 have hdef:=Go.Sort.scanUp.eq_def p d j q
 refine joinI (fun z w'=>Fr None w w'∧z=(decide (q≤j) && p d[q]!)) ?_ ?_
 ·refine condD (fun h1=>?_) fun h1=>⟨f1d,?_⟩
  ·have h1:(q:Int)≤(j:Int):=h1
   refine hb q _ _ hq0 (by omega) f1d fun v0 fv=>⟨f1d.then0 fv,?_⟩
   rw [decide_eq_true (show q≤j by omega)]; rfl
  ·have h1:¬ (q:Int)≤(j:Int):=h1
   rw [decide_eq_false (show ¬ q≤j by omega)]; rfl
 ·rintro z w2 ⟨f2,hz⟩
  rw [← hz] at hdef
  cases z with
  | true =>
   simp only [if_true] at hdef
   have hqj:q≤j:=by
    have:=hz.symm
    simp only [Bool.and_eq_true,decide_eq_true_eq] at this
    exact this.1
   have e1:IntKind.wrap .i64 ((q:Int)+1)=((q+1:Nat):Int):=wn (by omega) (by omega)
   exact condT rfl ⟨⟨q+1,e1,by omega,by omega,by rw [← hdef,he],f2⟩,by rw [e1]; omega⟩
  | false =>
   simp only [Bool.false_eq_true,if_false] at hdef
   have:=hd w2 f2
   rw [← he,hdef] at this
   exact condF rfl this
theorem scanDownIP (p:Plc→Bool) (d:Array Plc) {ilo:Int} {i:Nat} (hi:ilo=(i:Int)) (hi1:1≤i) {body:Int→(Bool→W R)→W R} {done:Int→W R} {j0:Nat} (hj0:j0≤1048577)
  (hb:∀ j w' J,i≤j→j≤j0→Fr None w w'→(∀ w'',Fr None w' w''→J (p d[j]!) Q w'')→body (j:Int) J Q w') (hd:∀ w',Fr None w w'→done ((Go.Sort.scanDown p d i j0:Nat):Int) Q w') :
  loopW (fun K j=>joinW (σ:=Bool) (fun J=>drawW (cond (decide (ilo≤j)) (body j J) (J false))) fun b=>cond b (K (IntKind.wrap .i64 (j - 1))) (done j)) (j0:Int) Q w:=by
 subst hi
 refine loopI (fun j w'=>∃ q:Nat,j=(q:Int)∧q≤j0∧Go.Sort.scanDown p d i q=Go.Sort.scanDown p d i j0∧Fr None w w') (fun j _=>j.toNat) ⟨j0,rfl,Nat.le_refl _,rfl,Fr.refl _ _⟩ ?_
 rintro j w1 ⟨q,rfl,hq,he,f1⟩
 have f1d:=f1.then0 (Fr.refl None w1).drew
 refine joinI (fun z w'=>Fr None w w'∧z=(decide (i≤q) && p d[q]!)) ?_ ?_
 ·refine condD (fun h1=>?_) fun h1=>⟨f1d,?_⟩
  ·have h1:(i:Int)≤(q:Int):=h1
   refine hb q _ _ (by omega) hq f1d fun v0 fv=>⟨f1d.then0 fv,?_⟩
   rw [decide_eq_true (show i≤q by omega)]; rfl
  ·have h1:¬ (i:Int)≤(q:Int):=h1
   rw [decide_eq_false (show ¬ i≤q by omega)]; rfl
 ·rintro z w2 ⟨f2,hz⟩
  cases q with
  | zero =>
   have:z=false:=by rw [hz,decide_eq_false (by omega)]; rfl
   subst this
   have:=hd w2 f2
   rw [← he] at this
   exact condF rfl this
  | succ q =>
   have hdef:Go.Sort.scanDown p d i (q+1)=if (decide (i≤q+1) && p d[q+1]!)=true then Go.Sort.scanDown p d i q else q+1:=rfl
   rw [← hz] at hdef
   cases z with
   | true =>
    simp only [if_true] at hdef
    have e1:IntKind.wrap .i64 (((q+1:Nat):Int) - 1)=(q:Int):=wn (by omega) (by omega)
    exact condT rfl ⟨⟨q,e1,by omega,by rw [← hdef,he],f2⟩,by rw [e1]; omega⟩
   | false =>
    simp only [Bool.false_eq_true,if_false] at hdef
    have:=hd w2 f2
    rw [← he,hdef] at this
    exact condF rfl this
end
end Go.Proofs.YtoiahhpgkoknfaaGreat
namespace Go.Proofs.YtoiahhpgkoknfaaGreat
open Go Go.RowKit Go.Proofs.YtoiahhpgkoknfaaGreat.Den
open Go.Sort (swp PermIn SortedIn)
variable {R:Type} {Q:R→World→Prop} {w:World}
section
variable {S:Nat→Prop} {s:Sl} {d:Array Plc}
theorem Zp9 (h:DAP S w s d) (hm:d.size≤1048576) {a b pivot:Nat} (h1:a≤pivot) (h2:pivot < b) (hb:b≤d.size) {K:Res [.sc (.int .i64)]→W R}
  (hk:∀ w',DAP S w' s (Go.Sort.partitionEqual ltP d a b pivot).2→Fr (OwnB s) w w'→K ((Go.Sort.partitionEqual ltP d a b pivot).1:Int) Q w') :
  callW Tryz.prog Z19 [.slice s.a s.n s.c,.int .i64 (a:Int),.int .i64 (b:Int),.int .i64 (pivot:Int),.func (.func Z1) #[] #[]] [.sc (.int .i64)] K Q w:=by
 refine Z27 _ _ _ _ K Q w ?_
 unfold Zf
 have fd:Fr None w w.drew:=(Fr.refl _ _).drew
 refine swpAP (h.none fd) rfl rfl (by omega) (by omega) fun w1 o1 f1=>?_
 have e1:IntKind.wrap .i64 ((a:Int)+1)=((a+1:Nat):Int):=wn (by omega) (by omega)
 have e2:IntKind.wrap .i64 ((b:Int) - 1)=((b - 1:Nat):Int):=wn (by omega) (by omega)
 rw [e1,e2]
 generalize hr:Go.Sort.partitionEqual ltP d a b pivot=r at hk
 refine loopI (fun (st:Int × Int) w'=>∃ (i j:Nat) (e:Array Plc),st=((i:Int),(j:Int))∧a < i∧i≤b∧j < b∧DAP S w' s e∧e.size=d.size∧Go.Sort.partEqLoop ltP a i j e=r∧Fr (OwnB s) w w') (fun st _=>(st.2+1 - st.1).toNat)
  ⟨a+1,b - 1,_,rfl,by omega,by omega,by omega,o1,szsP _ _ _,by rw [← hr]; rfl,fd.any.then f1⟩ ?_
 rintro st w2 ⟨i,j,e,rfl,hi,hib,hj,o2,hz,he,f2⟩
 have hdef:=Go.Sort.partEqLoop_eq ltP a i j e
 refine scanUpIP (fun x=>!ltP e[a]! x) e (jhi:=(j:Int)) rfl (by omega) (i0:=i) (by omega) (fun q w' J h1 h2 f hJ=>?_) fun w3 f3=>?_
 ·exact rdAP (o2.none f) rfl (by omega) (rdAP (o2.none f) rfl (by omega) (Z4v fun z0 v0 hz0 fv=>by rw [hz0]; exact hJ _ fv))
 have hge:=Go.Sort.scanUp_ge (fun x=>!ltP e[a]! x) e j i
 generalize Go.Sort.scanUp (fun x=>!ltP e[a]! x) e j i=i2 at hdef hge ⊢
 refine scanDownIP (fun x=>ltP e[a]! x) e (ilo:=(i2:Int)) rfl (by omega) (j0:=j) (by omega) (fun q w' J h1 h2 f hJ=>?_) fun w4 f4=>?_
 ·exact rdAP ((o2.none f3).none f) rfl (by omega) (rdAP ((o2.none f3).none f) rfl (by omega) (Z4v fun z0 v0 hz0 fv=>by rw [hz0]; exact hJ _ fv))
 have hle:=Go.Sort.scanDown_le (fun x=>ltP e[a]! x) e i2 j
 generalize Go.Sort.scanDown (fun x=>ltP e[a]! x) e i2 j=j2 at hdef hle ⊢
 have f24:=f3.then0 f4
 refine condD (fun hgt=>?_) fun hgt=>?_
 ·have hgt:(i2:Int) > (j2:Int):=hgt
  rw [if_pos (show i2 > j2 by omega)] at hdef
  have:r=(i2,e):=by rw [← he,hdef]
  subst this
  exact hk w4 (o2.none f24) (f2.then f24.any)
 ·have hgt:¬ (i2:Int) > (j2:Int):=hgt
  rw [if_neg (show ¬ i2 > j2 by omega)] at hdef
  have fd4:Fr None w4 w4.drew:=(Fr.refl _ _).drew
  refine swpAP ((o2.none f24).none fd4) rfl rfl (by omega) (by omega) fun w5 o5 f5=>?_
  have e3:IntKind.wrap .i64 ((i2:Int)+1)=((i2+1:Nat):Int):=wn (by omega) (by omega)
  have e4:IntKind.wrap .i64 ((j2:Int) - 1)=((j2 - 1:Nat):Int):=wn (by omega) (by omega)
  rw [e3,e4]
  refine ⟨⟨i2+1,j2 - 1,_,rfl,by omega,by omega,by omega,o5,by rw [szsP]; exact hz,by rw [← hdef,he],(f2.then (f24.then0 fd4).any).then f5⟩,?_⟩
  show (((j2 - 1:Nat):Int)+1 - ((i2+1:Nat):Int)).toNat < ((j:Int)+1 - (i:Int)).toNat
  omega
theorem Zsk (h:DAP S w s d) (hm:d.size≤1048576) {a b pivot:Nat} (h1:a≤pivot) (h2:pivot < b) (hb:b≤d.size) {K:Res [.sc (.int .i64),.sc .bool]→W R}
  (hk:∀ w',DAP S w' s (Go.Sort.partition ltP d a b pivot).2.2→Fr (OwnB s) w w'→K (((Go.Sort.partition ltP d a b pivot).1:Int),(Go.Sort.partition ltP d a b pivot).2.1) Q w') :
  callW Tryz.prog Z24 [.slice s.a s.n s.c,.int .i64 (a:Int),.int .i64 (b:Int),.int .i64 (pivot:Int),.func (.func Z1) #[] #[]] [.sc (.int .i64),.sc .bool] K Q w:=by
 refine Z2r _ _ _ _ K Q w ?_
 unfold Zs
 have fd:Fr None w w.drew:=(Fr.refl _ _).drew
 refine swpAP (h.none fd) rfl rfl (by omega) (by omega) fun w1 o1 f1=>?_
 have e1:IntKind.wrap .i64 ((a:Int)+1)=((a+1:Nat):Int):=wn (by omega) (by omega)
 have e2:IntKind.wrap .i64 ((b:Int) - 1)=((b - 1:Nat):Int):=wn (by omega) (by omega)
 rw [e1,e2]
 have hr:Go.Sort.partition ltP d a b pivot=if Go.Sort.scanUp (fun x=>ltP x (swp d a pivot)[a]!) (swp d a pivot) (b - 1) (a+1) > Go.Sort.scanDown (fun x=>!ltP x (swp d a pivot)[a]!) (swp d a pivot) (Go.Sort.scanUp (fun x=>ltP x (swp d a pivot)[a]!) (swp d a pivot) (b - 1) (a+1)) (b - 1) then _ else _:=rfl
 generalize Go.Sort.partition ltP d a b pivot=r at hk hr
 have hze:=szsP d a pivot
 generalize swp d a pivot=e at o1 hr hze
 have f01:=fd.any.then f1
 refine scanUpIP (fun x=>ltP x e[a]!) e (jhi:=((b - 1:Nat):Int)) rfl (by omega) (i0:=a+1) (by omega) (fun q w' J h1 h2 f hJ=>?_) fun w3 f3=>?_
 ·exact rdAP (o1.none f) rfl (by omega) (rdAP (o1.none f) rfl (by omega) (Z4v fun z0 v0 hz0 fv=>by rw [hz0]; exact hJ _ fv))
 have hge:=Go.Sort.scanUp_ge (fun x=>ltP x e[a]!) e (b - 1) (a+1)
 generalize Go.Sort.scanUp (fun x=>ltP x e[a]!) e (b - 1) (a+1)=i2 at hr hge ⊢
 refine scanDownIP (fun x=>!ltP x e[a]!) e (ilo:=(i2:Int)) rfl (by omega) (j0:=b - 1) (by omega) (fun q w' J h1 h2 f hJ=>?_) fun w4 f4=>?_
 ·exact rdAP ((o1.none f3).none f) rfl (by omega) (rdAP ((o1.none f3).none f) rfl (by omega) (Z4v fun z0 v0 hz0 fv=>by rw [hz0]; exact hJ _ fv))
 have hle:=Go.Sort.scanDown_le (fun x=>!ltP x e[a]!) e i2 (b - 1)
 generalize Go.Sort.scanDown (fun x=>!ltP x e[a]!) e i2 (b - 1)=j2 at hr hle ⊢
 have f14:=f3.then0 f4
 have fd4:Fr None w4 w4.drew:=(Fr.refl _ _).drew
 have o4:=(o1.none f14).none fd4
 have f04:=f01.then (f14.then0 fd4).any
 refine condD (fun hgt=>?_) fun hgt=>?_
 ·have hgt:(i2:Int) > (j2:Int):=hgt
  rw [if_pos (show i2 > j2 by omega)] at hr
  subst hr
  exact swpAP o4 rfl rfl (by omega) (by omega) fun w5 o5 f5=>hk w5 o5 (f04.then f5)
 ·have hgt:¬ (i2:Int) > (j2:Int):=hgt
  rw [if_neg (show ¬ i2 > j2 by omega)] at hr
  refine swpAP o4 rfl rfl (by omega) (by omega) fun w5 o5 f5=>?_
  have e3:IntKind.wrap .i64 ((i2:Int)+1)=((i2+1:Nat):Int):=wn (by omega) (by omega)
  have e4:IntKind.wrap .i64 ((j2:Int) - 1)=((j2 - 1:Nat):Int):=wn (by omega) (by omega)
  rw [e3,e4]
  generalize hrr:Go.Sort.partLoop ltP a (i2+1) (j2 - 1) (swp e i2 j2)=rr at hr
  refine loopI (fun (st:Int × Int) w'=>∃ (i j:Nat) (g:Array Plc),st=((i:Int),(j:Int))∧a < i∧i≤b∧j < b∧DAP S w' s g∧g.size=d.size∧Go.Sort.partLoop ltP a i j g=rr∧Fr (OwnB s) w w') (fun st _=>(st.2+1 - st.1).toNat)
   ⟨i2+1,j2 - 1,_,rfl,by omega,by omega,by omega,o5,by rw [szsP]; exact hze,hrr,f04.then f5⟩ ?_
  rintro st w6 ⟨i,j,g,rfl,hi,hib,hj,o6,hz,he,f6⟩
  have hdef:=Go.Sort.partLoop_eq ltP a i j g
  refine scanUpIP (fun x=>ltP x g[a]!) g (jhi:=(j:Int)) rfl (by omega) (i0:=i) (by omega) (fun q w' J h1 h2 f hJ=>?_) fun w7 f7=>?_
  ·exact rdAP (o6.none f) rfl (by omega) (rdAP (o6.none f) rfl (by omega) (Z4v fun z0 v0 hz0 fv=>by rw [hz0]; exact hJ _ fv))
  have hge2:=Go.Sort.scanUp_ge (fun x=>ltP x g[a]!) g j i
  generalize Go.Sort.scanUp (fun x=>ltP x g[a]!) g j i=i3 at hdef hge2 ⊢
  refine scanDownIP (fun x=>!ltP x g[a]!) g (ilo:=(i3:Int)) rfl (by omega) (j0:=j) (by omega) (fun q w' J h1 h2 f hJ=>?_) fun w8 f8=>?_
  ·exact rdAP ((o6.none f7).none f) rfl (by omega) (rdAP ((o6.none f7).none f) rfl (by omega) (Z4v fun z0 v0 hz0 fv=>by rw [hz0]; exact hJ _ fv))
  have hle2:=Go.Sort.scanDown_le (fun x=>!ltP x g[a]!) g i3 j
  generalize Go.Sort.scanDown (fun x=>!ltP x g[a]!) g i3 j=j3 at hdef hle2 ⊢
  have f68:=f7.then0 f8
  have fd8:Fr None w8 w8.drew:=(Fr.refl _ _).drew
  have o8:=(o6.none f68).none fd8
  have f08:=f6.then (f68.then0 fd8).any
  refine condD (fun hgt=>?_) fun hgt=>?_
  ·have hgt:(i3:Int) > (j3:Int):=hgt
   rw [if_pos (show i3 > j3 by omega)] at hdef
   have:rr=(j3,g):=by rw [← he,hdef]
   subst this
   subst hr
   exact swpAP o8 rfl rfl (by omega) (by omega) fun w9 o9 f9=>hk w9 o9 (f08.then f9)
  ·have hgt:¬ (i3:Int) > (j3:Int):=hgt
   rw [if_neg (show ¬ i3 > j3 by omega)] at hdef
   refine swpAP o8 rfl rfl (by omega) (by omega) fun w9 o9 f9=>?_
   have e5:IntKind.wrap .i64 ((i3:Int)+1)=((i3+1:Nat):Int):=wn (by omega) (by omega)
   have e6:IntKind.wrap .i64 ((j3:Int) - 1)=((j3 - 1:Nat):Int):=wn (by omega) (by omega)
   rw [e5,e6]
   refine ⟨⟨i3+1,j3 - 1,_,rfl,by omega,by omega,by omega,o9,by rw [szsP]; exact hz,by rw [← hdef,he],f08.then f9⟩,?_⟩
   show (((j3 - 1:Nat):Int)+1 - ((i3+1:Nat):Int)).toNat < ((j:Int)+1 - (i:Int)).toNat
   omega
theorem Zf5 (d:Array Plc) (b:Nat):∀ (n i:Nat),b - i≤n→i≤Go.Sort.scanSorted ltP d b i∧(i≤b→Go.Sort.scanSorted ltP d b i≤b)
 | 0,i,hn=>by
  rw [Go.Sort.scanSorted,if_neg (by simp; omega)]; exact ⟨Nat.le_refl _,fun h=>h⟩
 | n+1,i,hn=>by
  rw [Go.Sort.scanSorted]
  split
  ·rename_i h
   have hib:i < b:=by simp only [Bool.and_eq_true,decide_eq_true_eq] at h; exact h.1
   obtain ⟨h1,h2⟩:=Zf5 d b n (i+1) (by omega)
   exact ⟨by omega,fun _=>h2 (by omega)⟩
  ·exact ⟨Nat.le_refl _,fun h=>h⟩
theorem Znz (h:DAP S w s d) (hm:d.size≤1048576) {a b:Nat} (hab:a < b) (hb:b≤d.size) {K:Res [.sc .bool]→W R}
  (hk:∀ w',DAP S w' s (Go.Sort.partialInsertionSort ltP d a b).1→Fr (OwnB s) w w'→K (Go.Sort.partialInsertionSort ltP d a b).2 Q w') :
  callW Tryz.prog Zk [.slice s.a s.n s.c,.int .i64 (a:Int),.int .i64 (b:Int),.func (.func Z1) #[] #[]] [.sc .bool] K Q w:=by
 refine Z1p _ _ _ K Q w ?_
 unfold Zb
 have e1:IntKind.wrap .i64 ((a:Int)+1)=((a+1:Nat):Int):=wn (by omega) (by omega)
 have e2:IntKind.wrap .i64 ((b:Int) - (a:Int))=((b - a:Nat):Int):=wn (by omega) (by omega)
 rw [e1,e2]
 generalize hr:Go.Sort.partialInsertionSort ltP d a b=r at hk
 refine loopI (fun (st:Int × Int) w'=>∃ (i n:Nat) (e:Array Plc),st=((i:Int),5 - (n:Int))∧a < i∧i≤b∧n≤5∧DAP S w' s e∧e.size=d.size∧Go.Sort.partialIns ltP a b n i e=r∧Fr (OwnB s) w w') (fun st _=>(5 - st.2).toNat)
  ⟨a+1,5,d,rfl,by omega,by omega,by omega,h,rfl,by rw [← hr]; rfl,Fr.refl _ _⟩ ?_
 rintro st w1 ⟨i,n,e,rfl,hi,hib,hn,o1,hz,he,f1⟩
 refine condD (fun hlt=>?_) fun hge=>?_
 rotate_left
 ·have hge:¬ (5 - (n:Int)) < 5:=hge
  have:n=0:=by omega
  subst this
  have he:(e,false)=r:=he
  subst he
  exact hk w1 o1 f1
 have hlt:(5 - (n:Int)) < 5:=hlt
 obtain ⟨m,rfl⟩:∃ m,n=m+1:=⟨n - 1,by omega⟩
 have hdef:=Go.Sort.partialIns_succ (lt:=ltP) a b m i e
 have hsc:=Zf5 e b (b - i) i (Nat.le_refl _)
 refine loopI (fun q w'=>∃ q':Nat,q=(q':Int)∧i≤q'∧q'≤b∧Go.Sort.scanSorted ltP e b q'=Go.Sort.scanSorted ltP e b i∧Fr None w1 w') (fun q _=>b - q.toNat) ⟨i,rfl,Nat.le_refl _,hib,rfl,Fr.refl _ _⟩ ?_
 rintro q w2 ⟨q',rfl,hq1,hq2,heq,f2⟩
 have f2d:=f2.then0 (Fr.refl None w2).drew
 have hdq:=Go.Sort.scanSorted.eq_def ltP e b q'
 have e3:IntKind.wrap .i64 ((q':Int) - 1)=((q' - 1:Nat):Int):=wn (by omega) (by omega)
 refine joinI (fun z w'=>Fr None w1 w'∧z=(decide (q' < b) && !ltP e[q']! e[q' - 1]!)) ?_ ?_
 ·refine condD (fun h1=>?_) fun h1=>⟨f2d,?_⟩
  ·have h1:(q':Int) < (b:Int):=h1
   refine rdAP (o1.none f2d) rfl (by omega) (rdAP (o1.none f2d) e3 (by omega) (Z4v fun z0 v0 hz0 fv=>⟨f2d.then0 fv,?_⟩))
   rw [decide_eq_true (show q' < b by omega),hz0]; rfl
  ·have h1:¬ (q':Int) < (b:Int):=h1
   rw [decide_eq_false (show ¬ q' < b by omega)]; rfl
 rintro z w3 ⟨f3,hzz⟩
 rw [← hzz] at hdq
 cases z with
 | true =>
  simp only [if_true] at hdq
  have hqb:q' < b:=by
   have:=hzz.symm
   simp only [Bool.and_eq_true,decide_eq_true_eq] at this
   exact this.1
  have e4:IntKind.wrap .i64 ((q':Int)+1)=((q'+1:Nat):Int):=wn (by omega) (by omega)
  exact condT rfl ⟨⟨q'+1,e4,by omega,by omega,by rw [← hdq,heq],f3⟩,by rw [e4]; omega⟩
 | false =>
  simp only [Bool.false_eq_true,if_false] at hdq
  rw [← heq,hdq] at hdef
  refine condF rfl ?_
  have o3:=o1.none f3
  have f03:=f1.then f3.any
  refine condE (fun eqb=>?_) fun neb=>?_
  ·have eqb:q'=b:=by omega
   rw [if_pos eqb] at hdef
   have:r=(e,true):=by rw [← he,hdef]
   subst this
   exact hk w3 o3 f03
  have neb:¬ q'=b:=fun h=>neb (by rw [h])
  rw [if_neg neb] at hdef
  refine condD (fun h50=>?_) fun h50=>?_
  ·have h50:((b - a:Nat):Int) < 50:=h50
   rw [if_pos (show b - a < 50 by omega)] at hdef
   have:r=(e,false):=by rw [← he,hdef]
   subst this
   exact hk w3 o3 f03
  have h50:¬ ((b - a:Nat):Int) < 50:=h50
  rw [if_neg (show ¬ b - a < 50 by omega)] at hdef
  have fd3:Fr None w3 w3.drew:=(Fr.refl _ _).drew
  refine swpAP (o3.none fd3) rfl e3 (by omega) (by omega) fun w4 o4 f4=>?_
  have f04:=(f03.then fd3.any).then f4
  have hz4:(swp e q' (q' - 1)).size=d.size:=by rw [szsP]; exact hz
  generalize swp e q' (q' - 1)=g4 at hdef o4 hz4
  have e5:IntKind.wrap .i64 ((q':Int) - (a:Int))=((q' - a:Nat):Int):=wn (by omega) (by omega)
  have e6:IntKind.wrap .i64 ((b:Int) - (q':Int))=((b - q':Nat):Int):=wn (by omega) (by omega)
  have e7:IntKind.wrap .i64 ((q':Int)+1)=((q'+1:Nat):Int):=wn (by omega) (by omega)
  rw [e5,e6,e3,e7]
  refine joinI (fun (_:Unit) w'=>DAP S w' s (Go.Sort.fixDown ltP a q' g4)∧(Go.Sort.fixDown ltP a q' g4).size=d.size∧Fr (OwnB s) w w') ?_ ?_
  ·unfold Go.Sort.fixDown
   refine condD (fun h2=>?_) fun h2=>?_
   ·have h2:((q' - a:Nat):Int) ≥ 2:=h2
    rw [if_pos (show q' - a ≥ 2 by omega)]
    refine joinK ?_
    refine loopI (fun t w'=>∃ (k:Nat) (g:Array Plc),t=(k:Int)∧k < b∧DAP S w' s g∧g.size=d.size∧Go.Sort.shiftDown ltP k g=Go.Sort.shiftDown ltP (q' - 1) g4∧Fr (OwnB s) w w') (fun t _=>t.toNat) ⟨q' - 1,g4,rfl,by omega,o4,hz4,rfl,f04⟩ ?_
    rintro t w5 ⟨k,g,rfl,hkb,o5,hz5,he5,f5⟩
    refine condD (fun hk1=>?_) fun hk1=>?_
    ·have hk1:(k:Int) ≥ 1:=hk1
     obtain ⟨k',rfl⟩:∃ k',k=k'+1:=⟨k - 1,by omega⟩
     have e8:IntKind.wrap .i64 (((k'+1:Nat):Int) - 1)=(k':Int):=wn (by omega) (by omega)
     have fd5:Fr None w5 w5.drew:=(Fr.refl _ _).drew
     have hdf:Go.Sort.shiftDown ltP (k'+1) g=if (!ltP g[k'+1]! g[k']!)=true then g else Go.Sort.shiftDown ltP k' (swp g (k'+1) k'):=rfl
     refine rdAP (o5.none fd5) rfl (by omega) (rdAP (o5.none fd5) e8 (by omega) (Z4v fun z0 v0 hz0 fv=>?_))
     rw [hz0]
     have fd5:=fd5.then0 fv
     refine condI (fun hbb=>?_) fun hbb=>?_
     ·rw [if_pos (show (!ltP g[k'+1]! g[k']!)=true from hbb)] at hdf
      rw [← he5,hdf]
      exact ⟨o5.none fd5,hz5,f5.then fd5.any⟩
     ·rw [if_neg (show ¬ (!ltP g[k'+1]! g[k']!)=true from fun h=>by rw [show (!ltP g[k'+1]! g[k']!)=false from hbb] at h; cases h)] at hdf
      have fd6:=fd5.then0 (Fr.refl None _).drew
      refine swpAP (o5.none fd6) rfl e8 (by omega) (by omega) fun w6 o6 f6=>⟨⟨k',_,e8,by omega,o6,by rw [szsP]; exact hz5,by rw [← hdf,he5],(f5.then fd6.any).then f6⟩,by rw [e8]; omega⟩
    ·have hk1:¬ (k:Int) ≥ 1:=hk1
     have:k=0:=by omega
     subst this
     have he5:g=_:=he5
     rw [← he5]
     exact ⟨o5,hz5,f5⟩
   ·have h2:¬ ((q' - a:Nat):Int) ≥ 2:=h2
    rw [if_neg (show ¬ q' - a ≥ 2 by omega)]
    exact ⟨o4,hz4,f04⟩
  rintro _ w5 ⟨o5,hz5,f5⟩
  generalize Go.Sort.fixDown ltP a q' g4=g5 at hdef o5 hz5
  refine joinI (fun (_:Unit) w'=>DAP S w' s (Go.Sort.fixUp ltP b q' g5)∧(Go.Sort.fixUp ltP b q' g5).size=d.size∧Fr (OwnB s) w w') ?_ ?_
  ·unfold Go.Sort.fixUp
   refine condD (fun h2=>?_) fun h2=>?_
   ·have h2:((b - q':Nat):Int) ≥ 2:=h2
    rw [if_pos (show b - q' ≥ 2 by omega)]
    refine joinK ?_
    refine loopI (fun t w'=>∃ (k:Nat) (g:Array Plc),t=(k:Int)∧1≤k∧k≤b∧DAP S w' s g∧g.size=d.size∧Go.Sort.shiftUp ltP b k g=Go.Sort.shiftUp ltP b (q'+1) g5∧Fr (OwnB s) w w') (fun t _=>b - t.toNat) ⟨q'+1,g5,rfl,by omega,by omega,o5,hz5,rfl,f5⟩ ?_
    rintro t w6 ⟨k,g,rfl,hk1,hkb,o6,hz6,he6,f6⟩
    have hdf:=Go.Sort.shiftUp.eq_def ltP b k g
    refine condD (fun hlt2=>?_) fun hlt2=>?_
    ·have hlt2:(k:Int) < (b:Int):=hlt2
     rw [if_pos (show k < b by omega)] at hdf
     have e8:IntKind.wrap .i64 ((k:Int) - 1)=((k - 1:Nat):Int):=wn (by omega) (by omega)
     have fd5:Fr None w6 w6.drew:=(Fr.refl _ _).drew
     refine rdAP (o6.none fd5) rfl (by omega) (rdAP (o6.none fd5) e8 (by omega) (Z4v fun z0 v0 hz0 fv=>?_))
     rw [hz0]
     have fd5:=fd5.then0 fv
     refine condI (fun hbb=>?_) fun hbb=>?_
     ·rw [if_pos (show (!ltP g[k]! g[k - 1]!)=true from hbb)] at hdf
      rw [← he6,hdf]
      exact ⟨o6.none fd5,hz6,f6.then fd5.any⟩
     ·rw [if_neg (show ¬ (!ltP g[k]! g[k - 1]!)=true from fun h=>by rw [show (!ltP g[k]! g[k - 1]!)=false from hbb] at h; cases h)] at hdf
      have fd6:=fd5.then0 (Fr.refl None _).drew
      have e9:IntKind.wrap .i64 ((k:Int)+1)=((k+1:Nat):Int):=wn (by omega) (by omega)
      refine swpAP (o6.none fd6) rfl e8 (by omega) (by omega) fun w7 o7 f7=>⟨⟨k+1,_,e9,by omega,by omega,o7,by rw [szsP]; exact hz6,by rw [← hdf,he6],(f6.then fd6.any).then f7⟩,by rw [e9]; omega⟩
    ·have hlt2:¬ (k:Int) < (b:Int):=hlt2
     rw [if_neg (show ¬ k < b by omega)] at hdf
     rw [← he6,hdf]
     exact ⟨o6,hz6,f6⟩
   ·have h2:¬ ((b - q':Nat):Int) ≥ 2:=h2
    rw [if_neg (show ¬ b - q' ≥ 2 by omega)]
    exact ⟨o5,hz5,f5⟩
  rintro _ w6 ⟨o6,hz6,f6⟩
  have e8:IntKind.wrap .i64 (5 - ((m+1:Nat):Int)+1)=5 - (m:Int):=by rw [w64 (by omega)]; omega
  exact ⟨⟨q',m,_,by rw [e8],by omega,by omega,by omega,o6,hz6,by rw [← hdef,he],f6⟩,by
   show (5 - IntKind.wrap .i64 (5 - ((m+1:Nat):Int)+1)).toNat < (5 - (5 - ((m+1:Nat):Int))).toNat
   rw [e8]; omega⟩
end
end Go.Proofs.YtoiahhpgkoknfaaGreat
namespace Go.Proofs.YtoiahhpgkoknfaaGreat
open Go Go.RowKit Go.Proofs.YtoiahhpgkoknfaaGreat.Den
open Go.Sort (swp PermIn SortedIn)
variable {R:Type} {Q:R→World→Prop} {w:World}
section
variable {ok:Nat→Prop} {S:Nat→Prop} {s:Sl} {d:Array Plc}
theorem rdSP (h:SlT ok w plcT s d.toList) {ie:Int} {j:Nat} (hi:ie=(j:Int)) (hj:j < d.size) {K:Plc→W R} (hk:K d[j]! Q w):idxW s.a s.n 4 ie (fun a=>ld (.agg [.int .u32,.bool,.int .i32,.int .i32]) a K) Q w:=by
 refine h.get rfl hi (by simpa using hj) fun x hx=>?_
 rw [Array.getElem?_toList] at hx
 have e:d[j]! = x:=by
  rw [getElem!_pos d j hj]
  exact (Array.getElem?_eq_some_iff.1 hx).2
 rw [e] at hk
 exact hk
structure CntP (ok:Nat→Prop) (g:Nat) (s:Sl) (d:Array Plc) (w:World):Prop where
 sl:SlT ok w plcT s d.toList
 ne:∀ k,ok k→k≠g
 blk:∃ n:Int,Blk w g 3 [.int .i64 n]
theorem CntP.drew {g:Nat} (h:CntP ok g s d w) {w':World} (f:Fr None w w'):CntP ok g s d w':=⟨h.sl.fr0 f,h.ne,by obtain ⟨n,B⟩:=h.blk; exact ⟨n,B.fr f fun h=>h⟩⟩
theorem Ze2 {g:Nat} (h:CntP ok g s d w) {a b:Nat} (ha:a < d.size) (hb:b < d.size) {K:Res [.sc (.int .i64),.sc (.int .i64)]→W R}
  (hk:∀ p q w',(p=a∧q=b)∨(p=b∧q=a)→CntP ok g s d w'→Fr (fun k=>k=g) w w'→K ((p:Int),(q:Int)) Q w') :
  callW Tryz.prog Zp [.slice s.a s.n s.c,.int .i64 (a:Int),.int .i64 (b:Int),.pointer (some ⟨g,0,none⟩),.func (.func Z1) #[] #[]] [.sc (.int .i64),.sc (.int .i64)] K Q w:=by
 refine Z39 _ _ _ _ K Q w ?_
 unfold Z14
 have fd:Fr None w w.drew:=(Fr.refl _ _).drew
 have hd:=h.drew fd
 refine rdSP hd.sl rfl hb (rdSP hd.sl rfl ha (Z4v fun z0 v0 hz0 fv=>?_))
 rw [hz0]
 have hd:=hd.drew fv
 have fd:=fd.then0 fv
 refine condI (fun _=>?_) fun _=>hk a b _ (.inl ⟨rfl,rfl⟩) hd fd.any
 obtain ⟨n,B⟩:=hd.blk
 refine ptrI (fld0 (i:=0) (x:=n) B rfl ?_)
 refine ptrI (stoAll B rfl rfl fun w2 B2 f2 s2=>?_)
 refine hk b a w2 (.inr ⟨rfl,rfl⟩) ⟨hd.sl.fr f2 fun k hk e=>hd.ne k hk e,hd.ne,_,B2⟩ (fd.any.then f2)
theorem Zj1 {g:Nat} (h:CntP ok g s d w) {a b c:Nat} (ha:a < d.size) (hb:b < d.size) (hc:c < d.size) {K:Res [.sc (.int .i64)]→W R}
  (hk:∀ p w',(p=a∨p=b∨p=c)→CntP ok g s d w'→Fr (fun k=>k=g) w w'→K (p:Int) Q w') :
  callW Tryz.prog Z1k [.slice s.a s.n s.c,.int .i64 (a:Int),.int .i64 (b:Int),.int .i64 (c:Int),.pointer (some ⟨g,0,none⟩),.func (.func Z1) #[] #[]] [.sc (.int .i64)] K Q w:=by
 refine Z38 _ _ _ _ _ K Q w ?_
 unfold Z13
 refine Ze2 h ha hb fun p q w1 h1 c1 f1=>?_
 refine Ze2 c1 (a:=q) (b:=c) (by omega) hc fun p2 q2 w2 h2 c2 f2=>?_
 refine Ze2 c2 (a:=p) (b:=p2) (by omega) (by omega) fun p3 q3 w3 h3 c3 f3=>?_
 exact hk q3 w3 (by omega) c3 ((f1.then f2).then f3)
theorem Z9y {g:Nat} (h:CntP ok g s d w) (hm:d.size≤1048576) {a:Nat} (ha:1≤a) (hb:a+1 < d.size) {K:Res [.sc (.int .i64)]→W R}
  (hk:∀ p w',(p=a - 1∨p=a∨p=a+1)→CntP ok g s d w'→Fr (fun k=>k=g) w w'→K (p:Int) Q w') :
  callW Tryz.prog Z8 [.slice s.a s.n s.c,.int .i64 (a:Int),.pointer (some ⟨g,0,none⟩),.func (.func Z1) #[] #[]] [.sc (.int .i64)] K Q w:=by
 refine Z26 _ _ _ K Q w ?_
 unfold Ze
 rw [show IntKind.wrap .i64 ((a:Int) - 1)=((a - 1:Nat):Int) from wn (by omega) (by omega),show IntKind.wrap .i64 ((a:Int)+1)=((a+1:Nat):Int) from wn (by omega) (by omega)]
 exact Zj1 h (by omega) (by omega) (by omega) hk
theorem Zqt (h:DAP S w s d) (hm:d.size≤1048576) {a b:Nat} (hab:a < b) (hb:b≤d.size) {K:Res [.sc (.int .i64),.sc (.int .i64)]→W R}
  (hk:∀ (p:Nat) (z:Int) w',a≤p→p < b→Fr None w w'→K ((p:Int),z) Q w') :
  callW Tryz.prog Z1q [.slice s.a s.n s.c,.int .i64 (a:Int),.int .i64 (b:Int),.func (.func Z1) #[] #[]] [.sc (.int .i64),.sc (.int .i64)] K Q w:=by
 refine Z2j _ _ _ K Q w ?_
 unfold Zm
 have e1:IntKind.wrap .i64 ((b:Int) - (a:Int))=((b - a:Nat):Int):=wn (by omega) (by omega)
 have e2:IntKind.wrap .i64 (Int.tdiv ((b - a:Nat):Int) 4)=(((b - a) / 4:Nat):Int):=wn (by rw [Int.tdiv_eq_ediv_of_nonneg (by omega)]; omega) (by omega)
 have e3:∀ n:Nat,n≤3→IntKind.wrap .i64 ((a:Int)+IntKind.wrap .i64 ((((b - a) / 4:Nat):Int) * (n:Int)))=((a+(b - a) / 4 * n:Nat):Int):=fun n hn=>by
  have h1:(b - a) / 4 * n≤(b - a) / 4 * 3:=Nat.mul_le_mul_left _ hn
  rw [wn (x:=(((b - a) / 4:Nat):Int) * (n:Int)) (n:=(b - a) / 4 * n) (by push_cast; rfl) (by omega)]
  exact wn (by push_cast; rfl) (by omega)
 have i1:=e3 1 (by omega)
 have i2:=e3 2 (by omega)
 have i3:=e3 3 (by omega)
 rw [e1,e2]
 rw [show (((1:Nat):Int))=1 from rfl] at i1
 rw [show (((2:Nat):Int))=2 from rfl] at i2
 rw [show (((3:Nat):Int))=3 from rfl] at i3
 rw [i1,i2,i3]
 have j1:a≤a+(b - a) / 4 * 1∧a+(b - a) / 4 * 1 < b:=by omega
 have j2:a≤a+(b - a) / 4 * 2∧a+(b - a) / 4 * 2 < b:=by omega
 have j3:a≤a+(b - a) / 4 * 3∧a+(b - a) / 4 * 3 < b:=by omega
 have k1:50≤b - a→1≤a+(b - a) / 4 * 1∧a+(b - a) / 4 * 1 - 1 ≥ a∧a+(b - a) / 4 * 1+1 < b:=by omega
 have k2:50≤b - a→1≤a+(b - a) / 4 * 2∧a+(b - a) / 4 * 2 - 1 ≥ a∧a+(b - a) / 4 * 2+1 < b:=by omega
 have k3:50≤b - a→1≤a+(b - a) / 4 * 3∧a+(b - a) / 4 * 3 - 1 ≥ a∧a+(b - a) / 4 * 3+1 < b:=by omega
 generalize a+(b - a) / 4 * 1=A1 at j1 k1
 generalize a+(b - a) / 4 * 2=A2 at j2 k2
 generalize a+(b - a) / 4 * 3=A3 at j3 k3
 clear i1 i2 i3 e3
 have hsl:SlT (fun k=>k < w.heap.size) w plcT s d.toList:=h.sl.mono fun k hk _=>hk
 refine newI fun w1 B1 f1 s1=>?_
 have hc:CntP (fun k=>k < w.heap.size) w.heap.size s d w1:=⟨hsl.fr0 f1,fun k hk=>by omega,0,B1⟩
 refine joinI (fun (p:Int) w'=>∃ q:Nat,p=(q:Int)∧a≤q∧q < b∧CntP (fun k=>k < w.heap.size) w.heap.size s d w'∧Fr (fun k=>k=w.heap.size) w1 w') ?_ ?_
 ·refine condD (fun h8=>?_) fun h8=>⟨A2,rfl,j2.1,j2.2,hc,Fr.refl _ _⟩
  have h8:((b - a:Nat):Int) ≥ 8:=h8
  refine joinI (fun (t:Int × Int × Int) w'=>∃ x y z:Nat,t=((x:Int),(y:Int),(z:Int))∧(a≤x∧x < b)∧(a≤y∧y < b)∧(a≤z∧z < b)∧CntP (fun k=>k < w.heap.size) w.heap.size s d w'∧Fr (fun k=>k=w.heap.size) w1 w') ?_ ?_
  ·refine condD (fun h50=>?_) fun h50=>⟨A1,A2,A3,rfl,j1,j2,j3,hc,Fr.refl _ _⟩
   have h50:((b - a:Nat):Int) ≥ 50:=h50
   have k1:=k1 (by omega)
   have k2:=k2 (by omega)
   have k3:=k3 (by omega)
   refine Z9y hc hm (by omega) (by omega) fun x w2 h2 c2 f2=>?_
   refine Z9y c2 hm (by omega) (by omega) fun y w3 h3 c3 f3=>?_
   refine Z9y c3 hm (by omega) (by omega) fun z w4 h4 c4 f4=>?_
   exact ⟨x,y,z,rfl,by omega,by omega,by omega,c4,(f2.then f3).then f4⟩
  ·rintro t w2 ⟨x,y,z,rfl,h1,h2,h3,c2,f2⟩
   refine Zj1 c2 (a:=x) (b:=y) (c:=z) (by omega) (by omega) (by omega) fun p w3 h4 c3 f3=>⟨p,rfl,by omega,by omega,c3,f2.then f3⟩
 ·rintro p w2 ⟨q,rfl,h1,h2,c2,f2⟩
  obtain ⟨n,B⟩:=c2.blk
  have fin:Fr None w w2:=f1.newer f2 fun k e=>by omega
  refine fld0 (i:=0) (x:=n) B rfl ?_
  exact condI (fun _=>hk q 1 w2 h1 h2 fin) fun _=>condI (fun _=>hk q 2 w2 h1 h2 fin) fun _=>hk q 0 w2 h1 h2 fin
theorem Zqq (h:DAP S w s d) (hm:d.size≤1048576) {a b:Nat} (hab:a < b) (hb:b≤d.size) {K:Res []→W R} (hk:∀ d' w',DAP S w' s d'→PermIn a b d d'→Fr (OwnB s) w w'→K () Q w') :
  callW Tryz.prog Z1c [.slice s.a s.n s.c,.int .i64 (a:Int),.int .i64 (b:Int),.func (.func Z1) #[] #[]] [] K Q w:=by
 refine Z2d _ _ _ K Q w ?_
 unfold Zh
 have e1:IntKind.wrap .i64 ((b:Int) - (a:Int))=((b - a:Nat):Int):=wn (by omega) (by omega)
 rw [e1]
 have e2:IntKind.wrap .i64 (Int.tdiv ((b - a:Nat):Int) 4)=(((b - a) / 4:Nat):Int):=wn (by rw [Int.tdiv_eq_ediv_of_nonneg (by omega)]; omega) (by omega)
 have e3:IntKind.wrap .i64 ((((b - a) / 4:Nat):Int) * 2)=(((b - a) / 4 * 2:Nat):Int):=wn (by push_cast; rfl) (by omega)
 have e4:IntKind.wrap .i64 ((a:Int)+(((b - a) / 4 * 2:Nat):Int))=((a+(b - a) / 4 * 2:Nat):Int):=wn (by push_cast; rfl) (by omega)
 have e5:IntKind.wrap .i64 (((a+(b - a) / 4 * 2:Nat):Int)+1)=((a+(b - a) / 4 * 2+1:Nat):Int):=wn (by push_cast; rfl) (by omega)
 rw [e2,e3,e4,e5]
 refine joinI (fun (_:Unit) w'=>∃ d',DAP S w' s d'∧PermIn a b d d'∧Fr (OwnB s) w w') ?_ fun _ w' ⟨d',o,p,f⟩=>hk d' w' o p f
 refine condD (fun h8=>?_) fun h8=>⟨d,h,Go.Sort.permIn_refl _ _ _,Fr.refl _ _⟩
 have h8:((b - a:Nat):Int) ≥ 8:=h8
 have e6:IntKind.wrap .i64 (((a+(b - a) / 4 * 2:Nat):Int) - 1)=((a+(b - a) / 4 * 2 - 1:Nat):Int):=wn (by omega) (by omega)
 rw [e6]
 refine newI fun w1 B1 f1 s1=>stoAll B1 rfl rfl fun w2 B2 f2 s2=>?_
 have f02:Fr None w w2:=f1.newer f2 fun k e=>by omega
 refine Z69 _ _ _ w2 ?_
 unfold Z3y
 have e7:IntKind.wrap .u64 ((b - a:Nat):Int)=((b - a:Nat):Int):=by rw [IntKind.wrap_u64]; omega
 rw [e7]
 refine Z8x (by omega) (by omega) (chkI (by omega) ?_)
 rw [Int.toNat_natCast]
 obtain ⟨l1,l2,l3⟩:=Zmp (n:=b - a) (by omega) (by omega)
 generalize hL:Lib.bitLen (b - a)=L at l1 l2 l3
 have e8:shL .u64 1 (L:Int)=((2 ^ L:Nat):Int):=by
  unfold shL
  rw [Int.toNat_natCast,show min L IntKind.u64.bits=L from Nat.min_eq_left (by show L≤64; omega),IntKind.wrap_u64]
  have:(1:Int) * 2 ^ L=((2 ^ L:Nat):Int):=by rw [Int.one_mul]; push_cast; rfl
  rw [this]
  generalize 2 ^ L=M at l3
  omega
 rw [e8]
 have hpos:0 < 2 ^ L:=Nat.pow_pos (by omega)
 generalize 2 ^ L=M at l3 hpos
 have e9:IntKind.wrap .u64 ((M:Int) - 1)=(M:Int) - 1:=by rw [IntKind.wrap_u64]; omega
 unfold retW
 dsimp only
 rw [e9]
 have o2:DAP (fun k=>S k∧k < w.heap.size) w2 s d:=Den.Own.st h f02 fun k hk e=>⟨fun h=>h,e,hk⟩
 refine loopI (fun i w'=>∃ (n:Nat) (e:Array Plc),i=(n:Int)∧a+(b - a) / 4 * 2 - 1≤n∧n≤a+(b - a) / 4 * 2+2∧(∃ v:Int,Blk w' w.heap.size 344 [.int .u64 v])∧DAP (fun k=>S k∧k < w.heap.size) w' s e∧PermIn a b d e∧Fr (fun k=>OwnB s k∨k=w.heap.size) w2 w') (fun i _=>a+(b - a) / 4 * 2+2 - i.toNat)
  ⟨_,d,rfl,Nat.le_refl _,by omega,⟨_,B2⟩,o2,Go.Sort.permIn_refl _ _ _,Fr.refl _ _⟩ ?_
 rintro i w3 ⟨n,e,rfl,hn1,hn2,⟨v,B3⟩,o3,hp,f3⟩
 have hz:=hp.1
 refine condD (fun hle=>?_) fun hgt=>?_
 ·have hle:(n:Int)≤((a+(b - a) / 4 * 2+1:Nat):Int):=hle
  refine Zht B3 fun x w4 B4 f4=>?_
  have o4:DAP (fun k=>S k∧k < w.heap.size) w4 s e:=o3.fr f4 fun k hk e=>by omega
  obtain ⟨g1,g2⟩:=Zst (x:=x) (y:=(M:Int) - 1) (by omega) (by omega)
  generalize bAnd .u64 x ((M:Int) - 1)=y at g1 g2
  have ey:IntKind.wrap .i64 y=y:=w64 (by omega)
  rw [ey]
  refine joinI (fun (z:Int) w'=>w'=w4∧∃ q:Nat,z=(q:Int)∧q < b - a) ?_ ?_
  ·refine condD (fun h1=>⟨rfl,(y - ((b - a:Nat):Int)).toNat,?_,?_⟩) fun h1=>⟨rfl,y.toNat,by omega,?_⟩
   ·have h1:y ≥ ((b - a:Nat):Int):=h1
    rw [w64 (by omega)]; omega
   ·have h1:y ≥ ((b - a:Nat):Int):=h1
    omega
   ·have h1:¬ y ≥ ((b - a:Nat):Int):=h1
    omega
  ·rintro z w5 ⟨rfl,q,rfl,hq⟩
   have fd:Fr None w5 w5.drew:=(Fr.refl _ _).drew
   have e10:IntKind.wrap .i64 ((a:Int)+(q:Int))=((a+q:Nat):Int):=wn (by push_cast; rfl) (by omega)
   refine swpAP (o4.none fd) rfl e10 (by omega) (by omega) fun w6 o6 f6=>?_
   have e11:IntKind.wrap .i64 ((n:Int)+1)=((n+1:Nat):Int):=wn (by push_cast; rfl) (by omega)
   refine ⟨⟨n+1,_,e11,by omega,by omega,⟨x,(B4.fr fd fun h=>h).fr f6 fun hk=>?_⟩,o6,Go.Sort.permIn_trans _ _ _ _ _ hp (Go.Sort.swp_permIn _ _ _ _ _ (by omega) (by omega) (by omega) (by omega) (by omega)),?_⟩,by rw [e11]; omega⟩
   ·have:=(o4.own _ hk).2; omega
   ·exact ((f3.then (f4.sub fun k e=>.inr e)).then fd.any).then (f6.sub fun k e=>.inl e)
 ·refine ⟨e,o3.mono fun k _ h=>h.1,hp,?_⟩
  refine f02.trans f3 (fun _ h=>h.elim) fun k hk e=>?_
  rcases e with e | e
  ·exact e
  ·omega
end
end Go.Proofs.YtoiahhpgkoknfaaGreat
namespace Go.Proofs.YtoiahhpgkoknfaaGreat
open Go Go.RowKit Go.Proofs.YtoiahhpgkoknfaaGreat.Den
open Go.Sort (swp PermIn SortedIn)
set_option maxHeartbeats 1000000 in
theorem Zu7 (n:Nat):∀ {R:Type} {Q:R→World→Prop} {w:World} {S:Nat→Prop} {s:Sl} {d:Array Plc} {a b:Nat} {limit:Int} {K:Res []→W R} (_h:DAP S w s d) (_hm:d.size≤1048576) (_hab:a≤b) (_hb:b≤d.size) (_hB:Go.Sort.Below ltP a b d) (_hn:b - a≤n)
  (_hk:∀ d' w',DAP S w' s d'→PermIn a b d d'→SortedIn ltP a b d'→Fr (OwnB s) w w'→K () Q w'),
  callW Tryz.prog Zl [.slice s.a s.n s.c,.int .i64 (a:Int),.int .i64 (b:Int),.int .i64 limit,.func (.func Z1) #[] #[]] [] K Q w:=by
 induction n using Nat.strongRecOn with
 | _ n ih =>
 intro R Q w S s d a b limit K h hm hab hb hB hn hk
 refine Z34 _ _ _ _ K Q w ?_
 unfold Zz
 refine loopI (fun st w'=>∃ (a' b':Nat) (d':Array Plc),st.1=(a':Int)∧st.2.1=(b':Int)∧a≤a'∧a'≤b'∧b'≤b∧DAP S w' s d'∧d'.size=d.size∧Go.Sort.Below ltP a' b' d' ∧
  (∀ X,PermIn a' b' d' X→SortedIn ltP a' b' X→PermIn a b d X∧SortedIn ltP a b X)∧Fr (OwnB s) w w') (fun st _=>(st.2.1 - st.1).toNat) ⟨a,b,d,rfl,rfl,Nat.le_refl _,hab,Nat.le_refl _,h,rfl,hB,fun X h1 h2=>⟨h1,h2⟩,Fr.refl _ _⟩ ?_
 rintro ⟨sa,sb,lim,wb,wp⟩ w1 ⟨a',b',d',e1,e2,ha,hab',hb',o1,hz,hB1,cl,f1⟩
 dsimp only at e1 e2 ⊢
 subst e1; subst e2
 have em:IntKind.wrap .i64 ((b':Int) - (a':Int))=((b' - a':Nat):Int):=wn (by omega) (by omega)
 rw [em]
 refine joinK (condD (fun h12=>?_) fun h12=>?_)
 ·refine Zu5 o1 (by omega) hab' (by omega) fun w2 o2 f2=>?_
  obtain ⟨p1,p2⟩:=Go.Sort.insertionSort_holds swoP d' a' b' hab' (by omega)
  obtain ⟨q1,q2⟩:=cl _ p1 p2
  exact hk _ w2 o2 q1 q2 (f1.then f2)
 have h12:¬ ((b' - a':Nat):Int)≤12:=h12
 have hlt:a' < b':=by omega
 refine condI (fun _=>?_) fun _=>?_
 ·refine Zsj o1 (by omega) hlt (by omega) fun w2 o2 f2=>?_
  obtain ⟨p1,p2⟩:=Go.Sort.heapSort_holds swoP d' a' b' hab' (by omega)
  obtain ⟨q1,q2⟩:=cl _ p1 p2
  exact hk _ w2 o2 q1 q2 (f1.then f2)
 refine joinI (fun (_:Int) w'=>∃ e,DAP S w' s e∧PermIn a' b' d' e∧Fr (OwnB s) w w') ?_ ?_
 ·refine condI (fun _=>?_) fun _=>⟨d',o1,Go.Sort.permIn_refl _ _ _,f1⟩
  exact Zqq o1 (by omega) hlt (by omega) fun e w2 o2 p2 f2=>⟨e,o2,p2,f1.then f2⟩
 rintro lim2 w2 ⟨e,o2,p2,f2⟩
 have hz2:=p2.1
 refine Zqt o2 (by omega) hlt (by omega) fun p z w3 hp1 hp2 f3=>?_
 have f03:=f2.then f3.any
 have o3:=o2.none f3
 refine joinI (fun (t:Int × Int) w'=>∃ (q:Nat) (e:Array Plc),t.1=(q:Int)∧a'≤q∧q < b'∧DAP S w' s e∧PermIn a' b' d' e∧Fr (OwnB s) w w') ?_ ?_
 ·refine condI (fun _=>?_) fun _=>⟨p,e,rfl,hp1,hp2,o3,p2,f03⟩
  refine Zo2 o3 (by omega) hlt (by omega) fun g w4 o4 p4 f4=>⟨(b' - 1) - (p - a'),g,?_,by omega,by omega,o4,Go.Sort.permIn_trans _ _ _ _ _ p2 p4,f03.then f4⟩
  show IntKind.wrap .i64 (IntKind.wrap .i64 ((b':Int) - 1) - IntKind.wrap .i64 ((p:Int) - (a':Int)))=_
  rw [wn (x:=(b':Int) - 1) (n:=b' - 1) (by omega) (by omega),wn (x:=(p:Int) - (a':Int)) (n:=p - a') (by omega) (by omega)]
  exact wn (by omega) (by omega)
 rintro ⟨t1,t2⟩ w4 ⟨q,g,et,hq1,hq2,o4,p4,f4⟩
 dsimp only at et ⊢
 subst et
 have hz4:=p4.1
 refine joinI (fun (_:Bool) w'=>w'=w4) ?_ ?_
 ·exact condI (fun _=>condI (fun _=>rfl) fun _=>rfl) fun _=>rfl
 rintro z14 w5 rfl
 have hB4:Go.Sort.Below ltP a' b' g:=hB1.perm (by omega) p4
 refine joinI (fun (_:Unit) w'=>∃ e,DAP S w' s e∧PermIn a' b' d' e∧Fr (OwnB s) w w') ?_ ?_
 ·refine condI (fun _=>?_) fun _=>⟨g,o4,p4,f4⟩
  refine Znz o4 (by omega) hlt (by omega) fun w6 o6 f6=>?_
  obtain ⟨c1,c2⟩:=Go.Sort.partialInsertionSort_holds swoP g a' b' hlt (by omega) hB4
  have c3:=Go.Sort.permIn_trans _ _ _ _ _ p4 c1
  refine condI (fun hx=>?_) fun _=>⟨_,o6,c3,f4.then f6⟩
  obtain ⟨q1,q2⟩:=cl _ c3 (c2 hx)
  exact hk _ w6 o6 q1 q2 (f4.then f6)
 rintro _ w6 ⟨u,o6,p6,f6⟩
 have hz6:=p6.1
 have hB6:Go.Sort.Below ltP a' b' u:=hB1.perm (by omega) p6
 refine joinI (fun z w'=>Fr None w6 w'∧(z=true→0 < a'∧ltP u[a' - 1]! u[q]! = false)) ?_ ?_
 ·have fd:Fr None w6 w6.drew:=(Fr.refl _ _).drew
  refine condD (fun h0=>?_) fun _=>⟨fd,fun h=>by cases h⟩
  have h0:(a':Int) > 0:=h0
  refine rdAP (o6.none fd) (j:=a' - 1) (wn (by omega) (by omega)) (by omega) (rdAP (o6.none fd) rfl (by omega) (Z4v fun z0 v0 hz0 fv=>⟨fd.then0 fv,fun h=>⟨by omega,?_⟩⟩))
  rw [hz0] at h
  simpa using h
 rintro z24 w7 ⟨f7,hz24⟩
 have o7:=o6.none f7
 have f07:=f6.then f7.any
 refine condI (fun hz=>?_) fun _=>?_
 ·obtain ⟨h0,hnl⟩:=hz24 hz
  refine Zp9 o7 (by omega) hq1 hq2 (by omega) fun w8 o8 f8=>?_
  obtain ⟨r1,r2,r3,r4,r5⟩:=Go.Sort.round_eq (d4:=(Go.Sort.partitionEqual ltP u a' b' q).2) (mid:=(Go.Sort.partitionEqual ltP u a' b' q).1) swoP (Go.Sort.partitionEqual_holds ltP) h0 hq1 hq2 (by omega) hB6 hnl rfl
  generalize (Go.Sort.partitionEqual ltP u a' b' q).1=mid at r1 r2 r4 r5 ⊢
  generalize (Go.Sort.partitionEqual ltP u a' b' q).2=v at o8 r3 r4 r5
  refine ⟨⟨mid,b',v,rfl,rfl,by omega,by omega,hb',o8,by omega,r4,fun X x1 x2=>?_,f07.then f8⟩,?_⟩
  ·obtain ⟨y1,y2⟩:=r5 X x1 x2
   exact cl X (Go.Sort.permIn_trans _ _ _ _ _ p6 y1) y2
  ·show ((b':Int) - (mid:Int)).toNat < ((b':Int) - (a':Int)).toNat
   omega
 ·refine Zsk o7 (by omega) hq1 hq2 (by omega) fun w8 o8 f8=>?_
  obtain ⟨r1,r2,r3,r4,r5,r6,r7⟩:=Go.Sort.round_part (d4:=(Go.Sort.partition ltP u a' b' q).2.2) (ap:=(Go.Sort.partition ltP u a' b' q).2.1) (mid:=(Go.Sort.partition ltP u a' b' q).1) swoP (Go.Sort.partition_holds ltP) hq1 hq2 (by omega) hB6 rfl
  generalize (Go.Sort.partition ltP u a' b' q).1=mid at r1 r2 r4 r5 r6 r7 ⊢
  generalize (Go.Sort.partition ltP u a' b' q).2.1=ap at ⊢
  generalize (Go.Sort.partition ltP u a' b' q).2.2=v at o8 r3 r4 r5 r6 r7
  have f08:=f07.then f8
  have e3:IntKind.wrap .i64 ((mid:Int)+1)=((mid+1:Nat):Int):=wn (by omega) (by omega)
  dsimp only
  rw [e3]
  refine joinI (fun (t:Int × Int × Bool) w'=>∃ (a2 b2:Nat) (X:Array Plc),t.1=(a2:Int)∧t.2.1=(b2:Int)∧a'≤a2∧a2≤b2∧b2≤b'∧b2 - a2 < b' - a'∧DAP S w' s X∧X.size=d.size∧Go.Sort.Below ltP a2 b2 X ∧
   (∀ Y,PermIn a2 b2 X Y→SortedIn ltP a2 b2 Y→PermIn a b d Y∧SortedIn ltP a b Y)∧Fr (OwnB s) w w') ?_ ?_
  ·refine condD (fun _=>?_) fun _=>?_
   ·refine ih (mid - a') (by omega) o8 (by omega) r1 (by omega) r4 (Nat.le_refl _) fun L w9 o9 p9 s9 f9=>?_
    obtain ⟨y1,y2⟩:=r6 L p9 s9
    have:=p9.1
    refine ⟨mid+1,b',L,rfl,rfl,by omega,by omega,by omega,by omega,o9,by omega,y1,fun Y z1 z2=>?_,f08.then f9⟩
    obtain ⟨x1,x2⟩:=y2 Y z1 z2
    exact cl Y (Go.Sort.permIn_trans _ _ _ _ _ p6 x1) x2
   ·refine ih (b' - (mid+1)) (by omega) o8 (by omega) (by omega) (by omega) r5 (Nat.le_refl _) fun L w9 o9 p9 s9 f9=>?_
    obtain ⟨y1,y2⟩:=r7 L p9 s9
    have:=p9.1
    refine ⟨a',mid,L,rfl,rfl,by omega,by omega,by omega,by omega,o9,by omega,y1,fun Y z1 z2=>?_,f08.then f9⟩
    obtain ⟨x1,x2⟩:=y2 Y z1 z2
    exact cl Y (Go.Sort.permIn_trans _ _ _ _ _ p6 x1) x2
  ·rintro ⟨t1,t2,t3⟩ w9 ⟨a2,b2,X,e4,e5,h1,h2,h3,h4,o9,hz9,hB9,cl9,f9⟩
   dsimp only at e4 e5 ⊢
   subst e4; subst e5
   refine ⟨⟨a2,b2,X,rfl,rfl,by omega,h2,by omega,o9,hz9,hB9,cl9,f9⟩,?_⟩
   show ((b2:Int) - (a2:Int)).toNat < ((b':Int) - (a':Int)).toNat
   omega
section
variable {R:Type} {Q:R→World→Prop} {w:World} {S:Nat→Prop} {s:Sl} {l:List Plc}
theorem Zlv (h:Den.Own S w 45 plcT s l) (hm:l.length≤1048576) {K:Res []→W R} (hk:∀ l' w',Den.Own S w' 45 plcT s l'→l'.Perm l→(l'.Pairwise fun a b=>a.1≤b.1)→Fr (OwnB s) w w'→K () Q w') :
  callW Tryz.prog Z46 [.slice s.a s.n s.c,.func (.func Z1) #[] #[]] [] K Q w:=by
 have hn:s.n=l.length:=h.len
 refine Z3w _ K Q w ?_
 unfold Z1o
 have e:IntKind.wrap .u64 (s.n:Int)=(s.n:Int):=by rw [IntKind.wrap_u64]; omega
 rw [e]
 refine Z8x (by omega) (by omega) ?_
 have hd:DAP S w s l.toArray:=h
 have es:(s.n:Int)=((l.toArray.size:Nat):Int):=by rw [hn]; simp
 rw [es]
 refine Zu7 l.toArray.size (a:=0) (b:=l.toArray.size) hd (by simpa using hm) (Nat.zero_le _) (Nat.le_refl _) (.inl rfl) (Nat.le_refl _) fun d' w' o p sr f=>?_
 refine hk d'.toList w' o ?_ ?_ f
 ·have:=p.2.2
  have e2:d'.extract 0 l.toArray.size=d':=by rw [← p.1]; simp
  rw [e2] at this
  simpa using this
 ·rw [List.pairwise_iff_getElem]
  intro i j hi hj hij
  have hz:=p.1
  simp only [Array.length_toList] at hi hj
  have:=sr i j (Nat.zero_le _) hij (by omega)
  rw [getElem!_pos d' j hj,getElem!_pos d' i hi] at this
  simp only [ltP,decide_eq_false_iff_not] at this
  simp only [Array.getElem_toList]
  exact Int.not_lt.1 this
end
end Go.Proofs.YtoiahhpgkoknfaaGreat
namespace Go.Proofs.YtoiahhpgkoknfaaGreat
open Go Go.RowKit Go.Proofs.YtoiahhpgkoknfaaGreat.Den
variable {R:Type} {Q:R→World→Prop} {w:World}
def EntsAt (n:Nat) (r:Sl) (L:List Ent) (w:World):Prop:=∃ raws,Den.Own (Up n) w 49 entT r raws∧EntsR (fun k=>n≤k∧r.v.ownBlock≠some k) w raws L
theorem EntsAt.nil (n:Nat) (w:World):EntsAt n ⟨none,0,0⟩ [] w:=⟨[],Den.Own.nil _ _ _ _,EntsR.nil _ _⟩
theorem EntsAt.none {n:Nat} {r:Sl} {L:List Ent} {w':World} (h:EntsAt n r L w) (f:Fr None w w'):EntsAt n r L w':=by
 obtain ⟨raws,o,E⟩:=h
 exact ⟨raws,o.none f,E.fr f fun _ _ h=>h⟩
theorem EntsAt.fr {n:Nat} {r:Sl} {L:List Ent} {S:Nat→Prop} {w':World} (h:EntsAt n r L w) (f:Fr S w w') (hS:∀ k,n≤k→¬ S k):EntsAt n r L w':=by
 obtain ⟨raws,o,E⟩:=h
 exact ⟨raws,o.fr f fun k e=>hS k e,E.fr f fun k e=>hS k e.1⟩
theorem EntsAt.down {n m:Nat} {r:Sl} {L:List Ent} (h:EntsAt n r L w) (hm:m≤n):EntsAt m r L w:=by
 obtain ⟨raws,o,E⟩:=h
 exact ⟨raws,o.mono fun k _ e=>Nat.le_trans hm e,E.mono fun k _ e=>⟨Nat.le_trans hm e.1,e.2⟩⟩
theorem EntsAt.ents {n:Nat} {r:Sl} {L:List Ent} (h:EntsAt n r L w):∃ raws,Den.Own (Up n) w 49 entT r raws∧EntsR (Up n) w raws L:=by
 obtain ⟨raws,o,E⟩:=h
 exact ⟨raws,o,E.mono fun k _ e=>e.1⟩
theorem EntsAt.len {n:Nat} {r:Sl} {L:List Ent} (h:EntsAt n r L w):r.n=L.length:=by
 obtain ⟨raws,o,E⟩:=h
 rw [o.len,E.len]
theorem EntsAt.row {n:Nat} {r:Sl} {L:List Ent} (h:EntsAt n r L w):∀ k,r.v.ownBlock=some k→n≤k∧k < w.heap.size:=by
 obtain ⟨raws,o,E⟩:=h
 exact fun k e=>⟨o.own k e,(o.row.lt k e).2⟩
theorem EntsAt.app {n:Nat} {out:Sl} {L:List Ent} (h:EntsAt n out L w) (hn:n≤w.heap.size) (hl:L.length≤1048576) {id:Int} {s:Sl} {l:List Comp} (hs:SlT (fun k=>n≤k∧out.v.ownBlock≠some k) w compT s l) {K:Sl→W R}
  (hk:∀ r w',EntsAt n r (L ++ [(id,l)]) w'→Fr (fun k=>out.v.ownBlock=some k) w w'→K r Q w') :
  newW 49 [.int .u32 id,.slice s.a s.n s.c] (fun a=>rawW Tryz.prog (Builtin.append_ #[46,46] 46 #[.slice out.a out.n out.c,.slice (some a) 1 1]) [.sc .sl] K) Q w:=by
 obtain ⟨raws,o,E⟩:=h
 have hel:=E.len
 have hm:raws.length≤1048576:=by omega
 refine appF Zk9 (x:=((id,s):Int × Sl)) rfl o hn (Nat.le_trans (Nat.mul_le_mul_right 32 (Nat.succ_le_succ hm)) (by decide)) (Nat.le_trans (Nat.succ_le_succ hm) (by decide)) fun r w' o' f ro=>hk r w' ⟨raws ++ [(id,s)],o',?_⟩ f
 have key:∀ k,k < w.heap.size→(n≤k∧out.v.ownBlock≠some k)→n≤k∧r.v.ownBlock≠some k:=fun k hk e=>⟨e.1,fun e2=>by
  rcases ro k e2 with h | h
  ·exact e.2 h
  ·omega⟩
 have E':EntsR (fun k=>n≤k∧r.v.ownBlock≠some k) w' raws L:=((E.mono (ok':=fun k=>(n≤k∧out.v.ownBlock≠some k)∧k < w.heap.size) fun k hk e=>⟨e,hk⟩).fr f fun k e e2=>e.1.2 e2).mono fun k _ e=>key k e.2 e.1
 have s':SlT (fun k=>n≤k∧r.v.ownBlock≠some k) w' compT s l:=((hs.mono (ok':=fun k=>(n≤k∧out.v.ownBlock≠some k)∧k < w.heap.size) fun k hk e=>⟨e,hk⟩).fr f fun k e e2=>e.1.2 e2).mono fun k _ e=>key k e.2 e.1
 exact E'.snoc rfl s'
end Go.Proofs.YtoiahhpgkoknfaaGreat
namespace Go.Proofs.YtoiahhpgkoknfaaGreat
open Go Go.RowKit Go.Proofs.YtoiahhpgkoknfaaGreat.Den
variable {R:Type} {Q:R→World→Prop} {w:World}
def keV (q:Key):Value:=.agg ⟨[.int .u32 q.1,.int .u8 q.2]⟩
def seenV (p:Comp × Int):Value:=.agg ⟨[.int .u8 p.1.1,.int .i32 p.1.2.1,.int .i32 p.1.2.2.1,.int .i32 p.1.2.2.2,.int .u32 p.2]⟩
def mapV (f:Key→Option (Comp × Int)):Key→Option Value:=fun q=>(f q).map seenV
theorem Zqe:∀ i j,keV i=keV j→i=j:=by
 rintro ⟨a,b⟩ ⟨c,d⟩ h
 simp only [keV,Value.agg.injEq,Array.mk.injEq,List.cons.injEq,Value.int.injEq,and_true,true_and] at h
 rw [h.1,h.2]
theorem Zjo:Tryz.prog.underlying 124=some (.map 140 138):=by kernel_rfl
theorem Zp5:(Tryz.prog.info? 138).bind (·.zero)=some (seenV ((0,0,0,0),0)):=by kernel_rfl
theorem Zki:Go.Maps.Keyed Tryz.prog 140:=Go.Maps.Keyed.of_law (deep_law_laid laid_out (m:=2) (by omega) (of_decide_eq_true (by kernel_rfl)) (by kernel_rfl) (by kernel_rfl))
theorem Zqf {q:Key} (h1:IdOk q.1) (h2:0≤q.2∧q.2≤255):∃ l,keyOf Tryz.prog 140 (keV q)=some l:=by
 have w1:(Lit.int .u32 q.1).wf=true:=by obtain ⟨h1,h2⟩:=h1; simp [Lit.wf,IntKind.min,IntKind.max,IntKind.bits,IntKind.signed]; omega
 have w2:(Lit.int .u8 q.2).wf=true:=by obtain ⟨h1,h2⟩:=h2; simp [Lit.wf,IntKind.min,IntKind.max,IntKind.bits,IntKind.signed]; omega
 have hk:Tryz.prog.keyType 140=true:=by kernel_rfl
 have c1:Tryz.prog.cellsOf 140=2:=by kernel_rfl
 have c2:Tryz.prog.cellsOf 34=1:=by kernel_rfl
 have c3:Tryz.prog.cellsOf 5=1:=by kernel_rfl
 have hf:(keV q).formed Tryz.prog 140=true:=by
  unfold keV
  simp only [Value.formed,Tryz.underlying140,c1]
  rfl
 obtain ⟨n,hn⟩:∃ n,Tryz.prog.types.size=n+1:=⟨Tryz.prog.types.size - 1,by
  have h:Nat.ble 1 Tryz.prog.types.size=true:=by kernel_rfl
  have:=Nat.le_of_ble_eq_true h
  omega⟩
 have hl:Tryz.prog.keyLits (Tryz.prog.types.size+1) 140 [.int .u32 q.1,.int .u8 q.2]=some [.int .u32 q.1,.int .u8 q.2]:=by
  rw [hn]
  simp [Program.keyLits,Tryz.underlying140,c1,c2,c3,Zra,u8_und,w1,w2]
 unfold keyOf
 rw [Tryz.underlying140]
 have hc:(keV q).cells.toList=[.int .u32 q.1,.int .u8 q.2]:=rfl
 simp only [hk,hf,hc,hl,Bool.and_self,if_true]
 exact ⟨_,rfl⟩
structure WldR (lab:Nat→Nat) (w:World) (b sb bb mb:Nat) (ps:Sl) (x:StM) (L:List Ordr) (tk:Int) (f:Key→Option (Comp × Int)) (pl:List Plc):Prop where
 blk:Bl b 126 [.pointer (some ⟨sb,0,none⟩),.pointer (some ⟨bb,0,none⟩),.int .u32 tk,.map (some mb),.slice ps.a ps.n ps.c] (fun k=>lab k=1) w
 sto:Store sb x (fun k=>lab k=2) w
 buf:Buf bb L (fun k=>lab k=3) w
 map:Mp Tryz.prog 140 keV mb (mapV (f)) (fun k=>lab k=4) w
 plc:Den.Own (fun k=>lab k=5) w 45 plcT ps pl
def WldG (b:Nat) (x:StM) (L:List Ordr) (tk:Int) (f:Key→Option (Comp × Int)) (pl:List Plc):OB:=fun F w=>∃ (lab:Nat→Nat) (sb bb mb:Nat) (ps:Sl),(∀ k,lab k≠0→F k)∧WldR lab w b sb bb mb ps x L tk f pl
abbrev WldO (b:Nat) (m:WM):OB:=WldG b m.x m.wait m.tick (compsF m) m.places
section
variable {lab:Nat→Nat} {b sb bb mb:Nat} {ps:Sl} {x:StM} {L:List Ordr} {tk:Int} {f:Key→Option (Comp × Int)} {pl:List Plc} {F:Nat→Prop}
theorem WldR.cut (h:WldR lab w b sb bb mb ps x L tk f pl) {S:Nat→Prop} {w':World} (fr:Fr S w w') (hs:∀ k,k < w.heap.size→lab k≠0→¬ S k):WldR (Den.cut lab w.heap.size) w' b sb bb mb ps x L tk f pl :=
 ⟨Bl.st.cut h.blk fr (by decide) hs,Store.st.cut h.sto fr (by decide) hs,Buf.st.cut h.buf fr (by decide) hs,Mp.st.cut h.map fr (by decide) hs,Den.Own.st.cut h.plc fr (by decide) hs⟩
theorem WldG.st:St (WldG b x L tk f pl):=fun {_F _F' _S w _w'} ⟨lab,sb,bb,mb,ps,hF,h⟩ fr hs =>
 ⟨Den.cut lab w.heap.size,sb,bb,mb,ps,fun k e=>(hs k (Zc4 e).2 (hF k (Zc4 e).1)).2,h.cut fr fun k hk e=>(hs k hk (hF k e)).1⟩
theorem WldG.shut (h:WldG b x L tk f pl F w):WldG b x L tk f pl (fun k=>F k∧k < w.heap.size) w:=WldG.st.mono h fun _ hk e=>⟨e,hk⟩
theorem WldG.sto (h:WldG b x L tk f pl F w):∃ sb bb mb ps,F b∧Blk w b 126 [.pointer (some ⟨sb,0,none⟩),.pointer (some ⟨bb,0,none⟩),.int .u32 tk,.map (some mb),.slice ps.a ps.n ps.c]∧Store sb x F w∧Buf bb L F w∧Mp Tryz.prog 140 keV mb (mapV (f)) F w∧Den.Own F w 45 plcT ps pl:=by
 obtain ⟨lab,sb,bb,mb,ps,hF,h⟩:=h
 exact ⟨sb,bb,mb,ps,hF b (by have:lab b=1:=h.blk.1; omega),h.blk.2,Store.st.mono h.sto fun k _ e=>hF k (by omega),Buf.st.mono h.buf fun k _ e=>hF k (by omega),Mp.st.mono h.map fun k _ e=>hF k (by omega),Den.Own.st.mono h.plc fun k _ e=>hF k (by omega)⟩
theorem Zbj (h:WldG b x L tk f pl F w) {K:Res [.sc .ptr]→W R} (hk:∀ sb,Store sb x F w→K (some ⟨sb,0,none⟩) Q w):callW Tryz.prog Z3r [.pointer (some ⟨b,0,none⟩)] [.sc .ptr] K Q w:=by
 obtain ⟨sb,bb,mb,ps,_,B,S,_⟩:=h.sto
 refine Zie _ K Q w ?_
 unfold Zc3
 exact condF rfl (ptrI (fldI B (i:=0) (x:=some ⟨sb,0,none⟩) rfl (hk sb S)))
theorem Ze6 (h:WldG b x L tk f pl F w) {K:Res [.sc (.int .u32)]→W R} (hk:K tk Q w):callW Tryz.prog Z4u [.pointer (some ⟨b,0,none⟩)] [.sc (.int .u32)] K Q w:=by
 obtain ⟨sb,bb,mb,ps,_,B,_⟩:=h.sto
 refine Zh0 _ K Q w ?_
 unfold Zar
 exact condF rfl (ptrI (fldI B (i:=2) (x:=tk) rfl hk))
theorem Z6z (h:WldG b x L tk f pl F w) {K:Res [.sc (.int .i64)]→W R} (hk:K (L.length:Int) Q w):callW Tryz.prog Z2b [.pointer (some ⟨b,0,none⟩)] [.sc (.int .i64)] K Q w:=by
 obtain ⟨sb,bb,mb,ps,_,B,_,U,_⟩:=h.sto
 refine Zdk _ K Q w ?_
 unfold Z7s
 exact condF rfl (ptrI (fldI B (i:=1) (x:=some ⟨bb,0,none⟩) rfl (Zqo U hk)))
theorem Zm7 (h:WldG b x L tk f pl F w) {id:Int} (hid:IdOk id) {K:Res [.agg [.int .u32,.sl],.sc (.int .i64)]→W R}
  (hk:∀ s w',Den.Own (Up w.heap.size) w' 52 compT s (x.ent id).1.2→Fr None w w'→K (((x.ent id).1.1,s),(x.ent id).2) Q w') :
  callW Tryz.prog Z7g [.pointer (some ⟨b,0,none⟩),.int .u32 id] [.agg [.int .u32,.sl],.sc (.int .i64)] K Q w:=by
 refine Zid _ _ K Q w ?_
 unfold Zc2
 refine newI fun w1 B1 f1 s1=>Zbj (WldG.st.fr0 h f1) fun sb S=>Zlb S hid fun s w2 o2 f2=>?_
 refine stoAll (B1.fr f2 fun h=>h) rfl rfl fun w3 B3 f3 s3=>aggI B3 (x:=((x.ent id).1.1,s)) rfl ?_
 have hs1:w1.heap.size=w.heap.size+1:=s1
 refine hk s w3 (((o2.mono (S':=fun k=>w1.heap.size≤k) fun k _ e=>e).fr f3 fun k e e2=>by omega).mono fun k _ e=>by show w.heap.size≤k; omega) ((f1.then0 f2).newer f3 fun k e=>by omega)
theorem Zw (h:WldG b x L tk f pl F w) {K:Res [.sc .sl]→W R} (hk:∀ r w',EntsAt w.heap.size r (entsM x) w'→Fr None w w'→K r Q w') :
  callW Tryz.prog Z6 [.pointer (some ⟨b,0,none⟩)] [.sc .sl] K Q w:=by
 refine Zgx _ K Q w ?_
 unfold Zao
 refine Zbj h fun sb S=>?_
 have hok:=(Store.open_ S).1
 refine Zlc S fun rl w1 o1 f1=>?_
 have hle:=hok.s.list_le
 refine rangeI (t:=idT) (ok:=Up w.heap.size) (l:=x.s.list) (fun s:Sl × Int=>s.2) (fun j st w'=>st.2=(j:Int)∧EntsAt w1.heap.size st.1 ((x.s.list.take j).map fun id=>(x.ent id).1) w'∧Fr None w1 w') rfl ⟨rfl,EntsAt.nil _ _,Fr.refl _ _⟩ (fun j s w' h=>h.1) (fun j st w' hp=>o1.fr0 hp.2.2) ?_ ?_
 ·rintro j y ⟨out,_⟩ w2 K' hy ⟨rfl,E,f2⟩ - hK
  have hjl:=(List.getElem?_eq_some_iff.1 hy).1
  have f02:=f1.then0 f2
  have hs2:=f2.size
  refine Zm7 (WldG.st.fr0 h f02) (hok.s.list_id (List.mem_of_getElem? hy)).2 fun sl w3 o3 f3=>?_
  refine newI fun w4 B4 f4 s4=>stoAll B4 rfl rfl fun w5 B5 f5 s5=>aggI B5 (x:=((x.ent y).1.1,sl)) rfl ?_
  have f35:Fr None w3 w5:=f4.newer f5 fun k e=>by omega
  have f25:=f3.then0 f35
  have hs25:=f25.size
  have E5:=E.none f25
  have hrow:=E.row
  refine E5.app (by omega) (by simp; omega) (l:=(x.ent y).1.2) ((o3.none f35).sl.mono fun k _ e=>⟨Nat.le_trans hs2 e,fun e2=>?_⟩) fun r w6 E6 f6=>?_
  ·have:=(hrow k e2).2
   have e:w2.heap.size≤k:=e
   omega
  ·refine hK _ _ ⟨wsucc hjl (by omega),?_,(f2.then0 f25).newer f6 fun k e=>(hrow k e).1⟩
   rw [Zr hy,List.map_append]
   exact E6
 ·rintro ⟨out,_⟩ w2 ⟨-,E,f2⟩
  rw [List.take_length] at E
  exact hk out w2 (E.down f1.size) (f1.then0 f2)
end
end Go.Proofs.YtoiahhpgkoknfaaGreat
namespace Go.Proofs.YtoiahhpgkoknfaaGreat
open Go Go.RowKit Go.Proofs.YtoiahhpgkoknfaaGreat.Den
variable {R:Type} {Q:R→World→Prop} {w:World}
theorem drawI {K:Den.W R} (h:K Q w.drew):drawW K Q w:=h
theorem bothI {X Y:Den.W R} (h1:X Q w) (h2:Y Q w):bothW X Y Q w:=⟨h1,h2⟩
theorem Zkq:SlTy Tryz.prog 42 45 plcT 16:=slTy (by kernel_rfl)
abbrev Seen5:=Int × Int × Int × Int × Int
def seen5 (p:Comp × Int):Seen5:=(p.1.1,p.1.2.1,p.1.2.2.1,p.1.2.2.2,p.2)
def seenC (z:Seen5):List Value:=[.int .u8 z.1,.int .i32 z.2.1,.int .i32 z.2.2.1,.int .i32 z.2.2.2.1,.int .u32 z.2.2.2.2]
theorem Zkj {mb:Nat} {f:Key→Option (Comp × Int)} (h:MapB Tryz.prog 140 keV w mb (mapV f)) {q:Key} (h1:IdOk q.1) (h2:0≤q.2∧q.2≤255) {K:Seen5 × Bool→Den.W R} (hk:K (((f q).map seen5).getD (0,0,0,0,0),(f q).isSome) Q w) :
  rawQ Tryz.prog (Instr.lookup 124 (.map (some mb)) (.agg ⟨[.int .u32 q.1,.int .u8 q.2]⟩) true) [.agg [.int .u8,.int .i32,.int .i32,.int .i32,.int .u32],.sc .bool] K Q w:=by
 obtain ⟨l,hl⟩:=Zqf h1 h2
 refine ⟨(((f q).map seen5).getD (0,0,0,0,0),(f q).isSome),?_,hk⟩
 have:=h.look Zki Zjo Zp5 hl true
 rw [show keV q=.agg ⟨[.int .u32 q.1,.int .u8 q.2]⟩ from rfl] at this
 rw [this]
 unfold mapV
 cases f q <;> rfl
theorem Zvc {mb:Nat} {f:Key→Option (Comp × Int)} (h:MapB Tryz.prog 140 keV w mb (mapV f)) {q:Key} (h1:IdOk q.1) (h2:0≤q.2∧q.2≤255) (p:Comp × Int) {K:Den.W R}
  (hk:∀ w',MapB Tryz.prog 140 keV w' mb (mapV fun r=>if r=q then some p else f r)→Fr (fun k=>k=mb) w w'→w'.heap.size=w.heap.size→K Q w') :
  rawU Tryz.prog (Instr.mapUpdate 124 (.map (some mb)) (.agg ⟨[.int .u32 q.1,.int .u8 q.2]⟩) (.agg ⟨seenC (seen5 p)⟩)) K Q w:=by
 obtain ⟨l,hl⟩:=Zqf h1 h2
 obtain ⟨w1,a1,a2,a3,a4⟩:=h.put Zki Zqe Zjo hl (seenV p)
 refine ⟨w1,a1,hk w1 (a2.congr fun i=>?_) a3 a4⟩
 unfold mapV
 by_cases e:i=q <;> simp [e]
def LookI (w0 v0:World) (b sb bb mb mb2:Nat) (tk:Int) (S:Nat→Prop) (nf:Key→Option (Comp × Int)) (out:List Plc) (v:World):Prop :=
 ∃ ps,Blk v b 126 [.pointer (some ⟨sb,0,none⟩),.pointer (some ⟨bb,0,none⟩),.int .u32 tk,.map (some mb),.slice ps.a ps.n ps.c]∧Den.Own (fun k=>v0.heap.size≤k∧S k) v 45 plcT ps out ∧
  MapB Tryz.prog 140 keV v mb2 (mapV nf)∧Fr (fun k=>k=b∨k=mb2) v0 v∧Fr (fun k=>k=b) w0 v
section
variable {w0 v0:World} {b sb bb mb mb2:Nat} {tk:Int} {S:Nat→Prop} {nf:Key→Option (Comp × Int)} {out:List Plc}
theorem LookI.none (h:LookI w0 v0 b sb bb mb mb2 tk S nf out w) {w':World} (f:Fr None w w'):LookI w0 v0 b sb bb mb mb2 tk S nf out w':=by
 obtain ⟨ps,h1,h2,h3,h4,h5⟩:=h
 exact ⟨ps,h1.fr f fun h=>h,h2.none f,h3.fr f fun h=>h,h4.then f.any,h5.then f.any⟩
theorem LookI.mono (h:LookI w0 v0 b sb bb mb mb2 tk S nf out w) {S':Nat→Prop} (hs:∀ k,k < w.heap.size→S k→S' k):LookI w0 v0 b sb bb mb mb2 tk S' nf out w:=by
 obtain ⟨ps,h1,h2,h3⟩:=h
 exact ⟨ps,h1,h2.mono fun k hk e=>⟨e.1,hs k hk e.2⟩,h3⟩
theorem LookI.apart (h:LookI w0 v0 b sb bb mb mb2 tk S nf out w) {T:Nat→Prop} {w':World} (f:Fr T w w') (hT:∀ k,T k→v0.heap.size≤k∧¬ S k) (hb:b < v0.heap.size) (hm:mb2 < v0.heap.size) (hw:w0.heap.size≤v0.heap.size):LookI w0 v0 b sb bb mb mb2 tk S nf out w':=by
 obtain ⟨ps,h1,h2,h3,h4,h5⟩:=h
 exact ⟨ps,h1.fr f fun e=>by have:=(hT _ e).1; omega,h2.fr f fun k e e2=>(hT k e2).2 e.2,h3.fr f fun e=>by have:=(hT _ e).1; omega,h4.thenNew f fun k e=>(hT k e).1,h5.thenNew f fun k e=>by have:=(hT k e).1; omega⟩
theorem Zre {ps:Sl} (h1:Blk w b 126 [.pointer (some ⟨sb,0,none⟩),.pointer (some ⟨bb,0,none⟩),.int .u32 tk,.map (some mb),.slice ps.a ps.n ps.c]) (h2:Den.Own (fun k=>v0.heap.size≤k∧S k) w 45 plcT ps out)
  (h3:MapB Tryz.prog 140 keV w mb2 (mapV nf)) (h4:Fr (fun k=>k=b∨k=mb2) v0 w) (h5:Fr (fun k=>k=b) w0 w) (hb:b < w0.heap.size∧w0.heap.size≤mb2∧mb2 < v0.heap.size) (hS:∀ k,w.heap.size≤k→S k) (hl:out.length≤1048576) {p:Plc} {K:Den.W R}
  (hk:∀ w',LookI w0 v0 b sb bb mb mb2 tk S nf (out ++ [p]) w'→Fr (fun k=>k=b∨(v0.heap.size≤k∧S k)) w w'→K Q w') :
  (newW 45 [.int .u32 p.1,.bool p.2.1,.int .i32 p.2.2.1,.int .i32 p.2.2.2] fun a=>rawW Tryz.prog (Builtin.append_ #[42,42] 42 #[.slice ps.a ps.n ps.c,.slice (some a) 1 1]) [.sc .sl] fun (r:Sl) =>
   ptrW (some ⟨b,0,none⟩) fun y=>stoL (Addr.add y 4) [.slice r.a r.n r.c] 0 K) Q w:=by
 have z4:=h4.size
 refine appP (x:=p) Zkq rfl h2 (fun k e=>⟨by omega,hS k e⟩) (Nat.le_trans (Nat.mul_le_mul_right 16 (Nat.succ_le_succ hl)) (by decide)) (Nat.le_trans (Nat.succ_le_succ hl) (by decide)) fun r w2 o2 f2=>?_
 have hown:∀ k,ps.v.ownBlock=some k→v0.heap.size≤k∧S k:=fun k e=>h2.own k e
 have h12:=h1.fr f2 fun e=>by have:=hown _ e; omega
 refine ptrI (setI (i:=4) (v:=.slice r.a r.n r.c) h12 (by simp) rfl fun w3 B3 f3 s3=>hk w3 ⟨r,B3,o2.fr f3 (fun k e e2=>by have e2:k=b:=e2; have:=e.1; omega),(h3.fr f2 fun e=>by have:=hown _ e; omega).fr f3 (fun e=>by have e:mb2=b:=e; omega),?_,?_⟩ ?_)
 ·exact (h4.thenNew f2 fun k e=>(hown k e).1).then (f3.sub fun k e=>.inl e)
 ·exact (h5.thenNew f2 fun k e=>by have:=(hown k e).1; omega).then f3
 ·exact (f2.sub fun k e=>.inr (hown k e)).then (f3.sub fun k e=>.inl e)
end
end Go.Proofs.YtoiahhpgkoknfaaGreat
namespace Go.Proofs.YtoiahhpgkoknfaaGreat
open Go Go.RowKit Go.Proofs.YtoiahhpgkoknfaaGreat.Den
variable {R:Type} {Q:R→World→Prop} {w:World}
theorem Zbf {l:List Ent} (h:EntsOk l) (hl:l.length≤1024):(pairsM l).length≤6144:=by
 have:∀ (l:List Ent),(∀ e∈l,e.2.length≤6)→(pairsM l).length≤6 * l.length:=by
  intro l
  induction l with
  | nil=>intro _; simp [pairsM]
  | cons e l ih =>
   intro h
   have h1:=ih fun e he=>h e (List.mem_cons_of_mem _ he)
   have h2:=h e List.mem_cons_self
   have e1:pairsM (e :: l)=(e.2.map fun c=>(e.1,c)) ++ pairsM l:=by simp [pairsM]
   rw [e1,List.length_append,List.length_map,List.length_cons]
   omega
 have:=this l fun e he=>Z3i (h.2 e he).2
 omega
theorem Zmn (l:List Ent) (e:Ent):pairsM (l ++ [e])=pairsM l ++ e.2.map fun c=>(e.1,c):=by simp [pairsM]
theorem Zop {m:WM} {l:List (Int × Comp)} (h:l.length≤6144):(movedM m l).length≤6144:=Nat.le_trans (List.length_filterMap_le _ _) h
theorem nd_le {α:Type} [DecidableEq α]:∀ {l k:List α},l.Nodup→(∀ x∈l,x∈k)→l.length≤k.length
 | [],_,_,_=>Nat.zero_le _
 | a :: l,k,h,hs=>by
  rw [List.nodup_cons] at h
  have ha:=hs a List.mem_cons_self
  have:=nd_le (k:=k.erase a) h.2 fun x hx=>(List.mem_erase_of_ne fun e=>h.1 (by rw [← e]; exact hx)).2 (hs x (List.mem_cons_of_mem _ hx))
  rw [List.length_erase_of_mem ha] at this
  have:=List.length_pos_of_mem ha
  rw [List.length_cons]
  omega
structure GoneI (m:WM) (N:Key→Option (Comp × Int)) (left:Key→Bool) (G:List Plc):Prop where
 nodup:G.Nodup
 mem:∀ q,q∈G↔q=(q.1,false,0,0)∧left (q.1,0)=false∧(compsF m (q.1,0)).isSome∧N (q.1,0)=none
theorem GoneI.start (m:WM) (N:Key→Option (Comp × Int)):GoneI m N (fun i=>(mapV (compsF m) i).isSome) []:=⟨List.nodup_nil,fun q=>⟨fun h=>(List.not_mem_nil h).elim,fun h=>by
 have h2:=h.2.1
 unfold mapV at h2
 rw [Option.isSome_map] at h2
 rw [h.2.2.1] at h2
 cases h2⟩⟩
theorem GoneI.done {m:WM} {N:Key→Option (Comp × Int)} {left:Key→Bool} {G:List Plc} (h:GoneI m N left G) (hall:∀ i,left i=false):∀ q,q∈G↔q=(q.1,false,0,0)∧(compsF m (q.1,0)).isSome∧N (q.1,0)=none:=fun q=>by
 rw [h.mem,hall]
 simp
theorem GoneI.len {m:WM} {N:Key→Option (Comp × Int)} {left:Key→Bool} {G:List Plc} (h:GoneI m N left G) (hw:EntsOk (entsM m.x)):G.length≤(pairsM (entsM m.x)).length:=by
 have hs:∀ q∈G.map fun q=>((q.1,0):Key),q∈(pairsM (entsM m.x)).map keyP:=fun k hk=>by
  obtain ⟨q,hq,rfl⟩:=List.mem_map.1 hk
  obtain ⟨_,_,h3,_⟩:=(h.mem q).1 hq
  unfold compsF at h3
  rw [Option.isSome_map] at h3
  obtain ⟨c,hc⟩:=Option.isSome_iff_exists.1 h3
  obtain ⟨a1,a2⟩:=(Zau hw).1 hc
  exact List.mem_map.2 ⟨_,a1,by show ((q.1,c.1):Key)=_; rw [a2]⟩
 have hn:(G.map fun q=>((q.1,0):Key)).Nodup:=by
  rw [List.Nodup,List.pairwise_map]
  refine List.Pairwise.imp_of_mem (fun {a b} ha hb hab e=>hab ?_) h.nodup
  rw [((h.mem a).1 ha).1,((h.mem b).1 hb).1,(Prod.mk.inj e).1]
 have:=nd_le hn hs
 rw [List.length_map,List.length_map] at this
 exact this
theorem GoneI.step {m:WM} {N:Key→Option (Comp × Int)} {left:Key→Bool} {G:List Plc} (h:GoneI m N left G) {i:Key} (hl:left i=true) (hi:(compsF m i).isSome∧N i=none∧i.2=0):GoneI m N (fun j=>left j && !decide (j=i)) (G ++ [(i.1,false,0,0)]):=by
 obtain ⟨a,b⟩:=i
 obtain ⟨h1,h2,h3⟩:=hi
 have h3:b=0:=h3
 subst h3
 have hni:(a,false,0,0) ∉ G:=fun hm=>by
  have:=((h.mem _).1 hm).2.1
  rw [hl] at this
  cases this
 refine ⟨List.nodup_append.2 ⟨h.nodup,by simp,fun x hx y hy e=>?_⟩,fun q=>?_⟩
 ·simp only [List.mem_singleton] at hy
  rw [e,hy] at hx
  exact hni hx
 ·rw [List.mem_append,List.mem_singleton,h.mem]
  by_cases hq:q.1=a
  ·rw [hq]
   constructor
   ·rintro (⟨e1,e2,_⟩ | e1)
    ·rw [hl] at e2; cases e2
    ·exact ⟨e1,by simp,h1,h2⟩
   ·rintro ⟨e1,_⟩; exact .inr e1
  ·have:((q.1,(0:Int)):Key)≠(a,0):=fun e=>hq (Prod.mk.inj e).1
   simp only [decide_eq_false this,Bool.not_false,Bool.and_true]
   constructor
   ·rintro (e | e)
    ·exact e
    ·exact absurd (by rw [e]) hq
   ·exact .inl
theorem GoneI.skip {m:WM} {N:Key→Option (Comp × Int)} {left:Key→Bool} {G:List Plc} (h:GoneI m N left G) {i:Key} (hl:left i=true) (hi:¬ (N i=none∧i.2=0)):GoneI m N (fun j=>left j && !decide (j=i)) G:=by
 refine ⟨h.nodup,fun q=>?_⟩
 rw [h.mem]
 by_cases hq:((q.1,(0:Int)):Key)=i
 ·rw [← hq] at hl hi
  rw [hl]
  constructor
  ·rintro ⟨_,e,_⟩; cases e
  ·rintro ⟨_,_,_,e⟩; exact absurd ⟨e,rfl⟩ hi
 ·simp only [decide_eq_false hq,Bool.not_false,Bool.and_true]
set_option maxHeartbeats 1000000 in
theorem Zlg {m:WM} (hm:WMOk m) (ht:m.tick < 4294967295) {b:Nat} {x:StM} {L:List Ordr} {pl:List Plc} {F:Nat→Prop} (h:WldG b x L (m.tick+1) (compsF m) pl F w) {K:Res []→Den.W R}
  (hk:∀ w',WldG b x L (m.tick+1) (fun q=>(getE (entsM x) q.1 q.2).map fun c=>(c,changedM (marksM m (entsM x)) q.1 q.2)) (placesM m (entsM x)) (Ex F w) w'→Fr F w w'→K () Q w') :
  callW Tryz.prog Z6v [.pointer (some ⟨b,0,none⟩)] [] K Q w:=by
 refine Zh1 _ K Q w ?_
 unfold Zas
 obtain ⟨lab,sb,bb,mb,ps,hF,hR⟩:=h.shut
 obtain ⟨hok,hle⟩:=Z8t (Store.open_ hR.sto).1
 obtain ⟨hwas,hwle⟩:=Z8t hm.x
 have hplen:=Zbf hok hle
 obtain ⟨hlb,B⟩:=hR.blk
 have hlb:lab b=1:=hlb
 have hlm:lab mb=4:=hR.map.1
 obtain ⟨hbF,hbl⟩:=hF b (by omega)
 have htk:=hm.tick
 refine ptrI (setI (i:=4) (v:=.slice none 0 0) B (by simp) rfl fun w1 B1 f1 s1=>mapNewI ?_)
 have fm:=(Fr.refl None w1).alloc (.map #[] 0)
 have mm:=MapB.made (P:=Tryz.prog) (k:=140) (ke:=keV) w1
 have s2:(w1.alloc (.map #[] 0)).heap.size=w1.heap.size+1:=by simp
 generalize w1.alloc (.map #[] 0)=w2 at *
 have f02:Fr (fun k=>k=b) w w2:=f1.then fm.any
 have keep:∀ {A:OB} {i:Nat},St A→i≠1→A (fun k=>lab k=i) w→∀ {v:World},Fr (fun k=>k=b) w v→A (fun k=>Den.cut lab w.heap.size k=i) v:=fun {A i} st hi a {v} f=>st a f fun k hk e=>⟨fun e2=>by have e2:k=b:=e2; subst e2; have e:lab k=i:=e; omega,by show Den.cut _ _ _=_; rw [Zoi hk]; exact e⟩
 have h2:WldG b x L (m.tick+1) (compsF m) [] (fun k=>F k∧k < w.heap.size) w2:=⟨Den.cut lab w.heap.size,sb,bb,mb,⟨none,0,0⟩,fun k e=>hF k (Zc4 e).1,
  ⟨⟨by show Den.cut _ _ _=_; rw [Zoi hbl]; exact hlb,B1.fr fm fun h=>h⟩,keep Store.st (by decide) hR.sto f02,keep Buf.st (by decide) hR.buf f02,keep Mp.st (by decide) hR.map f02,Den.Own.nil _ _ _ _⟩⟩
 refine Zw h2 fun r w3 E3 f3=>?_
 have f03:Fr (fun k=>k=b) w w3:=f02.then f3.any
 have z3:=f3.size
 have z03:=f03.size
 obtain ⟨mb2,hmb2⟩:∃ mb2,mb2=w1.heap.size:=⟨_,rfl⟩
 rw [← hmb2] at mm s2 ⊢
 have hc:b < w.heap.size∧w.heap.size≤mb2∧mb2 < w3.heap.size:=⟨hbl,by omega,by omega⟩
 obtain ⟨raws,o3,ER⟩:=E3.ents
 have o3s:SlT (fun k=>w2.heap.size≤k∧k < w3.heap.size) w3 entT r raws:=o3.sl.mono fun k hk e=>⟨e,hk⟩
 have ER3:EntsR (fun k=>w2.heap.size≤k∧k < w3.heap.size) w3 raws (entsM x):=ER.mono fun k hk e=>⟨e,hk⟩
 have hrl:=ER3.len
 have Mold:∀ {v:World},Fr (fun k=>k=b) w v→MapB Tryz.prog 140 keV v mb (mapV (compsF m)):=fun f=>hR.map.2.fr f fun e=>by have e:mb=b:=e; rw [e] at hlm; omega
 have I0:LookI w w3 b sb bb mb mb2 (m.tick+1) (fun _=>True) (nextF (tickM m) (pairsM ((entsM x).take 0))) (movedM m (pairsM ((entsM x).take 0))) w3 :=
  ⟨⟨none,0,0⟩,(B1.fr fm fun h=>h).fr f3 fun h=>h,Den.Own.nil _ _ _ _,(mm.fr f3 fun h=>h).congr fun i=>rfl,Fr.refl _ _,f03⟩
 refine rangeC (t:=entT) (ok:=fun k=>w2.heap.size≤k∧k < w3.heap.size) (l:=raws) (fun s:Int=>s)
  (fun j s v=>s=(j:Int)∧LookI w w3 b sb bb mb mb2 (m.tick+1) (fun _=>True) (nextF (tickM m) (pairsM ((entsM x).take j))) (movedM m (pairsM ((entsM x).take j))) v) rfl rfl rfl ⟨rfl,I0⟩ (fun j s v h=>h.1)
  (fun j s v h=>by obtain ⟨ps,_,_,_,c4,_⟩:=h.2; exact o3s.fr c4 fun k e e2=>by rcases e2 with e2 | e2 <;> omega) ?_ ?_
 ·rintro j a s v0 v1 K' hx ⟨rfl,I1⟩ - B8 f81 s8 hK
  have hjl:=(List.getElem?_eq_some_iff.1 hx).1
  obtain ⟨e,he⟩:∃ e,(entsM x)[j]?=some e:=⟨_,List.getElem?_eq_getElem (by omega)⟩
  obtain ⟨ha1,ha2⟩:=ER3.at_ j a e hx he
  have hem:=List.mem_of_getElem? he
  obtain ⟨hid,hle2⟩:=hok.2 e hem
  have hc6:=Z3i hle2
  refine fldI B8 (i:=1) (x:=a.2) rfl ?_
  have hpj:∀ i,(pairsM ((entsM x).take j) ++ (e.2.take i).map fun c=>(e.1,c)).length≤6144:=fun i=>by
   have h1:pairsM (entsM x)=pairsM ((entsM x).take j) ++ ((e.2.map fun c=>(e.1,c)) ++ pairsM ((entsM x).drop (j+1))):=by
    rw [← List.append_assoc,← Zmn,← Zr he]
    unfold pairsM
    rw [← List.flatMap_append,List.take_append_drop]
   rw [h1] at hplen
   simp only [List.length_append,List.length_map,List.length_take] at hplen ⊢
   omega
  have I1':LookI w w3 b sb bb mb mb2 (m.tick+1) (fun k=>k≠v0.heap.size) (nextF (tickM m) (pairsM ((entsM x).take j) ++ (e.2.take 0).map fun c=>(e.1,c))) (movedM m (pairsM ((entsM x).take j) ++ (e.2.take 0).map fun c=>(e.1,c))) v1:=by
   rw [List.take_zero,List.map_nil,List.append_nil]
   exact (I1.mono fun k hk _=>by omega).none f81
  have z13:w3.heap.size≤v0.heap.size:=by obtain ⟨ps,_,_,_,c4,_⟩:=I1; exact c4.size
  refine rangeC (t:=compT) (ok:=fun k=>w2.heap.size≤k∧k < w3.heap.size) (l:=e.2) (fun s:Int=>s)
   (fun i s v=>s=(i:Int)∧LookI w w3 b sb bb mb mb2 (m.tick+1) (fun k=>k≠v0.heap.size) (nextF (tickM m) (pairsM ((entsM x).take j) ++ (e.2.take i).map fun c=>(e.1,c))) (movedM m (pairsM ((entsM x).take j) ++ (e.2.take i).map fun c=>(e.1,c))) v∧Blk v v0.heap.size 49 (entT.cells a)) rfl rfl rfl ⟨rfl,I1',B8⟩ (fun j s v h=>h.1)
   (fun j s v h=>by obtain ⟨ps,_,_,_,c4,_⟩:=h.2.1; exact ha2.fr c4 fun k e e2=>by rcases e2 with e2 | e2 <;> omega) ?_ ?_
  ·rintro i c s u0 u1 K2 hcx ⟨rfl,I2,B8u⟩ - B14 f14 s14 hK2
   have hil:=(List.getElem?_eq_some_iff.1 hcx).1
   have hck:=(Z3s.1 hle2).1 c (List.mem_of_getElem? hcx)
   have hkk:=Z3z hck
   have hk255:0≤c.1∧c.1≤255:=⟨hkk.1,Int.le_trans hkk.2 (by decide)⟩
   have hs14:u1.heap.size=u0.heap.size+1:=s14
   have B8v:=B8u.fr f14 fun h=>h
   refine fldI B8v (i:=0) (x:=a.1) rfl (fldI B14 (i:=0) (x:=c.1) rfl ?_)
   rw [ha1]
   refine newI fun u2 B17 f17 s17=>stoAll B17 rfl rfl fun u3 B17 f17b s17b=>?_
   have f13:Fr None u1 u3:=f17.newer f17b fun k e=>by omega
   have f03u:=f14.then0 f13
   have B14:=B14.fr f13 fun h=>h
   have B8v:=B8v.fr f13 fun h=>h
   have z8:=B8u.lt
   have z03u:=f03u.size
   have z13u:=f13.size
   have I3:=(I2.mono (S':=fun k=>k≠v0.heap.size∧k < u0.heap.size) fun k hk e=>⟨e,hk⟩).none f03u
   have hp1:=hpj (i+1)
   have etake:(e.2.take (i+1)).map (fun c=>(e.1,c))=(e.2.take i).map (fun c=>(e.1,c)) ++ [(e.1,c)]:=by rw [Zr hcx,List.map_append]; rfl
   have hcf:compsF m (e.1,c.1)=(getE (entsM m.x) e.1 c.1).map fun c0=>(c0,changedM m.marks e.1 c.1):=rfl
   obtain ⟨ps,c1,c2,c3,c4,c5⟩:=I3
   refine joinI (fun (z:Option Addr × Bool) v=>∃ g:Nat,z.1=some ⟨g,0,none⟩∧u3.heap.size≤g∧z.2=(compsF m (e.1,c.1)).isSome∧Blk v g 138 (seenC (((compsF m (e.1,c.1)).map seen5).getD (0,0,0,0,0)))∧Fr None u3 v) ?_ ?_
   ·have fd:Fr None u3 u3.drew:=(Fr.refl _ _).drew
    refine drawI (bothI ?_ ?_)
    ·refine ptrI (fldI c1.drew (i:=3) (x:=some mb) rfl (aggI B17.drew (x:=((e.1,c.1):Int × Int)) rfl (Zkj (q:=(e.1,c.1)) (Mold (c5.then fd.any)) hid hk255 ?_)))
     exact newI fun u4 B4 f4 s4=>stoAll B4 rfl rfl fun u5 B5 f5 s5=>⟨_,rfl,Nat.le_refl _,rfl,B5,fd.then0 (f4.newer f5 fun k e=>by cases e; exact Nat.le_refl _)⟩
    ·refine ptrI (fldI c1.drew (i:=3) (x:=some mb) rfl (aggI B17.drew (x:=((e.1,c.1):Int × Int)) rfl (newI fun u4 B4 f4 s4=>?_)))
     refine Zkj (q:=(e.1,c.1)) (Mold ((c5.then fd.any).then f4.any)) hid hk255 ?_
     exact stoAll B4 rfl rfl fun u5 B5 f5 s5=>⟨_,rfl,Nat.le_refl _,rfl,B5,fd.then0 (f4.newer f5 fun k e=>by cases e; exact Nat.le_refl _)⟩
   ·rintro ⟨z1,z2⟩ u5 ⟨g,hz1,hg,hz2,B23,f5⟩
    dsimp only at hz1 hz2 ⊢
    subst hz1
    subst hz2
    have B14:=B14.fr f5 fun h=>h
    have B17:=B17.fr f5 fun h=>h
    have B8v:=B8v.fr f5 fun h=>h
    have c1:=c1.fr f5 fun h=>h
    have c2:=c2.none f5
    have c3:=c3.fr f5 fun h=>h
    have c4:=c4.then (f5.any (S:=fun k=>k=b∨k=mb2))
    have c5:=c5.then (f5.any (S:=fun k=>k=b))
    have z5:=f5.size
    have hgu:=B23.lt
    refine joinI (fun (z:Bool) v=>v=u5∧z=decide (getE (entsM m.x) e.1 c.1≠some c)) ?_ ?_
    ·cases hg0:getE (entsM m.x) e.1 c.1 with
     | none =>
      rw [hcf,hg0]
      exact condT rfl ⟨rfl,rfl⟩
     | some c0 =>
      rw [hcf,hg0] at B23 ⊢
      refine condF rfl (ptrI (aggI' (o:=0) (x:=c0) B23 (fun j u hj=>?_) (aggI B14 (x:=c) rfl (neqI Znd (Zne c0 c) ⟨rfl,?_⟩))))
      ·rcases j with _ | _ | _ | _ | j
       ·exact hj
       ·exact hj
       ·exact hj
       ·exact hj
       ·cases hj
      ·by_cases hcc:c0=c <;> simp [hcc]
    ·rintro z u6 ⟨rfl,rfl⟩
     refine joinI (fun (_:Unit) v=>Blk v g 138 (seenC (seen5 (c,tickM m (e.1,c))))∧LookI w w3 b sb bb mb mb2 (m.tick+1) (fun k=>k≠v0.heap.size) (nextF (tickM m) (pairsM ((entsM x).take j) ++ (e.2.take i).map fun c=>(e.1,c))) (movedM m (pairsM ((entsM x).take j) ++ (e.2.take (i+1)).map fun c=>(e.1,c))) v ∧
      Blk v v0.heap.size 49 (entT.cells a)∧Blk v (u1.heap.size) 140 [.int .u32 e.1,.int .u8 c.1]) ?_ ?_
     ·by_cases hne:getE (entsM m.x) e.1 c.1≠some c
      ·refine condT (decide_eq_true hne) (drawI (aggI B14.drew (x:=c) rfl (ptrI (fldI c1.drew (i:=2) (x:=m.tick+1) rfl (ptrI ?_)))))
       have fd:Fr None u6 u6.drew:=(Fr.refl _ _).drew
       refine stoAll (B23.fr fd fun h=>h) rfl rfl fun u7 B7 f7 s7=>?_
       have htick:seen5 (c,tickM m (e.1,c))=(c.1,c.2.1,c.2.2.1,c.2.2.2,m.tick+1):=by
        unfold tickM
        rw [if_neg hne]
        rfl
       have f67:Fr (fun k=>k=g) u6 u7:=fd.any.then f7
       have hgw:w3.heap.size≤g:=by omega
       have c1:=c1.fr f67 fun e=>by have e:b=g:=e; omega
       have c2:Den.Own (fun k=>w3.heap.size≤k∧k≠v0.heap.size∧k≠g∧k≠u1.heap.size) u7 45 plcT ps (movedM m (pairsM ((entsM x).take j) ++ (e.2.take i).map fun c=>(e.1,c))) :=
        (c2.mono (S':=fun k=>w3.heap.size≤k∧k≠v0.heap.size∧k≠g∧k≠u1.heap.size) fun k _ e=>⟨e.1,e.2.1,by omega,by omega⟩).fr f67 fun k e e2=>e.2.2.1 e2
       have c3:=c3.fr f67 fun e=>by have e:mb2=g:=e; omega
       have c4:=c4.thenNew f67 fun k e=>by have e:k=g:=e; omega
       have c5:=c5.thenNew f67 fun k e=>by have e:k=g:=e; omega
       have B14:=B14.fr f67 fun e=>by have e:u0.heap.size=g:=e; omega
       have B17:=B17.fr f67 fun e=>by have e:u1.heap.size=g:=e; omega
       have B8v:=B8v.fr f67 fun e=>by have e:v0.heap.size=g:=e; omega
       have z67:=f67.size
       rw [htick]
       refine fldI B14 (i:=0) (x:=c.1) rfl (joinK (condE (fun hk0=>?_) fun hk0=>?_))
       ·have fd7:Fr None u7 u7.drew:=(Fr.refl _ _).drew
        refine drawI (ptrI (fldI c1.drew (i:=4) (x:=ps) rfl (fldI B8v.drew (i:=0) (x:=a.1) rfl ?_)))
        refine idxA (by omega) (by omega) ?_
        rw [addA]
        refine fldI B14.drew (i:=1+Int.toNat 0 * 1) (x:=c.2.1) rfl (idxA (by omega) (by omega) ?_)
        rw [addA]
        refine fldI B14.drew (i:=1+Int.toNat 1 * 1) (x:=c.2.2.1) rfl ?_
        have hml:=Zop (m:=m) (hpj i)
        refine Zre (w:=u7.drew) (p:=(a.1,true,c.2.1,c.2.2.1)) c1.drew (c2.none fd7) (c3.fr fd7 fun h=>h) (c4.then fd7.any) (c5.then fd7.any) hc (fun k e=>?_) (by omega) fun u8 I8 f8=>?_
        ·have e:u7.heap.size≤k:=e
         exact ⟨by omega,by omega,by omega⟩
        have nw:∀ y,(v0.heap.size=y∨y=g∨y=u1.heap.size)→w3.heap.size≤y→¬ (y=b∨(w3.heap.size≤y∧y≠v0.heap.size∧y≠g∧y≠u1.heap.size)):=fun y h1 h2 h3=>by omega
        refine ⟨B7.drew.fr f8 (nw g (.inr (.inl rfl)) (by omega)),?_,B8v.drew.fr f8 (nw _ (.inl rfl) (by omega)),B17.drew.fr f8 (nw _ (.inr (.inr rfl)) (by omega))⟩
        rw [etake,← List.append_assoc,Zg2,if_pos ⟨hne,hk0⟩]
        rw [ha1] at I8
        exact I8.mono fun k _ e=>e.1
       ·refine ⟨B7,?_,B8v,B17⟩
        rw [etake,← List.append_assoc,Zg2,if_neg (fun h=>hk0 h.2),List.append_nil]
        exact ⟨ps,c1,c2.mono fun k _ e=>⟨e.1,e.2.1⟩,c3,c4,c5⟩
      ·refine condF (decide_eq_false hne) ?_
       have hgeq:getE (entsM m.x) e.1 c.1=some c:=by simpa using hne
       refine ⟨?_,?_,B8v,B17⟩
       ·rw [hcf,hgeq] at B23
        have:tickM m (e.1,c)=changedM m.marks e.1 c.1:=by unfold tickM; rw [if_pos hgeq]
        rw [this]
        exact B23
       ·rw [etake,← List.append_assoc,Zg2,if_neg (fun h=>h.1 hgeq),List.append_nil]
        exact ⟨ps,c1,c2.mono fun k _ e=>⟨e.1,e.2.1⟩,c3,c4,c5⟩
     ·rintro _ u8 ⟨B23,⟨ps,c1,c2,c3,c4,c5⟩,B8v,B17⟩
      refine aggI B17 (x:=((e.1,c.1):Int × Int)) rfl (ptrI (aggI B23 (x:=seen5 (c,tickM m (e.1,c))) rfl (Zvc (q:=(e.1,c.1)) c3 hid hk255 (c,tickM m (e.1,c)) fun u9 M9 f9 s9=>?_)))
      have nb:∀ y,y≠mb2→¬ (fun k=>k=mb2) y:=fun y h1 h2=>h1 h2
      refine hK2 _ _ ⟨wsucc hil (by omega),⟨ps,c1.fr f9 fun e=>by have e:b=mb2:=e; omega,c2.fr f9 fun k e e2=>by have e2:k=mb2:=e2; have:=e.1; omega,?_,c4.then (f9.sub fun k e=>.inr e),c5.thenNew f9 fun k e=>by have e:k=mb2:=e; omega⟩,B8v.fr f9 fun e=>by have e:v0.heap.size=mb2:=e; omega⟩
      rw [etake,← List.append_assoc,Zs8]
      exact M9
  ·rintro s v2 ⟨rfl,I2,_⟩
   refine hK _ _ ⟨wsucc hjl (by omega),?_⟩
   rw [List.take_length] at I2
   rw [Zr he,Zmn]
   exact I2.mono fun _ _ _=>trivial
 ·rintro s v0 ⟨rfl,I1⟩
  rw [hrl,List.take_length] at I1
  obtain ⟨ps1,c1,c2,c3,c4,c5⟩:=I1
  have z4:=c4.size
  refine ptrI (fldI c1 (i:=3) (x:=some mb) rfl (rngI (Mold c5) Zjo fun v1 hr f1' s1'=>?_))
  have hml:(movedM m (pairsM (entsM x))).length≤6144:=Zop hplen
  have hN:=fun q=>Zv5 (m:=m) hok q
  have hmb:mb < w.heap.size:=(hF mb (by omega)).2
  refine loopI (fun (_:Unit) v=>∃ left last G,RngM Tryz.prog 140 keV v mb v0.heap.size (mapV (compsF m)) left last ∧
   LookI w w3 b sb bb mb mb2 (m.tick+1) (fun k=>k≠v0.heap.size) (nextF (tickM m) (pairsM (entsM x))) (movedM m (pairsM (entsM x)) ++ G) v∧GoneI m (nextF (tickM m) (pairsM (entsM x))) left G∧v0.heap.size < v.heap.size) (fun _ v=>v.rangeLeft mb v0.heap.size)
   ⟨_,_,[],hr,by rw [List.append_nil]; exact (LookI.mono ⟨ps1,c1,c2,c3,c4,c5⟩ fun k hk _=>by omega).none f1',GoneI.start m _,by omega⟩ ?_
  rintro _ v2 ⟨left,last,G,hr2,I2,hG,hv2⟩
  obtain ⟨ps2,d1,d2,d3,d4,d5⟩:=I2
  refine nxtI Zqe hr2 (fun hall=>?_) fun i v v3 hfi hli hr3 f3' s3' hμ=>?_
  ·
   refine ptrI (setI (i:=3) (v:=.map (some mb2)) d1 (by simp) rfl fun v4 B4 f4 s4=>ptrI (fldI B4 (i:=4) (x:=ps2) rfl ?_))
   have hdone:=hG.done hall
   have hlen:(movedM m (pairsM (entsM x)) ++ G).length≤1048576:=by
    have h1:G.length≤(pairsM (entsM m.x)).length:=hG.len hwas
    have:=Zbf hwas hwle
    rw [List.length_append]; omega
   refine Zlv (d2.fr f4 fun k e e2=>by have e2:k=b:=e2; have:=e.1; omega) hlen fun l' v5 o5 p5 r5 f5=>?_
   have hpl:l'=placesM m (entsM x):=Ztq hok hwas hG.nodup (fun q=>?_) p5 r5
   ·subst hpl
    have hown5:∀ k,ps2.v.ownBlock=some k→w3.heap.size≤k:=fun k e=>(d2.own k e).1
    have f05:Fr (fun k=>k=b) w v5:=(d5.then f4).thenNew f5 fun k e=>by have:=hown5 k e; omega
    have z5:=f05.size
    have zv5:w3.heap.size≤v5.heap.size:=((d4.then (f4.sub fun k e=>.inl e)).thenNew f5 fun k e=>hown5 k e).size
    refine hk v5 ⟨fun k=>if k < w.heap.size then lab k else if k=mb2 then 4 else if w3.heap.size≤k then 5 else 0,sb,bb,mb2,ps2,fun k e=>?_,⟨⟨?_,?_⟩,?_,?_,⟨?_,?_⟩,?_⟩⟩ (f05.sub fun k e=>by subst e; exact hbF)
    ·by_cases h1:k < w.heap.size
     ·have e:(if k < w.heap.size then lab k else if k=mb2 then 4 else if w3.heap.size≤k then 5 else 0)≠0:=e
      rw [if_pos h1] at e
      exact .inl (hF k e).1
     ·exact .inr (by omega)
    ·show (if b < w.heap.size then lab b else _)=1
     rw [if_pos hbl]; exact hlb
    ·exact B4.fr f5 fun e=>by have:w3.heap.size≤b:=hown5 _ e; omega
    ·exact Store.st hR.sto f05 fun k hk e=>⟨fun e2=>by have e2:k=b:=e2; subst e2; have e:lab k=2:=e; omega,by show (if k < w.heap.size then lab k else _)=2; rw [if_pos hk]; exact e⟩
    ·exact Buf.st hR.buf f05 fun k hk e=>⟨fun e2=>by have e2:k=b:=e2; subst e2; have e:lab k=3:=e; omega,by show (if k < w.heap.size then lab k else _)=3; rw [if_pos hk]; exact e⟩
    ·show (if mb2 < w.heap.size then lab mb2 else _)=4
     rw [if_neg (by omega),if_pos rfl]
    ·refine ((d3.fr f4 fun e=>by have e:mb2=b:=e; omega).fr f5 fun e=>by have:=hown5 _ e; omega).congr fun q=>?_
     unfold mapV
     rw [hN q]
    ·refine o5.mono fun k _ e=>?_
     show (if k < w.heap.size then lab k else _)=5
     have:=e.1
     rw [if_neg (by omega),if_neg (by omega),if_pos e.1]
   ·rw [hdone q]
    have hN0:=hN (q.1,0)
    rw [hN0]
    show _∧((getE (entsM m.x) q.1 0).map _).isSome=true∧(getE (entsM x) q.1 0).map _=none↔_
    simp only [Option.isSome_map,Option.map_eq_none_iff]
  ·
   unfold mapV at hfi
   obtain ⟨p,hp,rfl⟩:=Option.map_eq_some_iff.1 hfi
   have hik:IdOk i.1∧0≤i.2∧i.2≤255:=by
    unfold compsF at hp
    obtain ⟨c0,hc0,_⟩:=Option.map_eq_some_iff.1 hp
    obtain ⟨a1,a2⟩:=(Zau hwas).1 hc0
    obtain ⟨e,he,he1,he2⟩:=Zko.1 a1
    obtain ⟨b1,b2⟩:=hwas.2 e he
    have:=Z3z ((Z3s.1 b2).1 c0 he2)
    have he1:e.1=i.1:=he1
    rw [← he1,← a2]
    exact ⟨b1,this.1,Int.le_trans this.2 (by decide)⟩
   have hr4:=hr3.lt
   refine entI Zqe (v:=seenV p) hr3 (by unfold mapV; rw [hp]; rfl) (x:=((i,seen5 p):(Int × Int) × Seen5)) rfl ?_
   refine newI fun v4 B4 f4 s4=>stoAll B4 rfl rfl fun v5 B5 f5 s5=>aggI B5 (x:=(i:Int × Int)) rfl ?_
   have f35:Fr None v3 v5:=f4.newer f5 fun k e=>by omega
   have hs4:v4.heap.size=v3.heap.size+1:=s4
   have f25:Fr (fun k=>k=v0.heap.size) v2 v5:=f3'.then f35.any
   have e1:=d1.fr f25 fun e=>by have e:b=v0.heap.size:=e; omega
   have e2:=d2.fr f25 fun k e e2=>e.2 e2
   have e3:=d3.fr f25 fun e=>by have e:mb2=v0.heap.size:=e; omega
   have e4:=d4.thenNew f25 fun k e=>by have e:k=v0.heap.size:=e; omega
   have e5:=d5.thenNew f25 fun k e=>by have e:k=v0.heap.size:=e; omega
   have hr5:=hr3.fr f35 (fun h=>h) fun h=>h
   refine Zkj (q:=i) e3 hik.1 hik.2 ?_
   refine newI fun v6 B6 f6 s6=>stoAll B6 rfl rfl fun v7 B7 f7 s7=>?_
   have f57:Fr None v5 v7:=f6.newer f7 fun k e=>by omega
   have e1:=e1.fr f57 fun h=>h
   have e2:=e2.none f57
   have e3:=e3.fr f57 fun h=>h
   have e4:=e4.then (f57.any (S:=fun k=>k=b∨k=mb2))
   have e5:=e5.then (f57.any (S:=fun k=>k=b))
   have B5:=B5.fr f57 fun h=>h
   have hr7:=hr5.fr f57 (fun h=>h) fun h=>h
   have z57:=f57.size
   have hsz3:=f35.size
   have hleft:∀ {v:World} {T:Nat→Prop},Fr T v3 v→¬ T mb→¬ T v0.heap.size→v.rangeLeft mb v0.heap.size=v3.rangeLeft mb v0.heap.size:=fun {v T} f h1 h2=>by
    unfold World.rangeLeft
    rw [f.block mb (by omega) h1,f.block v0.heap.size hr4 h2]
   refine joinI (fun (z:Bool) v=>v=v7∧z=decide (nextF (tickM m) (pairsM (entsM x)) i=none∧i.2=0)) ?_ ?_
   ·cases hn:nextF (tickM m) (pairsM (entsM x)) i with
    | none =>
     refine condT rfl (fldI B5 (i:=1) (x:=i.2) rfl ⟨rfl,?_⟩)
     by_cases h0:i.2=0 <;> simp [h0]
    | some p2=>exact condF rfl ⟨rfl,by simp⟩
   ·rintro z v8 ⟨rfl,rfl⟩
    refine joinK ?_
    have f38:Fr None v3 v8:=f35.then0 f57
    by_cases hz:nextF (tickM m) (pairsM (entsM x)) i=none∧i.2=0
    ·have fd:Fr None v8 v8.drew:=(Fr.refl _ _).drew
     refine condT (decide_eq_true hz) (drawI (ptrI (fldI e1.drew (i:=4) (x:=ps2) rfl (fldI B5.drew (i:=0) (x:=i.1) rfl ?_))))
     have hlen:(movedM m (pairsM (entsM x)) ++ G).length≤1048576:=by
      have h1:G.length≤(pairsM (entsM m.x)).length:=hG.len hwas
      have:=Zbf hwas hwle
      rw [List.length_append]; omega
     refine Zre (w:=v8.drew) (p:=(i.1,false,0,0)) e1.drew (e2.none fd) (e3.fr fd fun h=>h) (e4.then fd.any) (e5.then fd.any) hc (fun k e=>by have e:v8.heap.size≤k:=e; omega) hlen fun v9 I9 f9=>?_
     rw [List.append_assoc] at I9
     have f39:Fr (fun k=>k=b∨(w3.heap.size≤k∧k≠v0.heap.size)) v3 v9:=(f38.then0 fd).any.then f9
     have nmb:¬ (mb=b∨(w3.heap.size≤mb∧mb≠v0.heap.size)):=fun h=>by
      rcases h with h | h
      ·rw [h] at hlm; omega
      ·omega
     have nv0:¬ (v0.heap.size=b∨(w3.heap.size≤v0.heap.size∧v0.heap.size≠v0.heap.size)):=fun h=>by
      rcases h with h | h
      ·omega
      ·exact h.2 rfl
     refine ⟨⟨_,_,G ++ [(i.1,false,0,0)],hr3.fr f39 nmb nv0,I9,hG.step hli ⟨by rw [show compsF m i=some p from hp]; rfl,hz⟩,?_⟩,?_⟩
     ·have:=f39.size; omega
     ·rw [hleft f39 nmb nv0]; exact hμ
    ·refine condF (decide_eq_false hz) ⟨⟨_,_,G,hr7,⟨ps2,e1,e2,e3,e4,e5⟩,hG.skip hli hz,by omega⟩,?_⟩
     rw [hleft f38 (fun h=>h) fun h=>h]; exact hμ
end Go.Proofs.YtoiahhpgkoknfaaGreat
namespace Go.Proofs.YtoiahhpgkoknfaaGreat
open Go Go.RowKit Go.Proofs.YtoiahhpgkoknfaaGreat.Den
variable {R:Type} {Q:R→World→Prop} {w:World}
def newM (n:Nat) (first tick:Int):WM:=⟨StM.new n first,[],tick,[],[]⟩
theorem Zno {n:Nat} {first:Int} (h:StOk (StM.new n first)):entsM (StM.new n first)=[]:=by
 have:(StM.new n first).s.list=[]:=List.eq_nil_iff_forall_not_mem.2 fun id hid=>by
  have h1:=h.s.mem_list.1 hid
  obtain ⟨m,_,hm⟩:=(h.live id).2 h1
  simp [inT,StM.new,rowM] at hm
 unfold entsM
 rw [this]
 rfl
theorem Zwj {n:Nat} {first tick:Int} (h:StOk (StM.new n first)) (ht:0≤tick∧tick≤4294967295):WMOk (newM n first tick) :=
 ⟨h,Nat.zero_le _,fun o ho=>(List.not_mem_nil ho).elim,ht,by show []=(pairsM (entsM (StM.new n first))).map keyP; rw [Zno h]; rfl,fun k hk=>(List.not_mem_nil hk).elim⟩
theorem Zm8 {n first tick:Int} (ht:0≤tick∧tick≤4294967295) {K:Res [.sc .ptr,.sc (.int .i64)]→Den.W R} (h1:¬ (1≤n∧n≤1024∧1≤first∧first≤4194303)→K (none,1) Q w)
  (h2:∀ b w',1≤n∧n≤1024∧1≤first∧first≤4194303→WldO b (newM n.toNat first tick) (Up w.heap.size) w'→WMOk (newM n.toNat first tick)→Fr None w w'→K (some ⟨b,0,none⟩,0) Q w') :
  callW Tryz.prog Z4a [.int .i64 n,.int .i64 first,.int .u32 tick] [.sc .ptr,.sc (.int .i64)] K Q w:=by
 refine Zq3 _ _ _ K Q w ?_
 unfold Zk4
 refine Zm6 (fun hn=>condT rfl (h1 hn)) fun sb w1 hp S f1=>condF rfl (Zl2 fun bb w2 U f2=>mapNewI ?_)
 have fm:=(Fr.refl None w2).alloc (.map #[] 0)
 have mm:=MapB.made (P:=Tryz.prog) (k:=140) (ke:=keV) w2
 have s3:(w2.alloc (.map #[] 0)).heap.size=w2.heap.size+1:=by simp
 generalize w2.alloc (.map #[] 0)=w3 at *
 refine newI fun w4 B4 f4 s4=>?_
 have hok:=(Store.open_ S).1
 have z1:=f1.size
 have z2:=f2.size
 have f24:=fm.then0 f4
 refine h2 w3.heap.size w4 hp ⟨fun k=>if k < w1.heap.size then (if w.heap.size≤k then 2 else 0) else if k < w2.heap.size then 3 else if k=w2.heap.size then 4 else if k=w3.heap.size then 1 else 0,sb,bb,w2.heap.size,⟨none,0,0⟩,fun k e=>?_,⟨⟨?_,B4⟩,?_,?_,⟨?_,?_⟩,Den.Own.nil _ _ _ _⟩⟩ (Zwj hok ht) ((f1.then0 f2).then0 f24)
 ·show w.heap.size≤k
  by_cases h:w.heap.size≤k
  ·exact h
  ·have e:(if k < w1.heap.size then (if w.heap.size≤k then 2 else 0) else _)≠0:=e
   rw [if_pos (by omega),if_neg h] at e
   exact absurd rfl e
 ·show (if w3.heap.size < w1.heap.size then _ else _)=1
  rw [if_neg (by omega),if_neg (by omega),if_neg (by omega),if_pos rfl]
 ·refine Store.st S (f2.then0 f24) fun k hk e=>⟨fun h=>h,?_⟩
  show (if k < w1.heap.size then _ else _)=2
  rw [if_pos hk,if_pos e]
 ·refine Buf.st U f24 fun k hk e=>⟨fun h=>h,?_⟩
  have e:w1.heap.size≤k:=e
  show (if k < w1.heap.size then _ else _)=3
  rw [if_neg (by omega),if_pos hk]
 ·show (if w2.heap.size < w1.heap.size then _ else _)=4
  rw [if_neg (by omega),if_neg (by omega),if_pos rfl]
 ·refine (mm.fr f4 fun h=>h).congr fun q=>?_
  show ((getE (entsM (StM.new n.toNat first)) q.1 q.2).map _).map seenV=none
  rw [Zno hok]
  rfl
section
variable {b:Nat} {x:StM} {L:List Ordr} {tk:Int} {f:Key→Option (Comp × Int)} {pl:List Plc} {F:Nat→Prop}
theorem Zlf (h:WldG b x L tk f pl F w) (hL:L.length≤256) {ok:Nat→Prop} {r:OrdRaw} {o:Ordr} (hr:ordR ok w r o) (hsm:Small o.2.2.2) {K:Res [.sc (.int .i64)]→Den.W R}
  (hk:∀ w',WldG b x (pushL L o) tk f pl (Ex F w) w'→Fr F w w'→K (pushE L o) Q w'):callW Tryz.prog Z9 [.pointer (some ⟨b,0,none⟩),.agg ⟨ordC r⟩] [.sc (.int .i64)] K Q w:=by
 refine Zgy _ r K Q w ?_
 unfold Zap
 obtain ⟨lab,sb,bb,mb,ps,hF,hR⟩:=h.shut
 refine newI fun w1 B1 f1 s1=>condF rfl (drawI ?_)
 have fd:Fr None w1 w1.drew:=(Fr.refl _ _).drew
 have f1d:=f1.then0 fd
 have hlb:lab b=1:=hR.blk.1
 refine ptrI (fldI (hR.blk.2.fr f1d fun h=>h) (i:=1) (x:=some ⟨bb,0,none⟩) rfl (aggI B1.drew (x:=r) rfl ?_))
 refine Zu0 (Buf.st.fr0 hR.buf f1d) hL (Z62 r o hr f1d (F':=ok) fun k _ e=>⟨fun h=>h,e⟩) hsm fun w2 U2 f2=>?_
 have f02:Fr (fun k=>lab k=3) w w2:=f1d.any.then f2
 have z1:w1.drew.heap.size=w.heap.size+1:=s1
 have z2:=f02.size
 have keep:∀ {A:OB} {i:Nat},St A→i≠3→i≠0→A (fun k=>lab k=i) w→A (fun k=>(if k < w.heap.size then lab k else 3)=i) w2:=fun {A i} st hi h0 a=>st a f02 fun k hk e=>⟨fun e2=>by have e:lab k=i:=e; have e2:lab k=3:=e2; omega,by show (if k < w.heap.size then lab k else 3)=i; rw [if_pos hk]; exact e⟩
 refine hk w2 ⟨fun k=>if k < w.heap.size then lab k else 3,sb,bb,mb,ps,fun k e=>?_,⟨keep Bl.st (by decide) (by decide) hR.blk,keep Store.st (by decide) (by decide) hR.sto,?_,keep Mp.st (by decide) (by decide) hR.map,keep Den.Own.st (by decide) (by decide) hR.plc⟩⟩ (f02.sub fun k e=>(hF k (by omega)).1)
 ·by_cases h1:k < w.heap.size
  ·have e:(if k < w.heap.size then lab k else 3)≠0:=e
   rw [if_pos h1] at e
   exact .inl (hF k e).1
  ·exact .inr (by omega)
 ·refine Buf.st.mono U2 fun k _ e=>?_
  show (if k < w.heap.size then lab k else 3)=3
  by_cases h1:k < w.heap.size
  ·rw [if_pos h1]
   rcases e with e | e
   ·exact e
   ·omega
  ·rw [if_neg h1]
end
end Go.Proofs.YtoiahhpgkoknfaaGreat
namespace Go.Proofs.YtoiahhpgkoknfaaGreat
open Go Go.RowKit Go.Proofs.YtoiahhpgkoknfaaGreat.Den
variable {R:Type} {Q:R→World→Prop} {w:World}
theorem Zuh {m:WM} {b:Nat} {F:Nat→Prop} (h:WldG b (nowM m) [] (m.tick+1) (fun q=>(getE (entsM (nowM m)) q.1 q.2).map fun c=>(c,changedM (marksM m (entsM (nowM m))) q.1 q.2)) (placesM m (entsM (nowM m))) F w):WldO b (stepM m) F w:=by
 unfold stepM
 generalize nowM m=y at *
 generalize marksM m (entsM y)=ms at *
 generalize placesM m (entsM y)=ps at *
 exact h
open Classical in
set_option maxHeartbeats 1000000 in
theorem Ze5 {m:WM} {b:Nat} {F:Nat→Prop} (h:WldO b m F w) (hm:WMOk m) {K:Res [.sc .sl,.sc (.int .i64)]→Den.W R} (h0:m.tick=4294967295→K (⟨none,0,0⟩,11) Q w)
  (hk:m.tick < 4294967295→∀ r w' G,WldO b (stepM m) G w'→(∀ k,G k→(F k∨w.heap.size≤k)∧k < w'.heap.size)→Den.Own (fun k=>w.heap.size≤k∧¬ G k) w' 71 resT r (allM m.x m.wait).1→WMOk (stepM m)→Fr F w w'→K (r,0) Q w') :
  callW Tryz.prog Z4 [.pointer (some ⟨b,0,none⟩)] [.sc .sl,.sc (.int .i64)] K Q w:=by
 refine Zgz _ K Q w ?_
 unfold Zaq
 obtain ⟨lab,sb,bb,mb,ps,hF,hR⟩:=h.shut
 obtain ⟨hlb,B⟩:=hR.blk
 have hlb:lab b=1:=hlb
 have htk:=hm.tick
 refine condF rfl (ptrI (fldI B (i:=2) (x:=m.tick) rfl (condE (fun e=>h0 e) fun hne=>?_)))
 have htl:m.tick < 4294967295:=by omega
 have hk:=hk htl
 have ew:IntKind.wrap .u32 (m.tick+1)=m.tick+1:=by rw [IntKind.wrap_u32]; omega
 refine ptrI (fldI B (i:=2) (x:=m.tick) rfl (ptrI ?_))
 rw [ew]
 refine setI (i:=2) (v:=.int .u32 (m.tick+1)) B (by simp) rfl fun w1 B1 f1 s1=>drawI ?_
 have f1:Fr (fun k=>k=b) w w1:=f1
 have s1:w1.heap.size=w.heap.size:=s1
 have B1:Blk w1 b 126 [.pointer (some ⟨sb,0,none⟩),.pointer (some ⟨bb,0,none⟩),.int .u32 (m.tick+1),.map (some mb),.slice ps.a ps.n ps.c]:=B1
 have fd:Fr None w1 w1.drew:=(Fr.refl _ _).drew
 have f1d:Fr (fun k=>k=b) w w1.drew:=f1.then fd.any
 have B1:=B1.drew
 have s1:w1.drew.heap.size=w.heap.size:=s1
 generalize w1.drew=w2 at *
 have keepb:∀ {A:OB} {i:Nat},St A→i≠1→A (fun k=>lab k=i) w→A (fun k=>lab k=i) w2:=fun {A i} st hi a=>st a f1d fun k hk e=>⟨fun e2=>by have e2:k=b:=e2; subst e2; have e:lab k=i:=e; omega,e⟩
 have S2:=keepb Store.st (by decide) hR.sto
 have U2:=keepb Buf.st (by decide) hR.buf
 have M2:=keepb Mp.st (by decide) hR.map
 have P2:=keepb Den.Own.st (by decide) hR.plc
 have hlbb:lab bb=3:=by obtain ⟨_,_,_,e,_⟩:=hR.buf; exact e
 have hlm:lab mb=4:=hR.map.1
 have hbl:=(hF b (by omega)).2
 have hbbl:=(hF bb (by omega)).2
 refine ptrI (fldI B1 (i:=0) (x:=some ⟨sb,0,none⟩) rfl (ptrI (fldI B1 (i:=1) (x:=some ⟨bb,0,none⟩) rfl ?_)))
 refine Zu3 U2 fun r raws w3 U3 D3 f3=>?_
 have B3:=B1.fr f3 fun e=>by have e:b=bb:=e; rw [e] at hlb; omega
 have S3:Store sb m.x (fun k=>lab k=2) w3:=Store.st.fr S2 f3 fun k e e2=>by have e2:k=bb:=e2; subst e2; omega
 have M3:=Mp.st.fr M2 f3 fun k e e2=>by have e2:k=bb:=e2; subst e2; omega
 have P3:=Den.Own.st.fr P2 f3 fun k e e2=>by have e2:k=bb:=e2; subst e2; omega
 have f03:Fr F w w3:=(f1d.sub fun k e=>by have e:k=b:=e; subst e; exact (hF k (by omega)).1).then (f3.sub fun k e=>by have e:k=bb:=e; subst e; exact (hF k (by omega)).1)
 have z3:=f3.size
 refine andI (B3.rd (s:=.ptr) (i:=0) (x:=some ⟨sb,0,none⟩) rfl) ?_
 have hsmall:Small m.wait:=Nat.le_trans hm.few (by decide)
 refine Zl1 S3 D3 (fun k _ e e2=>by have e2:lab k=2:=e2; have:=e.1; omega) hm.wait hsmall fun rr w4 G1 S4 hG1 o4 f4=>?_
 have hlow:∀ {G:Nat→Prop} {n:Nat},w.heap.size≤n→(∀ k,G k→lab k=2∨n≤k)→∀ k,k < w.heap.size→G k→lab k=2:=fun hn h k hk e=>by rcases h k e with h | h; exact h; omega
 have l1:∀ k,k < w.heap.size→G1 k→lab k=2:=hlow (n:=w3.heap.size) (by omega) fun k e=>(hG1 k e).1
 have B4:=B3.fr f4 fun e=>by have e:lab b=2:=e; omega
 have U4:Buf bb [] (fun k=>k=bb) w4:=Buf.st.fr U3 f4 fun k e e2=>by have e:k=bb:=e; subst e; have e2:lab k=2:=e2; omega
 have M4:=Mp.st.fr M3 f4 fun k e e2=>by have e2:lab k=2:=e2; omega
 have P4:=Den.Own.st.fr P3 f4 fun k e e2=>by have e2:lab k=2:=e2; omega
 have z4:=f4.size
 have z34:=f4.size
 have next:∀ {v v':World} {G G':Nat→Prop} {n:Nat},w.heap.size≤v.heap.size→(∀ k,k < w.heap.size→G k→lab k=2)→(∀ k,G' k→G k∨v.heap.size≤k)→∀ k,k < w.heap.size→G' k→lab k=2:=fun {v v' G G' n} hv hg hg' k hk e=>by
  rcases hg' k e with h | h
  ·exact hg k hk h
  ·omega
 have thru:∀ {v v':World} {G:Nat→Prop},(∀ k,k < w.heap.size→G k→lab k=2)→Fr G v v'→Blk v b 126 [.pointer (some ⟨sb,0,none⟩),.pointer (some ⟨bb,0,none⟩),.int .u32 (m.tick+1),.map (some mb),.slice ps.a ps.n ps.c]∧Buf bb [] (fun k=>k=bb) v∧Mp Tryz.prog 140 keV mb (mapV (compsF m)) (fun k=>lab k=4) v∧Den.Own (fun k=>lab k=5) v 45 plcT ps m.places →
   Blk v' b 126 [.pointer (some ⟨sb,0,none⟩),.pointer (some ⟨bb,0,none⟩),.int .u32 (m.tick+1),.map (some mb),.slice ps.a ps.n ps.c]∧Buf bb [] (fun k=>k=bb) v'∧Mp Tryz.prog 140 keV mb (mapV (compsF m)) (fun k=>lab k=4) v'∧Den.Own (fun k=>lab k=5) v' 45 plcT ps m.places:=fun {v v' G} hg f ⟨h1,h2,h3,h4⟩ =>
  ⟨h1.fr f fun e=>by have:=hg b hbl e; omega,Buf.st.fr h2 f fun k e e2=>by have e:k=bb:=e; subst e; have:=hg k hbbl e2; omega,Mp.st.fr h3 f fun k e e2=>by have e:lab k=4:=e; have:=hg k (hF k (by omega)).2 e2; omega,Den.Own.st.fr h4 f fun k e e2=>by have e:lab k=5:=e; have:=hg k (hF k (by omega)).2 e2; omega⟩
 have A4:=And.intro B4 (And.intro U4 (And.intro M4 P4))
 refine ptrI (fldI B4 (i:=0) (x:=some ⟨sb,0,none⟩) rfl (Zil S4 fun r5 w5 h5=>?_))
 obtain ⟨G2,S5,hG2,hG2l,_,f5⟩:=h5
 have z5:=f5.size
 have l2:=next (v:=w4) (v':=w5) (n:=0) (by omega) l1 hG2
 have A5:=thru l1 f5 A4
 refine ptrI (fldI A5.1 (i:=0) (x:=some ⟨sb,0,none⟩) rfl (Zjj S5 fun r6 w6 h6=>?_))
 obtain ⟨G3,S6,hG3,hG3l,_,f6⟩:=h6
 have z6:=f6.size
 have l3:=next (v:=w5) (v':=w6) (n:=0) (by omega) l2 hG3
 have A6:=thru l2 f6 A5
 refine ptrI (fldI A6.1 (i:=0) (x:=some ⟨sb,0,none⟩) rfl (Zhp S6 fun r7 w7 h7=>?_))
 obtain ⟨G4,S7,hG4,hG4l,_,f7⟩:=h7
 have z7:=f7.size
 have l4:=next (v:=w6) (v':=w7) (n:=0) (by omega) l3 hG4
 obtain ⟨B7,U7,M7,P7⟩:=thru l3 f7 A6
 have hO:Den.Own (fun k=>w3.heap.size≤k∧¬ G1 k∧k < w4.heap.size) w4 71 resT rr (allM m.x m.wait).1:=o4.mono fun k hk e=>⟨e.1,e.2,hk⟩
 have n2:∀ k,k < w4.heap.size→¬ G1 k→¬ G2 k:=fun k hk e e2=>by rcases hG2 k e2 with h | h; exact e h; omega
 have n3:∀ k,k < w4.heap.size→¬ G1 k→¬ G3 k:=fun k hk e e2=>by rcases hG3 k e2 with h | h; exact n2 k hk e h; omega
 have n4:∀ k,k < w4.heap.size→¬ G1 k→¬ G4 k:=fun k hk e e2=>by rcases hG4 k e2 with h | h; exact n3 k hk e h; omega
 have O7:=((hO.fr f5 fun k e e2=>e.2.1 e2).fr f6 fun k e e2=>n2 k e.2.2 e.2.1 e2).fr f7 fun k e e2=>n3 k e.2.2 e.2.1 e2
 let lab4:Nat→Nat:=fun k=>if G4 k then 2 else if k < w.heap.size∧lab k≠2 then lab k else 0
 have hl4:∀ k,k < w.heap.size→lab k≠2→lab4 k=lab k:=fun k hk e=>by
  show (if G4 k then 2 else _)=_
  rw [if_neg (fun e2=>e (l4 k hk e2)),if_pos ⟨hk,e⟩]
 have hl4n:∀ k,lab4 k≠0→G4 k∨(k < w.heap.size∧lab k≠2∧lab k≠0):=fun k e=>by
  by_cases h1:G4 k
  ·exact .inl h1
  ·have e:(if G4 k then 2 else if k < w.heap.size∧lab k≠2 then lab k else 0)≠0:=e
   rw [if_neg h1] at e
   by_cases h2:k < w.heap.size∧lab k≠2
   ·rw [if_pos h2] at e; exact .inr ⟨h2.1,h2.2,e⟩
   ·rw [if_neg h2] at e; exact absurd rfl e
 have hW:WldG b (nowM m) [] (m.tick+1) (compsF m) m.places (fun k=>lab4 k≠0) w7:=⟨lab4,sb,bb,mb,ps,fun k e=>e,⟨⟨?_,B7⟩,?_,?_,⟨?_,M7.2⟩,?_⟩⟩
 rotate_left
 ·show lab4 b=1; rw [hl4 b hbl (by omega)]; exact hlb
 ·exact Store.st.mono S7 fun k _ e=>by show (if G4 k then 2 else _)=2; rw [if_pos e]
 ·exact Buf.st.mono U7 fun k _ e=>by have e:k=bb:=e; subst e; show lab4 k=3; rw [hl4 k hbbl (by omega)]; exact hlbb
 ·show lab4 mb=4; rw [hl4 mb (hF mb (by omega)).2 (by omega)]; exact hlm
 ·exact Den.Own.st.mono P7 fun k hk e=>by have e:lab k=5:=e; show lab4 k=5; rw [hl4 k (hF k (by omega)).2 (by omega)]; exact e
 refine Zlg hm htl hW fun w8 h8 f8=>?_
 have z8:=f8.size
 have hok:StOk (nowM m):=(Store.open_ S7).1
 have fG:∀ {G:Nat→Prop} {v v':World},w.heap.size≤v.heap.size→(∀ k,k < w.heap.size→G k→lab k=2)→Fr G v v'→Fr (Ex F w) v v':=fun {G v v'} hv hg f=>f.sub fun k e=>by
  by_cases hk:k < w.heap.size
  ·exact .inl (hF k (by have:=hg k hk e; omega)).1
  ·exact .inr (by omega)
 have g8:Fr (Ex F w) w7 w8:=f8.sub fun k e=>by
  by_cases hk:k < w.heap.size
  ·rcases hl4n k e with e | e
   ·exact .inl (hF k (by have:=l4 k hk e; omega)).1
   ·exact .inl (hF k e.2.2).1
  ·exact .inr (by omega)
 have f08:Fr F w w8:=((((f03.ex (fG (by omega) (fun k _ e=>e) f4)).ex (fG (by omega) l1 f5)).ex (fG (by omega) l2 f6)).ex (fG (by omega) l3 f7)).ex g8
 refine hk rr w8 (fun k=>(lab4 k≠0∨w7.heap.size≤k)∧k < w8.heap.size) (Zuh (WldG.st.mono h8 fun k hk e=>⟨e,hk⟩)) (fun k e=>⟨?_,e.2⟩) ?_ (Zvj hm hok htl) f08
 ·by_cases hkn:k < w.heap.size
  ·rcases e.1 with e | e
   ·rcases hl4n k e with e | e
    ·exact .inl (hF k (by have:=l4 k hkn e; omega)).1
    ·exact .inl (hF k e.2.2).1
   ·omega
  ·exact .inr (by omega)
 ·have no:∀ k,w3.heap.size≤k→¬ G1 k→k < w4.heap.size→lab4 k=0:=fun k h1 h2 h3=>by
   by_cases h4:lab4 k=0
   ·exact h4
   ·rcases hl4n k h4 with e | e
    ·exact absurd e (n4 k h3 h2)
    ·omega
  refine (O7.fr f8 fun k e e2=>e2 (no k e.1 e.2.1 e.2.2)).mono fun k _ e=>⟨by omega,fun e2=>?_⟩
  have h0:=no k e.1 e.2.1 e.2.2
  rcases e2.1 with e3 | e3
  ·exact e3 h0
  ·omega
end Go.Proofs.YtoiahhpgkoknfaaGreat
namespace Go.Proofs.YtoiahhpgkoknfaaGreat
open Go Go.RowKit Go.Proofs.YtoiahhpgkoknfaaGreat.Den
variable {R:Type} {Q:R→World→Prop} {w:World}
section
variable {b:Nat} {x:StM} {L:List Ordr} {tk:Int} {f:Key→Option (Comp × Int)} {pl:List Plc} {F:Nat→Prop}
theorem Zjf {ok:Nat→Prop} {s:Sl} {l:List Plc} (hS:SlT ok w plcT s l) (hm:l.length * 16≤140737488355328) {K:Res [.sc .sl]→Den.W R} (hk:∀ r w',Den.Own (Up w.heap.size) w' 45 plcT r l→Fr None w w'→K r Q w') :
  callW Tryz.prog Z5k [.slice s.a s.n s.c] [.sc .sl] K Q w:=by
 refine Zep _ K Q w ?_
 unfold Z8h
 rcases hS.at_ with rfl | ⟨b,o,ha,_⟩
 ·cases hsa:s.a with
  | none=>exact condT rfl (hk _ w (Den.Own.nil _ _ _ _) (Fr.refl _ _))
  | some a =>
   refine condF rfl ?_
   rw [← hsa]
   refine newI fun w1 B1 f1 s1=>?_
   have own:=Den.Own.mk' (S:=Up w.heap.size) (w:=w1) (E:=45) (t:=plcT) (l:=[]) (g:=w.heap.size) (c:=0) (cur:=⟨[]⟩) (Nat.le_refl _) B1 (Nat.le_refl _) (Nat.zero_le _) (by simp) (by simp)
   refine appI (s:=⟨some ⟨w.heap.size,0,none⟩,0,0⟩) (s2:=s) (S':=Up w.heap.size) Zkq own (hS.fr0 f1) (by simp) (by simp) (fun _ h=>h) (by show _≤_; omega) fun r w2 o2 f2 s2=>hk r w2 (by simpa using o2) (f1.newer f2 (fun x e=>own.own x e))
 ·rw [ha]
  refine condF rfl ?_
  rw [← ha]
  exact cloneI Zkq hS hm (by omega) hk
theorem Zcc (h:WldG b x L tk f pl F w) (hm:pl.length≤1048576) {K:Res [.sc .sl]→Den.W R} (hk:∀ r w',Den.Own (Up w.heap.size) w' 45 plcT r pl→Fr None w w'→K r Q w') :
  callW Tryz.prog Z3o [.pointer (some ⟨b,0,none⟩)] [.sc .sl] K Q w:=by
 obtain ⟨sb,bb,mb,ps,_,B,_,_,_,P⟩:=h.sto
 refine Zew _ K Q w ?_
 unfold Z8o
 exact condF rfl (ptrI (fldI B (i:=4) (x:=ps) rfl (Zjf P.sl (by omega) hk)))
theorem Zmh {mb:Nat} (h:MapB Tryz.prog 140 keV w mb (mapV f)) {q:Key} (h1:IdOk q.1) (h2:0≤q.2∧q.2≤255) {K:Seen5→Den.W R} (hk:K (((f q).map seen5).getD (0,0,0,0,0)) Q w) :
  rawQ Tryz.prog (Instr.lookup 124 (.map (some mb)) (.agg ⟨[.int .u32 q.1,.int .u8 q.2]⟩) false) [.agg [.int .u8,.int .i32,.int .i32,.int .i32,.int .u32]] K Q w:=by
 obtain ⟨l,hl⟩:=Zqf h1 h2
 refine ⟨((f q).map seen5).getD (0,0,0,0,0),?_,hk⟩
 have:=h.look Zki Zjo Zp5 hl false
 rw [show keV q=.agg ⟨[.int .u32 q.1,.int .u8 q.2]⟩ from rfl] at this
 rw [this]
 unfold mapV
 cases f q <;> rfl
def tickF (f:Key→Option (Comp × Int)) (id k:Int):Int:=((f (id,k)).map (·.2)).getD 0
theorem tick5 (id k:Int):(((f (id,k)).map seen5).getD (0,0,0,0,0)).2.2.2.2=tickF f id k:=by unfold tickF; cases f (id,k) <;> rfl
theorem Zb2 (h:WldG b x L tk f pl F w) {id k:Int} (hid:IdOk id) (hk0:0≤k∧k≤255) {K:Res [.sc (.int .u32),.sc (.int .i64)]→Den.W R} (h1:(x.get id k).2≠0→∀ w',Fr None w w'→K (0,(x.get id k).2) Q w')
  (h2:(x.get id k).2=0→∀ w',Fr None w w'→K (tickF f id k,0) Q w'):callW Tryz.prog Z3h [.pointer (some ⟨b,0,none⟩),.int .u32 id,.int .u8 k] [.sc (.int .u32),.sc (.int .i64)] K Q w:=by
 obtain ⟨sb,bb,mb,ps,_,B,_,_,M,_⟩:=h.sto
 refine Zdj _ _ _ K Q w ?_
 unfold Z7r
 refine Zbj h fun sb S=>Z4g S hid fun w1 f1=>newI fun w2 B2 f2 s2=>stoAll B2 rfl rfl fun w3 B3 f3 s3=>?_
 have f03:Fr None w w3:=f1.then0 (f2.newer f3 fun k e=>by cases e; exact Nat.le_refl _)
 refine condN (fun hne=>h1 hne w3 f03) fun heq=>?_
 refine ptrI (fldI (B.fr f03 fun h=>h) (i:=3) (x:=some mb) rfl (Zmh (q:=(id,k)) (M.2.fr f03 fun h=>h) hid hk0 ?_))
 have:=h2 heq w3 f03
 rw [← tick5] at this
 exact this
def sinceB (f:Key→Option (Comp × Int)) (t:Int) (e:Ent):Bool:=e.2.any fun c=>decide (tickF f e.1 c.1 > t)
theorem Zl6 (h:WldG b x L tk f pl F w) {b1 b2 b3:Nat} {T1 T2 T3:TypeId} {id t:Int} {tl:List Value} (B1:Blk w b1 T1 [.pointer (some ⟨b,0,none⟩)]) (B2:Blk w b2 T2 (.int .u32 id :: tl)) (B3:Blk w b3 T3 [.int .u32 t]) (hid:IdOk id) {c:Comp} (hc:0≤c.1∧c.1≤255)
  {K:Res [.sc .bool]→Den.W R} (hk:∀ w',Fr None w w'→K (decide (tickF f id c.1 > t)) Q w') :
  callW Tryz.prog Z32 [.agg ⟨compC c⟩,.pointer (some ⟨b1,0,none⟩),.pointer (some ⟨b2,0,none⟩),.pointer (some ⟨b3,0,none⟩)] [.sc .bool] K Q w:=by
 obtain ⟨sb,bb,mb,ps,_,B,_,_,M,_⟩:=h.sto
 refine Zd9 c _ _ _ K Q w ?_
 unfold Z77
 refine newI fun w1 B4 f1 s1=>drawI ?_
 have fd:Fr None w1 w1.drew:=(Fr.refl _ _).drew
 have f0:=f1.then0 fd
 refine ptrI (fld0 (i:=0) (x:=some ⟨b,0,none⟩) (B1.fr f0 fun h=>h) rfl (ptrI (fldI (B.fr f0 fun h=>h) (i:=3) (x:=some mb) rfl (ptrI (fldI (B2.fr f0 fun h=>h) (i:=0) (x:=id) rfl (fldI B4.drew (i:=0) (x:=c.1) rfl ?_))))))
 refine Zmh (q:=(id,c.1)) (M.2.fr f0 fun h=>h) hid hc (ptrI (fld0 (i:=0) (x:=t) (B3.fr f0 fun h=>h) rfl ?_))
 rw [tick5]
 exact hk _ f0
theorem Zm2 (h:WldG b x L tk f pl F w) {b1 b2 b3:Nat} {T1 T2 T3:TypeId} {t:Int} {tl:List Value} {e:Ent} (B1:Blk w b1 T1 [.pointer (some ⟨b,0,none⟩)]) (B2:Blk w b2 T2 (.int .u32 e.1 :: tl)) (B3:Blk w b3 T3 [.int .u32 t]) (hid:IdOk e.1) {ok:Nat→Prop} {s:Sl} (hS:SlT ok w compT s e.2)
  (hc:∀ c∈e.2,0≤c.1∧c.1≤255) (hl:e.2.length≤1048576) {K:Res [.sc .bool]→Den.W R} (hk:∀ w',Fr None w w'→K (sinceB f t e) Q w') :
  callW Tryz.prog Z3a [.slice s.a s.n s.c,.func (.func Z32) #[] #[.pointer (some ⟨b1,0,none⟩),.pointer (some ⟨b2,0,none⟩),.pointer (some ⟨b3,0,none⟩)]] [.sc .bool] K Q w:=by
 refine Z3b s _ _ _ K Q w ?_
 unfold Z17
 refine Z3p s _ _ _ _ _ _ ?_
 unfold Z1f
 have hlen:=hS.len
 refine forI (N:=s.n) (fun s:Int=>s) (fun j i w'=>i=j∧Fr None w w'∧(e.2.take j).any (fun c=>decide (tickF f e.1 c.1 > t))=false) ⟨rfl,Fr.refl _ _,rfl⟩ (fun j s w' h=>h.1) ?_ ?_
 ·rintro j i w1 K' hj ⟨rfl,f1,hno⟩ - hK
  refine (hS.fr0 f1).get rfl rfl (by omega) fun c hcx=>Zl6 (WldG.st.fr0 h f1) (B1.fr f1 fun h=>h) (B2.fr f1 fun h=>h) (B3.fr f1 fun h=>h) hid (hc c (List.mem_of_getElem? hcx)) fun w2 f2=>?_
  refine condI (fun ht=>?_) fun hf=>?_
  ·have e1:sinceB f t e=true:=List.any_eq_true.2 ⟨c,List.mem_of_getElem? hcx,ht⟩
   have:=hk w2 (f1.then0 f2)
   rw [e1] at this
   show K (decide ((j:Int) ≥ 0)) Q w2
   rw [decide_eq_true (by omega)]
   exact this
  ·refine hK _ _ ⟨wsucc hj (by omega),f1.then0 f2,?_⟩
   rw [Zr hcx,List.any_append,hno,List.any_cons,hf]
   rfl
 ·rintro i w1 ⟨rfl,f1,hno⟩
  rw [hlen,List.take_length] at hno
  have:=hk w1 f1
  rw [show sinceB f t e=false from hno] at this
  exact this
theorem Zd2 (h:WldG b x L tk f pl F w) {t:Int} {K:Res [.sc .sl]→Den.W R} (hk:∀ r w',Den.Own (Up w.heap.size) w' 34 idT r (((entsM x).filter (sinceB f t)).map (·.1))→Fr None w w'→K r Q w') :
  callW Tryz.prog Z4b [.pointer (some ⟨b,0,none⟩),.int .u32 t] [.sc .sl] K Q w:=by
 obtain ⟨sb,bb,mb,ps,_,B,S,_⟩:=h.sto
 obtain ⟨hok,hle⟩:=Z8t (Store.open_ S).1
 refine Zft _ _ K Q w ?_
 unfold Z9m
 refine newI fun w1 B1 f1 s1=>newI fun w2 B2 f2 s2=>fld0 (i:=0) (x:=some ⟨b,0,none⟩) (B1.fr f2 fun h=>h) rfl ?_
 have f02:=f1.then0 f2
 have B1:=B1.fr f2 fun h=>h
 refine Zw (WldG.st.fr0 h f02) fun r w3 E3 f3=>?_
 have f03:=f02.then0 f3
 have B1:=B1.fr f3 fun h=>h
 have B2:=B2.fr f3 fun h=>h
 obtain ⟨raws,o3,ER⟩:=E3.ents
 have hrl:=ER.len
 have o3s:SlT (fun k=>w2.heap.size≤k∧k < w3.heap.size) w3 entT r raws:=o3.sl.mono fun k hk e=>⟨e,hk⟩
 have z3:=f3.size
 have z03:=f03.size
 refine rangeC (t:=entT) (ok:=fun k=>w2.heap.size≤k∧k < w3.heap.size) (l:=raws) (fun s:Sl × Int=>s.2) (fun j st v=>st.2=(j:Int)∧Den.Own (Up w3.heap.size) v 34 idT st.1 ((((entsM x).take j).filter (sinceB f t)).map (·.1))∧Fr None w3 v) rfl rfl rfl ⟨rfl,Den.Own.nil _ _ _ _,Fr.refl _ _⟩ (fun j s w' h=>h.1)
  (fun j st v hp=>o3s.fr0 hp.2.2) ?_ ?_
 ·rintro j a ⟨out,_⟩ v0 v1 K' hx ⟨rfl,ow,f4⟩ - B8 f5 s5 hK
  have hjl:=(List.getElem?_eq_some_iff.1 hx).1
  obtain ⟨e,he⟩:∃ e,(entsM x)[j]?=some e:=⟨_,List.getElem?_eq_getElem (by omega)⟩
  obtain ⟨ha1,ha2⟩:=ER.at_ j a e hx he
  obtain ⟨hid,hle2⟩:=hok.2 e (List.mem_of_getElem? he)
  have hc6:=Z3i hle2
  have f45:=f4.then0 f5
  have B8e:Blk v1 v0.heap.size 49 (.int .u32 e.1 :: [.slice a.2.a a.2.n a.2.c]):=by rw [← ha1]; exact B8
  refine fldI B8 (i:=1) (x:=a.2) rfl (Zm2 (WldG.st.fr0 h (f03.then0 f45)) (B1.fr f45 fun h=>h) B8e (B2.fr f45 fun h=>h) hid (ha2.fr0 f45) (fun c hc=>?_) (by omega) fun v2 f6=>?_)
  ·have:=Z3z ((Z3s.1 hle2).1 c hc); exact ⟨this.1,Int.le_trans this.2 (by decide)⟩
  have f46:=f45.then0 f6
  have hout:(((entsM x).take j).filter (sinceB f t)).length≤1024:=Nat.le_trans (List.length_filter_le _ _) (by rw [List.length_take]; omega)
  refine joinI (fun (z:Sl) v=>Den.Own (Up w3.heap.size) v 34 idT z ((((entsM x).take (j+1)).filter (sinceB f t)).map (·.1))∧Fr None w3 v) ?_ ?_
  ·refine condI (fun ht=>fldI (B8.fr f6 fun h=>h) (i:=0) (x:=a.1) rfl ?_) fun hf=>⟨?_,f46⟩
   ·have z46:=f46.size
    refine appF Zkf (x:=a.1) rfl (ow.none (f5.then0 f6)) (by omega) (by rw [List.length_map]; omega) (by rw [List.length_map]; omega) fun r2 v3 o7 f7 _=>⟨?_,f46.newer f7 fun k e=>ow.own k e⟩
    rw [Zr he,List.filter_append,List.map_append,List.filter_cons_of_pos (by simpa using ht)]
    rw [ha1] at o7
    exact o7
   ·rw [Zr he,List.filter_append,List.filter_cons_of_neg (by simp [hf]),List.filter_nil,List.append_nil]
    exact ow.none (f5.then0 f6)
  ·rintro z v3 ⟨o7,f7⟩
   exact hK _ _ ⟨wsucc hjl (by omega),o7,f7⟩
 ·rintro ⟨out,_⟩ v0 ⟨_,ow,f4⟩
  rw [hrl,List.take_length] at ow
  exact hk out v0 (ow.mono fun k _ e=>by have e:w3.heap.size≤k:=e; show w.heap.size≤k; omega) (f03.then0 f4)
end
end Go.Proofs.YtoiahhpgkoknfaaGreat
namespace Go.Proofs.YtoiahhpgkoknfaaGreat
open Go Go.RowKit Go.ChangeShapes Go.WideShapes Go.ChangeAt Go.Proofs.YtoiahhpgkoknfaaGreat.Den
variable {R:Type} {Q:R→World→Prop} {w:World} {H:Type} {enc:TypeId × Value→H}
def OrdersIn (W:World) (s:Sl) (L:List Ordr):Prop:=(∃ raws,SlT (Old W) W ordT s raws∧All2 (OrdIn W) raws L)∧s.c≤maxLen
theorem Zqi {s:Sl} (h:LeafOk enc Tryz.prog w 30 (.slice s.a s.n s.c)):∃ L,OrdersIn w s L:=by
 obtain ⟨s',l,e,h2,h3,h4⟩:=h.slice orders_arg
 have e':s=s':=by
  have e:Value.slice s.a s.n s.c=Value.slice s'.a s'.n s'.c:=e
  simp only [Value.slice.injEq] at e
  obtain ⟨e1,e2,e3⟩:=e
  cases s; cases s'; simp_all
 subst e'
 obtain ⟨L,hL⟩:=orders_in h4
 exact ⟨L,⟨l,h2,hL⟩,h3⟩
abbrev turnT:Ty:=.agg [.sl,.int .u32]
theorem turns_arg:SlArg Tryz.prog 22 32 turnT [30,28] :=
 ⟨by kernel_rfl,by kernel_rfl,by decide,by kernel_rfl,⟨[.sl,.int .u32],by kernel_rfl,.inl rfl⟩⟩
def TurnIn (W:World) (r:Sl × Int) (t:List Ordr × Int):Prop:=OrdersIn W r.1 t.1∧r.2=t.2∧0≤t.2∧t.2≤4294967295
theorem turns_in {raws:List (Sl × Int)} (h:∀ r∈raws,AllLeaf enc Tryz.prog w [30,28] (turnT.cells r)):∃ L,All2 (TurnIn w) raws L:=deep_of fun r hr=>by
 obtain ⟨_,h⟩:=h r hr
 obtain ⟨L,hL⟩:=Zqi (s:=r.1) (h 0 _ _ rfl rfl)
 obtain ⟨_,e,h1⟩:=(h 1 _ _ rfl rfl).int Zws
 cases e
 exact ⟨(L,r.2),hL,rfl,Zw5 h1⟩
end Go.Proofs.YtoiahhpgkoknfaaGreat
namespace Go.Proofs.YtoiahhpgkoknfaaGreat
open Go Go.RowKit Go.ChangeShapes Go.WideShapes Go.ChangeAt Go.Proofs.YtoiahhpgkoknfaaGreat.Den
variable {R:Type} {Q:R→World→Prop} {w:World}
theorem Zuw (L:List Ordr) (n:Nat):(fewO L n).length≤n:=by simp [fewO]; omega
theorem Zwe {L:List Ordr} {n:Nat} (h:∀ o∈L,OrdOk o):∀ o∈fewO L n,OrdOk o∧o.2.2.2.length≤20:=fun o ho=>by
 obtain ⟨p,hp,rfl⟩:=List.mem_map.1 ho
 have hk:=h p (List.mem_of_mem_take hp)
 exact ⟨⟨hk.do_,hk.id,hk.kind,fun c hc=>hk.comps c (List.mem_of_mem_take hc)⟩,by simp; omega⟩
theorem Den.DR.fr0' {ok:Nat→Prop} {s:Sl} {raws:List OrdRaw} {L:List Ordr} (h:DR ordR (t:=ordT) ok w s raws L) {w':World} (f:Fr None w w'):DR ordR (t:=ordT) ok w' s raws L:=DR.st Z62 h f fun _ _ e=>⟨fun h=>h,e⟩
end Go.Proofs.YtoiahhpgkoknfaaGreat
namespace Go.Proofs.YtoiahhpgkoknfaaGreat
open Go Go.RowKit Go.Proofs.YtoiahhpgkoknfaaGreat.Den
variable {R:Type} {Q:R→World→Prop} {w:World}
theorem Z5a {ok ok2:Nat→Prop} {s s2:Sl} {raws raws2:List (Int × Sl)} {L L2:List Ent} (hS:SlT ok w entT s raws) (hE:EntsR ok w raws L) (hS2:SlT ok2 w entT s2 raws2) (hE2:EntsR ok2 w raws2 L2) (hm:L.length≤1048576) (hL:∀ e∈L,Small e.2) {K:Res [.sc .bool]→W R} (hk:∀ w',Fr None w w'→K (decide (L=L2)) Q w') :
  callW Tryz.prog Z10 [.slice s.a s.n s.c,.slice s2.a s2.n s2.c] [.sc .bool] K Q w:=by
 refine Zcd s s2 K Q w ?_
 unfold Z6b
 have h1:=hS.len.trans hE.len
 have h2:=hS2.len.trans hE2.len
 refine condN (fun hne=>?_) fun heq=>?_
 ·have e:=hk w (Fr.refl _ _)
  rw [decide_eq_false (fun e=>hne (by rw [h1,h2,e]))] at e
  exact e
 ·refine forI (N:=s.n) (fun s:Int=>s) (fun j s w'=>s=j∧Fr None w w'∧L.take j=L2.take j) ⟨rfl,Fr.refl _ _,rfl⟩ (fun j s w' h=>h.1) ?_ ?_
  ·rintro j i w1 K' hj ⟨rfl,f1,ht⟩ - hK
   have f1d:=f1.drew
   obtain ⟨x,hx⟩:∃ x,L[j]?=some x:=⟨_,List.getElem?_eq_getElem (by omega)⟩
   obtain ⟨y,hy⟩:∃ y,L2[j]?=some y:=⟨_,List.getElem?_eq_getElem (by omega)⟩
   obtain ⟨r,hr,a1,a2⟩:=hE.get hx
   obtain ⟨q,hq,b1,b2⟩:=hE2.get hy
   refine (hS.fr0 f1d).get rfl rfl (by have:=hE.len; omega) fun z hz=>?_
   rw [hr] at hz; cases hz
   refine (hS2.fr0 f1d).get rfl rfl (by have:=hE2.len; omega) fun z hz=>?_
   rw [hq] at hz; cases hz
   refine Zji (id:=r.1) (s:=r.2) (id2:=q.1) (s2:=q.2) (a2.fr0 f1d) (b2.fr0 f1d) (hL x (List.mem_of_getElem? hx)) fun w2 f2=>?_
   have f02:=f1d.then0 f2
   refine condI (fun hb=>?_) fun hb=>?_
   ·have e:=hk _ f02
    rw [decide_eq_false (fun e=>by
     subst e; rw [hx] at hy; cases hy
     simp [a1,b1] at hb)] at e
    exact e
   ·have hxy:x=y:=by
     have:r.1=q.1∧x.2=y.2:=by simpa using hb
     exact Prod.ext (by rw [← a1,← b1]; exact this.1) this.2
    subst hxy
    exact hK _ _ ⟨wsucc hj (by omega),f02,by rw [Zr hx,Zr hy,ht]⟩
  ·rintro i w1 ⟨rfl,f1,ht⟩
   have e:=hk _ f1
   have heq:(s.n:Int)=(s2.n:Int):=heq
   rw [List.take_of_length_le (by omega),List.take_of_length_le (by omega)] at ht
   rw [decide_eq_true ht] at e
   exact e
end Go.Proofs.YtoiahhpgkoknfaaGreat
namespace Go.Proofs.YtoiahhpgkoknfaaGreat
open Go Go.RowKit Go.Proofs.YtoiahhpgkoknfaaGreat.Den
variable {R:Type} {Q:R→World→Prop} {w:World}
theorem Zbh {ok:Nat→Prop} {s:Sl} {raws:List (Int × Sl)} {L:List Ent} (hS:SlT ok w entT s raws) (hE:EntsR ok w raws L) (hm:L.length≤1048576) (hL:∀ e∈L,Small e.2) {K:Res [.sc .sl]→W R}
  (hk:∀ r raws' w',Den.Own (Up w.heap.size) w' 49 entT r raws'→EntsR (Up w.heap.size) w' raws' L→Fr None w w'→K r Q w') :
  callW Tryz.prog Z2l [.slice s.a s.n s.c] [.sc .sl] K Q w:=by
 refine Zem s K Q w ?_
 unfold Z8e
 have hlen:=hS.len
 have hel:=hE.len
 refine forI (N:=s.n) (fun s:Sl × Int=>s.2) (fun j st w'=>st.2=(j:Int)∧(∃ rs,rs.length=j∧Den.Own (fun k=>w.heap.size≤k) w' 49 entT st.1 rs∧EntsR (fun k=>w.heap.size≤k∧st.1.v.ownBlock≠some k) w' rs (L.take j))∧Fr None w w') ⟨rfl,⟨[],rfl,Den.Own.nil _ _ _ _,by rw [List.take_zero]; exact EntsR.nil _ _⟩,Fr.refl _ _⟩ (fun j s w' h=>h.1) ?_ ?_
 ·rintro j ⟨z,_⟩ w1 K' hj ⟨rfl,⟨rs,hrs,o1,E1⟩,f1⟩ - hK
  have hs1:=f1.size
  obtain ⟨e,he⟩:∃ e,L[j]?=some e:=⟨_,List.getElem?_eq_getElem (by omega)⟩
  obtain ⟨r1,hr1,ha1,ha2⟩:=hE.get he
  refine (hS.fr0 f1).get rfl rfl (by omega) fun y hy=>?_
  rw [hr1] at hy
  cases hy
  refine newI fun w2 B2 f2 s2=>stoAll B2 rfl rfl fun w3 B3 f3 s3=>?_
  have f13:Fr None w1 w3:=f2.newer f3 fun k e=>by omega
  have fd:Fr None w3 w3.drew:=(Fr.refl _ _).drew
  have f1d:=f13.then0 fd
  have Bd:=B3.fr fd fun h=>h
  have hs3:=f1d.size
  refine fldI Bd (i:=0) (x:=r1.1) rfl (fldI Bd (i:=1) (x:=r1.2) rfl ?_)
  refine Zj4 (ha2.fr0 (f1.then0 f1d)) (hL e (List.mem_of_getElem? he)) fun t w4 o4 f4=>?_
  refine andI ((Bd.fr f4 fun h=>h).rd (s:=.int .u32) (i:=0) (x:=r1.1) rfl) ?_
  have f14:=f1d.then0 f4
  have hs4:=f4.size
  have oz:Den.Own (fun k=>w.heap.size≤k∧(z.v.ownBlock=some k∨w4.heap.size≤k)) w4 49 entT z rs:=⟨(o1.none f14).row,fun k e=>⟨o1.own k e,.inl e⟩⟩
  refine appP (x:=((r1.1,t):Int × Sl)) Zk9 rfl oz (fun k e=>⟨by omega,.inr e⟩) (by omega) (by omega) fun r w5 o5 f5=>?_
  have hzl:∀ k,z.v.ownBlock=some k→k < w1.heap.size:=fun k e=>(o1.row.lt k e).2
  have E4:EntsR (fun k=>(w.heap.size≤k∧z.v.ownBlock≠some k)∧k < w1.heap.size) w5 rs (L.take j):=((E1.mono (ok':=fun k=>(w.heap.size≤k∧z.v.ownBlock≠some k)∧k < w1.heap.size) fun k hk e=>⟨e,hk⟩).fr f14 fun _ _ h=>h).fr f5 fun k e e2=>e.1.2 e2
  have t5:SlT (fun k=>w3.drew.heap.size≤k∧k < w4.heap.size) w5 compT t e.2:=(o4.mono (S':=fun k=>w3.drew.heap.size≤k∧k < w4.heap.size) fun k hk e=>⟨e,hk⟩).sl.fr f5 fun k e e2=>by have:=hzl k e2; omega
  refine hK _ _ ⟨wsucc hj (by omega),⟨rs ++ [(r1.1,t)],by simp [hrs],o5.mono fun k _ e=>e.1,?_⟩,(f1.then0 f14).newer f5 fun k e=>o1.own k e⟩
  have ro:∀ k,r.v.ownBlock=some k→z.v.ownBlock=some k∨w4.heap.size≤k:=fun k e=>(o5.own k e).2
  refine ⟨by simp [hrs]; omega,fun q rq eq h1 h2=>?_⟩
  rw [Zr he] at h2
  rcases Nat.lt_or_ge q j with hq | hq
  ·rw [List.getElem?_append_left (by omega)] at h1
   rw [List.getElem?_append_left (by simp; omega)] at h2
   obtain ⟨x1,x2⟩:=E4.at_ q rq eq h1 h2
   refine ⟨x1,x2.mono fun k _ e=>⟨e.1.1,fun e2=>?_⟩⟩
   rcases ro k e2 with h | h
   ·exact e.1.2 h
   ·have:=e.2; omega
  ·have hlt:=(List.getElem?_eq_some_iff.1 h1).1
   have:q=j:=by simp [hrs] at hlt; omega
   subst this
   rw [List.getElem?_append_right (by omega)] at h1
   rw [List.getElem?_append_right (by simp; omega)] at h2
   simp [hrs] at h1
   have h2:eq=e:=by
    have:q - (L.take q).length=0:=by simp; omega
    rw [this] at h2
    simpa using h2.symm
   subst h1; subst h2
   refine ⟨ha1,t5.mono fun k _ e=>⟨by omega,fun e2=>?_⟩⟩
   rcases ro k e2 with h | h
   ·have:=hzl k h; omega
   ·omega
 ·rintro ⟨z,_⟩ w1 ⟨_,⟨rs,hrs,o1,E1⟩,f1⟩
  rw [List.take_of_length_le (by omega)] at E1
  exact hk z rs w1 o1 (E1.mono fun k _ e=>e.1) f1
end Go.Proofs.YtoiahhpgkoknfaaGreat
namespace Go.Proofs.YtoiahhpgkoknfaaGreat
open Go Go.RowKit
theorem band {a b:Bool} (h1:a=true) (h2:b=true):(a && b)=true:=by rw [h1,h2]; rfl
theorem maps_rowed:mapsRowed Tryz.prog=true:=by kernel_rfl
theorem may_enter:Tryz.prog.mayEnter=true:=by kernel_rfl
end Go.Proofs.YtoiahhpgkoknfaaGreat
set_option linter.unusedVariables false
namespace Go.Proofs.YtoiahhpgkoknfaaGreat
open Go Go.Proofs.YtoiahhpgkoknfaaGreat.Den
def Z64 (d0:Int) (o1:Sl):W (Bool) :=
 callW Tryz.prog Z1u [] [.sc .bool] fun (x_1:Bool) =>
 cond (!x_1)
  (retW false)
  (callW Tryz.prog Z4a [.int .i64 8,.int .i64 1,.int .u32 (IntKind.wrap .u32 (4294967295 - (IntKind.wrap .u32 (Int.tmod d0 5))))] [.sc .ptr,.sc (.int .i64)] fun (x_2:(Option Addr) × Int) =>
 joinW (σ:=Bool) (fun J_3 =>
  cond (x_2.2 != 0)
   (J_3 true)
   (callW Tryz.prog Z3m [] [.agg [.int .u8,.int .u32,.int .u8,.sl]] fun (x_4:(Int × Int × Int × Sl)) =>
    callW Tryz.prog Z9 [.pointer x_2.1,.agg ⟨[.int .u8 x_4.1,.int .u32 x_4.2.1,.int .u8 x_4.2.2.1,.slice x_4.2.2.2.a x_4.2.2.2.n x_4.2.2.2.c]⟩] [.sc (.int .i64)] fun (x_5:Int) =>
     J_3 (x_5 != 0)))
 <| fun s_6 =>
 cond s_6
  (retW false)
  (loopW (σ:=Int) (fun K_7 s_8 =>
  cond (decide (s_8 < (IntKind.wrap .u32 (Int.tmod d0 5))))
   (callW Tryz.prog Z4 [.pointer x_2.1] [.sc .sl,.sc (.int .i64)] fun (x_9:Sl × Int) =>
  cond (x_9.2 != 0)
   (retW false)
   (K_7 (IntKind.wrap .u32 (s_8+1))))
   (callW Tryz.prog Z2b [.pointer x_2.1] [.sc (.int .i64)] fun (x_10:Int) =>
 callW Tryz.prog Z3d [.slice o1.a o1.n o1.c,.int .i64 20] [.sc .sl] fun (x_11:Sl) =>
 loopW (σ:=Int × Int) (fun K_12 s_13 =>
  cond (decide (s_13.2 < (x_11.n:Int)))
   (idxW x_11.a x_11.n 4 s_13.2 fun x_14 =>
  ld (.agg [.int .u8,.int .u32,.int .u8,.sl]) x_14 fun (x_15:(Int × Int × Int × Sl)) =>
  newW 37 [.int .u8 0,.int .u32 0,.int .u8 0,.slice none 0 0] fun x_16 =>
  stoL x_16 [.int .u8 x_15.1,.int .u32 x_15.2.1,.int .u8 x_15.2.2.1,.slice x_15.2.2.2.a x_15.2.2.2.n x_15.2.2.2.c] 0 <|
  ld (.agg [.int .u8,.int .u32,.int .u8,.sl]) x_16 fun (x_17:(Int × Int × Int × Sl)) =>
  callW Tryz.prog Z9 [.pointer x_2.1,.agg ⟨[.int .u8 x_17.1,.int .u32 x_17.2.1,.int .u8 x_17.2.2.1,.slice x_17.2.2.2.a x_17.2.2.2.n x_17.2.2.2.c]⟩] [.sc (.int .i64)] fun (x_18:Int) =>
  joinW (σ:=Int) (fun J_19 =>
   cond (x_18 == 0)
    (J_19 (IntKind.wrap .i64 (s_13.1+1)))
    (J_19 s_13.1))
  <| fun s_20 =>
  K_12 (s_20,IntKind.wrap .i64 (s_13.2+1)))
   (callW Tryz.prog Z6 [.pointer x_2.1] [.sc .sl] fun (x_21:Sl) =>
 callW Tryz.prog Z2l [.slice x_21.a x_21.n x_21.c] [.sc .sl] fun (x_22:Sl) =>
 callW Tryz.prog Z4 [.pointer x_2.1] [.sc .sl,.sc (.int .i64)] fun (x_23:Sl × Int) =>
 joinW (σ:=Bool) (fun J_24 =>
  cond (x_23.2 == 11)
   (cond ((x_23.1.n : Int) == 0)
      (callW Tryz.prog Z4u [.pointer x_2.1] [.sc (.int .u32)] fun (x_25:Int) =>
       cond (x_25 == 4294967295)
         (callW Tryz.prog Z2b [.pointer x_2.1] [.sc (.int .i64)] fun (x_26:Int) =>
          cond (x_26 == s_13.1)
                (callW Tryz.prog Z6 [.pointer x_2.1] [.sc .sl] fun (x_27:Sl) =>
                 callW Tryz.prog Z10 [.slice x_27.a x_27.n x_27.c,.slice x_22.a x_22.n x_22.c] [.sc .bool] fun (x_28:Bool) =>
                   J_24 x_28)
                (J_24 false))
         (J_24 false))
      (J_24 false))
   (J_24 false))
 <| fun s_29 =>
 retW s_29))
  (x_10,0)))
  0))
theorem Zbk {R:Type} (d0:Int) (o1:Sl) (K:Res [.sc .bool]→W R) (Q:R→World→Prop) (w:World) (h:Z64 d0 o1 (fun r w=>K r Q w) w):callW Tryz.prog Zc6 [.int .u8 d0,.slice o1.a o1.n o1.c] [.sc .bool] K Q w:=den_c (K:=K) mix Tryz.func4 { reg:=[(5,[(34,.sc .bool)]),(22,[(4,.sc .bool)])],con:=[(19058,[(10,.sc (.int .i64))])],lop:=[(0,[(36,.sc (.int .u32))]),(2,[(10,.sc (.int .i64)),(51,.sc (.int .i64))])] } trivial rfl (by kernel_rfl) h
def Z5q (d0:Sl):W (Bool) :=
 callW Tryz.prog Z1u [] [.sc .bool] fun (x_1:Bool) =>
 cond (!x_1)
  (retW false)
  (callW Tryz.prog Z4a [.int .i64 10,.int .i64 1,.int .u32 0] [.sc .ptr,.sc (.int .i64)] fun (x_2:(Option Addr) × Int) =>
 callW Tryz.prog Z4a [.int .i64 10,.int .i64 1,.int .u32 0] [.sc .ptr,.sc (.int .i64)] fun (x_3:(Option Addr) × Int) =>
 joinW (σ:=Bool) (fun J_4 =>
  cond (x_2.2 != 0)
   (J_4 true)
   (J_4 (x_3.2 != 0)))
 <| fun s_5 =>
 cond s_5
  (retW false)
  (joinW (σ:=Unit) (fun J_6 =>
  loopW (σ:=Int) (fun K_7 s_8 =>
   cond (decide (s_8 < (d0.n:Int)))
    (idxW d0.a d0.n 2 s_8 fun x_9 =>
   ld (.agg [.sl,.int .u32]) x_9 fun (x_10:(Sl × Int)) =>
   newW 32 [.slice none 0 0,.int .u32 0] fun x_11 =>
   stoL x_11 [.slice x_10.1.a x_10.1.n x_10.1.c,.int .u32 x_10.2] 0 <|
   cond (decide (s_8 ≥ 12))
    (J_6 ())
    (ld (.sc .sl) (Addr.add x_11 0) fun (x_12:Sl) =>
   callW Tryz.prog Z3d [.slice x_12.a x_12.n x_12.c,.int .i64 10] [.sc .sl] fun (x_13:Sl) =>
   loopW (σ:=Int) (fun K_14 s_15 =>
    cond (decide (s_15 < (x_13.n:Int)))
     (idxW x_13.a x_13.n 4 s_15 fun x_16 =>
    ld (.agg [.int .u8,.int .u32,.int .u8,.sl]) x_16 fun (x_17:(Int × Int × Int × Sl)) =>
    newW 37 [.int .u8 0,.int .u32 0,.int .u8 0,.slice none 0 0] fun x_18 =>
    stoL x_18 [.int .u8 x_17.1,.int .u32 x_17.2.1,.int .u8 x_17.2.2.1,.slice x_17.2.2.2.a x_17.2.2.2.n x_17.2.2.2.c] 0 <|
    ld (.agg [.int .u8,.int .u32,.int .u8,.sl]) x_18 fun (x_19:(Int × Int × Int × Sl)) =>
    callW Tryz.prog Z9 [.pointer x_2.1,.agg ⟨[.int .u8 x_19.1,.int .u32 x_19.2.1,.int .u8 x_19.2.2.1,.slice x_19.2.2.2.a x_19.2.2.2.n x_19.2.2.2.c]⟩] [.sc (.int .i64)] fun (x_20:Int) =>
    K_14 (IntKind.wrap .i64 (s_15+1)))
     (loopW (σ:=Int) (fun K_21 s_22 =>
    cond (decide (s_22 < (x_13.n:Int)))
     (idxW x_13.a x_13.n 4 s_22 fun x_23 =>
    ld (.agg [.int .u8,.int .u32,.int .u8,.sl]) x_23 fun (x_24:(Int × Int × Int × Sl)) =>
    newW 37 [.int .u8 0,.int .u32 0,.int .u8 0,.slice none 0 0] fun x_25 =>
    stoL x_25 [.int .u8 x_24.1,.int .u32 x_24.2.1,.int .u8 x_24.2.2.1,.slice x_24.2.2.2.a x_24.2.2.2.n x_24.2.2.2.c] 0 <|
    ld (.agg [.int .u8,.int .u32,.int .u8,.sl]) x_25 fun (x_26:(Int × Int × Int × Sl)) =>
    callW Tryz.prog Z9 [.pointer x_3.1,.agg ⟨[.int .u8 x_26.1,.int .u32 x_26.2.1,.int .u8 x_26.2.2.1,.slice x_26.2.2.2.a x_26.2.2.2.n x_26.2.2.2.c]⟩] [.sc (.int .i64)] fun (x_27:Int) =>
    callW Tryz.prog Z6 [.pointer x_3.1] [.sc .sl] fun (x_28:Sl) =>
    callW Tryz.prog Z4b [.pointer x_3.1,.int .u32 0] [.sc .sl] fun (x_29:Sl) =>
    K_21 (IntKind.wrap .i64 (s_22+1)))
     (callW Tryz.prog Z4 [.pointer x_2.1] [.sc .sl,.sc (.int .i64)] fun (x_30:Sl × Int) =>
   callW Tryz.prog Z4 [.pointer x_3.1] [.sc .sl,.sc (.int .i64)] fun (x_31:Sl × Int) =>
   joinW (σ:=Bool) (fun J_32 =>
    callW Tryz.prog Z15 [.slice x_30.1.a x_30.1.n x_30.1.c,.slice x_31.1.a x_31.1.n x_31.1.c] [.sc .bool] fun (x_33:Bool) =>
    cond (!x_33)
     (J_32 true)
     (callW Tryz.prog Z6 [.pointer x_2.1] [.sc .sl] fun (x_34:Sl) =>
      callW Tryz.prog Z6 [.pointer x_3.1] [.sc .sl] fun (x_35:Sl) =>
        callW Tryz.prog Z10 [.slice x_34.a x_34.n x_34.c,.slice x_35.a x_35.n x_35.c] [.sc .bool] fun (x_36:Bool) =>
         J_32 (!x_36)))
   <| fun s_37 =>
   cond s_37
    (retW false)
    (K_7 (IntKind.wrap .i64 (s_8+1)))))
    0))
    0))
    (J_6 ()))
   0)
 <| fun s_38 =>
 retW true))
theorem Zb4 {R:Type} (d0:Sl) (K:Res [.sc .bool]→W R) (Q:R→World→Prop) (w:World) (h:Z5q d0 (fun r w=>K r Q w) w):callW Tryz.prog Zba [.slice d0.a d0.n d0.c] [.sc .bool] K Q w:=den_c (K:=K) mix Tryz.func5 { reg:=[(5,[(33,.sc .bool)]),(26,[(91,.sc .bool)])],blk:=[(0,[])],lop:=[(0,[(36,.sc (.int .i64))]),(2,[(48,.sc (.int .i64))]),(4,[(58,.sc (.int .i64))])] } trivial rfl (by kernel_rfl) h
def Z65 (d0:(Int × Int × Int × Sl)):W (Bool) :=
 newW 37 [.int .u8 d0.1,.int .u32 d0.2.1,.int .u8 d0.2.2.1,.slice d0.2.2.2.a d0.2.2.2.n d0.2.2.2.c] fun o_1 =>
 callW Tryz.prog Z1u [] [.sc .bool] fun (x_2:Bool) =>
 cond (!x_2)
  (retW false)
  (callW Tryz.prog Z4a [.int .i64 1,.int .i64 1,.int .u32 0] [.sc .ptr,.sc (.int .i64)] fun (x_3:(Option Addr) × Int) =>
 joinW (σ:=Bool) (fun J_4 =>
  cond (x_3.2 != 0)
   (J_4 true)
   (newW 52 [.int .u8 4,.int .i32 0,.int .i32 0,.int .i32 0] fun x_5 =>
     callW Tryz.prog Z9 [.pointer x_3.1,.agg ⟨[.int .u8 1,.int .u32 0,.int .u8 0,.slice (some x_5) 1 1]⟩] [.sc (.int .i64)] fun (x_6:Int) =>
       J_4 (x_6 != 0)))
 <| fun s_7 =>
 cond s_7
  (retW false)
  (callW Tryz.prog Z4 [.pointer x_3.1] [.sc .sl,.sc (.int .i64)] fun (x_8:Sl × Int) =>
 callW Tryz.prog Z6 [.pointer x_3.1] [.sc .sl] fun (x_9:Sl) =>
 callW Tryz.prog Z2l [.slice x_9.a x_9.n x_9.c] [.sc .sl] fun (x_10:Sl) =>
 ld (.sc .sl) (Addr.add o_1 3) fun (x_11:Sl) =>
 ld (.sc .sl) (Addr.add o_1 3) fun (x_12:Sl) =>
 slcW x_11.a x_11.n x_11.c 4 none (some (if 20 < (x_12.n:Int) then 20 else (x_12.n:Int))) fun x_13 =>
 stoL (Addr.add o_1 3) [.slice x_13.a x_13.n x_13.c] 0 <|
 callW Tryz.prog Z6m [.int .i64 1,.int .i64 1] [.sc .ptr,.sc (.int .i64)] fun (x_14:(Option Addr) × Int) =>
 newW 52 [.int .u8 4,.int .i32 0,.int .i32 0,.int .i32 0] fun x_15 =>
 callW Tryz.prog Z2m [.pointer x_14.1,.slice (some x_15) 1 1] [.sc (.int .u32),.sc (.int .i64)] fun (x_16:Int × Int) =>
 ld (.agg [.int .u8,.int .u32,.int .u8,.sl]) o_1 fun (x_17:(Int × Int × Int × Sl)) =>
 callW Tryz.prog Z7c [.pointer x_14.1,.agg ⟨[.int .u8 x_17.1,.int .u32 x_17.2.1,.int .u8 x_17.2.2.1,.slice x_17.2.2.2.a x_17.2.2.2.n x_17.2.2.2.c]⟩] [.agg [.int .i64,.int .u32]] fun (x_18:(Int × Int)) =>
 newW 71 [.int .i64 0,.int .u32 0] fun x_19 =>
 stoL x_19 [.int .i64 x_18.1,.int .u32 x_18.2] 0 <|
 ld (.agg [.int .u8,.int .u32,.int .u8,.sl]) o_1 fun (x_20:(Int × Int × Int × Sl)) =>
 callW Tryz.prog Z9 [.pointer x_3.1,.agg ⟨[.int .u8 x_20.1,.int .u32 x_20.2.1,.int .u8 x_20.2.2.1,.slice x_20.2.2.2.a x_20.2.2.2.n x_20.2.2.2.c]⟩] [.sc (.int .i64)] fun (x_21:Int) =>
 cond (x_21 != 0)
  (joinW (σ:=Bool) (fun J_22 =>
   ld (.sc (.int .i64)) (Addr.add x_19 0) fun (x_23:Int) =>
   cond (x_23 != 0)
    (callW Tryz.prog Z2b [.pointer x_3.1] [.sc (.int .i64)] fun (x_24:Int) =>
     J_22 (x_24 == 0))
    (J_22 false))
  <| fun s_25 =>
  retW s_25)
  (callW Tryz.prog Z4 [.pointer x_3.1] [.sc .sl,.sc (.int .i64)] fun (x_26:Sl × Int) =>
 joinW (σ:=Bool) (fun J_27 =>
  cond (x_26.2 != 0)
   (J_27 true)
   (ld (.agg [.int .i64,.int .u32]) x_19 fun (x_28:(Int × Int)) =>
    newW 71 [.int .i64 x_28.1,.int .u32 x_28.2] fun x_29 =>
     callW Tryz.prog Z15 [.slice x_26.1.a x_26.1.n x_26.1.c,.slice (some x_29) 1 1] [.sc .bool] fun (x_30:Bool) =>
      J_27 (!x_30)))
 <| fun s_31 =>
 cond s_31
  (retW false)
  (joinW (σ:=Bool) (fun J_32 =>
  ld (.sc (.int .i64)) (Addr.add x_19 0) fun (x_33:Int) =>
  cond (x_33 == 0)
   (J_32 true)
   (callW Tryz.prog Z6 [.pointer x_3.1] [.sc .sl] fun (x_34:Sl) =>
    callW Tryz.prog Z10 [.slice x_34.a x_34.n x_34.c,.slice x_10.a x_10.n x_10.c] [.sc .bool] fun (x_35:Bool) =>
      J_32 x_35))
 <| fun s_36 =>
 retW s_36))))
theorem Zbl {R:Type} (d0:(Int × Int × Int × Sl)) (K:Res [.sc .bool]→W R) (Q:R→World→Prop) (w:World) (h:Z65 d0 (fun r w=>K r Q w) w):callW Tryz.prog Zc7 [.agg ⟨[.int .u8 d0.1,.int .u32 d0.2.1,.int .u8 d0.2.2.1,.slice d0.2.2.2.a d0.2.2.2.n d0.2.2.2.c]⟩] [.sc .bool] K Q w:=den_c (K:=K) mix Tryz.func6 { reg:=[(4,[(26,.sc .bool)]),(13,[(2,.sc .bool)]),(15,[(76,.sc .bool)]),(17,[(2,.sc .bool)])] } trivial rfl (by kernel_rfl) h
def Z5p (d0:Sl) (o1:Int):W (Bool) :=
 callW Tryz.prog Z1u [] [.sc .bool] fun (x_1:Bool) =>
 cond (!x_1)
  (retW false)
  (callW Tryz.prog Z4a [.int .i64 20,.int .i64 1,.int .u32 0] [.sc .ptr,.sc (.int .i64)] fun (x_2:(Option Addr) × Int) =>
 cond (x_2.2 != 0)
  (retW false)
  (loopW (σ:=Int) (fun K_3 s_4 =>
  cond (decide (s_4 < (d0.n:Int)))
   (idxW d0.a d0.n 1 s_4 fun x_5 =>
  ld (.sc .sl) x_5 fun (x_6:Sl) =>
  slcW x_6.a x_6.n x_6.c 4 none (some (if 20 < (x_6.n:Int) then 20 else (x_6.n:Int))) fun x_7 =>
  loopW (σ:=Sl × Int) (fun K_8 s_9 =>
   cond (decide (s_9.2 < (x_7.n:Int)))
    (idxW x_7.a x_7.n 4 s_9.2 fun x_10 =>
   ld (.agg [.int .u8,.int .i32,.int .i32,.int .i32]) x_10 fun (x_11:(Int × Int × Int × Int)) =>
   newW 52 [.int .u8 0,.int .i32 0,.int .i32 0,.int .i32 0] fun x_12 =>
   stoL x_12 [.int .u8 x_11.1,.int .i32 x_11.2.1,.int .i32 x_11.2.2.1,.int .i32 x_11.2.2.2] 0 <|
   joinW (σ:=Bool) (fun J_13 =>
    ld (.sc (.int .u8)) (Addr.add x_12 0) fun (x_14:Int) =>
    cond (x_14 != 1)
     (ld (.sc (.int .u8)) (Addr.add x_12 0) fun (x_15:Int) =>
      cond (x_15 != 2)
        (ld (.sc (.int .u8)) (Addr.add x_12 0) fun (x_16:Int) =>
         J_13 (x_16 != 5))
        (J_13 false))
     (J_13 false))
   <| fun s_17 =>
   joinW (σ:=Sl) (fun J_18 =>
    cond s_17
     (ld (.agg [.int .u8,.int .i32,.int .i32,.int .i32]) x_12 fun (x_19:(Int × Int × Int × Int)) =>
     newW 52 [.int .u8 x_19.1,.int .i32 x_19.2.1,.int .i32 x_19.2.2.1,.int .i32 x_19.2.2.2] fun x_20 =>
     rawW Tryz.prog (Builtin.append_ #[35,35] 35 #[.slice s_9.1.a s_9.1.n s_9.1.c,.slice (some x_20) 1 1]) [.sc .sl] fun (x_21:Sl) =>
     J_18 x_21)
     (J_18 s_9.1))
   <| fun s_22 =>
   K_8 (s_22,IntKind.wrap .i64 (s_9.2+1)))
    (joinW (σ:=Unit) (fun J_23 =>
   cond (decide (s_4 < 15))
    (callW Tryz.prog Z9 [.pointer x_2.1,.agg ⟨[.int .u8 1,.int .u32 0,.int .u8 0,.slice s_9.1.a s_9.1.n s_9.1.c]⟩] [.sc (.int .i64)] fun (x_24:Int) =>
    J_23 ())
    (J_23 ()))
  <| fun s_25 =>
  K_3 (IntKind.wrap .i64 (s_4+1))))
   ((⟨none,0,0⟩:Sl),0))
   (callW Tryz.prog Z4 [.pointer x_2.1] [.sc .sl,.sc (.int .i64)] fun (x_26:Sl × Int) =>
 callW Tryz.prog Z6 [.pointer x_2.1] [.sc .sl] fun (x_27:Sl) =>
 callW Tryz.prog Z2l [.slice x_27.a x_27.n x_27.c] [.sc .sl] fun (x_28:Sl) =>
 loopW (σ:=Int) (fun K_29 s_30 =>
  cond (decide (s_30 < (IntKind.wrap .u8 (1+(Int.tmod o1 5)))))
   (callW Tryz.prog Z4 [.pointer x_2.1] [.sc .sl,.sc (.int .i64)] fun (x_31:Sl × Int) =>
  joinW (σ:=Bool) (fun J_32 =>
   callW Tryz.prog Z6 [.pointer x_2.1] [.sc .sl] fun (x_33:Sl) =>
   callW Tryz.prog Z10 [.slice x_33.a x_33.n x_33.c,.slice x_28.a x_28.n x_28.c] [.sc .bool] fun (x_34:Bool) =>
   cond (!x_34)
    (J_32 true)
    (callW Tryz.prog Z3o [.pointer x_2.1] [.sc .sl] fun (x_35:Sl) =>
     cond (decide ((x_35.n : Int) > 0))
           (J_32 true)
           (callW Tryz.prog Z4b [.pointer x_2.1,.int .u32 1] [.sc .sl] fun (x_36:Sl) =>
            J_32 (decide ((x_36.n:Int) > 0)))))
  <| fun s_37 =>
  cond s_37
   (retW false)
   (K_29 (IntKind.wrap .u8 (s_30+1))))
   (retW true))
  0))
  0))
theorem Zb3 {R:Type} (d0:Sl) (o1:Int) (K:Res [.sc .bool]→W R) (Q:R→World→Prop) (w:World) (h:Z5p d0 o1 (fun r w=>K r Q w) w):callW Tryz.prog Zb9 [.slice d0.a d0.n d0.c,.int .u8 o1] [.sc .bool] K Q w:=den_c (K:=K) mix Tryz.func7 { reg:=[(13,[(50,.sc .bool)]),(24,[(91,.sc .bool)])],con:=[(15050,[(9,.sc .sl)]),(18057,[])],lop:=[(0,[(23,.sc (.int .i64))]),(2,[(9,.sc .sl),(34,.sc (.int .i64))]),(4,[(71,.sc (.int .u8))])] } trivial rfl (by kernel_rfl) h
def Z89 :W (Bool) :=
 callW Tryz.prog Z4a [.int .i64 9,.int .i64 1,.int .u32 0] [.sc .ptr,.sc (.int .i64)] fun (x_1:(Option Addr) × Int) =>
 joinW (σ:=Bool) (fun J_2 =>
  cond (x_1.2 != 0)
   (J_2 true)
   (callW Tryz.prog Z3m [] [.agg [.int .u8,.int .u32,.int .u8,.sl]] fun (x_3:(Int × Int × Int × Sl)) =>
    callW Tryz.prog Z9 [.pointer x_1.1,.agg ⟨[.int .u8 x_3.1,.int .u32 x_3.2.1,.int .u8 x_3.2.2.1,.slice x_3.2.2.2.a x_3.2.2.2.n x_3.2.2.2.c]⟩] [.sc (.int .i64)] fun (x_4:Int) =>
     J_2 (x_4 != 0)))
 <| fun s_5 =>
 cond s_5
  (retW false)
  (callW Tryz.prog Z4 [.pointer x_1.1] [.sc .sl,.sc (.int .i64)] fun (x_6:Sl × Int) =>
 callW Tryz.prog Z3o [.pointer x_1.1] [.sc .sl] fun (x_7:Sl) =>
 joinW (σ:=Bool) (fun J_8 =>
  cond (x_6.2 != 0)
   (J_8 true)
   (newW 71 [.int .i64 0,.int .u32 1024] fun x_9 =>
     callW Tryz.prog Z15 [.slice x_6.1.a x_6.1.n x_6.1.c,.slice (some x_9) 1 1] [.sc .bool] fun (x_10:Bool) =>
      cond (!x_10)
        (J_8 true)
        (callW Tryz.prog Z4u [.pointer x_1.1] [.sc (.int .u32)] fun (x_11:Int) =>
         cond (x_11 != 1)
           (J_8 true)
           (cond ((x_7.n : Int) != 1)
              (J_8 true)
              (idxW x_7.a x_7.n 4 0 fun x_12 =>
               ld (.agg [.int .u32,.bool,.int .i32,.int .i32]) x_12 fun (x_13:(Int × Bool × Int × Int)) =>
                rawQ Tryz.prog (do Go.eqGuard .neq 45 (.tmp 51) (.tmp 52) (.agg ⟨[.int .u32 x_13.1,.bool x_13.2.1,.int .i32 x_13.2.2.1,.int .i32 x_13.2.2.2]⟩) (.agg ⟨[.int .u32 1024,.bool true,.int .i32 5,.int .i32 0]⟩); Go.binOp .neq 45 (.agg ⟨[.int .u32 x_13.1,.bool x_13.2.1,.int .i32 x_13.2.2.1,.int .i32 x_13.2.2.2]⟩) (.agg ⟨[.int .u32 1024,.bool true,.int .i32 5,.int .i32 0]⟩)) [.sc .bool] fun (x_14:Bool) =>
                  J_8 x_14)))))
 <| fun s_15 =>
 cond s_15
  (retW false)
  (callW Tryz.prog Z4 [.pointer x_1.1] [.sc .sl,.sc (.int .i64)] fun (x_16:Sl × Int) =>
 callW Tryz.prog Z3h [.pointer x_1.1,.int .u32 1024,.int .u8 0] [.sc (.int .u32),.sc (.int .i64)] fun (x_17:Int × Int) =>
 callW Tryz.prog Z3h [.pointer x_1.1,.int .u32 1024,.int .u8 1] [.sc (.int .u32),.sc (.int .i64)] fun (x_18:Int × Int) =>
 joinW (σ:=Bool) (fun J_19 =>
  cond (x_17.1 == 2)
   (J_19 (x_18.1 == 1))
   (J_19 false))
 <| fun s_20 =>
 retW s_20))
theorem Zeh {R:Type}  (K:Res [.sc .bool]→W R) (Q:R→World→Prop) (w:World) (h:Z89 (fun r w=>K r Q w) w):callW Tryz.prog Z1u [] [.sc .bool] K Q w:=den_c (K:=K) mix Tryz.func15 { reg:=[(2,[(21,.sc .bool)]),(6,[(54,.sc .bool)]),(11,[(0,.sc .bool)])] } trivial rfl (by kernel_rfl) h
def Z8a :W ((Int × Int × Int × Sl)) :=
 newW 37 [.int .u8 0,.int .u32 0,.int .u8 0,.slice none 0 0] fun x_1 =>
 newW 52 [.int .u8 0,.int .i32 0,.int .i32 0,.int .i32 0,.int .u8 1,.int .i32 5,.int .i32 0,.int .i32 0] fun x_2 =>
 stoL x_1 [.int .u8 1,.int .u32 0,.int .u8 0,.slice (some x_2) 2 2] 0 <|
 ld (.agg [.int .u8,.int .u32,.int .u8,.sl]) x_1 fun (x_3:(Int × Int × Int × Sl)) =>
 retW x_3
theorem Zei {R:Type}  (K:Res [.agg [.int .u8,.int .u32,.int .u8,.sl]]→W R) (Q:R→World→Prop) (w:World) (h:Z8a (fun r w=>K r Q w) w):callW Tryz.prog Z3m [] [.agg [.int .u8,.int .u32,.int .u8,.sl]] K Q w:=den_c (K:=K) mix Tryz.func23 {} ⟨by kernel_rfl,trivial⟩ rfl (by kernel_rfl) h
end Go.Proofs.YtoiahhpgkoknfaaGreat
namespace Go.Proofs.YtoiahhpgkoknfaaGreat
open Go Go.RowKit Go.ChangeShapes Go.WideShapes Go.ChangeAt Go.Proofs.YtoiahhpgkoknfaaGreat.Den
variable {R:Type} {Q:R→World→Prop} {w:World}
def WA (n0 b:Nat) (m:WM) (G:Nat→Prop) (w:World):Prop:=WldO b m G w∧(∀ k,G k→n0≤k∧k < w.heap.size)∧WMOk m
def pushW (m:WM) (o:Ordr):WM:={ m with wait:=pushL m.wait o }
theorem Zva {m:WM} (h:WMOk m) {o:Ordr} (ho:OrdOk o∧Small o.2.2.2):WMOk (pushW m o):=by
 refine ⟨h.x,Zv9 h.few,fun p hp=>?_,h.tick,h.marks,h.ticks⟩
 have hp:p∈pushL m.wait o:=hp
 unfold pushL at hp
 split at hp
 ·rcases List.mem_append.1 hp with hp | hp
  ·exact h.wait p hp
  ·rw [List.mem_singleton] at hp; subst hp; exact ho
 ·exact h.wait p hp
section
variable {n0 b:Nat} {m:WM} {G:Nat→Prop}
theorem WA.fr0 (h:WA n0 b m G w) {w':World} (f:Fr None w w'):WA n0 b m G w':=⟨WldG.st.fr0 h.1 f,fun k e=>⟨(h.2.1 k e).1,Nat.lt_of_lt_of_le (h.2.1 k e).2 f.size⟩,h.2.2⟩
theorem WA.frS (h:WA n0 b m G w) {S:Nat→Prop} {w':World} (f:Fr S w w') (hS:∀ k,S k→¬ G k):WA n0 b m G w':=⟨WldG.st.fr h.1 f fun k e e2=>hS k e2 e,fun k e=>⟨(h.2.1 k e).1,Nat.lt_of_lt_of_le (h.2.1 k e).2 f.size⟩,h.2.2⟩
theorem Zmz {n first tick:Int} (ht:0≤tick∧tick≤4294967295) (hn:1≤n∧n≤1024∧1≤first∧first≤4194303) {K:Res [.sc .ptr,.sc (.int .i64)]→Den.W R}
  (h2:∀ b G w',WA w.heap.size b (newM n.toNat first tick) G w'→Fr None w w'→K (some ⟨b,0,none⟩,0) Q w'):callW Tryz.prog Z4a [.int .i64 n,.int .i64 first,.int .u32 tick] [.sc .ptr,.sc (.int .i64)] K Q w :=
 Zm8 ht (fun h=>absurd hn h) fun b w' _ h ok f=>h2 b _ w' ⟨WldG.shut h,fun k e=>e,ok⟩ f
theorem Ze7 (h:WA n0 b m G w) {ok:Nat→Prop} {r:OrdRaw} {o:Ordr} (hr:ordR ok w r o) (ho:OrdOk o∧Small o.2.2.2) (hn:n0≤w.heap.size) {K:Res [.sc (.int .i64)]→Den.W R}
  (hk:∀ G' w',WA n0 b (pushW m o) G' w'→(∀ k,G' k→G k∨w.heap.size≤k)→Fr G w w'→K (pushE m.wait o) Q w'):callW Tryz.prog Z9 [.pointer (some ⟨b,0,none⟩),.agg ⟨ordC r⟩] [.sc (.int .i64)] K Q w :=
 Zlf h.1 h.2.2.few hr ho.2 fun w' h' f=>hk (fun k=>Ex G w k∧k < w'.heap.size) w' ⟨WldG.shut h',fun k e=>⟨by rcases e.1 with e | e; exact (h.2.1 k e).1; omega,e.2⟩,Zva h.2.2 ho⟩ (fun k e=>e.1) f
theorem Zcs (h:WA n0 b m G w) (hn:n0≤w.heap.size) (ht:m.tick < 4294967295) {K:Res [.sc .sl,.sc (.int .i64)]→Den.W R}
  (hk:∀ r G' w',WA n0 b (stepM m) G' w'→(∀ k,G' k→G k∨w.heap.size≤k)→Den.Own (fun k=>w.heap.size≤k∧¬ G' k) w' 71 resT r (allM m.x m.wait).1→Fr G w w'→K (r,0) Q w') :
  callW Tryz.prog Z4 [.pointer (some ⟨b,0,none⟩)] [.sc .sl,.sc (.int .i64)] K Q w :=
 Ze5 h.1 h.2.2 (fun e=>by omega) fun _ r w' G' h' hG o ok f=>hk r G' w' ⟨h',fun k e=>⟨by rcases (hG k e).1 with e2 | e2; exact (h.2.1 k e2).1; omega,(hG k e).2⟩,ok⟩ (fun k e=>(hG k e).1) o f
theorem Zsn (h:WA n0 b m G w) (ht:m.tick=4294967295) {K:Res [.sc .sl,.sc (.int .i64)]→Den.W R} (hk:K (⟨none,0,0⟩,11) Q w) :
  callW Tryz.prog Z4 [.pointer (some ⟨b,0,none⟩)] [.sc .sl,.sc (.int .i64)] K Q w :=
 Ze5 h.1 h.2.2 (fun _=>hk) fun h2=>by omega
theorem Den.Fr.wa {W:World} {G:Nat→Prop} {w':World} (f0:Fr None W w) (h:∀ k,G k→W.heap.size≤k) (f:Fr G w w'):Fr None W w':=f0.newer f h
end
def ord0:Ordr:=(1,0,0,[(0,0,0,0),(1,5,0,0)])
theorem Zto:OrdOk ord0∧Small ord0.2.2.2:=⟨⟨by decide,⟨by decide,by decide⟩,by decide,fun c hc=>by
 simp only [ord0,List.mem_cons,List.not_mem_nil,or_false] at hc
 rcases hc with rfl | rfl <;> exact Z9n (by decide +kernel)⟩,by decide⟩
theorem Zf6 {K:Res [.agg [.int .u8,.int .u32,.int .u8,.sl]]→Den.W R} (hk:∀ r w',ordR (Up w.heap.size) w' r ord0→Fr None w w'→K r Q w'):callW Tryz.prog Z3m [] [.agg [.int .u8,.int .u32,.int .u8,.sl]] K Q w:=by
 refine Zei K Q w ?_
 unfold Z8a
 refine newI fun w1 B1 f1 s1=>?_
 refine newI fun w2 B2 f2 s2=>?_
 have hs:SlT (Up w.heap.size) w2 compT ⟨some ⟨w1.heap.size,0,none⟩,2,2⟩ ord0.2.2.2:=by
  have:Den.Own (Up w.heap.size) w2 52 compT ⟨some ⟨w1.heap.size,0,none⟩,2,2⟩ ord0.2.2.2:=Den.Own.mk' (t:=compT) (l:=ord0.2.2.2) (c:=2) (cur:=⟨ord0.2.2.2.flatMap compT.cells⟩) (by show w.heap.size≤w1.heap.size; have:=f1.size; omega) B2 (by decide) (by rw [Zc]; decide) rfl rfl
  exact this.sl
 refine stoAll (B1.fr f2 fun h=>h) rfl rfl fun w3 B3 f3 s3=>aggI B3 (x:=((1,0,0,⟨some ⟨w1.heap.size,0,none⟩,2,2⟩):OrdRaw)) rfl ?_
 have e1:w1.heap.size=w.heap.size+1:=s1
 have hs3:SlT (Up w.heap.size) w3 compT ⟨some ⟨w1.heap.size,0,none⟩,2,2⟩ ord0.2.2.2 :=
  ((hs.mono (ok' := fun k => w.heap.size ≤ k) fun k _ e => e))|> fun h => by
    obtain ⟨a1,a2,a3⟩:=h
    refine ⟨a1,a2,a3.imp id ?_⟩
    rintro ⟨bb,o,h1,h2,h3,h4⟩
    cases h1
    exact ⟨_,_,rfl,h2,Nat.lt_of_lt_of_le h3 f3.size,fun i x hx=>(h4 i x hx).keep (f3.block _ h3 fun e=>by have e:w1.heap.size=w.heap.size:=e; omega)⟩
 exact hk _ w3 ⟨rfl,rfl,rfl,hs3⟩ ((f1.then0 f2).newer f3 fun k e=>by cases e; exact Nat.le_refl _)
def wld0:WM:=pushW (newM 9 1 0) ord0
theorem Z8z (m:WM):(stepM m).tick=m.tick+1:=rfl
theorem Zpu:pushE (newM 9 1 0).wait ord0=0:=by kernel_rfl
theorem Zvs:(allM wld0.x wld0.wait).1=[(0,1024)]:=by kernel_rfl
theorem Zr2:(stepM wld0).places=[(1024,true,5,0)]:=by kernel_rfl
theorem Zuf:((stepM (stepM wld0)).x.get 1024 0).2=0:=by kernel_rfl
theorem Zug:((stepM (stepM wld0)).x.get 1024 1).2=0:=by kernel_rfl
theorem Zsp:tickF (compsF (stepM (stepM wld0))) 1024 0=2:=by kernel_rfl
theorem Zsq:tickF (compsF (stepM (stepM wld0))) 1024 1=1:=by kernel_rfl
theorem Zx6 {x y:Plc}:(x.1 == y.1 && (x.2.1 == y.2.1 && (x.2.2.1 == y.2.2.1 && (x.2.2.2 == y.2.2.2 && true))))=decide (x=y):=by
 rw [Bool.eq_iff_iff]
 simp [Prod.ext_iff]
theorem Zwd (x y:Plc):eqV Tryz.prog 9 45 (.agg ⟨[.int .u32 x.1,.bool x.2.1,.int .i32 x.2.2.1,.int .i32 x.2.2.2]⟩) (.agg ⟨[.int .u32 y.1,.bool y.2.1,.int .i32 y.2.2.1,.int .i32 y.2.2.2]⟩)=some (decide (x=y)):=by
 rw [← Zx6]
 kernel_rfl
theorem Zwb:Tryz.prog.eqGuardType Tryz.prog.depth 45=false:=by kernel_rfl
theorem Z7k {K:Res [.sc .bool]→Den.W R} (hk:∀ w',Fr None w w'→K true Q w'):callW Tryz.prog Z1u [] [.sc .bool] K Q w:=by
 refine Zeh K Q w ?_
 unfold Z89
 refine Zmz ⟨by decide,by decide⟩ ⟨by decide,by decide,by decide,by decide⟩ fun b G1 w1 h1 f1=>?_
 have z1:=f1.size
 refine joinI (fun z v=>z=false∧∃ G,WA w.heap.size b wld0 G v∧Fr None w v) ?_ ?_
 ·refine condF rfl (Zf6 fun r w2 hr f2=>?_)
  have f02:=f1.then0 f2
  refine Ze7 (h1.fr0 f2) hr Zto f02.size fun G3 w3 h3 hG3 f3=>⟨?_,G3,h3,f02.wa (fun k e=>(h1.2.1 k e).1) f3⟩
  rw [show pushE (newM (Int.toNat 9) 1 0).wait ord0=0 from Zpu]
  rfl
 rintro z w3 ⟨rfl,G3,h3,f3⟩
 refine condF rfl (Zcs h3 f3.size (by show (0:Int) < 4294967295; decide) fun r G4 w4 h4 hG4 o4 f4=>?_)
 have f04:=f3.wa (fun k e=>(h3.2.1 k e).1) f4
 rw [Zvs] at o4
 generalize hm1:stepM wld0=m1 at h4
 have e1:m1.places=[(1024,true,5,0)]:=by rw [← hm1]; exact Zr2
 have e2:m1.tick=1:=by rw [← hm1,Z8z]; rfl
 have hpl:m1.places.length≤1048576:=by rw [e1]; decide
 refine Zcc h4.1 hpl fun rp w5 o5 f5=>?_
 have h5:=h4.fr0 f5
 have f05:=f04.then0 f5
 rw [e1] at o5
 have o45:=o4.none f5
 refine joinI (fun z v=>z=false∧Fr None w5 v) ?_ ?_
 ·refine condF rfl (newI fun w6 B6 f6 s6=>?_)
  have l6:SlT (fun _=>True) w6 resT ⟨some ⟨w5.heap.size,0,none⟩,1,1⟩ [(0,1024)]:=by
   have:Den.Own (fun _=>True) w6 71 resT ⟨some ⟨w5.heap.size,0,none⟩,1,1⟩ [(0,1024)]:=Den.Own.mk' (t:=resT) (l:=[(0,1024)]) (c:=1) (cur:=⟨[.int .i64 0,.int .u32 1024]⟩) trivial B6 (by decide) (by rw [Zc]; decide) rfl rfl
   exact this.sl
  refine Z85 (o45.none f6).sl l6 (by decide) fun w7 f7=>condF (by simp) ?_
  have f57:=f6.then0 f7
  refine Ze6 (h5.fr0 f57).1 (condF (by rw [e2]; rfl) ?_)
  have hrn:rp.n=1:=o5.len
  refine condF (by rw [hrn]; rfl) ?_
  refine (o5.none f57).sl.get (j:=0) rfl rfl (by decide) fun x hx=>?_
  cases hx
  exact neqI Zwb (Zwd (1024,true,5,0) (1024,true,5,0)) ⟨by simp,f57⟩
 rintro z w6 ⟨rfl,f6⟩
 have h6:=h5.fr0 f6
 have f06:=f05.then0 f6
 refine condF rfl ?_
 have hlt:m1.tick < 4294967295:=by rw [e2]; decide
 refine (Zcs h6 f06.size hlt fun r G7 w7 h7 hG7 o7 f7=>?_)
 generalize hm2:stepM m1=m2 at h7
 have g0:(m2.x.get 1024 0).2=0:=by rw [← hm2,← hm1]; exact Zuf
 have g1:(m2.x.get 1024 1).2=0:=by rw [← hm2,← hm1]; exact Zug
 have t0:tickF (compsF m2) 1024 0=2:=by rw [← hm2,← hm1]; exact Zsp
 have t1:tickF (compsF m2) 1024 1=1:=by rw [← hm2,← hm1]; exact Zsq
 have f07:=f06.wa (fun k e=>(h6.2.1 k e).1) f7
 refine Zb2 h7.1 ⟨by decide,by decide⟩ ⟨by decide,by decide⟩ (fun h=>h g0 |>.elim) fun _ w8 f8=>?_
 refine Zb2 (h7.fr0 f8).1 ⟨by decide,by decide⟩ ⟨by decide,by decide⟩ (fun h=>h g1 |>.elim) fun _ w9 f9=>?_
 rw [t0,t1]
 refine joinI (fun z v=>z=true∧v=w9) (condT rfl ⟨rfl,rfl⟩) ?_
 rintro z v ⟨rfl,rfl⟩
 exact hk _ ((f07.then0 f8).then0 f9)
end Go.Proofs.YtoiahhpgkoknfaaGreat
namespace Go.Proofs.YtoiahhpgkoknfaaGreat
open Go Go.RowKit Go.ChangeShapes Go.WideShapes Go.ChangeAt Go.Proofs.YtoiahhpgkoknfaaGreat.Den
variable {R:Type} {Q:R→World→Prop} {w:World} {H:Type} {enc:TypeId × Value→H}
theorem Zp8 {V:World} {s:Sl} {raws:List OrdRaw} {L:List Ordr} (hS:SlT (Old V) V ordT s raws) (hO:All2 (OrdIn V) raws L) (hc:s.c≤maxLen) (f:Fr None V w) {n:Nat} (hn:n≤1000) {K:Res [.sc .sl]→Den.W R}
  (hk:∀ r raws' LF w',Den.Own (Up w.heap.size) w' 37 ordT r raws'→All2 (fun a b=>ordR (Old V) w' a b) raws' LF→LF=fewO L n→LF.length≤n→(∀ o∈LF,OrdOk o∧Small o.2.2.2)→Fr None w w'→K r Q w'):callW Tryz.prog Z3d [.slice s.a s.n s.c,.int .i64 (n:Int)] [.sc .sl] K Q w:=by
 have hR:DR ordR (t:=ordT) (Old V) w s raws L:=DR.fr0' ⟨hS,hO.imp fun _ _ h=>h.1⟩ f
 rw [Zc] at hc
 refine Zpe hR hc hn (fun r hr=>?_) fun r raws' w' o a f'=>?_
 ·obtain ⟨i,hi⟩:=List.mem_iff_getElem?.1 hr
  obtain ⟨b,_,h⟩:=hO.getL hi
  have:=h.2.2
  rwa [Zc] at this
 ·refine hk r raws' _ w' o a rfl (Zuw L n) (fun o ho=>?_) f'
  obtain ⟨h1,h2⟩:=Zwe (L:=L) (n:=n) (fun o ho=>by
   obtain ⟨i,hi⟩:=List.mem_iff_getElem?.1 ho
   obtain ⟨b,_,h⟩:=hO.get hi
   exact h.2.1) o ho
  exact ⟨h1,Nat.le_trans h2 (by decide)⟩
abbrev Gap (n0 a c:Nat):Nat→Prop:=fun k=>n0≤k∧¬ (a≤k∧k < c)
theorem law_WorldEnds {W:World} {d:Int} (hd:0≤d∧d≤255) {s:Sl} {raws:List OrdRaw} {L:List Ordr} (hS:SlT (Old W) W ordT s raws) (hO:All2 (OrdIn W) raws L) (hc:s.c≤maxLen) :
  Calls Tryz.prog 4 #[.int .u8 d,.slice s.a s.n s.c] W (fun e w'=>e=.returned (.bool true)∧Fr None W w'):=by
 refine Zjk (Zbk d s _ _ W ?_)
 unfold Z64
 refine Z7k fun w1 f1=>condF rfl ?_
 obtain ⟨kk,hkk,hkl⟩:∃ kk:Nat,Int.tmod d 5=(kk:Int)∧kk < 5:=⟨d.toNat % 5,by rw [Int.tmod_eq_emod_of_nonneg hd.1]; omega,Nat.mod_lt _ (by decide)⟩
 have e1:IntKind.wrap .u32 (Int.tmod d 5)=(kk:Int):=by rw [hkk,IntKind.wrap_u32]; omega
 have e2:IntKind.wrap .u32 (4294967295 - (kk:Int))=4294967295 - (kk:Int):=by rw [IntKind.wrap_u32]; omega
 rw [e1,e2]
 refine Zmz ⟨by omega,by omega⟩ ⟨by decide,by decide,by decide,by decide⟩ fun b G2 w2 h2 f2=>?_
 have f02:=f1.then0 f2
 have z1:=f1.size
 have h2:WA W.heap.size b (newM (Int.toNat 8) 1 (4294967295 - (kk:Int))) G2 w2:=⟨h2.1,fun k e=>⟨Nat.le_trans z1 (h2.2.1 k e).1,(h2.2.1 k e).2⟩,h2.2.2⟩
 refine joinI (fun z v=>z=false∧∃ G m,WA W.heap.size b m G v∧m.tick=4294967295 - (kk:Int)∧Fr None W v) ?_ ?_
 ·refine condF rfl (Zf6 fun r w3 hr f3=>?_)
  have f03:=f02.then0 f3
  refine Ze7 (h2.fr0 f3) hr Zto f03.size fun G4 w4 h4 hG4 f4=>⟨?_,G4,_,h4,rfl,f03.wa (fun k e=>(h2.2.1 k e).1) f4⟩
  rw [show pushE (newM (Int.toNat 8) 1 (4294967295 - (kk:Int))).wait ord0=0 from Zpu]
  rfl
 rintro z w4 ⟨rfl,G4,m4,h4,t4,f4⟩
 refine condF rfl ?_
 refine forI (N:=kk) (fun s:Int=>s) (fun j i v=>i=(j:Int)∧∃ G m,WA W.heap.size b m G v∧m.tick=4294967295 - (kk:Int)+(j:Int)∧Fr None W v) ⟨rfl,G4,m4,h4,by rw [t4]; omega,f4⟩ (fun j s v h=>h.1) ?_ ?_
 ·rintro j i v0 K' hj ⟨rfl,G,m,h5,t5,f5⟩ - hK
  refine Zcs h5 f5.size (by omega) fun r G6 v1 h6 hG6 o6 f6=>condF rfl ?_
  refine hK _ _ ⟨?_,G6,_,h6,by rw [Z8z,t5]; omega,f5.wa (fun k e=>(h5.2.1 k e).1) f6⟩
  rw [IntKind.wrap_u32]
  omega
 ·rintro i v0 ⟨rfl,G5,m5,h5,t5,f5⟩
  refine Z6z h5.1 (Zp8 (n:=20) hS hO hc f5 (by decide) fun r raws' LF v1 o1 a1 _ hlf hok f6=>?_)
  have f06:=f5.then0 f6
  have h6:=h5.fr0 f6
  have z6:=f6.size
  have z5:=f5.size
  have o1s:SlT (fun k=>v0.heap.size≤k∧k < v1.heap.size) v1 ordT r raws':=o1.sl.mono fun k hk e=>⟨e,hk⟩
  have hlen:=a1.len
  refine rangeC (t:=ordT) (ok:=fun k=>v0.heap.size≤k∧k < v1.heap.size) (l:=raws') (fun s:Int × Int=>s.2)
   (fun j st v=>st.2=(j:Int)∧Fr (Gap W.heap.size v0.heap.size v1.heap.size) v1 v∧∃ G m,WA W.heap.size b m G v∧(∀ k,G k→Gap W.heap.size v0.heap.size v1.heap.size k)∧m.tick=4294967295∧st.1=(m.wait.length:Int))
   rfl rfl rfl ⟨rfl,Fr.refl _ _,G5,m5,h6,fun k e=>⟨(h5.2.1 k e).1,fun e2=>by have:=(h5.2.1 k e).2; omega⟩,by rw [t5]; omega,rfl⟩ (fun j s w' h=>h.1) (fun j st v hp=>o1s.fr hp.2.1 fun k e e2=>e2.2 e) ?_ ?_
  ·rintro j a ⟨n,_⟩ v2 v3 K' hx ⟨rfl,f7,G,m,h7,hG,t7,hn⟩ - B8 f8 s8 hK
   obtain ⟨o,ho,hao⟩:=a1.getL hx
   have hjl:=(List.getElem?_eq_some_iff.1 ho).1
   have f78:=f7.then (f8.any (S:=Gap W.heap.size v0.heap.size v1.heap.size))
   have hz:W.heap.size≤v3.heap.size:=by have:=f78.size; omega
   refine aggI B8 (x:=a) rfl (Ze7 (h7.fr0 f8) (Z62 a o hao f78 (F':=Old W) fun k _ e=>⟨fun e2=>by have e:k < W.heap.size:=e; have:=e2.1; omega,e⟩) (hok o (List.mem_of_getElem? ho)) hz fun G9 v4 h9 hG9 f9=>?_)
   have f49:Fr (Gap W.heap.size v0.heap.size v1.heap.size) v1 v4:=f78.then (f9.sub hG)
   have z78:=f78.size
   have hw:m.wait.length≤256:=h7.2.2.few
   have hn:n=(m.wait.length:Int):=hn
   refine joinI (fun (z:Int) v=>v=v4∧z=((pushW m o).wait.length:Int)) ?_ ?_
   ·refine condE (fun he=>⟨rfl,?_⟩) fun he=>⟨rfl,?_⟩
    ·show IntKind.wrap .i64 (n+1)=((pushL m.wait o).length:Int)
     rw [pushL,if_pos he,hn,w64 (by omega)]
     simp
    ·show n=((pushL m.wait o).length:Int)
     rw [pushL,if_neg he,hn]
   ·rintro z v ⟨rfl,rfl⟩
    refine hK _ _ ⟨wsucc (N:=LF.length) hjl (by omega),f49,G9,pushW m o,h9,fun k e=>?_,t7,rfl⟩
    rcases hG9 k e with e2 | e2
    ·exact hG k e2
    ·exact ⟨by omega,by omega⟩
  ·rintro ⟨n,_⟩ v2 ⟨-,f7,G7,m7,h7,hG7,t7,hn⟩
   have hn:n=(m7.wait.length:Int):=hn
   have f07:Fr None W v2:=f06.newer f7 fun k e=>e.1
   obtain ⟨hents,hel⟩:=Z8t h7.2.2.x
   have hsm:∀ e∈entsM m7.x,Small e.2:=fun e he=>Nat.le_trans (Z3i (hents.2 e he).2) (by decide)
   refine Zw h7.1 fun r8 v3 E8 f8=>?_
   obtain ⟨rw8,o8,R8⟩:=E8.ents
   refine Zbh o8.sl R8 (by omega) hsm fun r9 rw9 v4 o9 R9 f9=>?_
   have f89:=f8.then0 f9
   refine Zsn (h7.fr0 f89) t7 ?_
   have f09:=f07.then0 f89
   have h9:=h7.fr0 f89
   refine joinI (fun z v=>z=true∧Fr None W v) ?_ fun z v ⟨hz,hv⟩=>by subst hz; exact ⟨rfl,hv⟩
   refine condT rfl (condT rfl (Ze6 h9.1 (condT (by rw [t7]; rfl) (Z6z h9.1 (condT (by rw [hn]; simp) ?_)))))
   refine Zw h9.1 fun r10 v5 E10 f10=>?_
   obtain ⟨rw10,o10,R10⟩:=E10.ents
   refine Z5a o10.sl R10 (o9.sl.fr0 f10) (R9.fr f10 fun _ _ h=>h) (by omega) hsm fun v6 f11=>⟨by simp,(f09.then0 f10).then0 f11⟩
end Go.Proofs.YtoiahhpgkoknfaaGreat
namespace Go.Proofs.YtoiahhpgkoknfaaGreat
open Go Go.RowKit Go.ChangeShapes Go.WideShapes Go.ChangeAt Go.Proofs.YtoiahhpgkoknfaaGreat.Den
variable {R:Type} {Q:R→World→Prop} {w:World} {H:Type} {enc:TypeId × Value→H}
def pushAllW (m:WM) (l:List Ordr):WM:=l.foldl pushW m
theorem Zhd (m:WM) (l:List Ordr) (o:Ordr):pushAllW m (l ++ [o])=pushW (pushAllW m l) o:=by simp [pushAllW]
theorem Zhe:∀ (l:List Ordr) (m:WM),(pushAllW m l).tick=m.tick
 | [],_=>rfl
 | o :: l,m=>by rw [show pushAllW m (o :: l)=pushAllW (pushW m o) l from rfl,Zhe]; rfl
theorem Zso {W:World} {b:Nat} {m:WM} {G:Nat→Prop} {a c:Nat} (h:WA W.heap.size b m G w) (hac:W.heap.size≤a) (hz:W.heap.size≤w.heap.size) {r:Sl} {raws:List OrdRaw} {LF:List Ordr} (hs:SlT (fun k=>a≤k∧k < c) w ordT r raws) (hl:All2 (fun a b=>ordR (Old W) w a b) raws LF)
  (hok:∀ o∈LF,OrdOk o∧Small o.2.2.2) (hlen:LF.length≤1000) (hG:∀ k,G k→Gap W.heap.size a c k) {done:Den.W R} (hd:∀ G' v,WA W.heap.size b (pushAllW m LF) G' v→(∀ k,G' k→G k∨w.heap.size≤k)→Fr G w v→done Q v) :
  loopW (σ:=Int) (fun K_7 s_8=>cond (decide (s_8 < (r.n:Int)))
    (idxW r.a r.n 4 s_8 fun x_9=>ld (.agg [.int .u8,.int .u32,.int .u8,.sl]) x_9 fun (x_17:(Int × Int × Int × Sl))=>newW 37 [.int .u8 0,.int .u32 0,.int .u8 0,.slice none 0 0] fun x_18 =>
    stoL x_18 [.int .u8 x_17.1,.int .u32 x_17.2.1,.int .u8 x_17.2.2.1,.slice x_17.2.2.2.a x_17.2.2.2.n x_17.2.2.2.c] 0 <| ld (.agg [.int .u8,.int .u32,.int .u8,.sl]) x_18 fun (x_19:(Int × Int × Int × Sl)) =>
    callW Tryz.prog Z9 [.pointer (some ⟨b,0,none⟩),.agg ⟨[.int .u8 x_19.1,.int .u32 x_19.2.1,.int .u8 x_19.2.2.1,.slice x_19.2.2.2.a x_19.2.2.2.n x_19.2.2.2.c]⟩] [.sc (.int .i64)] fun (_:Int)=>K_7 (IntKind.wrap .i64 (s_8+1))) done) 0 Q w:=by
 refine rangeC (t:=ordT) (ok:=fun k=>a≤k∧k < c) (l:=raws) (fun s:Int=>s) (fun j s v=>s=(j:Int)∧Fr G w v∧∃ G',WA W.heap.size b (pushAllW m (LF.take j)) G' v∧∀ k,G' k→G k∨w.heap.size≤k) rfl rfl rfl
  ⟨rfl,Fr.refl _ _,G,h,fun k e=>.inl e⟩ (fun j s v h=>h.1) (fun j s v hp=>hs.fr hp.2.1 fun k e e2=>(hG k e2).2 e) ?_ ?_
 ·rintro j x s v0 v1 K' hx ⟨rfl,f1,G1,h1,hG1⟩ - B8 f8 s8 hK
  obtain ⟨o,ho,hao⟩:=hl.getL hx
  have hjl:=(List.getElem?_eq_some_iff.1 ho).1
  have f18:=f1.then (f8.any (S:=G))
  have z18:=f18.size
  refine aggI B8 (x:=x) rfl (Ze7 (h1.fr0 f8) (Z62 x o hao f18 (F':=Old W) fun k _ e=>⟨fun e2=>by have e:k < W.heap.size:=e; have:=(hG k e2).1; omega,e⟩) (hok o (List.mem_of_getElem? ho)) (by omega) fun G9 v4 h9 hG9 f9=>?_)
  refine hK _ _ ⟨wsucc (N:=LF.length) hjl (by omega),f18.exS f9 hG1,G9,by rw [Zr ho,Zhd]; exact h9,fun k e=>?_⟩
  rcases hG9 k e with e2 | e2
  ·exact hG1 k e2
  ·exact .inr (by omega)
 ·rintro s v0 ⟨rfl,f1,G1,h1,hG1⟩
  rw [hl.len,List.take_length] at h1
  exact hd G1 v0 h1 hG1 f1
theorem law_WorldTwins {W:World} {s:Sl} {raws:List (Sl × Int)} {L:List (List Ordr × Int)} (hS:SlT (Old W) W turnT s raws) (hO:All2 (TurnIn W) raws L) (hc:s.c≤maxLen) :
  Calls Tryz.prog 5 #[.slice s.a s.n s.c] W (fun e w'=>e=.returned (.bool true)∧Fr None W w'):=by
 refine Zjk (Zb4 s _ _ W ?_)
 unfold Z5q
 refine Z7k fun w1 f1=>condF rfl ?_
 refine Zmz ⟨by omega,by omega⟩ ⟨by decide,by decide,by decide,by decide⟩ fun ba Ga w2 ha f2=>?_
 refine Zmz ⟨by omega,by omega⟩ ⟨by decide,by decide,by decide,by decide⟩ fun bb Gb w3 hb f3=>?_
 have z1:=f1.size
 have z2:=f2.size
 have f03:=(f1.then0 f2).then0 f3
 have ha3:=ha.fr0 f3
 have ha4:WA W.heap.size ba (newM (Int.toNat 10) 1 0) Ga w3:=⟨ha3.1,fun k e=>⟨Nat.le_trans z1 (ha3.2.1 k e).1,(ha3.2.1 k e).2⟩,ha3.2.2⟩
 have hb4:WA W.heap.size bb (newM (Int.toNat 10) 1 0) Gb w3:=⟨hb.1,fun k e=>⟨Nat.le_trans (Nat.le_trans z1 z2) (hb.2.1 k e).1,(hb.2.1 k e).2⟩,hb.2.2⟩
 have hab:∀ k,Ga k→¬ Gb k:=fun k e e2=>by have:=(ha.2.1 k e).2; have:=(hb.2.1 k e2).1; omega
 refine joinI (fun z v=>z=false∧v=w3) (condF rfl ⟨rfl,rfl⟩) ?_
 rintro z v ⟨rfl,rfl⟩
 refine condF rfl (joinI (fun _ v=>Fr None W v) ?_ fun _ v hv=>⟨rfl,hv⟩)
 have hsn:s.n≤9223372036854775807:=by have:=hS.cap; rw [Zc] at hc; omega
 have hlen:=hO.len
 have hsl:=hS.len
 refine rangeC (t:=turnT) (ok:=Old W) (l:=raws) (fun s:Int=>s) (fun j i v=>i=(j:Int)∧j≤12∧Fr None W v∧∃ m Ga Gb,WA W.heap.size ba m Ga v∧WA W.heap.size bb m Gb v∧(∀ k,Ga k→¬ Gb k)∧m.tick=(j:Int)) rfl rfl rfl
  ⟨rfl,by omega,f03,_,Ga,Gb,ha4,hb4,hab,rfl⟩ (fun j s v h=>h.1) (fun j s v hp=>hS.fr0 hp.2.2.1) ?_ fun s v hp=>hp.2.2.1
 rintro j x i v0 v1 K' hx ⟨rfl,h12,f4,m,Ga,Gb,ha,hb,hab,ht⟩ - B8 f5 s5 hK
 have hjl:=(List.getElem?_eq_some_iff.1 hx).1
 have f05:=f4.then0 f5
 refine condD (fun _=>f05) fun hlt=>?_
 have hlt:¬ (j:Int) ≥ 12:=hlt
 obtain ⟨t,hxt,⟨⟨raws2,hS2,hO2⟩,hc2⟩,_⟩:=hO.getL hx
 refine fldI B8 (i:=0) (x:=x.1) rfl (Zp8 (n:=10) hS2 hO2 hc2 f05 (by decide) fun r raws' LF v2 o2 a2 _ hlf hok f6=>?_)
 have f06:=f05.then0 f6
 have z5:=f05.size
 have z6:=f6.size
 have z06:=f06.size
 have ha:=ha.fr0 f5
 have hb:=hb.fr0 f5
 have o2s:SlT (fun k=>v1.heap.size≤k∧k < v2.heap.size) v2 ordT r raws':=o2.sl.mono fun k hk e=>⟨e,hk⟩
 have gapA:∀ k,Ga k→Gap W.heap.size v1.heap.size v2.heap.size k:=fun k e=>⟨(ha.2.1 k e).1,fun e2=>by have:=(ha.2.1 k e).2; omega⟩
 have gapB:∀ k,Gb k→Gap W.heap.size v1.heap.size v2.heap.size k:=fun k e=>⟨(hb.2.1 k e).1,fun e2=>by have:=(hb.2.1 k e).2; omega⟩
 refine Zso (ha.fr0 f6) z5 z06 o2s a2 hok (by omega) gapA fun Ga3 v3 ha3 hGa3 f7=>?_
 have hb3:=(hb.fr0 f6).frS f7 hab
 have z7:=f7.size
 have f07:=f06.wa (fun k e=>(ha.2.1 k e).1) f7
 have hab3:∀ k,Ga3 k→¬ Gb k:=fun k e e2=>by
  rcases hGa3 k e with e3 | e3
  ·exact hab k e3 e2
  ·have:=(hb.2.1 k e2).2; omega
 have o3s:=o2s.fr f7 fun k e e2=>(gapA k e2).2 e
 have a3:All2 (fun a b=>ordR (Old W) v3 a b) raws' LF:=a2.imp fun a b hab=>Z62 a b hab f7 (F':=Old W) fun k _ e=>⟨fun e2=>by have e:k < W.heap.size:=e; have:=(gapA k e2).1; omega,e⟩
 refine rangeC (t:=ordT) (ok:=fun k=>v1.heap.size≤k∧k < v2.heap.size) (l:=raws') (fun s:Int=>s) (fun q s v=>s=(q:Int)∧Fr Gb v3 v∧∃ G',WA W.heap.size bb (pushAllW m (LF.take q)) G' v∧∀ k,G' k→Gb k∨v3.heap.size≤k) rfl rfl rfl
  ⟨rfl,Fr.refl _ _,Gb,hb3,fun k e=>.inl e⟩ (fun j s v h=>h.1) (fun j s v hp=>o3s.fr hp.2.1 fun k e e2=>(gapB k e2).2 e) ?_ ?_
 ·rintro q y s u0 u1 K2 hy ⟨rfl,g1,G1,h1,hG1⟩ - B9 g8 t8 hK2
  obtain ⟨o,ho,hao⟩:=a3.getL hy
  have hql:=(List.getElem?_eq_some_iff.1 ho).1
  have g18:=g1.then (g8.any (S:=Gb))
  have zg:=g18.size
  refine aggI B9 (x:=y) rfl (Ze7 (h1.fr0 g8) (Z62 y o hao g18 (F':=Old W) fun k _ e=>⟨fun e2=>by have e:k < W.heap.size:=e; have:=(gapB k e2).1; omega,e⟩) (hok o (List.mem_of_getElem? ho)) (by omega) fun G9 u4 h9 hG9 g9=>?_)
  refine Zw h9.1 fun r5 u5 _ g10=>Zd2 (h9.fr0 g10).1 fun r6 u6 _ g11=>?_
  have g1011:=g10.then0 g11
  refine hK2 _ _ ⟨wsucc (N:=LF.length) hql (by omega),(g18.exS g9 hG1).then g1011.any,G9,by rw [Zr ho,Zhd]; exact h9.fr0 g1011,fun k e=>?_⟩
  rcases hG9 k e with e2 | e2
  ·exact hG1 k e2
  ·exact .inr (by omega)
 ·rintro s u0 ⟨rfl,g1,Gb4,hb4,hGb4⟩
  rw [a3.len,List.take_length] at hb4
  have ha4:=ha3.frS g1 fun k e e2=>hab3 k e2 e
  have g07:=f07.wa (fun k e=>(hb.2.1 k e).1) g1
  have zg:=g1.size
  have hab4:∀ k,Ga3 k→¬ Gb4 k:=fun k e e2=>by
   rcases hGb4 k e2 with e3 | e3
   ·exact hab3 k e e3
   ·have:=(ha3.2.1 k e).2; omega
  have htk:(pushAllW m LF).tick=(j:Int):=by rw [Zhe]; exact ht
  generalize pushAllW m LF=m2 at ha4 hb4 htk
  refine Zcs ha4 g07.size (by omega) fun ra Ga5 u1 ha5 hGa5 oa5 g2=>?_
  have hb5:=hb4.frS g2 hab4
  have g08:=g07.wa (fun k e=>(ha4.2.1 k e).1) g2
  have hab5:∀ k,Ga5 k→¬ Gb4 k:=fun k e e2=>by
   rcases hGa5 k e with e3 | e3
   ·exact hab4 k e3 e2
   ·have:=(hb4.2.1 k e2).2; omega
  refine Zcs hb5 g08.size (by omega) fun rb Gb6 u2 hb6 hGb6 ob6 g3=>?_
  have ha6:=ha5.frS g3 fun k e e2=>hab5 k e2 e
  have g09:=g08.wa (fun k e=>(hb5.2.1 k e).1) g3
  have hab6:∀ k,Ga5 k→¬ Gb6 k:=fun k e e2=>by
   rcases hGb6 k e2 with e3 | e3
   ·exact hab5 k e e3
   ·have:=(ha5.2.1 k e).2; omega
  have z2:=g2.size
  have oa6:SlT (fun k=>u0.heap.size≤k∧¬ Ga5 k) u2 resT ra (allM m2.x m2.wait).1:=(oa5.fr g3 fun k e e2=>by have:=(hb4.2.1 k e2).2; omega).sl
  have hal:(allM m2.x m2.wait).1.length≤256:=by rw [Zn7]; exact ha4.2.2.few
  refine joinI (fun z v=>z=false∧Fr None u2 v) ?_ ?_
  ·refine Z85 oa6 ob6.sl (Nat.le_trans hal (by decide)) fun u3 g4=>condF (by simp) ?_
   obtain ⟨hents,hel⟩:=Z8t ha6.2.2.x
   have hsm:∀ e∈entsM (stepM m2).x,Small e.2:=fun e he=>Nat.le_trans (Z3i (hents.2 e he).2) (by decide)
   refine Zw (ha6.fr0 g4).1 fun r8 u4 E8 g5=>?_
   obtain ⟨rw8,o8,R8⟩:=E8.ents
   refine Zw ((hb6.fr0 g4).fr0 g5).1 fun r9 u5 E9 g6=>?_
   obtain ⟨rw9,o9,R9⟩:=E9.ents
   exact Z5a (o8.sl.fr0 g6) (R8.fr g6 fun _ _ h=>h) o9.sl R9 (by omega) hsm fun u6 g7=>⟨by simp,((g4.then0 g5).then0 g6).then0 g7⟩
  ·rintro z u3 ⟨rfl,g4⟩
   refine condF rfl (hK _ _ ⟨wsucc (N:=s.n) (by omega) hsn,by omega,g09.then0 g4,_,Ga5,Gb6,ha6.fr0 g4,hb6.fr0 g4,hab6,by rw [Z8z,htk]; rfl⟩)
end Go.Proofs.YtoiahhpgkoknfaaGreat
namespace Go.Proofs.YtoiahhpgkoknfaaGreat
open Go Go.Proofs.YtoiahhpgkoknfaaGreat.Den
def NoT (x:StM):Prop:=∀ m,m < 64→x.tab m≠[]→∀ k∈([1,2,5]:List Int),k ∉ kindsOf m
def stillC (c:Comp):Prop:=c.1≠1∧c.1≠2∧c.1≠5
theorem NoT.new (n:Nat) (first:Int):NoT (StM.new n first):=fun _ _ h=>absurd rfl h
theorem NoT.with {x:StM} (h:NoT x) {all:Int} {ks:List Int} (hks:∀ m:Nat,m < 64→fitB (m:Int) all 0=ks.all fun k=>decide (k∈kindsOf m)) {k:Int} (hk:k∈ks) (hk2:k∈([1,2,5]:List Int)):withL x all 0=[]:=by
 unfold withL
 rw [List.filter_eq_nil_iff]
 intro id _ hf
 unfold fitE at hf
 cases hh:homeT x.tab id with
 | none=>rw [hh] at hf; cases hf
 | some m =>
  rw [hh] at hf
  obtain ⟨hm,hi⟩:=Z7v hh
  have hne:x.tab m≠[]:=fun e=>by unfold inT at hi; rw [e] at hi; simp [rowM] at hi
  have hf:fitB (m:Int) all 0=true:=hf
  rw [hks m hm,List.all_eq_true] at hf
  exact h m hm hne k hk2 (of_decide_eq_true (hf k hk))
theorem NoT.move {x:StM} (h:NoT x):(moveM x).1=x:=by unfold moveM; rw [h.with Zt5 (k:=1) (by simp) (by simp)]; rfl
theorem NoT.age {x:StM} (h:NoT x):(ageM x).1=x:=by unfold ageM; rw [h.with Zvx (k:=2) (by simp) (by simp)]; rfl
theorem NoT.breed {x:StM} (h:NoT x):(breedM x).1=x:=by unfold breedM; rw [h.with Zt6 (k:=5) (by simp) (by simp)]; rfl
theorem Zhu {m:WM} (h:NoT (allM m.x m.wait).2):nowM m=(allM m.x m.wait).2:=by
 unfold nowM
 rw [h.move,h.age,h.breed]
theorem NoT.spawn {x:StM} (h:NoT x) {l:List Comp} (hl:∀ c∈l,stillC c):NoT (x.spawn l).2.2:=by
 unfold StM.spawn
 by_cases he:listE l≠0
 ·rw [if_pos he]; exact h
 ·rw [if_neg he]
  cases ht:x.s.take with
  | none=>exact h
  | some p =>
   obtain ⟨id,s'⟩:=p
   intro m hm hne k hk hkm
   have hne:putT x.tab id l m≠[]:=hne
   unfold putT at hne
   by_cases hml:m=maskN l
   ·subst hml
    have hv:Valid (maskN l) l:=⟨by simpa using he,rfl⟩
    rw [← hv.kinds] at hkm
    obtain ⟨c,hc,rfl⟩:=List.mem_map.1 hkm
    have:=hl c hc
    simp only [List.mem_cons,List.not_mem_nil,or_false] at hk
    unfold stillC at this
    omega
   ·rw [Z2c hml] at hne
    exact h m hm hne k hk hkm
theorem NoT.all:∀ {l:List Ordr} {x:StM},NoT x→(∀ o∈l,o.1=1∧∀ c∈o.2.2.2,stillC c)→NoT (allM x l).2
 | [],_,h,_=>h
 | o :: l,x,h,hl=>by
  have h1:NoT (doM x o).2:=by
   unfold doM
   by_cases he:ochk o≠0
   ·rw [if_pos he]; exact h
   ·obtain ⟨ho,hc⟩:=hl o List.mem_cons_self
    have hw:NoT (workM x o).2.2:=by unfold workM; rw [if_pos ho]; exact h.spawn hc
    rw [if_neg he]
    split <;> exact hw
  show NoT (allM (doM x o).2 l).2
  exact NoT.all h1 fun o ho=>hl o (List.mem_cons_of_mem _ ho)
theorem Zpo (m:WM):(stepM m).x=nowM m:=by unfold stepM; rfl
theorem Zlh (m:WM):(stepM m).wait=[]:=by unfold stepM; rfl
theorem Zr0 (m:WM):(stepM m).places=placesM m (entsM (nowM m)):=by
 unfold stepM
 generalize placesM m (entsM (nowM m))=ps
 rfl
theorem Zmx (m:WM) (q:Key):compsF (stepM m) q=(getE (entsM (nowM m)) q.1 q.2).map fun c=>(c,changedM (marksM m (entsM (nowM m))) q.1 q.2):=by
 unfold compsF stepM
 generalize nowM m=y
 generalize marksM m (entsM y)=ms
 rfl
structure Quiet (m m':WM):Prop where
 x:m'.x=m.x
 wait:m'.wait=[]
 places:m'.places=[]
 comps:compsF m'=compsF m
theorem Zsa {m:WM} (hm:WMOk m) (hw:m.wait=[]) (hn:NoT m.x):Quiet m (stepM m):=by
 have hall:(allM m.x m.wait).2=m.x:=by rw [hw]; rfl
 have hx:nowM m=m.x:=by rw [Zhu (by rw [hall]; exact hn),hall]
 obtain ⟨hok,_⟩:=Z8t hm.x
 have hgp:∀ p∈pairsM (entsM m.x),getE (entsM m.x) p.1 p.2.1=some p.2:=fun p hp=>(Zau hok).2 ⟨hp,rfl⟩
 refine ⟨by rw [Zpo]; exact hx,Zlh m,?_,?_⟩
 ·rw [Zr0,hx]
  have h1:movedM m (pairsM (entsM m.x))=[]:=List.eq_nil_iff_forall_not_mem.2 fun q hq=>by
   obtain ⟨p,hp,h2,_⟩:=Zoq.1 hq
   exact h2 (hgp p hp)
  have h2:goneP (entsM m.x) (entsM m.x)=[]:=List.eq_nil_iff_forall_not_mem.2 fun q hq=>by
   obtain ⟨_,h3,h4⟩:=(Zng hok).1 hq
   rw [h4] at h3
   cases h3
  unfold placesM
  rw [h1,h2]
  rfl
 ·funext q
  rw [Zmx,hx]
  unfold compsF
  cases hg:getE (entsM m.x) q.1 q.2 with
  | none=>rfl
  | some c =>
   obtain ⟨hp,hk⟩:=(Zau hok).1 hg
   have:=Zcg (m:=m) hok hp
   rw [show ((q.1,c):Int × Comp).1=q.1 from rfl,show ((q.1,c):Int × Comp).2.1=q.2 from hk] at this
   show some (c,changedM (marksM m (entsM m.x)) q.1 q.2)=_
   rw [this]
   unfold tickM
   rw [if_pos (hgp _ hp)]
   show some (c,changedM m.marks q.1 c.1)=_
   rw [show c.1=q.2 from hk]
   rfl
theorem Zq9 {m:WM} (h0:entsM m.x=[]) (hok:StOk (nowM m)):∀ q p,compsF (stepM m) q=some p→p.2=m.tick+1:=fun q p hp=>by
 obtain ⟨hn,_⟩:=Z8t hok
 rw [Zmx] at hp
 obtain ⟨c,hc,hpe⟩:=Option.map_eq_some_iff.1 hp
 obtain ⟨h1,h2⟩:=(Zau hn).1 hc
 have ht:tickM m (q.1,c)=m.tick+1:=by
  unfold tickM
  rw [h0]
  exact if_neg (fun h=>by cases h)
 have:=(Zcg (m:=m) hn h1).trans ht
 generalize marksM m (entsM (nowM m))=ms at hpe this
 rw [← hpe,← h2]
 exact this
theorem Zse {f:Key→Option (Comp × Int)} {t:Int} (ht:0≤t) (h:∀ q p,f q=some p→p.2≤t) (l:List Ent):l.filter (sinceB f t)=[]:=by
 rw [List.filter_eq_nil_iff]
 intro e _ he
 obtain ⟨c,_,hc⟩:=List.any_eq_true.1 he
 have hc:tickF f e.1 c.1 > t:=of_decide_eq_true hc
 unfold tickF at hc
 cases hf:f (e.1,c.1) with
 | none=>rw [hf] at hc; simp at hc; omega
 | some p=>rw [hf] at hc; have:=h _ p hf; simp at hc; omega
end Go.Proofs.YtoiahhpgkoknfaaGreat
namespace Go.Proofs.YtoiahhpgkoknfaaGreat
open Go Go.RowKit Go.ChangeShapes Go.WideShapes Go.ChangeAt Go.Proofs.YtoiahhpgkoknfaaGreat.Den
variable {R:Type} {Q:R→World→Prop} {w:World} {H:Type} {enc:TypeId × Value→H}
def stillB (c:Comp):Bool:=decide (c.1≠1) && (decide (c.1≠2) && decide (c.1≠5))
theorem Zvk {c:Comp} (h:stillB c=true):stillC c:=by
 simp only [stillB,Bool.and_eq_true,decide_eq_true_eq] at h
 exact ⟨h.1,h.2.1,h.2.2⟩
theorem law_WorldQuiet {W:World} {s:Sl} {raws:List Sl} {L:List (List Comp)} (hS:SlT (Old W) W slT s raws) (hO:All2 (ListIn W) raws L) (hc:s.c≤maxLen) {d:Int} (hd:0≤d∧d≤255) :
  Calls Tryz.prog 7 #[.slice s.a s.n s.c,.int .u8 d] W (fun e w'=>e=.returned (.bool true)∧Fr None W w'):=by
 refine Zjk (Zb3 s d _ _ W ?_)
 unfold Z5p
 refine Z7k fun w1 f1=>condF rfl ?_
 refine Zmz ⟨by omega,by omega⟩ ⟨by decide,by decide,by decide,by decide⟩ fun b G w2 h2 f2=>condF rfl ?_
 have z1:=f1.size
 have f02:=f1.then0 f2
 have h2:WA W.heap.size b (newM (Int.toNat 20) 1 0) G w2:=⟨h2.1,fun k e=>⟨Nat.le_trans z1 (h2.2.1 k e).1,(h2.2.1 k e).2⟩,h2.2.2⟩
 have hsn:s.n≤9223372036854775807:=by have:=hS.cap; rw [Zc] at hc; omega
 have hlen:=hO.len
 have hsl:=hS.len
 refine rangeI (t:=slT) (ok:=Old W) (l:=raws) (fun s:Int=>s) (fun j i v=>i=(j:Int)∧Fr None W v∧∃ G m,WA W.heap.size b m G v∧m.x=StM.new 20 1∧m.tick=0∧∀ o∈m.wait,o.1=1∧∀ c∈o.2.2.2,stillC c) rfl
  ⟨rfl,f02,G,_,h2,rfl,rfl,fun o ho=>(List.not_mem_nil ho).elim⟩ (fun j s v h=>h.1) (fun j s v hp=>hS.fr0 hp.2.1) ?_ ?_
 ·rintro j x i v0 K' hx ⟨rfl,f3,G,m,h3,hmx,hmt,hmw⟩ - hK
  have hjl:=(List.getElem?_eq_some_iff.1 hx).1
  obtain ⟨l,hl,hSl,hcl,_⟩:=hO.getL hx
  have hxl:=hSl.len
  obtain ⟨q,hq⟩:∃ q,q=min 20 l.length:=⟨_,rfl⟩
  refine (hSl.fr0 f3).cutI (n:=q) (by rw [hxl]; split <;> omega) (by omega) fun s7 _ hs7=>?_
  have S7:SlT (Old W) W compT s7 (l.take q):=hs7 _ _ hSl
  have hok7:∀ c∈l.take q,CompOk c:=fun c hc=>hcl c (List.mem_of_mem_take hc)
  have hl7:(l.take q).length≤20:=by rw [List.length_take]; omega
  generalize l.take q=k7 at S7 hok7 hl7
  have z3:=f3.size
  refine rangeC (t:=compT) (ok:=Old W) (l:=k7) (fun s:Sl × Int=>s.2) (fun q st v=>st.2=(q:Int)∧Den.Own (Up v0.heap.size) v 52 compT st.1 ((k7.take q).filter stillB)∧Fr None v0 v) rfl rfl rfl ⟨rfl,Den.Own.nil _ _ _ _,Fr.refl _ _⟩ (fun j s v h=>h.1) (fun j st v hp=>S7.fr0 (f3.then0 hp.2.2)) ?_ ?_
  ·rintro i c ⟨out,_⟩ u0 u1 K2 hcx ⟨rfl,ow,g1⟩ - B8 g8 t8 hK2
   have hil:=(List.getElem?_eq_some_iff.1 hcx).1
   have g18:=g1.then0 g8
   have zg:=g18.size
   refine joinI (fun (z:Bool) v=>v=u1∧z=stillB c) ?_ ?_
   ·refine fldI B8 (i:=0) (x:=c.1) rfl (condN (fun h1=>fldI B8 (i:=0) (x:=c.1) rfl (condN (fun h2=>fldI B8 (i:=0) (x:=c.1) rfl ⟨rfl,?_⟩) fun h2=>⟨rfl,?_⟩)) fun h1=>⟨rfl,?_⟩)
    ·unfold stillB
     rw [decide_eq_true h1,decide_eq_true h2]
     by_cases h5:c.1=5 <;> simp [h5]
    ·unfold stillB
     rw [decide_eq_true h1,decide_eq_false (fun h=>h h2)]
     rfl
    ·unfold stillB
     rw [decide_eq_false (fun h=>h h1)]
     rfl
   ·rintro z v ⟨rfl,rfl⟩
    have hout:((k7.take i).filter stillB).length≤20:=Nat.le_trans (List.length_filter_le _ _) (by rw [List.length_take]; omega)
    refine joinI (fun (z:Sl) u=>Den.Own (Up v0.heap.size) u 52 compT z ((k7.take (i+1)).filter stillB)∧Fr None v0 u) ?_ ?_
    ·refine condI (fun ht=>aggI B8 (x:=c) rfl ?_) fun hf=>⟨?_,g18⟩
     ·refine appF Z2y (x:=c) rfl (ow.none g8) (by omega) (by omega) (by omega) fun r2 u3 o7 g7 _=>⟨?_,g18.newer g7 fun k e=>ow.own k e⟩
      rw [Zr hcx,List.filter_append,List.filter_cons_of_pos (by simpa using ht)]
      exact o7
     ·rw [Zr hcx,List.filter_append,List.filter_cons_of_neg (by simp [hf]),List.filter_nil,List.append_nil]
      exact ow.none g8
    ·rintro z u3 ⟨o7,g7⟩
     exact hK2 _ _ ⟨wsucc (N:=k7.length) hil (by omega),o7,g7⟩
  ·rintro ⟨out,_⟩ u0 ⟨-,ow,g1⟩
   rw [List.take_length] at ow
   have hnx:IntKind.wrap .i64 ((j:Int)+1)=((j+1:Nat):Int):=wsucc (N:=s.n) (by omega) hsn
   have f03:=f3.then0 g1
   have hfl:(k7.filter stillB).length≤20:=Nat.le_trans (List.length_filter_le _ _) hl7
   refine joinI (fun (_:Unit) v=>Fr None W v∧∃ G m,WA W.heap.size b m G v∧m.x=StM.new 20 1∧m.tick=0∧∀ o∈m.wait,o.1=1∧∀ c∈o.2.2.2,stillC c) ?_ ?_
   ·refine condD (fun _=>?_) fun _=>⟨f03,G,m,h3.fr0 g1,hmx,hmt,hmw⟩
    have hst:∀ c∈k7.filter stillB,stillC c∧CompOk c:=fun c hc=>⟨Zvk (List.mem_filter.1 hc).2,hok7 c (List.mem_filter.1 hc).1⟩
    generalize k7.filter stillB=kf at ow hfl hst
    refine Ze7 (h3.fr0 g1) (r:=(1,0,0,out)) (o:=(1,0,0,kf)) (ok:=Up v0.heap.size) ⟨rfl,rfl,rfl,ow.sl⟩ ⟨⟨⟨by show (0:Int)≤1; decide,by show (1:Int)≤255; decide⟩,⟨by show (0:Int)≤0; decide,by show (0:Int)≤4294967295; decide⟩,⟨by show (0:Int)≤0; decide,by show (0:Int)≤255; decide⟩,fun c hc=>(hst c hc).2⟩,Nat.le_trans hfl (by decide)⟩ f03.size fun G4 v4 h4 hG4 f4=>⟨f03.wa (fun k e=>(h3.2.1 k e).1) f4,G4,_,h4,hmx,hmt,fun o ho=>?_⟩
    have ho:o∈pushL m.wait (1,0,0,kf):=ho
    unfold pushL at ho
    split at ho
    ·rcases List.mem_append.1 ho with ho | ho
     ·exact hmw o ho
     ·rw [List.mem_singleton] at ho; subst ho; exact ⟨rfl,fun c hc=>(hst c hc).1⟩
    ·exact hmw o ho
   ·rintro _ v4 ⟨f4,h4⟩
    exact hK _ _ ⟨hnx,f4,h4⟩
 ·rintro i v0 ⟨-,f3,G,m,h3,hmx,hmt,hmw⟩
  have hN:NoT (allM m.x m.wait).2:=NoT.all (by rw [hmx]; exact NoT.new _ _) hmw
  refine Zcs h3 f3.size (by omega) fun r G4 v4 h4 hG4 _ f4=>?_
  have f04:=f3.wa (fun k e=>(h3.2.1 k e).1) f4
  have hx1:(stepM m).x=(allM m.x m.wait).2:=by rw [Zpo,Zhu hN]
  have hent0:entsM m.x=[]:=by rw [hmx]; exact Zno (by rw [← hmx]; exact h3.2.2.x)
  have htk:∀ q p,compsF (stepM m) q=some p→p.2≤1:=fun q p hp=>by
   have:=Zq9 hent0 (by rw [← Zpo]; exact h4.2.2.x) q p hp
   omega
  have hn1:NoT (stepM m).x:=by rw [hx1]; exact hN
  have hw1:=Zlh m
  have ht1:(stepM m).tick=1:=by rw [Z8z,hmt]; rfl
  generalize stepM m=m1 at h4 htk hn1 hw1 ht1
  obtain ⟨hents,hel⟩:=Z8t h4.2.2.x
  have hsm:∀ e∈entsM m1.x,Small e.2:=fun e he=>Nat.le_trans (Z3i (hents.2 e he).2) (by decide)
  refine Zw h4.1 fun r5 v5 E5 f5=>?_
  obtain ⟨rw5,o5,R5⟩:=E5.ents
  refine Zbh o5.sl R5 (by omega) hsm fun r6 rw6 v6 o6 R6 f6=>?_
  have f56:=f5.then0 f6
  have f06:=f04.then0 f56
  obtain ⟨kk,hkk,hkl⟩:∃ kk:Nat,IntKind.wrap .u8 (1+Int.tmod d 5)=(kk:Int)∧kk≤5:=⟨1+d.toNat % 5,by rw [Int.tmod_eq_emod_of_nonneg hd.1,IntKind.wrap_u8]; omega,by omega⟩
  rw [hkk]
  have z5:=f5.size
  have o6s:SlT (fun k=>v5.heap.size≤k∧k < v6.heap.size) v6 entT r6 rw6:=o6.sl.mono fun k hk e=>⟨e,hk⟩
  have R6s:EntsR (fun k=>v5.heap.size≤k∧k < v6.heap.size) v6 rw6 (entsM m1.x):=R6.mono fun k hk e=>⟨e,hk⟩
  have g4:∀ k,G4 k→Gap W.heap.size v5.heap.size v6.heap.size k:=fun k e=>⟨(h4.2.1 k e).1,fun e2=>by have:=(h4.2.1 k e).2; omega⟩
  refine forI (N:=kk) (fun s:Int=>s) (fun j i v=>i=(j:Int)∧Fr (Gap W.heap.size v5.heap.size v6.heap.size) v6 v∧∃ G m,WA W.heap.size b m G v∧(∀ k,G k→Gap W.heap.size v5.heap.size v6.heap.size k)∧m.x=m1.x∧m.wait=[]∧compsF m=compsF m1∧m.tick=1+(j:Int))
   ⟨rfl,Fr.refl _ _,G4,m1,h4.fr0 f56,g4,rfl,hw1,rfl,by rw [ht1]; rfl⟩ (fun j s v h=>h.1) ?_ ?_
  ·rintro j i v7 K' hj ⟨rfl,f7,G,m,h7,hG,hx,hw,hcm,ht⟩ - hK
   have f07:Fr None W v7:=f06.newer f7 fun k e=>e.1
   refine Zcs h7 f07.size (by omega) fun r G8 v8 h8 hG8 _ f8=>?_
   have f08:=f07.wa (fun k e=>(h7.2.1 k e).1) f8
   have f68:=f7.then (f8.sub hG)
   have z68:=f7.size
   have hG8':∀ k,G8 k→Gap W.heap.size v5.heap.size v6.heap.size k:=fun k e=>by
    rcases hG8 k e with e2 | e2
    ·exact hG k e2
    ·have:=f06.size; exact ⟨by omega,by omega⟩
   have qs:=Zsa h7.2.2 hw (by rw [hx]; exact hn1)
   have ht8:(stepM m).tick=1+((j+1:Nat):Int):=by rw [Z8z,ht]; omega
   have qx:=qs.x.trans hx
   have qp:=qs.places
   have qc:=qs.comps.trans hcm
   have qw:=qs.wait
   generalize stepM m=m8 at h8 ht8 qx qp qc qw
   refine joinI (fun z v=>z=false∧Fr None v8 v) ?_ ?_
   ·refine Zw h8.1 fun r9 v9 E9 f9=>?_
    obtain ⟨rw9,o9,R9⟩:=E9.ents
    rw [qx] at R9
    refine Z5a o9.sl R9 ((o6s.fr f68 fun k e e2=>e2.2 e).fr0 f9) ((R6s.fr f68 fun k e e2=>e2.2 e).fr f9 fun _ _ h=>h) (by omega) hsm fun v10 f10=>condF (by simp) ?_
    have f810:=f9.then0 f10
    refine Zcc (h8.fr0 f810).1 (by rw [qp]; decide) fun r11 v11 o11 f11=>?_
    have hn11:r11.n=0:=by rw [o11.len,qp]; rfl
    refine condF (by rw [hn11]; rfl) ?_
    refine Zd2 ((h8.fr0 f810).fr0 f11).1 fun r12 v12 o12 f12=>⟨?_,(f810.then0 f11).then0 f12⟩
    have hn12:r12.n=0:=by
     rw [o12.len,Zse (by decide) (fun q p hp=>by rw [qc] at hp; exact htk q p hp)]
     rfl
    rw [hn12]
    rfl
   ·rintro z v9 ⟨rfl,f9⟩
    refine condF rfl (hK _ _ ⟨?_,f68.then f9.any,G8,m8,h8.fr0 f9,hG8',qx,qw,qc,ht8⟩)
    rw [IntKind.wrap_u8]
    omega
  ·rintro i v7 ⟨-,f7,_⟩
   exact ⟨rfl,f06.newer f7 fun k e=>e.1⟩
end Go.Proofs.YtoiahhpgkoknfaaGreat
namespace Go.Proofs.YtoiahhpgkoknfaaGreat
open Go Go.RowKit Go.Proofs.YtoiahhpgkoknfaaGreat.Den
variable {R:Type} {Q:R→World→Prop} {w:World}
section
variable {C F ok:Nat→Prop} {b:Nat} {x:StM} {r:OrdRaw} {o:Ordr}
theorem Zqu (h:R11 C b x F w) (hr:ordR ok w r o) (hd:∀ k,k < w.heap.size→ok k→¬ F k) (ho:OrdOk o) (hsm:Small o.2.2.2) {K:Res [.agg [.int .i64,.int .u32]]→W R}
  (hk:∀ C' w',Ag C C' w.heap.size→R11 C' b (doM x o).2 (Ex F w) w'→Fr (fun k=>F k∧¬ C k) w w'→K (doM x o).1 Q w'):callW Tryz.prog Z7c [.pointer (some ⟨b,0,none⟩),.agg ⟨ordC r⟩] [.agg [.int .i64,.int .u32]] K Q w:=by
 refine Zhz _ r K Q w ?_
 unfold Zbo
 have hst:=h.shut
 refine newI fun w1 B1 f1 s1=>newI fun w2 B2 f2 s2=>?_
 have f02:=f1.then0 f2
 have B1':=B1.fr f2 fun h=>h
 have hs1:w1.heap.size=w.heap.size+1:=s1
 have hs2:w2.heap.size=w1.heap.size+1:=s2
 have hr2:ordR (fun k=>ok k∧k < w.heap.size) w2 r o:=Z62 r o hr f02 fun k hk e=>⟨fun h=>h,e,hk⟩
 refine aggI B1' (x:=r) rfl (Zlz hr2 ho hsm fun w3 f3=>?_)
 have f03:=f02.then0 f3
 have hs3:=f3.size
 have B13:=B1'.fr f3 fun h=>h
 have B23:=B2.fr f3 fun h=>h
 obtain ⟨h1,h2,h3,hS⟩:=Z62 r o hr2 f3 (F':=fun k=>ok k∧k < w.heap.size) fun _ _ e=>⟨fun h=>h,e⟩
 refine fldI B13 (x:=r.2.1) rfl ?_
 rw [h2]
 have hst3:=R11.st.fr0 hst f03
 have hd3:∀ k,k < w3.heap.size→(ok k∧k < w.heap.size)→¬ (F k∧k < w.heap.size):=fun k _ e e2=>hd k e.2 e.1 e2.1
 refine joinI (fun (z:Int × Int) w'=>∃ C',Ag C C' w.heap.size∧Fr (fun k=>(F k∧k < w.heap.size)∧¬ C k) w3 w'∧R11 C' b (doM x o).2 (fun k=>(F k∧k < w.heap.size)∨w3.heap.size≤k) w'∧(doM x o).1=if z.1≠0 then (z.1,0) else (0,z.2)) ?_ ?_
 ·refine condE (fun hc=>?_) fun hc=>⟨C,fun _ _=>Iff.rfl,Fr.refl _ _,?_,?_⟩
  ·have hdo:doM x o=if (workM x o).2.1≠0 then (((workM x o).2.1,0),(workM x o).2.2) else ((0,(workM x o).1),(workM x o).2.2):=by rw [doM,if_neg (fun h=>h hc)]
   have hd2:(doM x o).2=(workM x o).2.2:=by rw [hdo]; split <;> rfl
   have hd1:(doM x o).1=if (workM x o).2.1≠0 then ((workM x o).2.1,0) else (0,(workM x o).1):=by rw [hdo]; split <;> rfl
   rw [hd2,hd1]
   have hs03:=f03.size
   have fin:∀ {i e:Int} {y:StM} {C':Nat→Prop} {w':World},workM x o=(i,e,y)→Ag C C' w3.heap.size→R11 C' b y (fun k=>(F k∧k < w.heap.size)∨w3.heap.size≤k) w'→Fr (fun k=>(F k∧k < w.heap.size)∧¬ C k) w3 w' →
     ∃ C',Ag C C' w.heap.size∧Fr (fun k=>(F k∧k < w.heap.size)∧¬ C k) w3 w'∧R11 C' b (workM x o).2.2 (fun k=>(F k∧k < w.heap.size)∨w3.heap.size≤k) w'∧(if (workM x o).2.1≠0 then ((workM x o).2.1,0) else (0,(workM x o).1))=if e≠0 then (e,0) else (0,i):=fun hw hag a f=>by
    rw [hw]; exact ⟨_,fun k hk=>hag k (by omega),f,a,rfl⟩
   refine fldI B13 (x:=r.1) rfl ?_
   rw [h1]
   refine joinK (condE (fun e=>?_) fun n1=>?_)
   ·have ew:workM x o=x.spawn o.2.2.2:=by rw [workM,if_pos e]
    refine fldI B13 (x:=r.2.2.2) rfl (Zbi hst3 hS hd3 hsm ho.comps fun C' w4 hag a f=>?_)
    exact fin (i:=(x.spawn o.2.2.2).1) (e:=(x.spawn o.2.2.2).2.1) (y:=(x.spawn o.2.2.2).2.2) ew hag a f
   refine joinK (condE (fun e=>?_) fun n2=>?_)
   ·have ew:workM x o=(o.2.1,x.despawn o.2.1):=by rw [workM,if_neg n1,if_pos e]
    refine fldI B13 (x:=r.2.1) rfl ?_
    rw [h2]
    exact Zcz hst3 ho.id fun C' w4 hag a f=>fin (i:=o.2.1) ew hag a f
   refine joinK (condE (fun e=>?_) fun n3=>?_)
   ·obtain ⟨c,hcs⟩:=Zjm hc (.inl e)
    have ew:workM x o=(o.2.1,x.set o.2.1 c):=by rw [workM,if_neg n1,if_neg n2,if_pos e,hcs]; rfl
    refine fldI B13.drew (x:=r.2.1) rfl (fldI B13.drew (x:=r.2.2.2) rfl ?_)
    rw [h2]
    refine (hS.fr0 (Fr.refl None w3).drew).get (j:=0) rfl rfl (by rw [hcs]; simp) fun c' hc'=>?_
    rw [hcs] at hc'
    simp at hc'
    subst hc'
    refine Zj2 (c:=c) (R11.st.fr0 hst3 (Fr.refl None w3).drew) (ho.comps c (by rw [hcs]; simp)).1.1 fun C' w4 hag a f=>fin (i:=o.2.1) ew hag a ((Fr.refl None w3).drew.any.then f)
   refine joinK (condE (fun e=>?_) fun n4=>?_)
   ·obtain ⟨c,hcs⟩:=Zjm hc (.inr e)
    have ew:workM x o=(o.2.1,x.add o.2.1 c):=by rw [workM,if_neg n1,if_neg n2,if_neg n3,if_pos e,hcs]; rfl
    refine fldI B13.drew (x:=r.2.1) rfl (fldI B13.drew (x:=r.2.2.2) rfl ?_)
    rw [h2]
    refine (hS.fr0 (Fr.refl None w3).drew).get (j:=0) rfl rfl (by rw [hcs]; simp) fun c' hc'=>?_
    rw [hcs] at hc'
    simp at hc'
    subst hc'
    refine Zpb (c:=c) (R11.st.fr0 hst3 (Fr.refl None w3).drew) ho.id (ho.comps c (by rw [hcs]; simp)).1.1 fun C' w4 hag a f=>fin (i:=o.2.1) ew hag a ((Fr.refl None w3).drew.any.then f)
   have ew:workM x o=(o.2.1,x.remove o.2.1 o.2.2.1):=by rw [workM,if_neg n1,if_neg n2,if_neg n3,if_neg n4]
   have e5:o.1=5:=by
    unfold ochk at hc
    rw [if_neg n1,if_neg n2,if_neg (by omega)] at hc
    split at hc
    ·rename_i h; exact h.1
    ·exact absurd hc (by decide)
   refine joinK (condE (fun _=>?_) fun n5=>absurd e5 n5)
   refine fldI B13 (x:=r.2.1) rfl (fldI B13 (x:=r.2.2.1) rfl ?_)
   rw [h2,h3]
   exact Zl4 hst3 ho.id fun C' w4 hag a f=>fin (i:=o.2.1) ew hag a f
  ·have e1:doM x o=((ochk o,0),x):=by rw [doM,if_pos hc]
   rw [e1]
   exact R11.st.mono hst3 fun k _ e=>.inl e
  ·have e1:doM x o=((ochk o,0),x):=by rw [doM,if_pos hc]
   rw [e1]
   exact (if_pos hc).symm
 ·rintro ⟨z1,z2⟩ w4 ⟨C4,hag4,f4,a,hz⟩
  dsimp only at hz ⊢
  have B24:=B23.fr f4 fun e=>by have:=e.1.2; omega
  have f04:Fr (fun k=>F k∧¬ C k) w w4:=f03.any.then (f4.sub fun _ e=>⟨e.1.1,e.2⟩)
  have fin:∀ {w5:World},Fr (fun k=>k=w1.heap.size) w4 w5→R11 C4 b (doM x o).2 (Ex F w) w5∧Fr (fun k=>F k∧¬ C k) w w5:=fun f=>by
   refine ⟨R11.st (F:=fun k=>(F k∧k < w.heap.size)∨(w3.heap.size≤k)) a f fun k _ e=>⟨fun e2=>?_,?_⟩,f04.thenNew f fun k e=>by omega⟩
   ·rcases e with e | e <;> omega
   ·rcases e with e | e
    ·exact .inl e.1
    ·exact .inr (by omega)
  refine condN (fun hne=>?_) fun heq=>?_
  ·rw [if_pos hne] at hz
   rw [hz] at hk
   exact stoAll B24 rfl rfl fun w5 B5 f5 s5=>aggI B5 (x:=(z1,0)) rfl (hk C4 w5 hag4 (fin f5).1 (fin f5).2)
  ·rw [if_neg (fun h=>h heq)] at hz
   rw [hz] at hk
   exact stoAll B24 rfl rfl fun w5 B5 f5 s5=>aggI B5 (x:=(0,z2)) rfl (hk C4 w5 hag4 (fin f5).1 (fin f5).2)
end
end Go.Proofs.YtoiahhpgkoknfaaGreat
namespace Go.Proofs.YtoiahhpgkoknfaaGreat
open Go Go.RowKit Go.ChangeShapes Go.WideShapes Go.ChangeAt Go.Proofs.YtoiahhpgkoknfaaGreat.Den
variable {R:Type} {Q:R→World→Prop} {w:World} {H:Type} {enc:TypeId × Value→H}
theorem Zvt {x:StM} {o:Ordr} (h:(workM x o).2.1≠0):(workM x o).2.2=x:=by
 unfold workM at h ⊢
 by_cases h1:o.1=1
 ·rw [if_pos h1] at h ⊢
  unfold StM.spawn at h ⊢
  by_cases he:listE o.2.2.2≠0
  ·rw [if_pos he]
  ·rw [if_neg he] at h ⊢
   cases ht:x.s.take with
   | none=>rfl
   | some p=>rw [ht] at h; exact absurd rfl h
 rw [if_neg h1] at h ⊢
 by_cases h2:o.1=2
 ·rw [if_pos h2] at h ⊢
  unfold StM.despawn at h ⊢
  cases ha:x.at o.2.1 with
  | none=>rfl
  | some p=>obtain ⟨m,i,e⟩:=p; rw [ha] at h; exact absurd rfl h
 rw [if_neg h2] at h ⊢
 by_cases h3:o.1=3
 ·rw [if_pos h3] at h ⊢
  generalize o.2.2.2.headD (0,0,0,0)=c at h ⊢
  unfold StM.set at h ⊢
  by_cases hc:checkM c≠0
  ·rw [if_pos hc]
  ·rw [if_neg hc] at h ⊢
   cases ha:x.at o.2.1 with
   | none=>rfl
   | some p =>
    obtain ⟨m,i,e⟩:=p
    rw [ha] at h
    dsimp only at h ⊢
    by_cases hk:c.1∈kindsOf m
    ·rw [if_pos hk] at h; exact absurd rfl h
    ·rw [if_neg hk]
 rw [if_neg h3] at h ⊢
 by_cases h4:o.1=4
 ·rw [if_pos h4] at h ⊢
  generalize o.2.2.2.headD (0,0,0,0)=c at h ⊢
  unfold StM.add at h ⊢
  by_cases hc:checkM c≠0
  ·rw [if_pos hc]
  ·rw [if_neg hc] at h ⊢
   cases ha:x.at o.2.1 with
   | none=>rfl
   | some p =>
    obtain ⟨m,i,e⟩:=p
    rw [ha] at h
    dsimp only at h ⊢
    by_cases hk:c.1∈kindsOf m
    ·rw [if_pos hk]
    ·rw [if_neg hk] at h; exact absurd rfl h
 rw [if_neg h4] at h ⊢
 unfold StM.remove at h ⊢
 cases ha:x.at o.2.1 with
 | none=>rfl
 | some p =>
  obtain ⟨m,i,e⟩:=p
  rw [ha] at h
  dsimp only at h ⊢
  by_cases hk:o.2.2.1∈kindsOf m
  ·rw [if_pos hk] at h; exact absurd rfl h
  ·rw [if_neg hk]
theorem Zx0 {x:StM} {o:Ordr} (h:(doM x o).1.1≠0):(doM x o).2=x:=by
 unfold doM at h ⊢
 by_cases h1:ochk o≠0
 ·rw [if_pos h1]
 ·rw [if_neg h1] at h ⊢
  by_cases h2:(workM x o).2.1≠0
  ·rw [if_pos h2]; exact Zvt h2
  ·rw [if_neg h2] at h; exact absurd rfl h
def tagO:Ordr:=(1,0,0,[(4,0,0,0)])
def tagX:StM:=((StM.new 1 1).spawn [(4,0,0,0)]).2.2
theorem Zrx:NoT tagX:=NoT.spawn (NoT.new 1 1) fun c hc=>by
 rw [List.mem_singleton] at hc
 subst hc
 exact ⟨by decide,by decide,by decide⟩
theorem Zub:(allM (pushW (newM 1 1 0) tagO).x (pushW (newM 1 1 0) tagO).wait).2=tagX:=by kernel_rfl
theorem Zvq:pushE (newM 1 1 0).wait tagO=0:=by kernel_rfl
theorem Zxc:OrdOk tagO∧Small tagO.2.2.2:=⟨⟨by decide,⟨by decide,by decide⟩,by decide,fun c hc=>by
 simp only [tagO,List.mem_cons,List.not_mem_nil,or_false] at hc
 subst hc
 exact Z9n (by decide +kernel)⟩,by decide⟩
theorem law_WorldRoom {W:World} {d:OrdRaw} {o:Ordr} (hO:OrdIn W d o) :
  Calls Tryz.prog 6 #[.agg ⟨ordC d⟩] W (fun e w'=>e=.returned (.bool true)∧Fr None W w'):=by
 refine Zjk (Zbl d _ _ W ?_)
 unfold Z65
 obtain ⟨⟨ho1,ho2,ho3,hoS⟩,hoo,hcap⟩:=hO
 refine newI fun w0 B0 f0 s0=>?_
 refine Z7k fun w1 f1=>condF rfl ?_
 refine Zmz ⟨by omega,by omega⟩ ⟨by decide,by decide,by decide,by decide⟩ fun b G w2 h2 f2=>?_
 have f01:=f0.then0 f1
 have z1:=f01.size
 have z0:w0.heap.size=W.heap.size+1:=s0
 have z01:=f1.size
 have f02:=f01.then0 f2
 have h2:WA (W.heap.size+1) b (newM 1 1 0) G w2:=⟨h2.1,fun k e=>⟨by have:=(h2.2.1 k e).1; omega,(h2.2.1 k e).2⟩,h2.2.2⟩
 have B2:=(B0.fr f1 fun h=>h).fr f2 fun h=>h
 have nB:∀ {G:Nat→Prop} {v:World} {m:WM},WA (W.heap.size+1) b m G v→¬ G W.heap.size:=fun h e=>by have:=(h.2.1 _ e).1; omega
 have wa0:∀ {G:Nat→Prop} {v v':World} {m:WM},Fr None W v→WA (W.heap.size+1) b m G v→Fr G v v'→Fr None W v':=fun f h g=>f.newer g fun k e=>by have:=(h.2.1 k e).1; omega
 refine joinI (fun z v=>z=false∧∃ G,WA (W.heap.size+1) b (pushW (newM 1 1 0) tagO) G v∧Fr None W v∧Blk v W.heap.size 37 (ordC d)) ?_ ?_
 ·refine condF rfl (newI fun w3 B3 f3 s3=>?_)
  have f03:=f02.then0 f3
  have h3:=h2.fr0 f3
  have hs:SlT (fun k=>k=w2.heap.size) w3 compT ⟨some ⟨w2.heap.size,0,none⟩,1,1⟩ tagO.2.2.2:=by
   have:Den.Own (fun k=>k=w2.heap.size) w3 52 compT ⟨some ⟨w2.heap.size,0,none⟩,1,1⟩ tagO.2.2.2:=Den.Own.mk' (t:=compT) (l:=tagO.2.2.2) (c:=1) (cur:=⟨tagO.2.2.2.flatMap compT.cells⟩) rfl B3 (by decide) (by rw [Zc]; decide) rfl rfl
   exact this.sl
  refine Ze7 h3 (r:=(1,0,0,⟨some ⟨w2.heap.size,0,none⟩,1,1⟩)) (o:=tagO) (ok:=fun k=>k=w2.heap.size) ⟨rfl,rfl,rfl,hs⟩ Zxc (by have:=f03.size; have:w3.heap.size=w2.heap.size+1:=s3; have:=f2.size; omega) fun G4 w4 h4 hG4 f4=>⟨?_,G4,h4,wa0 f03 h3 f4,(B2.fr f3 fun h=>h).fr f4 (nB h3)⟩
  rw [Zvq]
  rfl
 rintro z w3 ⟨rfl,G3,h3,f3,B3⟩
 have z3:=f3.size
 have z3b:=B3.lt
 refine condF rfl (Zcs h3 (by omega) (by show (0:Int) < 4294967295; decide) fun r G4 w4 h4 hG4 _ f4=>?_)
 have f04:=wa0 f3 h3 f4
 have B4:=B3.fr f4 (nB h3)
 have hm1x:(stepM (pushW (newM 1 1 0) tagO)).x=tagX:=by rw [Zpo,Zhu (by rw [Zub]; exact Zrx),Zub]
 have hm1w:=Zlh (pushW (newM 1 1 0) tagO)
 have hm1t:(stepM (pushW (newM 1 1 0) tagO)).tick=1:=by rw [Z8z]; rfl
 generalize stepM (pushW (newM 1 1 0) tagO)=m1 at h4 hm1x hm1w hm1t
 obtain ⟨hents,hel⟩:=Z8t h4.2.2.x
 have hsm:∀ e∈entsM m1.x,Small e.2:=fun e he=>Nat.le_trans (Z3i (hents.2 e he).2) (by decide)
 refine Zw h4.1 fun r5 w5 E5 f5=>?_
 obtain ⟨rw5,o5,R5⟩:=E5.ents
 refine Zbh o5.sl R5 (by omega) hsm fun r6 rw6 w6 o6 R6 f6=>?_
 have f56:=f5.then0 f6
 have f06:=f04.then0 f56
 have B6:=B4.fr f56 fun h=>h
 refine fldI B6 (i:=3) (x:=d.2.2.2) rfl (fldI B6 (i:=3) (x:=d.2.2.2) rfl ?_)
 have hon:=hoS.len
 obtain ⟨q,hq⟩:∃ q,q=min 20 o.2.2.2.length:=⟨_,rfl⟩
 refine (hoS.fr0 f06).cutI (n:=q) (by rw [hon]; split <;> omega) (by omega) fun s7 _ hs7=>?_
 have S7:SlT (Old W) W compT s7 (o.2.2.2.take q):=hs7 _ _ hoS
 have hl7:(o.2.2.2.take q).length≤20:=by rw [List.length_take]; omega
 have hok7:∀ c∈o.2.2.2.take q,CompOk c:=fun c hc=>hoo.comps c (List.mem_of_mem_take hc)
 generalize o.2.2.2.take q=l7 at S7 hl7 hok7
 refine setI (i:=3) (v:=.slice s7.a s7.n s7.c) B6 (by simp [ordC]) rfl fun w7 B7 f7 s7'=>?_
 have f7:Fr (fun k=>k=W.heap.size) w6 w7:=f7
 have z06:=f06.size
 have f07:Fr None W w7:=f06.newer f7 fun k e=>by have e:k=W.heap.size:=e; omega
 have h7:=(h4.fr0 f56).frS f7 fun k e e2=>by have e:k=W.heap.size:=e; have:=(h4.2.1 k e2).1; omega
 have o7:=o6.fr f7 fun k e e2=>by have e:w5.heap.size≤k:=e; have e2:k=W.heap.size:=e2; have:=(f04.then0 f5).size; have:=B4.lt; have:=f5.size; omega
 have R7:=R6.fr f7 fun k e e2=>by have e:w5.heap.size≤k:=e; have e2:k=W.heap.size:=e2; have:=B4.lt; have:=f5.size; omega
 obtain ⟨d',hd'⟩:∃ d':OrdRaw,d'=(d.1,d.2.1,d.2.2.1,s7):=⟨_,rfl⟩
 obtain ⟨o',ho'⟩:∃ o':Ordr,o'=(o.1,o.2.1,o.2.2.1,l7):=⟨_,rfl⟩
 have B7:Blk w7 W.heap.size 37 (ordC d'):=by rw [hd']; exact B7
 have hoo':OrdOk o'∧Small o'.2.2.2:=by rw [ho']; exact ⟨⟨hoo.do_,hoo.id,hoo.kind,hok7⟩,Nat.le_trans hl7 (by decide)⟩
 have hor:∀ {v:World},Fr None W v→ordR (Old W) v d' o':=fun f=>by rw [hd',ho']; exact ⟨ho1,ho2,ho3,S7.fr0 f⟩
 refine Zpd (fun h=>absurd ⟨by decide,by decide,by decide,by decide⟩ h) fun b2 w8 _ X8 f8=>?_
 have z78:=f8.size
 refine newI fun w9 B9 f9 s9=>?_
 have hs9:SlT (fun k=>k=w8.heap.size) w9 compT ⟨some ⟨w8.heap.size,0,none⟩,1,1⟩ [((4,0,0,0):Comp)]:=by
  have:Den.Own (fun k=>k=w8.heap.size) w9 52 compT ⟨some ⟨w8.heap.size,0,none⟩,1,1⟩ [((4,0,0,0):Comp)]:=Den.Own.mk' (t:=compT) (l:=[((4,0,0,0):Comp)]) (c:=1) (cur:=⟨compT.cells ((4,0,0,0):Comp)⟩) rfl B9 (by decide) (by rw [Zc]; decide) rfl rfl
  exact this.sl
 have X9:R11 (fun _=>False) b2 (StM.new 1 1) (fun k=>w7.heap.size≤k∧k < w8.heap.size) w9:=R11.st.fr0 (R11.st.mono X8 fun k hk e=>⟨e,hk⟩) f9
 refine Zbi X9 hs9 (fun k _ e e2=>by have e:k=w8.heap.size:=e; omega) (by decide) (fun c hc=>by rw [List.mem_singleton] at hc; subst hc; exact Z9n (by decide +kernel)) fun C10 w10 _ X10 f10=>?_
 have f79:=f8.then0 f9
 have f710:Fr None w7 w10:=f79.newer f10 fun k e=>e.1.1
 have z710:=f710.size
 have f010:=f07.then0 f710
 have B10:=B7.fr f710 fun h=>h
 refine aggI B10 (x:=d') rfl ?_
 have hX10:R11 C10 b2 tagX (fun k=>w7.heap.size≤k∧k < w10.heap.size) w10:=R11.st.mono X10 fun k hk e=>⟨by rcases e with e | e; exact e.1; have:=f9.size; omega,hk⟩
 refine Zqu hX10 (hor f010) (fun k hk e e2=>by have e:k < W.heap.size:=e; have:=f07.size; omega) hoo'.1 hoo'.2 fun C11 w11 _ _ f11=>?_
 have f711:Fr None w7 w11:=f710.newer f11 fun k e=>e.1.1
 have f011:=f07.then0 f711
 obtain ⟨res,hres⟩:∃ res,res=(doM tagX o').1:=⟨_,rfl⟩
 rw [← hres]
 refine newI fun w12 B12 f12 s12=>stoAll B12 rfl rfl fun w13 B13 f13 s13=>?_
 have f1113:Fr None w11 w13:=f12.newer f13 fun k e=>by cases e; exact Nat.le_refl _
 have f713:=f711.then0 f1113
 have f013:=f07.then0 f713
 refine aggI (B7.fr f713 fun h=>h) (x:=d') rfl ?_
 have h13:=h7.fr0 f713
 have z711:=f711.size
 have z7:=f7.size
 have z13:=f013.size
 have nR:∀ k,G4 k→k≠w11.heap.size:=fun k e=>by have:=(h7.2.1 k e).2; omega
 refine Ze7 h13 (hor f013) hoo' (by have:=B7.lt; have:=f713.size; omega) fun G14 w14 h14 hG14 f14=>?_
 have f014:=wa0 f013 h13 f14
 have B14:=B13.fr f14 fun e=>nR _ e rfl
 have hpe:pushE m1.wait o'=ochk o':=by
  rw [hm1w]
  unfold pushE
  by_cases hc:ochk o'≠0
  ·rw [if_pos hc]
  ·rw [if_neg hc]
   have:ochk o'=0:=by simpa using hc
   rw [this]
   rfl
 rw [hpe]
 refine condN (fun hne=>?_) fun heq=>?_
 ·have hE:res.1≠0:=by
   rw [hres]
   unfold doM
   rw [if_pos hne]
   exact hne
  have hwait:(pushW m1 o').wait=[]:=by
   show pushL m1.wait o'=[]
   unfold pushL
   rw [hpe,if_neg hne,hm1w]
  refine joinI (fun z v=>z=true∧v=w14) (fldI B14 (i:=0) (x:=res.1) rfl (condN (fun _=>Z6z h14.1 ⟨by rw [hwait]; rfl,rfl⟩) fun h=>absurd h hE)) ?_
  rintro z v ⟨rfl,rfl⟩
  exact ⟨rfl,f014⟩
 ·have hwait:(pushW m1 o').wait=[o']:=by
   show pushL m1.wait o'=[o']
   unfold pushL
   rw [hpe,if_pos heq,hm1w]
   rfl
  have hx2:(pushW m1 o').x=tagX:=hm1x
  have ht2:(pushW m1 o').tick=1:=hm1t
  generalize pushW m1 o'=m2 at h14 hwait hx2 ht2
  have z14:=f014.size
  refine Zcs h14 (by have:=h14.2.1; have:=B14.lt; have:=B7.lt; have:=f14.size; have:=f713.size; omega) (by omega) fun r15 G15 w15 h15 hG15 o15 f15=>?_
  have f015:=wa0 f014 h14 f15
  have n14:¬ G14 w11.heap.size:=fun e=>by
   rcases hG14 _ e with e2 | e2
   ·exact nR _ e2 rfl
   ·have:=B13.lt; omega
  have B15:=B14.fr f15 n14
  have hall:allM m2.x m2.wait=([res],(doM tagX o').2):=by rw [hx2,hwait,hres]; rfl
  rw [hall] at o15
  refine joinI (fun z v=>z=false∧Fr None w15 v) ?_ ?_
  ·refine condF rfl (aggI B15 (x:=(res:Int × Int)) rfl (newI fun w16 B16 f16 s16=>?_))
   have l16:SlT (fun _=>True) w16 resT ⟨some ⟨w15.heap.size,0,none⟩,1,1⟩ [res]:=by
    have:Den.Own (fun _=>True) w16 71 resT ⟨some ⟨w15.heap.size,0,none⟩,1,1⟩ [res]:=Den.Own.mk' (t:=resT) (l:=[res]) (c:=1) (cur:=⟨resT.cells res⟩) trivial B16 (Nat.le_refl 1) (by rw [Zc]; decide) rfl rfl
    exact this.sl
   exact Z85 (o15.none f16).sl l16 (show 1≤_ from by decide) fun w17 f17=>⟨by simp,f16.then0 f17⟩
  rintro z w16 ⟨rfl,f16⟩
  refine condF rfl ?_
  have f016:=f015.then0 f16
  refine joinI (fun z v=>z=true∧Fr None W v) (fldI (B15.fr f16 fun h=>h) (i:=0) (x:=res.1) rfl (condE (fun _=>⟨rfl,f016⟩) fun hE=>?_)) fun z v ⟨hz,hv⟩=>by subst hz; exact ⟨rfl,hv⟩
  have hd2:(doM tagX o').2=tagX:=Zx0 (by rw [← hres]; exact hE)
  have hx3:(stepM m2).x=m1.x:=by
   rw [Zpo,Zhu (by rw [hall,hd2]; exact Zrx),hall,hd2,hm1x]
  have h16:=h15.fr0 f16
  generalize stepM m2=m3 at h16 hx3
  refine Zw h16.1 fun r17 w17 E17 f17=>?_
  obtain ⟨rw17,o17,R17⟩:=E17.ents
  rw [hx3] at R17
  have hap:∀ k,(w5.heap.size≤k∧k < w6.heap.size)→¬ G4 k:=fun k e e2=>by have:=(h4.2.1 k e2).2; have:=f5.size; omega
  have hap14:∀ k,(w5.heap.size≤k∧k < w6.heap.size)→¬ G14 k:=fun k e e2=>by
   rcases hG14 k e2 with e3 | e3
   ·exact hap k e e3
   ·have:=f713.size; omega
  have oo:=(((((o7.mono (S':=fun k=>w5.heap.size≤k∧k < w6.heap.size) fun k hk e=>⟨e,by have:w7.heap.size=w6.heap.size:=s7'; omega⟩).none f713).fr f14 hap).fr f15 hap14).none f16).none f17
  have RR:=(((((R7.mono (ok':=fun k=>w5.heap.size≤k∧k < w6.heap.size) fun k hk e=>⟨e,by have:w7.heap.size=w6.heap.size:=s7'; omega⟩).fr f713 fun _ _ h=>h).fr f14 hap).fr f15 hap14).fr f16 fun _ _ h=>h).fr f17 fun _ _ h=>h
  exact Z5a o17.sl R17 oo.sl RR (by omega) hsm fun w18 f18=>⟨by simp,(f016.then0 f17).then0 f18⟩
end Go.Proofs.YtoiahhpgkoknfaaGreat
