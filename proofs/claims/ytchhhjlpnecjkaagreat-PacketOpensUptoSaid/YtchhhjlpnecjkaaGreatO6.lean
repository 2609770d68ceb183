/-
  What the proof of packetOpens_holds leans on, laid together by a program of this session (wip/pack.py) out of its own texts; the last of these texts holds packetOpens_holds.
-/
import Derived.Test.YtchhhjlpnecjkaaGreatO5
set_option linter.unusedVariables false
namespace Go.Proofs.YtchhhjlpnecjkaaGreat
open Go Go.RowKit Go.Proofs.YtchhhjlpnecjkaaGreat.Den
variable {R:Type} {Q:R→World→Prop} {w:World} {b:Nat} {L:List Bool} {bad:Bool}
def ChgReal (was:List Ent) (d:Chg):Prop:=∀ x∈d.2.2.2,hadK was d.1 x.1
theorem Zx0 {was now:List Ent} {gone:List Int} {come:List Ent} {chg:List Chg} (hp:PatchOk was gone come chg now):∀ d∈chg,ChgReal was d:=fun d hd x hx=>by
 rw [← hp.chg] at hd
 obtain ⟨a,ha,b,hb,e1,e2,e3⟩:=Zum hd
 rw [e3] at hx
 have h2:=(List.mem_filter.1 (show x∈chM a.2 b.2 from hx)).2
 have hf:(findC a.2 x.1).2=true:=by
  cases hc:(findC a.2 x.1).2 with
  | true=>rfl
  | false=>rw [hc] at h2; simp at h2
 obtain ⟨h3,h4⟩:=Z1p hf
 exact ⟨a,ha,by omega,_,h3,h4⟩
def ChgsA (n:Nat) (u:World) (t:Sl) (raws:List ChgRaw) (done:List Chg):Prop:=Own (Up n) u 86 chgT t raws∧All2 (fun a d=>chgR (fun k=>n≤k∧t.v.ownBlock≠some k) u a d) raws done
theorem Zx2 {n:Nat} {z:Sl} {raws:List ChgRaw} {done:List Chg} (h:ChgsA n w z raws done) (hn:n≤w.heap.size) (hl:raws.length≤2097152) {x:ChgRaw} {d:Chg} (hx:chgR (fun k=>n≤k∧z.v.ownBlock≠some k) w x d) {K:Sl→W R}
  (hk:∀ z' w',ChgsA n w' z' (raws ++ [x]) (done ++ [d])→Fr (Up n) w w'→K z' Q w') :
  (newW 86 [.int .u32 x.1,.int .u8 x.2.1,.slice x.2.2.1.a x.2.2.1.n x.2.2.1.c,.slice x.2.2.2.a x.2.2.2.n x.2.2.2.c] fun a=>rawW Tryz.prog (Builtin.append_ #[78,78] 78 #[.slice z.a z.n z.c,.slice (some a) 1 1]) [.sc .sl] K:W R) Q w:=by
 obtain ⟨o,eR⟩:=h
 have oz:Own (fun k=>n≤k∧(z.v.ownBlock=some k∨w.heap.size≤k)) w 86 chgT z raws:=⟨o.row,fun k e=>⟨o.own k e,.inl e⟩⟩
 refine appP (x:=x) Zuo rfl oz (fun k e=>⟨by omega,.inr e⟩) (by omega) (by omega) fun z' w' o' f'=>?_
 have ne:∀ k,k < w.heap.size→z.v.ownBlock≠some k→z'.v.ownBlock≠some k:=fun k hk hz e=>by
  rcases (o'.own k e).2 with h | h
  ·exact hz h
  ·omega
 have fix:∀ {s:Sl} {l:List Comp},SlT (fun k=>n≤k∧z.v.ownBlock≠some k) w compT s l→SlT (fun k=>n≤k∧z'.v.ownBlock≠some k) w' compT s l:=fun h =>
  ((h.mono (ok':=fun k=>(n≤k∧z.v.ownBlock≠some k)∧k < w.heap.size) fun k hk e=>⟨e,hk⟩).fr f' fun k e e2=>e.1.2 e2).mono fun k _ e=>⟨e.1.1,ne k e.2 e.1.2⟩
 have fixR:∀ {a:ChgRaw} {d:Chg},chgR (fun k=>n≤k∧z.v.ownBlock≠some k) w a d→chgR (fun k=>n≤k∧z'.v.ownBlock≠some k) w' a d:=fun h=>⟨h.1,h.2.1,fix h.2.2.1,fix h.2.2.2⟩
 exact hk z' w' ⟨o'.mono fun k _ e=>e.1,(eR.imp fun a c h=>fixR h).snoc (fixR hx)⟩ (f'.sub fun k e=>o.own k e)
theorem ChgsA.fr {n:Nat} {z:Sl} {raws:List ChgRaw} {done:List Chg} (h:ChgsA n w z raws done) {S:Nat→Prop} {w':World} (f:Fr S w w') (hs:∀ k,n≤k→¬ S k):ChgsA n w' z raws done :=
 ⟨h.1.fr f fun k (e:n≤k)=>hs k e,h.2.imp fun a c ⟨h1,h2,h3,h4⟩=>⟨h1,h2,h3.fr f fun k e=>hs k e.1,h4.fr f fun k e=>hs k e.1⟩⟩
theorem Zya (h:Src w b L bad) {db:Nat} {s1 s2:Sl} (D:Blk w db 80 [.slice s1.a s1.n s1.c,.slice s2.a s2.n s2.c,.slice none 0 0]) (hdb:b < db) {sw:Sl} {raws:List (Int × Sl)} {was:List Ent} (hS:SlT (fun k=>k < b) w entT sw raws) (hE:EntsR (fun k=>k < b) w raws was) (hL:∀ e∈was,EntFit e) (hwl:was.length≤1048576) (hf:FormOk was) {K:W R}
  (hk:∀ u t raws chg L' bad',ChgsA w.heap.size u t raws chg→Src u b L' bad'→Blk u db 80 [.slice s1.a s1.n s1.c,.slice s2.a s2.n s2.c,.slice t.a t.n t.c]→Fr (fun k=>k=b∨k=db) w u→(bad'=false→bad=false∧chgsD was L=some (chg,L'))→(bad'=true→bad=true∨∀ ds r,chgsD was L=some (ds,r)→∃ d∈ds,¬ ChgReal was d)→K Q u) :
  (callW Tryz.prog Z3 [.pointer (some ⟨b, 0, none⟩)] [.sc (.int .u64)] fun (x_27 : Int) =>
     loopW (σ:=Int × Int) (fun K_28 s_29 =>
      joinW (σ:=Bool) (fun J_30 =>
       cond (decide (s_29.2 > 0))
        (ld (.sc .bool) (Addr.add ⟨b, 0, none⟩ 1) fun (x_31 : Bool) =>
           J_30 (!x_31))
        (J_30 false))
      <| fun s_32 =>
      cond s_32
       (callW Tryz.prog Zd [.pointer (some ⟨b,0,none⟩),.int .u32 s_29.1] [.sc (.int .u32)] fun (x_33:Int) =>
      callW Tryz.prog Z2 [.pointer (some ⟨b,0,none⟩),.int .i64 5] [.sc (.int .u64)] fun (x_34:Int) =>
      newW 86 [.int .u32 0,.int .u8 0,.slice none 0 0,.slice none 0 0] fun x_35 =>
      stoL x_35 [.int .u32 x_33,.int .u8 (IntKind.wrap .u8 x_34),.slice none 0 0,.slice none 0 0] 0 <|
      callW Tryz.prog Z2 [.pointer (some ⟨b,0,none⟩),.int .i64 5] [.sc (.int .u64)] fun (x_36:Int) =>
      callW Tryz.prog Z2 [.pointer (some ⟨b,0,none⟩),.int .i64 5] [.sc (.int .u64)] fun (x_37:Int) =>
      callW Tryz.prog Zl [.pointer (some ⟨b,0,none⟩),.int .u64 x_36] [.sc .sl] fun (x_38:Sl) =>
      stoL (Addr.add x_35 2) [.slice x_38.a x_38.n x_38.c] 0 <|
      callW Tryz.prog Z9 [.slice sw.a sw.n sw.c,.int .u32 x_33] [.sc (.int .i64)] fun (x_39:Int) =>
      loopW (σ:=Int) (fun K_40 s_41 =>
       cond (decide (s_41 < 5))
        (joinW (σ:=Unit) (fun J_42 =>
        joinW (σ:=Bool) (fun J_43 =>
         chkW (0≤s_41) <|
         cond ((Int.tmod (shR .u64 x_37 s_41) 2) == 0)
          (J_43 true)
          (ld (.sc .bool) (Addr.add ⟨b, 0, none⟩ 1) fun (x_44 : Bool) =>
             J_43 x_44))
        <| fun s_45 =>
        cond s_45
         (J_42 ())
         (joinW (σ:=Int) (fun J_46 =>
         cond (decide (x_39 ≥ 0))
          (idxW sw.a sw.n 2 x_39 fun x_47 =>
          ld (.sc .sl) (Addr.add x_47 1) fun (x_48:Sl) =>
          callW Tryz.prog Z7 [.slice x_48.a x_48.n x_48.c,.int .u8 s_41] [.sc (.int .i64)] fun (x_49:Int) =>
          J_46 x_49)
          (J_46 (-1)))
        <| fun s_50 =>
        cond (decide (s_50 < 0))
         (stoL (Addr.add ⟨b,0,none⟩ 1) [.bool true] 0 <|
         J_42 ())
         (joinW (σ:=(Option Addr) × Sl × Int) (fun J_51 =>
         drawW <|
         bothW
          (ld (.sc .sl) (Addr.add ⟨b,0,none⟩ 0) fun (x_52:Sl) =>
          idxW sw.a sw.n 2 x_39 fun x_53 =>
          ld (.sc .sl) (Addr.add x_53 1) fun (x_54:Sl) =>
          idxW x_54.a x_54.n 4 s_50 fun x_55 =>
          ld (.agg [.int .u8,.int .i32,.int .i32,.int .i32]) x_55 fun (x_56:(Int × Int × Int × Int)) =>
          callW Tryz.prog Zb [.slice x_52.a x_52.n x_52.c,.agg ⟨[.int .u8 x_56.1,.int .i32 x_56.2.1,.int .i32 x_56.2.2.1,.int .i32 x_56.2.2.2]⟩] [.agg [.int .u8,.int .i32,.int .i32,.int .i32],.sc .sl,.sc (.int .i64)] fun (x_57:(Int × Int × Int × Int) × Sl × Int) =>
          newW 92 [.int .u8 0,.int .i32 0,.int .i32 0,.int .i32 0] fun x_58 =>
          stoL x_58 [.int .u8 x_57.1.1,.int .i32 x_57.1.2.1,.int .i32 x_57.1.2.2.1,.int .i32 x_57.1.2.2.2] 0 <|
          J_51 ((some x_58),x_57.2.1,x_57.2.2))
          (ld (.sc .sl) (Addr.add ⟨b,0,none⟩ 0) fun (x_59:Sl) =>
          idxW sw.a sw.n 2 x_39 fun x_60 =>
          ld (.sc .sl) (Addr.add x_60 1) fun (x_61:Sl) =>
          idxW x_61.a x_61.n 4 s_50 fun x_62 =>
          ld (.agg [.int .u8,.int .i32,.int .i32,.int .i32]) x_62 fun (x_63:(Int × Int × Int × Int)) =>
          newW 92 [.int .u8 0,.int .i32 0,.int .i32 0,.int .i32 0] fun x_64 =>
          callW Tryz.prog Zb [.slice x_59.a x_59.n x_59.c,.agg ⟨[.int .u8 x_63.1,.int .i32 x_63.2.1,.int .i32 x_63.2.2.1,.int .i32 x_63.2.2.2]⟩] [.agg [.int .u8,.int .i32,.int .i32,.int .i32],.sc .sl,.sc (.int .i64)] fun (x_65:(Int × Int × Int × Int) × Sl × Int) =>
          stoL x_64 [.int .u8 x_65.1.1,.int .i32 x_65.1.2.1,.int .i32 x_65.1.2.2.1,.int .i32 x_65.1.2.2.2] 0 <|
          J_51 ((some x_64),x_65.2.1,x_65.2.2)))
        <| fun s_66 =>
        stoL (Addr.add ⟨b,0,none⟩ 0) [.slice s_66.2.1.a s_66.2.1.n s_66.2.1.c] 0 <|
        stoL (Addr.add ⟨b,0,none⟩ 1) [.bool (s_66.2.2 != 0)] 0 <|
        ld (.sc .sl) (Addr.add x_35 3) fun (x_67:Sl) =>
        ptrW s_66.1 fun x_68 =>
        ld (.agg [.int .u8,.int .i32,.int .i32,.int .i32]) x_68 fun (x_69:(Int × Int × Int × Int)) =>
        newW 92 [.int .u8 x_69.1,.int .i32 x_69.2.1,.int .i32 x_69.2.2.1,.int .i32 x_69.2.2.2] fun x_70 =>
        rawW Tryz.prog (Builtin.append_ #[55,55] 55 #[.slice x_67.a x_67.n x_67.c,.slice (some x_70) 1 1]) [.sc .sl] fun (x_71:Sl) =>
        stoL (Addr.add x_35 3) [.slice x_71.a x_71.n x_71.c] 0 <|
        J_42 ())))
       <| fun s_72 =>
       K_40 (IntKind.wrap .u8 (s_41+1)))
        (ld (.sc .sl) (Addr.add ⟨db,0,none⟩ 2) fun (x_73:Sl) =>
      ld (.agg [.int .u32,.int .u8,.sl,.sl]) x_35 fun (x_74:(Int × Int × Sl × Sl)) =>
      newW 86 [.int .u32 x_74.1,.int .u8 x_74.2.1,.slice x_74.2.2.1.a x_74.2.2.1.n x_74.2.2.1.c,.slice x_74.2.2.2.a x_74.2.2.2.n x_74.2.2.2.c] fun x_75 =>
      rawW Tryz.prog (Builtin.append_ #[78,78] 78 #[.slice x_73.a x_73.n x_73.c,.slice (some x_75) 1 1]) [.sc .sl] fun (x_76:Sl) =>
      stoL (Addr.add ⟨db,0,none⟩ 2) [.slice x_76.a x_76.n x_76.c] 0 <|
      K_28 (x_33,IntKind.wrap .u64 (s_29.2 - 1))))
       0)
       K) (0,x_27):W R) Q w:=by
 have hdw:=D.lt
 have hbw:=h.lt
 refine Z3h h fun nn L1 bad1 w1 h1 f1 hnn hd1=>?_
 have len1:L1.length≤1048576:=h1.2
 refine loopI (fun (st:Int × Int) u=>∃ (t:Sl) (rs:List ChgRaw) (done:List Chg) (L':List Bool) (bad':Bool) (m:Nat),IdOk st.1∧st.2=((m:Nat):Int)∧m < 18446744073709551616∧ChgsA w.heap.size u t rs done∧Src u b L' bad'∧Blk u db 80 [.slice s1.a s1.n s1.c,.slice s2.a s2.n s2.c,.slice t.a t.n t.c]∧Fr (fun k=>k=b∨k=db) w u ∧
   (bad'=false→bad=false∧chgsD was L=moreD done (repD (chgD was) (fun d:Chg=>d.1) m st.1 L')∧done.length+L'.length≤1048576)∧(bad'=true→bad=true∨∀ ds r,chgsD was L=some (ds,r)→∃ d∈ds,¬ ChgReal was d))
  (fun st _=>st.2.toNat) ⟨⟨none,0,0⟩,[],[],L1,bad1,nn,(show IdOk 0 from ⟨by decide,by decide⟩),rfl,hnn,⟨Own.nil _ _ _ _,All2.nil _⟩,h1,D.fr f1 fun e=>by omega,f1.sub fun k e=>.inl e,fun e=>?_,fun e=>?_⟩ ?_
 ·obtain ⟨g1,g2⟩:=hd1.1 e
  refine ⟨g1,?_,by simpa using len1⟩
  unfold chgsD
  rw [g2]
  exact Zqc _
 ·rcases hd1.2 e with g | g
  ·exact .inl g
  ·exact .inr fun ds r hh=>by unfold chgsD at hh; rw [g] at hh; cases hh
 rintro ⟨c1,c2⟩ u ⟨t,rs,done,L',bad',m,hlast,hc2,hm,hA,hs,Du,fu,hgood,hbad⟩
 dsimp only at hlast hc2 hgood
 subst hc2
 have su:=fu.size
 refine joinI (fun q v=>v=u∧q=(decide (0 < m) && !bad')) ?_ ?_
 ·refine condD (fun hp=>Z79 hs ⟨rfl,?_⟩) fun hp=>⟨rfl,?_⟩
  ·have hp:((m:Nat):Int) > 0:=hp
   rw [decide_eq_true (show 0 < m by omega)]; rfl
  ·have hp:¬ ((m:Nat):Int) > 0:=hp
   rw [decide_eq_false (show ¬ 0 < m by omega)]; rfl
 rintro q v ⟨rfl,rfl⟩
 refine condI (fun hc=>?_) fun hc=>?_
 ·obtain ⟨hc1,hc2⟩:=Bool.and_eq_true_iff.1 hc
  have hpos:=of_decide_eq_true hc1
  have hb':bad'=false:=by simpa using hc2
  subst hb'
  obtain ⟨g1,g2,g3⟩:=hgood rfl
  obtain ⟨m,rfl⟩:∃ q,m=q+1:=⟨m - 1,by omega⟩
  have nb:∀ {k:Nat},w.heap.size≤k→¬ k=b:=fun h e=>by omega
  have ndb:∀ {k:Nat},w.heap.size≤k→¬ k=db:=fun h e=>by omega
  refine Zg8 hs hlast fun id L2 bad2 v1 hs1 k1 hid d1=>?_
  refine Z3i hs1 (n:=5) (by decide) fun lost L3 bad3 v2 hs2 k2 hlost d2=>?_
  have k02:=k1.then k2
  have y2:=k02.size
  refine newI fun v3 C1 k3 y3=>stoAll C1 rfl rfl fun v4 C k4 y4=>?_
  have ww:IntKind.wrap .u8 (lost:Int)=(lost:Int):=wu8 (by omega)
  rw [ww] at C
  have k24:Fr None v2 v4:=k3.newer k4 fun k e=>by omega
  have y24:=k24.size
  refine Z3i (hs2.fr0 k24) (n:=5) (by decide) fun fresh L4 bad4 v5 hs5 k5 hfresh d3=>?_
  refine Z3i hs5 (n:=5) (by decide) fun set L5 bad5 v6 hs6 k6 hset d4=>?_
  have k46:=k5.then k6
  have y46:=k46.size
  refine Zet hs6 hfresh fun r cs L6 bad6 v7 o7 hcl hco hs7 k7 d5=>?_
  have y7:=k7.size
  have C7:=(C.fr k46 fun e=>by omega).fr k7 fun e=>by omega
  refine setA C7 (by simp) rfl fun v8 C8 k8 y8=>?_
  have hs8:Src v8 b L6 bad6:=hs7.fr k8 fun k e e2=>by omega
  have kv7:Fr (fun k=>k=b) v v7:=((k02.then k24.any).then k46).then k7
  have kv8:Fr (fun k=>k=b) v v8:=kv7.thenNew k8 fun k e=>by omega
  have k08:Fr (fun k=>k=b∨k=db) w v8:=fu.then (kv8.sub fun k e=>.inl e)
  have ltS:∀ k,k < b→¬ (k=b∨k=db):=fun k h e=>by omega
  refine Z39 (hS.fr k08 ltS) (hE.fr k08 ltS) (by omega) fun v9 k9=>?_
  have y9:=k9.size
  have k09:=k08.then0 k9
  have D9:=(Du.fr kv8 fun e=>by omega).fr k9 fun h=>h
  obtain ⟨oA,eA⟩:=hA
  have tlt:∀ k,t.v.ownBlock=some k→k < v.heap.size:=fun k e=>oA.lt e
  have kv9:Fr (fun k=>k=b) v v9:=kv8.then k9.any
  have r9:SlT (fun k=>v6.heap.size≤k∧k < v7.heap.size) v9 compT r cs:=((o7.sl.mono (ok':=fun k=>v6.heap.size≤k∧k < v7.heap.size) fun k hk e=>⟨e,hk⟩).fr k8 fun k e e2=>by omega).fr0 k9
  refine Zyc (hs8.fr0 k9) (c0:=(id,(lost:Int),r)) (C8.fr k9 fun h=>h) (by omega) (hS.fr k09 ltS) (hE.fr k09 ltS) hL hwl hf hset fun v10 hset10=>?_
  obtain ⟨k10,ts,ss,L7,bad7,o10,hsl,hsco,hs10,C10,d6g,d6b⟩:=hset10
  have y10:=k10.size
  have ncb:∀ {k:Nat},k < v2.heap.size→¬ k=b→¬ (k=b∨k=v2.heap.size):=fun h1 h2 e=>by omega
  have D10:=D9.fr k10 fun e=>by omega
  refine fldI D10 (i:=2) (x:=t) rfl (aggI C10 (x:=((id,(lost:Int),r,ts):ChgRaw)) rfl ?_)
  have kvA:Fr (fun k=>k=b) v v10:=kv9.trans k10 (fun _ h=>h) fun x hx e=>e.elim (fun e=>e) fun e=>by omega
  have A10:ChgsA w.heap.size v10 t rs done:=by
   refine ⟨oA.fr kvA fun k (e:w.heap.size≤k)=>nb e,eA.imp fun a c ⟨h1,h2,h3,h4⟩=>⟨h1,h2,h3.fr kvA fun k e=>nb e.1,h4.fr kvA fun k e=>nb e.1⟩⟩
  have hx:chgR (fun k=>w.heap.size≤k∧t.v.ownBlock≠some k) v10 (id,(lost:Int),r,ts) (id,(lost:Int),cs,ss):=by
   refine ⟨rfl,rfl,(r9.fr k10 fun k e e2=>by omega).mono fun k _ e=>⟨by omega,fun e2=>by have:=tlt k e2; omega⟩,o10.sl.mono fun k _ (e:v9.heap.size≤k)=>⟨by omega,fun e2=>by have:=tlt k e2; omega⟩⟩
  have hrl:=eA.len
  refine Zx2 A10 (by omega) (by omega) hx fun z' v11 A11 k11=>?_
  have D11:=D10.fr k11 fun (e:w.heap.size≤db)=>by omega
  refine setA D11 (by simp) rfl fun v12 D12 k12 y12=>?_
  have hs12:Src v12 b L7 bad7:=(hs10.fr k11 fun k e (e2:w.heap.size≤k)=>by omega).fr k12 fun k e e2=>by omega
  have mm:IntKind.wrap .u64 (((m+1:Nat):Int) - 1)=(m:Int):=by rw [wU64 (by omega)]; omega
  refine ⟨⟨z',rs ++ [(id,(lost:Int),r,ts)],done ++ [(id,(lost:Int),cs,ss)],L7,bad7,m,hid,mm,by omega,A11.fr k12 fun k e=>ndb e,hs12,D12,((fu.then (kvA.sub fun k e=>.inl e)).thenNew k11 fun k e=>e).then (k12.sub fun k e=>.inr e),fun e=>?_,fun e=>?_⟩,?_⟩
  ·obtain ⟨q6,p6⟩:=d6g e
   rw [Z4c hset] at p6
   obtain ⟨q5,p5⟩:=d5.1 q6
   obtain ⟨q4,p4⟩:=d4.1 q5
   obtain ⟨q3,p3⟩:=d3.1 q4
   obtain ⟨q2,p2⟩:=d2.1 q3
   obtain ⟨_,p1⟩:=d1.1 q2
   have hcd:chgD was c1 L'=some ((id,(lost:Int),cs,ss),L7):=by
    unfold chgD
    rw [p1]
    dsimp only
    rw [p2]
    dsimp only
    rw [p3]
    dsimp only
    rw [p4]
    dsimp only
    rw [p5]
    dsimp only
    rw [p6]
   refine ⟨g1,by rw [g2]; exact Z94 hcd,?_⟩
   have:=Zob hcd
   simp only [List.length_append,List.length_singleton]
   omega
  ·refine .inr fun ds rr hh=>?_
   have claim:∀ d' r',chgD was c1 L'=some (d',r')→¬ ChgReal was d':=by
    intro d' r' hcd
    unfold chgD at hcd
    cases h2:bad2 with
    | true =>
     rcases d1.2 h2 with q | q
     ·cases q
     ·rw [q] at hcd; cases hcd
    | false =>
    rw [(d1.1 h2).2] at hcd
    dsimp only at hcd
    cases h3:bad3 with
    | true =>
     rcases d2.2 h3 with q | q
     ·rw [h2] at q; cases q
     ·rw [q] at hcd; cases hcd
    | false =>
    rw [(d2.1 h3).2] at hcd
    dsimp only at hcd
    cases h4:bad4 with
    | true =>
     rcases d3.2 h4 with q | q
     ·rw [h3] at q; cases q
     ·rw [q] at hcd; cases hcd
    | false =>
    rw [(d3.1 h4).2] at hcd
    dsimp only at hcd
    cases h5:bad5 with
    | true =>
     rcases d4.2 h5 with q | q
     ·rw [h4] at q; cases q
     ·rw [q] at hcd; cases hcd
    | false =>
    rw [(d4.1 h5).2] at hcd
    dsimp only at hcd
    cases h6:bad6 with
    | true =>
     rcases d5.2 h6 with q | q
     ·rw [h5] at q; cases q
     ·rw [q] at hcd; cases hcd
    | false =>
    rw [(d5.1 h6).2] at hcd
    dsimp only at hcd
    rcases d6b e with q | q
    ·rw [h6] at q; cases q
    ·cases hsd:setsD was id (kindsOf set) L6 with
     | none=>rw [hsd] at hcd; cases hcd
     | some p =>
      obtain ⟨ss',r2⟩:=p
      rw [hsd] at hcd
      cases hcd
      obtain ⟨x,hx,hnx⟩:=q _ _ hsd
      exact fun hr=>hnx (hr x hx)
   cases hcd:chgD was c1 L' with
   | none=>rw [g2,repD,hcd] at hh; cases hh
   | some p =>
    obtain ⟨d',r'⟩:=p
    refine ⟨d',?_,claim d' r' hcd⟩
    rw [g2,Z94 hcd] at hh
    cases hrep:repD (chgD was) (fun d:Chg=>d.1) m d'.1 r' with
    | none=>rw [hrep] at hh; cases hh
    | some p2 =>
     rw [hrep] at hh
     have hh:(done ++ [d'] ++ p2.1,p2.2)=(ds,rr):=Option.some.inj hh
     have:ds=done ++ [d'] ++ p2.1:=(congrArg (·.1) hh).symm
     rw [this]
     simp
  ·show (IntKind.wrap .u64 (((m+1:Nat):Int) - 1)).toNat < ((m+1:Nat):Int).toNat
   rw [mm]
   omega
 ·refine hk v t rs done L' bad' hA hs Du fu (fun e=>?_) hbad
  obtain ⟨g1,g2,g3⟩:=hgood e
  have hz:m=0:=by
   rw [e] at hc
   have:decide (0 < m)=false:=by simpa using hc
   have:=of_decide_eq_false this
   omega
  subst hz
  exact ⟨g1,by rw [g2]; exact Zyu (L0:=L) rfl⟩
end Go.Proofs.YtchhhjlpnecjkaaGreat
namespace Go.Proofs.YtchhhjlpnecjkaaGreat
open Go Go.RowKit Go.Proofs.YtchhhjlpnecjkaaGreat.Den
variable {R:Type} {Q:R→World→Prop} {w:World} [Pan R]
theorem Zqy {b:Nat} {L:List Bool} {F:Nat→Prop} (h:RD b L F w) (hF:∀ k,F k→k < w.heap.size) {K:Res [.agg [.int .u8,.int .u8,.int .u32,.int .u32,.int .u32]]→W R} (h0:headD L=none→∀ w',Fr (fun k=>k=b) w w'→Pan.pan Q giveUp w') (hk:∀ hd L',headD L=some (hd,L')→HeadOk hd→headE hd=0→∀ w',RD b L' F w'→Fr (fun k=>k=b) w w'→K hd Q w') :
  callP Tryz.prog Z4o [.agg ⟨[.pointer (some ⟨b,0,none⟩)]⟩] [.agg [.int .u8,.int .u8,.int .u32,.int .u32,.int .u32]] K Q w:=by
 refine Zdo _ K Q w ?_
 unfold Z4l
 have hbb:=hF b h.1
 refine newI fun w1 Bo f1 z1=>newI fun w2 Bx f2 z2=>?_
 have Bo:=Bo.fr f2 fun h=>h
 have f02:=f1.then0 f2
 refine joinI (fun (s:Option Addr) v=>∃ bh k c L1 L2,s=some ⟨bh,0,none⟩∧getIn 1 5 L=some (k,L1)∧(1≤k∧k≤5)∧getIn 0 15 L1=some (c,L2)∧(0≤c∧c≤15)∧w2.heap.size≤bh∧Blk v bh 30 [.int .u8 k,.int .u8 c,.int .u32 0,.int .u32 0,.int .u32 0]∧RD b L2 F v∧Fr (fun k=>k=b) w2 v) ?_ ?_
 ·have fd:Fr None w2 w2.drew:=(Fr.refl _ _).drew
  have f0d:=f02.then0 fd
  have Bd:=Bo.fr fd fun h=>h
  have hr:=RD.st.fr0 h f0d
  have hx:∀ {u v:World},Fr (fun k=>k=b) u v→Blk u w.heap.size 62 [.pointer (some ⟨b,0,none⟩)]→Blk v w.heap.size 62 [.pointer (some ⟨b,0,none⟩)]:=fun f B=>B.fr f fun e=>by omega
  have hz:w2.drew.heap.size=w2.heap.size:=rfl
  have n1:getIn 1 5 L=none→headD L=none:=fun e=>by unfold headD; rw [e]
  have n2:∀ {k L1},getIn 1 5 L=some (k,L1)→getIn 0 15 L1=none→headD L=none:=fun e e2=>by unfold headD; rw [e]; dsimp only; rw [e2]
  have bad:∀ {u:World},headD L=none→Fr (fun k=>k=b) w2.drew u→Pan.pan Q giveUp u:=fun e f=>h0 e _ (f0d.any.then f)
  refine bothI ?_ (bothI ?_ (bothI ?_ (bothI ?_ ?_)))
  ·refine fldI Bd (i:=0) (x:=some ⟨b,0,none⟩) rfl (fldI Bd (i:=0) (x:=some ⟨b,0,none⟩) rfl ?_)
   refine Z17 hr (by decide) (by decide) (by decide) (fun hg e u1 he hr1 g1=>?_) fun k L1 hg hkr u1 hr1 g1=>?_
   ·exact andI ((hx g1 Bd).rd (s:=.ptr) (i:=0) (x:=some ⟨b,0,none⟩) rfl) (Z5 (fun _=>bad (n1 hg) g1) fun h=>absurd h he)
   refine andI ((hx g1 Bd).rd (s:=.ptr) (i:=0) (x:=some ⟨b,0,none⟩) rfl) (Z5 (fun h=>absurd rfl h) fun _=>?_)
   refine andI ((hx g1 Bd).rd (s:=.ptr) (i:=0) (x:=some ⟨b,0,none⟩) rfl) ?_
   refine Z17 hr1 (by decide) (by decide) (by decide) (fun hg2 e u2 he hr2 g2=>?_) fun c L2 hg2 hcr u2 hr2 g2=>?_
   ·exact Z5 (fun _=>bad (n2 hg hg2) (g1.then g2)) fun h=>absurd h he
   refine Z5 (fun h=>absurd rfl h) fun _=>?_
   refine newI fun u3 B3 g3 y3=>stoAll B3 rfl rfl fun u4 B4 g4 y4=>?_
   have g34:Fr None u2 u4:=g3.newer g4 fun k e=>by omega
   rw [wu8 (by omega),wu8 (by omega)] at B4
   have s2:=(g1.then g2).size
   exact ⟨_,k,c,L1,L2,rfl,hg,hkr,hg2,hcr,by omega,B4,RD.st.fr0 hr2 g34,fd.any.then ((g1.then g2).then g34.any)⟩
  ·refine fldI Bd (i:=0) (x:=some ⟨b,0,none⟩) rfl (fldI Bd (i:=0) (x:=some ⟨b,0,none⟩) rfl ?_)
   refine Z17 hr (by decide) (by decide) (by decide) (fun hg e u1 he hr1 g1=>?_) fun k L1 hg hkr u1 hr1 g1=>?_
   ·exact andI ((hx g1 Bd).rd (s:=.ptr) (i:=0) (x:=some ⟨b,0,none⟩) rfl) (Z5 (fun _=>bad (n1 hg) g1) fun h=>absurd h he)
   refine andI ((hx g1 Bd).rd (s:=.ptr) (i:=0) (x:=some ⟨b,0,none⟩) rfl) (Z5 (fun h=>absurd rfl h) fun _=>?_)
   refine andI ((hx g1 Bd).rd (s:=.ptr) (i:=0) (x:=some ⟨b,0,none⟩) rfl) ?_
   refine Z17 hr1 (by decide) (by decide) (by decide) (fun hg2 e u2 he hr2 g2=>?_) fun c L2 hg2 hcr u2 hr2 g2=>?_
   ·exact newI fun u3 B3 g3 y3=>Z5 (fun _=>bad (n2 hg hg2) ((g1.then g2).then g3.any)) fun h=>absurd h he
   refine newI fun u3 B3 g3 y3=>Z5 (fun h=>absurd rfl h) fun _=>stoAll B3 rfl rfl fun u4 B4 g4 y4=>?_
   have g34:Fr None u2 u4:=g3.newer g4 fun k e=>by omega
   rw [wu8 (by omega),wu8 (by omega)] at B4
   have s2:=(g1.then g2).size
   exact ⟨_,k,c,L1,L2,rfl,hg,hkr,hg2,hcr,by omega,B4,RD.st.fr0 hr2 g34,fd.any.then ((g1.then g2).then g34.any)⟩
  ·refine fldI Bd (i:=0) (x:=some ⟨b,0,none⟩) rfl (fldI Bd (i:=0) (x:=some ⟨b,0,none⟩) rfl ?_)
   refine Z17 hr (by decide) (by decide) (by decide) (fun hg e u1 he hr1 g1=>?_) fun k L1 hg hkr u1 hr1 g1=>?_
   ·exact andI ((hx g1 Bd).rd (s:=.ptr) (i:=0) (x:=some ⟨b,0,none⟩) rfl) (Z5 (fun _=>bad (n1 hg) g1) fun h=>absurd h he)
   refine andI ((hx g1 Bd).rd (s:=.ptr) (i:=0) (x:=some ⟨b,0,none⟩) rfl) (Z5 (fun h=>absurd rfl h) fun _=>?_)
   refine andI ((hx g1 Bd).rd (s:=.ptr) (i:=0) (x:=some ⟨b,0,none⟩) rfl) (newI fun u3 B3 g3 y3=>?_)
   have s1:=g1.size
   refine Z17 (RD.st.fr0 hr1 g3) (by decide) (by decide) (by decide) (fun hg2 e u2 he hr2 g2=>?_) fun c L2 hg2 hcr u2 hr2 g2=>?_
   ·exact Z5 (fun _=>bad (n2 hg hg2) ((g1.then g3.any).then g2)) fun h=>absurd h he
   refine Z5 (fun h=>absurd rfl h) fun _=>stoAll (B3.fr g2 fun e=>by omega) rfl rfl fun u4 B4 g4 y4=>?_
   rw [wu8 (by omega),wu8 (by omega)] at B4
   have g34:Fr (fun k=>k=b) u1 u4:=((g3.any.then g2).thenNew g4 fun k e=>by omega)
   exact ⟨_,k,c,L1,L2,rfl,hg,hkr,hg2,hcr,by omega,B4,RD.st.fr hr2 g4 fun k e e2=>by have:=hF k e; omega,fd.any.then (g1.then g34)⟩
  ·refine fldI Bd (i:=0) (x:=some ⟨b,0,none⟩) rfl (fldI Bd (i:=0) (x:=some ⟨b,0,none⟩) rfl ?_)
   refine Z17 hr (by decide) (by decide) (by decide) (fun hg e u1 he hr1 g1=>?_) fun k L1 hg hkr u1 hr1 g1=>?_
   ·refine andI ((hx g1 Bd).rd (s:=.ptr) (i:=0) (x:=some ⟨b,0,none⟩) rfl) (newI fun u3 B3 g3 y3=>?_)
    exact Z5 (fun _=>bad (n1 hg) (g1.then g3.any)) fun h=>absurd h he
   refine andI ((hx g1 Bd).rd (s:=.ptr) (i:=0) (x:=some ⟨b,0,none⟩) rfl) (newI fun u3 B3 g3 y3=>Z5 (fun h=>absurd rfl h) fun _=>?_)
   have s1:=g1.size
   refine andI (((hx g1 Bd).fr g3 fun h=>h).rd (s:=.ptr) (i:=0) (x:=some ⟨b,0,none⟩) rfl) ?_
   refine Z17 (RD.st.fr0 hr1 g3) (by decide) (by decide) (by decide) (fun hg2 e u2 he hr2 g2=>?_) fun c L2 hg2 hcr u2 hr2 g2=>?_
   ·exact Z5 (fun _=>bad (n2 hg hg2) ((g1.then g3.any).then g2)) fun h=>absurd h he
   refine Z5 (fun h=>absurd rfl h) fun _=>stoAll (B3.fr g2 fun e=>by omega) rfl rfl fun u4 B4 g4 y4=>?_
   rw [wu8 (by omega),wu8 (by omega)] at B4
   have g34:Fr (fun k=>k=b) u1 u4:=((g3.any.then g2).thenNew g4 fun k e=>by omega)
   exact ⟨_,k,c,L1,L2,rfl,hg,hkr,hg2,hcr,by omega,B4,RD.st.fr hr2 g4 fun k e e2=>by have:=hF k e; omega,fd.any.then (g1.then g34)⟩
  ·refine fldI Bd (i:=0) (x:=some ⟨b,0,none⟩) rfl (fldI Bd (i:=0) (x:=some ⟨b,0,none⟩) rfl (newI fun u3 B3 g3 y3=>?_))
   refine Z17 (RD.st.fr0 hr g3) (by decide) (by decide) (by decide) (fun hg e u1 he hr1 g1=>?_) fun k L1 hg hkr u1 hr1 g1=>?_
   ·exact andI ((hx (g3.any.then g1) Bd).rd (s:=.ptr) (i:=0) (x:=some ⟨b,0,none⟩) rfl) (Z5 (fun _=>bad (n1 hg) (g3.any.then g1)) fun h=>absurd h he)
   refine andI ((hx (g3.any.then g1) Bd).rd (s:=.ptr) (i:=0) (x:=some ⟨b,0,none⟩) rfl) (Z5 (fun h=>absurd rfl h) fun _=>?_)
   refine andI ((hx (g3.any.then g1) Bd).rd (s:=.ptr) (i:=0) (x:=some ⟨b,0,none⟩) rfl) ?_
   have s1:=g1.size
   refine Z17 hr1 (by decide) (by decide) (by decide) (fun hg2 e u2 he hr2 g2=>?_) fun c L2 hg2 hcr u2 hr2 g2=>?_
   ·exact Z5 (fun _=>bad (n2 hg hg2) ((g3.any.then g1).then g2)) fun h=>absurd h he
   refine Z5 (fun h=>absurd rfl h) fun _=>stoAll ((B3.fr g1 fun e=>by omega).fr g2 fun e=>by omega) rfl rfl fun u4 B4 g4 y4=>?_
   rw [wu8 (by omega),wu8 (by omega)] at B4
   have g34:Fr (fun k=>k=b) w2.drew u4:=(((g3.any.then g1).then g2).thenNew g4 fun k e=>by omega)
   exact ⟨_,k,c,L1,L2,rfl,hg,hkr,hg2,hcr,by omega,B4,RD.st.fr hr2 g4 fun k e e2=>by have:=hF k e; omega,fd.any.then g34⟩
 rintro s v ⟨bh,k,c,L1,L2,rfl,hg1,hkr,hg2,hcr,hbh,Bh,hr,fv⟩
 have hnb:∀ {x:Nat},w.heap.size≤x→¬ x=b:=fun hx e=>by omega
 have f0v:Fr (fun k=>k=b) w v:=f02.any.then fv
 have Bo:=Bo.fr fv (hnb (Nat.le_refl _))
 have Bx:=Bx.fr fv (hnb (by omega))
 refine aggI Bo (x:=some ⟨b,0,none⟩) rfl ?_
 have hD1:headD L=match getVar L2 with
   | none=>none
   | some (e,L)=>match (if k≤3 then getN 32 L else some (0,L)) with
    | none=>none
    | some (t,L)=>match (if k=2 then (match getVar L with
      | none=>none
      | some (b,L)=>if t≤b then none else some (((t - b - 1:Nat):Int),L)) else some (0,L)) with
     | none=>none
     | some (b,L)=>if e≤4294967295∧headE (k,c,(e:Int),(t:Int),b)=0 then some ((k,c,(e:Int),(t:Int),b),L) else none:=by
  unfold headD
  rw [hg1]
  dsimp only
  rw [hg2] <;> rfl
 refine Z4d hr (fun hg w3 f3=>h0 (by rw [hD1,hg]) w3 (f0v.then f3)) fun e L3 hg3 he w3 hr3 f3=>?_
 rw [hg3] at hD1
 dsimp only at hD1
 have f03:=f0v.then f3
 have Bh3:=Bh.fr f3 (hnb (by omega))
 refine ptrI ?_
 rw [add_lit]
 refine setI (i:=2) Bh3 (by simp) rfl fun w4 Bh4 f4 z4=>?_
 have hFh:∀ k,F k→¬ k=bh:=fun k e e2=>by have:=hF k e; omega
 have hr4:=RD.st.fr hr3 f4 hFh
 have f04:=f03.thenNew f4 fun k e=>by omega
 obtain ⟨e',he'⟩:∃ e',e'=IntKind.wrap .u32 (e:Int):=⟨_,rfl⟩
 have er:e'=(e:Int) % 4294967296:=by rw [he',IntKind.wrap_u32]
 rw [← he'] at Bh4
 have Bh4:Blk w4 bh 30 [.int .u8 k,.int .u8 c,.int .u32 e',.int .u32 0,.int .u32 0]:=Bh4
 have Bo4:=(Bo.fr f3 (hnb (Nat.le_refl _))).fr f4 fun e=>by omega
 have Bx4:=(Bx.fr f3 (hnb (by omega))).fr f4 fun e=>by omega
 refine ptrI (fldI Bh4 (i:=0) (x:=k) rfl ?_)
 refine joinI (fun (_:Unit) v=>∃ (t:Nat) (L4:List Bool),(if k≤3 then getN 32 L3 else some (0,L3))=some (t,L4)∧t < 4294967296∧Blk v bh 30 [.int .u8 k,.int .u8 c,.int .u32 e',.int .u32 (t:Int),.int .u32 0]∧RD b L4 F v∧Fr (fun k=>k=b) w v∧Blk v w.heap.size 62 [.pointer (some ⟨b,0,none⟩)]∧Blk v w1.heap.size 30 [.int .u8 0,.int .u8 0,.int .u32 0,.int .u32 0,.int .u32 0]) ?_ ?_
 ·refine condD (fun k3=>?_) fun k3=>⟨0,L3,if_neg k3,by decide,Bh4,hr4,f04,Bo4,Bx4⟩
  rw [if_pos k3] at hD1
  refine aggI Bo4 (x:=some ⟨b,0,none⟩) rfl (Z60 hr4 (n:=32) (by decide) (fun hg w5 f5=>h0 (by rw [hD1,hg]) w5 (f04.then f5)) fun t L4 hg ht w5 hr5 f5=>?_)
  have Bh5:=Bh4.fr f5 (hnb (by omega))
  refine ptrI ?_
  rw [add_lit]
  refine setI (i:=3) Bh5 (by simp) rfl fun w6 Bh6 f6 z6=>?_
  have ew:IntKind.wrap .u32 (t:Int)=(t:Int):=wu32 (by omega)
  rw [ew] at Bh6
  have s5:=f5.size
  refine ⟨t,L4,by rw [if_pos k3]; exact hg,by omega,Bh6,RD.st.fr hr5 f6 hFh,(f04.then f5).thenNew f6 fun k e=>by omega,(Bo4.fr f5 (hnb (Nat.le_refl _))).fr f6 fun e=>by omega,(Bx4.fr f5 (hnb (by omega))).fr f6 fun e=>by omega⟩
 rintro _ w5 ⟨t,L4,ht,htl,Bh5,hr5,f05,Bo5,Bx5⟩
 rw [ht] at hD1
 dsimp only at hD1
 refine ptrI (fldI Bh5 (i:=0) (x:=k) rfl ?_)
 refine joinI (fun (_ : Unit) v => ∃ (bb : Int) (L5 : List Bool), (if k = 2 then (match getVar L4 with
      | none=>none
      | some (b,L)=>if t≤b then none else some (((t - b - 1:Nat):Int),L)) else some (0,L4))=some (bb,L5)∧(0≤bb∧bb≤4294967295)∧Blk v bh 30 [.int .u8 k,.int .u8 c,.int .u32 e',.int .u32 (t:Int),.int .u32 bb]∧RD b L5 F v∧Fr (fun k=>k=b) w v∧Blk v w1.heap.size 30 [.int .u8 0,.int .u8 0,.int .u32 0,.int .u32 0,.int .u32 0]) ?_ ?_
 ·refine condE (fun k2=>?_) fun k2=>⟨0,L4,if_neg k2,by decide,Bh5,hr5,f05,Bx5⟩
  rw [if_pos k2] at hD1
  refine aggI Bo5 (x:=some ⟨b,0,none⟩) rfl (Z4d hr5 (fun hg w6 f6=>h0 (by rw [hD1,hg]) w6 (f05.then f6)) fun b2 L5 hg hb2 w6 hr6 f6=>?_)
  rw [hg] at hD1
  dsimp only at hD1
  have Bh6:=Bh5.fr f6 (hnb (by omega))
  have f06:=f05.then f6
  have s6:=f6.size
  refine ptrI (fldI Bh6 (i:=3) (x:=(t:Int)) rfl ?_)
  have et:IntKind.wrap .u64 (t:Int)=(t:Int):=wU64 (by omega)
  rw [et]
  refine joinI (fun (_:Unit) v=>b2 < t∧v=w6) ?_ ?_
  ·refine condD (fun hge=>?_) fun hlt=>⟨by omega,rfl⟩
   exact h0 (by rw [hD1,if_pos (by omega)]) w6 f06
  rintro _ w7 ⟨hlt,rfl⟩
  refine ptrI (fldI Bh6 (i:=3) (x:=(t:Int)) rfl (ptrI ?_))
  rw [add_lit]
  refine setI (i:=4) Bh6 (by simp) rfl fun w8 Bh8 f8 z8=>?_
  have ew:IntKind.wrap .u32 (IntKind.wrap .u32 ((t:Int) - IntKind.wrap .u32 (b2:Int)) - 1)=((t - b2 - 1:Nat):Int):=by
   rw [wu32 (x:=(b2:Int)) (by omega),wu32 (x:=(t:Int) - (b2:Int)) (by omega),wu32 (by omega)]
   omega
  rw [ew] at Bh8
  refine ⟨((t - b2 - 1:Nat):Int),L5,by rw [if_pos k2,hg]; dsimp only; rw [if_neg (by omega)],by omega,Bh8,RD.st.fr hr6 f8 hFh,f06.thenNew f8 fun k e=>by omega,(Bx5.fr f6 (hnb (by omega))).fr f8 fun e=>by omega⟩
 rintro _ w6 ⟨bb,L5,hbb5,hbr,Bh6,hr6,f06,Bx6⟩
 rw [hbb5] at hD1
 dsimp only at hD1
 refine joinI (fun z v=>z=!decide (e≤4294967295∧headE (k,c,(e:Int),(t:Int),bb)=0)∧Fr None w6 v) ?_ ?_
 ·refine ptrI (fldI Bh6 (i:=2) (x:=e') rfl ?_)
  rw [wU64 (x:=e') (by omega)]
  refine condN (fun hne=>⟨?_,Fr.refl _ _⟩) fun heq=>ptrI (aggI Bh6 (x:=((k,c,e',(t:Int),bb):Head)) rfl (Zaw fun w7 f7=>⟨?_,f7⟩))
  ·rw [decide_eq_false (fun hc=>hne (by omega))]
   rfl
  ·have heq:e'=(e:Int):=heq
   rw [heq]
   have hle:e≤4294967295:=by omega
   by_cases hz:headE (k,c,(e:Int),(t:Int),bb)=0
   ·rw [decide_eq_true ⟨hle,hz⟩,hz]
    rfl
   ·rw [decide_eq_false fun hc=>hz hc.2]
    simpa using hz
 rintro z w7 ⟨rfl,f7⟩
 have f07:=f06.then f7.any
 refine joinI (fun (_:Unit) v=>(e≤4294967295∧headE (k,c,(e:Int),(t:Int),bb)=0)∧v=w7) ?_ ?_
 ·refine condI (fun hz=>?_) fun hz=>⟨by simpa using hz,rfl⟩
  have hz:¬ (e≤4294967295∧headE (k,c,(e:Int),(t:Int),bb)=0):=fun hc=>by rw [decide_eq_true hc] at hz; cases hz
  exact h0 (by rw [hD1,if_neg hz]) w7 f07
 rintro _ w8 ⟨hok,rfl⟩
 rw [if_pos hok] at hD1
 have ee:e'=(e:Int):=by have:=hok.1; omega
 rw [ee] at Bh6
 have Bh8:=Bh6.fr f7 fun h=>h
 have Bx8:=Bx6.fr f7 fun h=>h
 refine ptrI (aggI Bh8 (x:=((k,c,(e:Int),(t:Int),bb):Head)) rfl (stoAll Bx8 rfl rfl fun w9 B9 f9 z9=>aggI B9 (x:=((k,c,(e:Int),(t:Int),bb):Head)) rfl ?_))
 refine hk (k,c,(e:Int),(t:Int),bb) L5 hD1 (by unfold HeadOk; dsimp only; have:=hok.1; omega) hok.2 w9 (RD.st.fr (RD.st.fr0 hr6 f7) f9 fun k e e2=>by have:=hF k e; omega) (f07.thenNew f9 fun k e=>by omega)
end Go.Proofs.YtchhhjlpnecjkaaGreat
namespace Go.Proofs.YtchhhjlpnecjkaaGreat
open Go Go.RowKit Go.Proofs.YtchhhjlpnecjkaaGreat.Den
theorem Zro (p:Addr) (w:World):CallsD Tryz.prog Zcl #[.pointer (some p)] .returning w fun e u' w'=>e=.returned (.tuple #[])∧u'=.returning∧w'=w:=by
 refine callsD_of_wpS Tryz.func66 rfl fun c₀ cs hu=>?_
 apply wpS_seq
 apply wpS_region
 simp [wpOpsS,go_sem,recoverD,hu,Tryz.ntmps66,Exit.thenS]
 refine wpS_of_wp ?_
 go_wp2
 cases c₀
 simp_all [bodyPostS,results,Tryz.results66]
set_option maxRecDepth 100000 in
theorem Zrn {b:Nat} {x:Int} {T:TypeId} {older:List PanicEntry} {w:World} (B:Blk w b T [.int .i64 x]):CallsD Tryz.prog Zcl #[.pointer (some ⟨b,0,none⟩)] (.panicking ({ v:=.iface 171 (.agg ⟨[]⟩),recovered:=false } :: older)) w fun e u' w' =>
  e=.returned (.tuple #[])∧u'=.panicking ({ v:=.iface 171 (.agg ⟨[]⟩),recovered:=true } :: older)∧w'=(w.alloc (.cells #[] 171)).setCell ⟨b,0,none⟩ (.int .i64 4):=by
 have hc:w.cell? ⟨b,0,none⟩=some (.int .i64 x):=B.cell 0
 have hz:w.frozen? ⟨b,0,none⟩=false:=B.frozen 0
 have B1:=B.fr ((Fr.refl None w).alloc (.cells #[] 171)) fun h=>h
 have hc2:(w.alloc (.cells #[] 171)).cell? ⟨b,0,none⟩=some (.int .i64 x):=B1.cell 0
 have hz2:(w.alloc (.cells #[] 171)).frozen? ⟨b,0,none⟩=false:=B1.frozen 0
 have hta:∀ (t:TypeId) (w:World),(Instr.typeAssert (.iface 171 (.agg ⟨[]⟩)) t 171 true).run Tryz.prog w=.ok (.tuple #[.agg ⟨[]⟩,.bool true]) w:=fun t w=>by kernel_rfl
 refine callsD_of_wpS Tryz.func66 rfl fun c₀ cs hu=>?_
 apply wpS_seq
 apply wpS_region
 simp [wpOpsS,go_sem,recoverD,hu,Tryz.ntmps66,Exit.thenS]
 refine wpS_of_wp ?_
 go_wp2
 cases c₀
 simp_all [bodyPostS,results,Tryz.results66]
end Go.Proofs.YtchhhjlpnecjkaaGreat
namespace Go.Proofs.YtchhhjlpnecjkaaGreat.Den
open Go
variable {R:Type} {P:Program}
def envL:List (Nat × Value)→Env
 | [],_=>none
 | (j,v) :: r,i=>bif Nat.beq i j then some v else envL r i
theorem Zq6:∀ {l:List (Nat × Value)} {i:Nat} {v:Value},envL l i=some v→(i,v)∈l
 | (j,u) :: r,i,v,h=>by
  rw [envL] at h
  cases hb:Nat.beq i j with
  | true=>rw [hb] at h; cases h; rw [nbeq.1 hb]; exact List.mem_cons_self
  | false=>rw [hb] at h; exact List.mem_cons_of_mem _ (Zq6 h)
def doorOf (fn:Func):Code:=match fn.body with
 | some (.seq _ (.seq _ c))=>c
 | _=>.skip
def denDoor (P:Program) (h:Hints) (fn:Func) (ts:List Ty) (env:Env):W (Res ts ⊕ List PanicEntry) :=
 den P fn.ntmps h 0 (doorOf fn) (fun e=>resVars e fn.results.toList ts fun r=>retW (.inl r)) (fun _ _=>failW) (fun e=>resVars e fn.results.toList ts fun r=>retW (.inl r)) env
theorem Ztw (hmix:P.follows .mixedOrders=true) {fn:Func} {h:Hints} {ts:List Ty} (hres:ResOk P fn.results.toList ts) {D:List Deferred} {env:Env} {a:Act} {w:World} {post:Res ts ⊕ List PanicEntry→World→Prop} {QX:Exit→Act→World→Prop}
  (ha:Ag D fn.ntmps env a) (hd:denDoor P h fn ts env post w) (hret:∀ a w z,a.defers=D→(results fn a.tmps).run P w=.ok (resE ts z) w→post (.inl z) w→QX .normal a w∧QX .ret a w) (hp:∀ ch a w,Ag D fn.ntmps (lim env (dsts (doorOf fn))) a→post (.inr ch) w→QX (.panic ch) a w):(doorOf fn).wp P QX a w:=by
 have hfin:∀ (env':Env) (a:Act) (w:World),Ag D fn.ntmps env' a→resVars env' fn.results.toList ts (fun r=>retW (.inl r)) post w→QX .normal a w∧QX .ret a w:=by
  intro env' a w ha hr
  obtain ⟨z,hz,hk⟩:=Zhk ha _ _ _ _ _ hres hr
  have:=Zdi fn a.tmps hz
  rw [Zs5] at this
  exact hret a w z ha.defers this hk
 refine Z5l hmix (h:=h) (doorOf fn) 0 _ _ _ env a w post QX ha hd ?_ ?_ ?_ hp
 ·rintro a w' ⟨e,h1,_,h3⟩
  exact (hfin e a w' h1 h3).1
 ·rintro id a w' ⟨e,_,_,h3⟩
  exact h3.elim
 ·intro e a w' h1 h3
  exact (hfin e a w' h1 h3).2
end Go.Proofs.YtchhhjlpnecjkaaGreat.Den
set_option linter.unusedVariables false
namespace Go.Proofs.YtchhhjlpnecjkaaGreat
open Go Go.Proofs.YtchhhjlpnecjkaaGreat.Den
def Z89 (body0:Sl) (t2:Addr) (t3:Addr) (t4:Addr):W (((Int × Int × Int × Int × Int) × (Option Addr) × Int) ⊕ List PanicEntry) :=
 callW Tryz.prog Zfp [.slice body0.a body0.n body0.c] [.sc .ptr] fun (x_1:(Option Addr)) =>
 stoL t3 [.pointer x_1] 0 <|
 drawW <|
 ld (.agg [.ptr]) t3 fun (x_2:(Option Addr)) =>
 ld (.agg [.ptr]) t3 fun (x_3:(Option Addr)) =>
 callP Tryz.prog Z4o [.agg ⟨[.pointer x_2]⟩] [.agg [.int .u8,.int .u8,.int .u32,.int .u32,.int .u32]] fun (x_4:(Int × Int × Int × Int × Int)) =>
 andW (fun w=>Rd w t3 (.agg [.ptr]) x_3) <|
 stoL t2 [.int .u8 x_4.1,.int .u8 x_4.2.1,.int .u32 x_4.2.2.1,.int .u32 x_4.2.2.2.1,.int .u32 x_4.2.2.2.2] 0 <|
 andW (fun w=>Rd w t3 (.agg [.ptr]) x_3) <|
 stoL t3 [.pointer x_3] 0 <|
 stoL t4 [.int .i64 0] 0 <|
 ld (.agg [.int .u8,.int .u8,.int .u32,.int .u32,.int .u32]) t2 fun (x_5:(Int × Int × Int × Int × Int)) =>
 ld (.agg [.ptr]) t3 fun (x_6:(Option Addr)) =>
 ld (.sc (.int .i64)) t4 fun (x_7:Int) =>
 retW (.inl (x_5,x_6,x_7))
def Z8y:Hints:={ dr:=[(3,([],[[(0,[]),(2,[]),(1,[2]),(3,[2]),(4,[]),(5,[])]]))],mp:=[68] }
theorem Zfk (body0:Sl) (t2:Addr) (t3:Addr) (t4:Addr):denDoor Tryz.prog Z8y Tryz.f27 [.agg [.int .u8,.int .u8,.int .u32,.int .u32,.int .u32],.agg [.ptr],.sc (.int .i64)] (envL [(0,.slice body0.a body0.n body0.c),(2,.pointer (some t2)),(3,.pointer (some t3)),(4,.pointer (some t4))])=Z89 body0 t2 t3 t4:=by kernel_rfl
end Go.Proofs.YtchhhjlpnecjkaaGreat
namespace Go.Proofs.YtchhhjlpnecjkaaGreat
open Go Go.RowKit Go.Proofs.YtchhhjlpnecjkaaGreat.Den
variable {R:Type} {Q:R→World→Prop} {w:World}
theorem Zda {fn:Func} {tmps:Array Value} {RR:Ending→World→Prop} {p:Addr} {v:Value} (hrun:(results fn tmps).run Tryz.prog w=.ok v w) (hR:RR (.returned v) w):Leaves Tryz.prog fn tmps RR [{ target:=.fn (.func 66) #[],args:=#[.pointer (some p)] }] .returning w:=by
 refine leaves_cons (f:=66) (args:=#[.pointer (some p)]) (by simp) (by simp [go_sem]) ?_
 refine (Zro p w).mono ?_
 rintro e u' w'' ⟨rfl,rfl,rfl⟩
 exact ⟨v,hrun,hR⟩
theorem Zi8 {fn:Func} {tmps:Array Value} {RR:Ending→World→Prop} {b:Nat} {x:Int} {T:TypeId} (B:Blk w b T [.int .i64 x]) {v:Value} (h:∀ w',Blk w' b T [.int .i64 4]→Fr (fun k=>k=b) w w'→((results fn tmps).run Tryz.prog w'=.ok v w')∧RR (.returned v) w'):Leaves Tryz.prog fn tmps RR [{ target:=.fn (.func 66) #[],args:=#[.pointer (some ⟨b,0,none⟩)] }] (.panicking giveUp) w:=by
 refine leaves_cons (f:=66) (args:=#[.pointer (some ⟨b,0,none⟩)]) (by simp) (by simp [go_sem]) ?_
 refine (Zrn (older:=[]) B).mono ?_
 rintro e u' w'' ⟨rfl,rfl,rfl⟩
 have f1:Fr None w (w.alloc (.cells #[] 171)):=(Fr.refl None w).alloc _
 have B1:=B.fr f1 fun h=>h
 obtain ⟨h1,h2⟩:=h _ (B1.set 0 (.int .i64 4)) (Fr.setCell (S:=fun k=>k=b) f1.any (p:=⟨b,0,none⟩) (.inl rfl) _)
 simp only [settle,List.dropWhile_nil]
 exact ⟨v,h1,h2⟩
abbrev headT:List Sc:=[.int .u8,.int .u8,.int .u32,.int .u32,.int .u32]
set_option maxRecDepth 100000 in
theorem Zaz {ok:Nat→Prop} {s:Sl} {l:List Int} (hS:SlT ok w u8T s l) (hb:BytesOk l) (hm:l.length≤1048576) {K:Res [.agg headT,.agg [.ptr],.sc (.int .i64)]→W R} (h0:headD (bitsU l)=none→∀ p w',Fr None w w'→K ((0,0,0,0,0),p,4) Q w')
  (hk:∀ hd L',headD (bitsU l)=some (hd,L')→HeadOk hd→headE hd=0→∀ b w',RD b L' (Up w.heap.size) w'→Fr None w w'→K (hd,some ⟨b,0,none⟩,0) Q w') :
  callW Tryz.prog Zaa [.slice s.a s.n s.c] [.agg headT,.agg [.ptr],.sc (.int .i64)] K Q w:=by
 unfold callW
 go_enter_defers Tryz.func27,Tryz.ntmps27
 generalize hc:Code.seq (Code.region 2 _ _) _=c
 go_wp2
 have hc:c=doorOf Tryz.f27:=hc.symm
 subst hc
 obtain ⟨w3,hw3⟩:∃ w3,w3=((w.alloc (.cells #[.int .u8 0,.int .u8 0,.int .u32 0,.int .u32 0,.int .u32 0] 30)).alloc (.cells #[.pointer none] 62)).alloc (.cells #[.int .i64 0] 31):=⟨_,rfl⟩
 have f1:Fr None w (w.alloc (.cells #[.int .u8 0,.int .u8 0,.int .u32 0,.int .u32 0,.int .u32 0] 30)):=(Fr.refl None w).alloc _
 have f2:=f1.alloc (.cells #[.pointer none] 62)
 have f3:=f2.alloc (.cells #[.int .i64 0] 31)
 have Bh:Blk w3 w.heap.size 30 [.int .u8 0,.int .u8 0,.int .u32 0,.int .u32 0,.int .u32 0]:=by rw [hw3]; exact ((Blk.new w _ _).alloc _).alloc _
 have Br:Blk w3 (w.heap.size+1) 62 [.pointer none]:=by
  rw [hw3]
  refine Blk.alloc ?_ _
  have:=Blk.new (w.alloc (.cells #[.int .u8 0,.int .u8 0,.int .u32 0,.int .u32 0,.int .u32 0] 30)) 62 [.pointer none]
  simpa using this
 have Be:Blk w3 (w.heap.size+2) 31 [.int .i64 0]:=by
  rw [hw3]
  have:=Blk.new ((w.alloc (.cells #[.int .u8 0,.int .u8 0,.int .u32 0,.int .u32 0,.int .u32 0] 30)).alloc (.cells #[.pointer none] 62)) 31 [.int .i64 0]
  simpa using this
 have fw:Fr None w w3:=by rw [hw3]; exact f3
 have z3:w3.heap.size=w.heap.size+3:=by rw [hw3]; simp
 rw [← hw3]
 clear hw3 f1 f2 f3
 refine Ztw mix (fn:=Tryz.f27) (D:=[{ target:=.fn (.func 66) #[],args:=#[.pointer (some ⟨w.heap.size+2,0,none⟩)] }]) (h:=Z8y) (ts:=[.agg headT,.agg [.ptr],.sc (.int .i64)]) ⟨by kernel_rfl,by kernel_rfl,by kernel_rfl,trivial⟩ (env:=envL [(0,.slice s.a s.n s.c),(2,.pointer (some ⟨w.heap.size,0,none⟩)),(3,.pointer (some ⟨w.heap.size+1,0,none⟩)),(4,.pointer (some ⟨w.heap.size+2,0,none⟩))])
  (post:=fun r w'=>match r with
   | .inl z=>K z Q w'
   | .inr ch=>headD (bitsU l)=none∧ch=giveUp∧Fr None w w'∧Blk w' w.heap.size 30 [.int .u8 0,.int .u8 0,.int .u32 0,.int .u32 0,.int .u32 0]∧(∃ p,Blk w' (w.heap.size+1) 62 [.pointer p])∧Blk w' (w.heap.size+2) 31 [.int .i64 0]) ?_ ?_ ?_ ?_
 ·refine ⟨rfl,rfl,fun i v hv=>?_⟩
  have:=Zq6 hv
  simp only [List.mem_cons,Prod.mk.injEq,List.not_mem_nil,or_false] at this
  rcases this with ⟨rfl,rfl⟩ | ⟨rfl,rfl⟩ | ⟨rfl,rfl⟩ | ⟨rfl,rfl⟩ <;> rfl
 ·rw [Zfk]
  unfold Z89
  refine Zmo (hS.fr0 fw) hb hm fun b w4 hr f4=>?_
  have z4:=f4.size
  refine stoAll (Br.fr f4 fun h=>h) rfl rfl fun w5 B5 f5 z5=>?_
  have fd:Fr None w5 w5.drew:=(Fr.refl _ _).drew
  have Bd:=B5.fr fd fun h=>h
  have g4:Fr (fun k=>k=w.heap.size+1) w4 w5.drew:=f5.then0 fd
  have hb3:w3.heap.size≤b:=hr.1
  have hrd:RD b (bitsU l) (fun k=>w3.heap.size≤k∧k < w4.heap.size) w5.drew:=RD.st hr g4 fun k hk (e:w3.heap.size≤k)=>⟨by omega,e,hk⟩
  have zd:w5.drew.heap.size=w4.heap.size:=by show w5.heap.size=_; omega
  have Bhd:=(Bh.fr f4 fun h=>h).fr g4 (show ¬ w.heap.size=w.heap.size+1 by omega)
  have Bed:=(Be.fr f4 fun h=>h).fr g4 (show ¬ w.heap.size+2=w.heap.size+1 by omega)
  refine aggI Bd (x:=some ⟨b,0,none⟩) rfl (aggI Bd (x:=some ⟨b,0,none⟩) rfl ?_)
  have f0d:Fr None w w5.drew:=(fw.then0 f4).newer g4 fun k e=>by omega
  refine Zqy hrd (fun k e=>by omega) (fun hn w6 f6=>?_) fun hd L' hh hok he w6 hr6 f6=>?_
  ·exact ⟨hn,rfl,f0d.newer f6 fun k e=>by omega,Bhd.fr f6 fun e=>by omega,⟨_,Bd.fr f6 fun e=>by omega⟩,Bed.fr f6 fun e=>by omega⟩
  ·have B6:=Bd.fr f6 (show ¬ w.heap.size+1=b by omega)
   have rdr:∀ {u:World},Blk u (w.heap.size+1) 62 [.pointer (some ⟨b,0,none⟩)]→Rd u ⟨w.heap.size+1,0,none⟩ (.agg [.ptr]) (some ⟨b,0,none⟩):=fun B j u hj=>B.cells 0 [.pointer (some ⟨b,0,none⟩)] (fun j u hj=>by simpa using hj) j u hj
   refine andI (rdr B6) (stoAll (Bhd.fr f6 fun e=>by omega) rfl rfl fun w7 B7 f7 z7=>andI (rdr (B6.fr f7 fun e=>by omega)) (stoAll (B6.fr f7 fun e=>by omega) rfl rfl fun w8 B8 f8 z8=>?_))
   refine stoAll (((Bed.fr f6 fun e=>by omega).fr f7 fun e=>by omega).fr f8 fun e=>by omega) rfl rfl fun w9 B9 f9 z9=>?_
   refine aggI ((B7.fr f8 fun e=>by omega).fr f9 fun e=>by omega) (x:=hd) rfl (aggI (B8.fr f9 fun e=>by omega) (x:=some ⟨b,0,none⟩) rfl (fld0 B9 (i:=0) (x:=(0:Int)) rfl ?_))
   have f69:Fr (fun k=>w.heap.size≤k∧k < w3.heap.size) w6 w9:=((f7.sub fun k e=>⟨by omega,by omega⟩).then (f8.sub fun k e=>⟨by omega,by omega⟩)).then (f9.sub fun k e=>⟨by omega,by omega⟩)
   refine hk hd L' hh hok he b w9 (RD.st hr6 f69 fun k _ e=>⟨by omega,show w.heap.size≤k by omega⟩) ((f0d.newer f6 fun k e=>by omega).newer f69 fun k e=>e.1)
 ·intro a w' z hD hrun hz
  have:Leaves Tryz.prog Tryz.f27 a.tmps (fun e w'=>∃ r,e=.returned (resE [.agg headT,.agg [.ptr],.sc (.int .i64)] r)∧K r Q w') a.defers .returning w':=by
   rw [hD]
   exact Zda hrun ⟨z,rfl,hz⟩
  exact ⟨this,this⟩
 ·rintro ch a w' ha ⟨hn,rfl,f0,Bh',⟨p,Br'⟩,Be'⟩
  show Leaves Tryz.prog Tryz.f27 a.tmps _ a.defers (.panicking giveUp) w'
  rw [ha.defers]
  refine Zi8 Be' (v:=resE [.agg headT,.agg [.ptr],.sc (.int .i64)] ((0,0,0,0,0),p,4)) fun w2 B2 g2=>⟨?_,_,rfl,h0 hn p w2 (f0.newer g2 fun k e=>by omega)⟩
  have lm:∀ i v,memB (dsts (doorOf Tryz.f27)) i=false→envL [(0,.slice s.a s.n s.c),(2,.pointer (some ⟨w.heap.size,0,none⟩)),(3,.pointer (some ⟨w.heap.size+1,0,none⟩)),(4,.pointer (some ⟨w.heap.size+2,0,none⟩))] i=some v→lim (envL [(0,.slice s.a s.n s.c),(2,.pointer (some ⟨w.heap.size,0,none⟩)),(3,.pointer (some ⟨w.heap.size+1,0,none⟩)),(4,.pointer (some ⟨w.heap.size+2,0,none⟩))]) (dsts (doorOf Tryz.f27)) i=some v:=fun i v h1 h2=>by
   unfold lim
   rw [h1]
   exact h2
  have c2:=Zlr (P:=Tryz.prog) ha (t:=2) (T:=30) (lm 2 _ (by kernel_rfl) rfl) (y:=.agg headT) (by kernel_rfl) (x:=(0,0,0,0,0)) (w:=w2) (fun j u hj=>(Bh'.fr g2 (show ¬ w.heap.size=w.heap.size+2 by omega)).cells 0 (Tup.e Sc.e headT (0,0,0,0,0)) (fun j u hj=>by rw [Nat.zero_add]; exact hj) j u hj)
  have c3:=Zlr (P:=Tryz.prog) ha (t:=3) (T:=62) (lm 3 _ (by kernel_rfl) rfl) (y:=.agg [.ptr]) (by kernel_rfl) (x:=p) (w:=w2) (fun j u hj=>(Br'.fr g2 (show ¬ w.heap.size+1=w.heap.size+2 by omega)).cells 0 [.pointer p] (fun j u hj=>by simpa using hj) j u hj)
  have c4:=Zlr (P:=Tryz.prog) ha (t:=4) (T:=31) (lm 4 _ (by kernel_rfl) rfl) (y:=.sc (.int .i64)) (by kernel_rfl) (x:=(4:Int)) (w:=w2) (B2.cell 0)
  have:=Zdi Tryz.f27 a.tmps (Z48 c2 (Z48 c3 (Z48 c4 rfl)))
  exact this
end Go.Proofs.YtchhhjlpnecjkaaGreat
namespace Go.Proofs.YtchhhjlpnecjkaaGreat
open Go Go.RowKit Go.Proofs.YtchhhjlpnecjkaaGreat.Den
variable {R:Type} {Q:R→World→Prop} {w:World}
abbrev restAct (hv rv:Value) (s:Sl) (A B C:Nat):Act:={ tmps:=#[hv,rv,.slice s.a s.n s.c,.pointer (some ⟨A,0,none⟩),.pointer (some ⟨B,0,none⟩),undef,.slice none 0 0,.pointer (some ⟨C,0,none⟩),undef,undef,undef,undef,undef,undef,undef,undef,undef,undef,undef,undef,undef,undef,undef],defers:=[{ target:=.fn (.func 66) #[],args:=#[.pointer (some ⟨C,0,none⟩)] }] }
section
variable {hv rv:Value} {p:Option Addr} {s:Sl} {A B C:Nat} {T TB TC:TypeId} {tl:List Value} {RR:Ending→World→Prop}
theorem Zu7 {k:Int} (Bh:Blk w A T (.int .u8 k :: tl)) (Be:Blk w C TC [.int .i64 0]) (h1:¬ k=1) (h2:¬ k=2) (hR:∀ w',Fr (fun k=>k=C) w w'→RR (.returned (.tuple #[.slice none 0 0,.int .i64 0])) w') :
  (doorOf Tryz.f29).wp Tryz.prog (bodyPostD Tryz.prog Tryz.f29 RR) (restAct hv rv s A B C) w:=by
 have c1:w.cell? ⟨A,0,none⟩=some (.int .u8 k):=Bh.cell 0
 have c3:w.cell? ⟨C,0,none⟩=some (.int .i64 0):=Be.cell 0
 have c4:w.frozen? ⟨C,0,none⟩=false:=Be.frozen 0
 have h1':(k == 1)=false:=by simpa using h1
 have h2':(k == 2)=false:=by simpa using h2
 show Code.wp _ (Code.seq (Code.seq _ _) (Code.seq _ _)) _ _ _
 go_wp2
 have c5:=(Be.set 0 (.int .i64 0)).cell 0
 exact Zda (v:=.tuple #[.slice none 0 0,.int .i64 0]) (by simp [results,Tryz.results29,go_sem,c5]) (hR _ (Fr.setCell (S:=fun k=>k=C) (Fr.refl _ _) (p:=⟨C,0,none⟩) (.inl rfl) _))
theorem Zw8 (Bh:Blk w A T (.int .u8 1 :: tl)) (Br:Blk w B TB [.pointer p])
  (hc:Calls Tryz.prog 72 #[.agg #[.pointer p]] w fun e w'=>Blk w' C TC [.int .i64 0]∧((∃ r:Sl,e=.returned (.slice r.a r.n r.c)∧∀ w2,Fr (fun k=>k=C) w' w2→RR (.returned (.tuple #[.slice r.a r.n r.c,.int .i64 0])) w2)∨(e=.panicked giveUp∧∀ w2,Fr (fun k=>k=C) w' w2→RR (.returned (.tuple #[.slice none 0 0,.int .i64 4])) w2))) :
  (doorOf Tryz.f29).wp Tryz.prog (bodyPostD Tryz.prog Tryz.f29 RR) (restAct hv (.agg #[.pointer p]) s A B C) w:=by
 have c1:w.cell? ⟨A,0,none⟩=some (.int .u8 1):=Bh.cell 0
 have c2:w.cell? ⟨B,0,none⟩=some (.pointer p):=Br.cell 0
 show Code.wp _ (Code.seq (Code.seq _ _) (Code.seq _ _)) _ _ _
 go_wp2_with (go_at_call 72; refine hc.mono ?_; rintro e w' ⟨B',⟨r,rfl,hR⟩ | ⟨rfl,hR⟩⟩ <;> (have c3:w'.cell? ⟨C,0,none⟩=some (.int .i64 0):=B'.cell 0) <;> (have c4:w'.frozen? ⟨C,0,none⟩=false:=B'.frozen 0))
 ·have c5:=(B'.set 0 (.int .i64 0)).cell 0
  exact Zda (v:=.tuple #[.slice r.a r.n r.c,.int .i64 0]) (by simp [results,Tryz.results29,go_sem,c5]) (hR _ (Fr.setCell (S:=fun k=>k=C) (Fr.refl _ _) (p:=⟨C,0,none⟩) (.inl rfl) _))
 ·refine Zi8 (v:=.tuple #[.slice none 0 0,.int .i64 4]) B' fun w2 B2 g2=>⟨?_,hR w2 g2⟩
  have c5:=B2.cell 0
  simp [results,Tryz.results29,go_sem,c5]
theorem Zw9 (Bh:Blk w A T (.int .u8 2 :: tl)) (Br:Blk w B TB [.pointer p])
  (hc:Calls Tryz.prog 74 #[.agg #[.pointer p],.slice s.a s.n s.c] w fun e w'=>(∃ d:DRaw,e=.returned (.agg #[.slice d.1.a d.1.n d.1.c,.slice d.2.1.a d.2.1.n d.2.1.c,.slice d.2.2.a d.2.2.n d.2.2.c]) ∧
   Calls Tryz.prog 73 #[.slice s.a s.n s.c,.agg #[.slice d.1.a d.1.n d.1.c,.slice d.2.1.a d.2.1.n d.2.1.c,.slice d.2.2.a d.2.2.n d.2.2.c]] w' fun e w'=>Blk w' C TC [.int .i64 0]∧∃ (r:Sl) (x:Int),e=.returned (.tuple #[.slice r.a r.n r.c,.int .i64 x])∧∀ w2,Fr (fun k=>k=C) w' w2→RR (.returned (.tuple #[.slice r.a r.n r.c,.int .i64 x])) w2)∨(e=.panicked giveUp∧Blk w' C TC [.int .i64 0]∧∀ w2,Fr (fun k=>k=C) w' w2→RR (.returned (.tuple #[.slice none 0 0,.int .i64 4])) w2)) :
  (doorOf Tryz.f29).wp Tryz.prog (bodyPostD Tryz.prog Tryz.f29 RR) (restAct hv (.agg #[.pointer p]) s A B C) w:=by
 have c1:w.cell? ⟨A,0,none⟩=some (.int .u8 2):=Bh.cell 0
 have c2:w.cell? ⟨B,0,none⟩=some (.pointer p):=Br.cell 0
 show Code.wp _ (Code.seq (Code.seq _ _) (Code.seq _ _)) _ _ _
 go_wp2_with (first
  | (go_at_call 74; refine hc.mono ?_; rintro e w' (⟨d,rfl,hc2⟩ | ⟨rfl,B',hR⟩))
  | (go_at_call 73; refine hc2.mono ?_; rintro e w'' ⟨B',r,x,rfl,hR⟩; have c3:w''.cell? ⟨C,0,none⟩=some (.int .i64 0):=B'.cell 0; have c4:w''.frozen? ⟨C,0,none⟩=false:=B'.frozen 0))
 ·have c5:=(B'.set 0 (.int .i64 x)).cell 0
  exact Zda (v:=.tuple #[.slice r.a r.n r.c,.int .i64 x]) (by simp [results,Tryz.results29,go_sem,c5]) (hR _ (Fr.setCell (S:=fun k=>k=C) (Fr.refl _ _) (p:=⟨C,0,none⟩) (.inl rfl) _))
 ·refine Zi8 (v:=.tuple #[.slice none 0 0,.int .i64 4]) B' fun w2 B2 g2=>⟨?_,hR w2 g2⟩
  have c5:=B2.cell 0
  simp [results,Tryz.results29,go_sem,c5]
end
end Go.Proofs.YtchhhjlpnecjkaaGreat
namespace Go.Proofs.YtchhhjlpnecjkaaGreat
open Go Go.RowKit Go.Proofs.YtchhhjlpnecjkaaGreat.Den
variable {R:Type} {Q:R→World→Prop} {w:World}
theorem Zqz (a c:Comp):(stepB2 a c).length≤200:=by
 have e:stepB2 a c=(List.range (cntM c.1)).flatMap fun i=>(oneP a c i).flatMap partB:=by
  unfold stepB2 partsB stepP
  rw [List.flatMap_assoc]
  rfl
 have h3:=Z45 c.1
 have:=Zb6 (fun i=>(oneP a c i).flatMap partB) 66 (List.range (cntM c.1)) fun i _=>by
  obtain ⟨q1,q2⟩:=Z19 c.1 (i:Int)
  have hw:=Z3b (lo:=(rangeM c.1 (i:Int)).1) (hi:=(rangeM c.1 (i:Int)).2.1) (by omega)
  show ((oneP a c i).flatMap partB).length≤66
  unfold oneP
  split
  ·simp [Z74]
  ·split
   ·simp [Z74]
   ·simp only [List.flatMap_cons,List.flatMap_nil,List.length_append,Z74,List.length_nil]
    unfold fieldP
    rw [Int.toNat_natCast]
    show 1+(1+(widthM (rangeM c.1 (i:Int)).1 (rangeM c.1 (i:Int)).2.1+0))≤66
    omega
 rw [List.length_range] at this
 rw [e]
 omega
theorem Ztf (was:List Ent) (id:Int) (l:List Comp):(setsB was id l).length≤200 * l.length:=Zb6 _ 200 _ fun c _=>Zqz _ _
theorem Zpy (l:List Comp):(compsB l).length≤192 * l.length:=Zb6 _ 192 _ fun c _=>Zk8
theorem Zu3 (a l:List Comp):(newM a l).length+(chM a l).length≤l.length:=by
 unfold newM chM
 induction l with
 | nil=>simp
 | cons c r ih =>
  simp only [List.filter_cons]
  by_cases h:(findC a c.1).2=true
  ·rw [h]
   by_cases h2:(findC a c.1).1=c
   ·simp [h2]; omega
   ·simp [h2]; omega
  ·have h:(findC a c.1).2=false:=by simpa using h
   rw [h]
   simp
   omega
theorem Zz4 (was:List Ent) (last:Int) {d:Chg} (h:d.2.2.1.length+d.2.2.2.length≤6):(chgB was last d).length≤1300:=by
 have h1:=Zhb last d.1
 have h2:=Zpy d.2.2.1
 have h3:=Ztf was d.1 d.2.2.2
 unfold chgB
 simp only [List.length_append,Z4]
 omega
theorem Zoe {α:Type} {enc:Int→α→List Bool} {id:α→Int} {m:Nat}:∀ (l:List α) (last:Int),(∀ a∈l,∀ last,(enc last a).length≤m)→(encs enc id last l).length≤m * l.length
 | [],_,_=>by simp [encs]
 | a :: r,last,h=>by
  have h1:=Zoe (enc:=enc) (id:=id) r (id a) fun x hx=>h x (List.mem_cons_of_mem _ hx)
  have h2:=h a List.mem_cons_self last
  rw [encs,List.length_append,List.length_cons,Nat.mul_add]
  omega
theorem Zg9 {v:Nat} (h:v≤4294967295):(varB v).length≤80:=by
 have lg2:=Z67 (v:=(v:Int)) (by omega) (by omega)
 rw [Int.toNat_natCast] at lg2
 rw [Za1]
 omega
theorem Zst {l:List Int} (h:l.length≤4294967295):(goneB l).length≤80+80 * l.length:=by
 unfold goneB
 rw [List.length_append]
 have:=Zg9 h
 have:=Zoe (enc:=idBits) (id:=fun i:Int=>i) l 0 fun a _ last=>Zhb last a
 omega
theorem Zka {l:List Ent} (h:l.length≤4294967295) (h6:∀ e∈l,e.2.length≤6):(entsB l).length≤80+1300 * l.length:=by
 unfold entsB
 rw [List.length_append]
 have:=Zg9 h
 have:=Zoe (enc:=entB) (id:=fun e:Ent=>e.1) l 0 fun a ha last=>Zz9 (h6 a ha)
 omega
theorem Zsk (was:List Ent) {l:List Chg} (h:l.length≤4294967295) (h6:∀ d∈l,d.2.2.1.length+d.2.2.2.length≤6):(chgsB was l).length≤80+1300 * l.length:=by
 unfold chgsB
 rw [List.length_append]
 have:=Zg9 h
 have:=Zoe (enc:=chgB was) (id:=fun d:Chg=>d.1) l 0 fun a ha last=>Zz4 was last (h6 a ha)
 omega
theorem Zl6 (was now:List Ent):(comeM was now).length+(chgsM was now).length≤now.length:=by
 unfold comeM chgsM
 induction now with
 | nil=>simp
 | cons e r ih =>
  rw [List.filter_cons,List.filterMap_cons]
  by_cases h:hasE was e.1=true
  ·rw [h]
   simp only [Bool.not_true,Bool.false_eq_true,if_false,List.length_cons]
   cases chgOne was e <;> simp <;> omega
  ·have h:hasE was e.1=false:=by simpa using h
   rw [h]
   have:chgOne was e=none:=by
    unfold chgOne
    have:was.find? (fun a=>a.1 == e.1)=none:=by
     rw [List.find?_eq_none]
     intro x hx
     simpa using Z4x.1 h x hx
    rw [this]
   rw [this]
   simp
   omega
theorem Zqb:∀ (l:List Comp) (m:Nat),m < 32→(∀ c∈l,c.1 < 5)→l.foldl orK m < 32
 | [],m,h,_=>h
 | c :: r,m,h,hc=>by
  rw [List.foldl_cons]
  refine Zqb r _ ?_ fun x hx=>hc x (List.mem_cons_of_mem _ hx)
  have:=hc c List.mem_cons_self
  unfold orK
  split
  ·refine Nat.or_lt_two_pow (n:=5) h ?_
   rw [Nat.one_shiftLeft]
   exact Nat.pow_lt_pow_right (by decide) (by omega)
  ·exact h
theorem FormOk.kinds {L:List Ent} (h:FormOk L) {e:Ent} (he:e∈L):∀ c∈e.2,0≤c.1∧c.1 < 5:=fun c hc=>by
 have h1:=h.told e he
 unfold secretM at h1
 rw [List.any_eq_false] at h1
 have h2:=h1 c hc
 have h3:toldM c.1=true:=by simpa using h2
 unfold toldM at h3
 have:=of_decide_eq_true h3
 omega
theorem FormOk.mask {L:List Ent} (h:FormOk L) {e:Ent} (he:e∈L) {l:List Comp} (hl:∀ c∈l,c∈e.2):maskN l < 32:=Zqb l 0 (by decide) fun c hc=>(h.kinds he c (hl c hc)).2
theorem FormOk.entTold {L:List Ent} (h:FormOk L) {e:Ent} (he:e∈L) (hf:EntFit e):EntTold e:=⟨hf,(Z1r.1 (h.list he)).1,h.mask he fun _ hc=>hc,h.six he⟩
theorem FormOk.come {was now:List Ent} (h:FormOk now) (hf:∀ e∈now,EntFit e):∀ e∈comeM was now,EntTold e:=fun e he=>by
 have:=(List.mem_filter.1 he).1
 exact h.entTold this (hf e this)
theorem Z10e {was:List Ent} (h:FormOk was) {a:Ent} (ha:a∈was) {y:Comp} (hy:y∈a.2):oldM was a.1 y.1=y:=by
 obtain ⟨i,hi⟩:=List.mem_iff_getElem?.1 ha
 have hf:was.findIdx? (fun e=>e.1 == a.1)=some i:=by
  rw [List.findIdx?_eq_some_iff_getElem]
  obtain ⟨hl,hg⟩:=List.getElem?_eq_some_iff.1 hi
  refine ⟨hl,by rw [hg]; simp,fun q hq=>?_⟩
  have:=Z9r h.rise hq (List.getElem?_eq_getElem (by omega)) hi
  simp; omega
 unfold oldM
 rw [hf]
 simp only [hi,Option.bind_some]
 cases hq:a.2.find? (fun c=>c.1 == y.1) with
 | none =>
  rw [List.find?_eq_none] at hq
  exact absurd (hq y hy) (by simp)
 | some z =>
  have h1:=List.mem_of_find?_eq_some hq
  have h2:z.1=y.1:=by have:=List.find?_some hq; simpa using this
  exact Zbi (h.list ha) h1 hy h2
structure ChgTold (was:List Ent) (d:Chg):Prop where
 id:IdOk d.1
 lost:0≤d.2.1∧d.2.1 < 32
 new:∀ c∈d.2.2.1,checkM c=0∧CompOk c
 newm:maskN d.2.2.1 < 32
 setm:maskN d.2.2.2 < 32
 six:d.2.2.1.length+d.2.2.2.length≤6
 set:∃ (i:Nat) (a:Ent),was[i]?=some a∧findE was d.1=(i:Int)∧∀ c∈d.2.2.2,CompOk c∧∃ (q:Nat) (y:Comp),findM a.2 c.1=(q:Int)∧a.2[q]?=some y∧CompOk y∧pairM y c=0∧oldM was d.1 c.1=y
theorem Zpx {was now:List Ent} (hw:FormOk was) (hn:FormOk now) (hL1:∀ e∈was,EntFit e) (hL2:∀ e∈now,EntFit e):∀ d∈chgsM was now,ChgTold was d:=by
 intro d hd
 obtain ⟨e,he,hd⟩:=List.mem_filterMap.1 hd
 obtain ⟨-,a,ha,hid,rfl, -⟩:=Z5k hd
 have la:=hw.list ha
 have le:=hn.list he
 obtain ⟨i,hi⟩:=List.mem_iff_getElem?.1 ha
 have hlost:lostM a.2 e.2 < 32:=by
  have h1:=hw.mask ha (l:=a.2) fun _ h=>h
  have ee:(lostM a.2 e.2).toNat=(BitVec.ofInt 8 (maskN a.2:Int) &&& ~~~BitVec.ofInt 8 (maskN e.2:Int)).toNat:=by
   unfold lostM bNot
   have:=(BitVec.ofInt 8 (maskN a.2:Int) &&& ~~~BitVec.ofInt 8 (maskN e.2:Int)).isLt
   show (IntKind.wrap .u8 ((BitVec.ofInt 8 (maskN a.2:Int) &&& ~~~BitVec.ofInt 8 (maskN e.2:Int)).toNat:Int)).toNat=_
   rw [wu8 (by omega),Int.toNat_natCast]
  have h2:(lostM a.2 e.2).toNat < 32:=by
   rw [ee,BitVec.toNat_and]
   refine Nat.lt_of_le_of_lt Nat.and_le_left ?_
   rw [BitVec.toNat_ofInt]
   omega
  have:=(Z93 a.2 e.2).1
  omega
 have cok:∀ c∈e.2,checkM c=0∧CompOk c:=fun c hc=>⟨(Z1r.1 le).1 c hc,(hL2 e he).2.2 c hc⟩
 refine ⟨(hL2 e he).1,⟨(Z93 a.2 e.2).1,hlost⟩,fun c hc=>cok c (Zoq hc),hn.mask he fun c hc=>Zoq hc,hn.mask he fun c hc=>Zrp hc,?_,i,a,hi,?_,fun c hc=>?_⟩
 ·have:=Zu3 a.2 e.2
  have:=hn.six he
  show (newM a.2 e.2).length+(chM a.2 e.2).length≤6
  omega
 ·show findE was e.1=_
  rw [← hid]
  exact Zne hw.rise hi
 ·have hce:=Zrp hc
  obtain ⟨hck,hco⟩:=cok c hce
  have hf:(findC a.2 c.1).2=true:=by
   have:=(List.mem_filter.1 hc).2
   simp at this
   exact this.1
  obtain ⟨g1,g2⟩:=Z1p hf
  rcases Zb5 a.2 c.1 with ⟨_,hno⟩ | ⟨q,y,hq,hy,hk⟩
  ·exact absurd g2 (hno _ g1)
  have hym:=List.mem_of_getElem? hy
  refine ⟨hco,q,y,hq,hy,(hL1 a ha).2.2 y hym,?_,?_⟩
  ·unfold pairM
   rw [if_neg (by rw [(Z1r.1 la).1 y hym]; simp),if_neg (by rw [hck]; simp),if_pos hk]
  ·show oldM was e.1 c.1=y
   rw [← hid,← hk]
   exact Z10e hw ha hym
def refBits (h:Head) (was now:List Ent):List Bool:=headB h ++ (if h.1=1 then entsB now else if h.1=2 then deltaB was (goneM was now) (comeM was now) (chgsM was now) else [])
def formE (h:Head) (was now:List Ent):Int:=if h.1=1 then formM 0 now else if h.1=2 then diffE was now else if 0 < now.length then 4 else 0
def refE (h:Head) (was now:List Ent):Int:=if headE h≠0 then headE h else if formE h was now≠0 then formE h was now else if 4096 < (packM (refBits h was now)).length then 3 else 0
def refB (h:Head) (was now:List Ent):List Int:=sealF (packM (refBits h was now))
end Go.Proofs.YtchhhjlpnecjkaaGreat
namespace Go.Proofs.YtchhhjlpnecjkaaGreat
open Go Go.RowKit Go.Proofs.YtchhhjlpnecjkaaGreat.Den
variable {R:Type} {Q:R→World→Prop} {w:World}
theorem Zok {h:Head} (hok:HeadOk h):(headB h).length≤320:=by
 obtain ⟨⟨k0,k1⟩,⟨c0,c1⟩,⟨e0,e1⟩,⟨t0,t1⟩,⟨b0,b1⟩⟩:=hok
 have l1:=Zif h.1 1 5
 have l2:=Zif h.2.1 0 15
 have lw1:widthM 1 5≤64:=Z3b (by decide)
 have lw2:widthM 0 15≤64:=Z3b (by decide)
 have l3:=Zg9 (v:=h.2.2.1.toNat) (by omega)
 have l4:=Zg9 (v:=idD h.2.2.2.2 h.2.2.2.1) (by unfold idD; omega)
 unfold headB
 simp only [List.length_append]
 have lt32:(if h.1≤3 then bitsOf h.2.2.2.1.toNat 32 else []).length≤32:=by split <;> simp [Z4]
 have lt33:(if h.1=2 then varB (idD h.2.2.2.2 h.2.2.2.1) else []).length≤80:=by
  split
  ·exact l4
  ·simp
 omega
theorem Zwe {S ok ok1:Nat→Prop} {was:List Ent} {s1:Sl} {raws1:List (Int × Sl)} {bl:Nat} {T:TypeId} {cs:List Value} {ss:Sl} {id:Int} {set:List Comp} {pre:List Bool} {s:Sl}
  (B:Blk w bl T cs) (hb:cs[0]?=some (.int .u32 id)) (hbS:¬ S bl) (o:Own S w 4 boolT s pre) (hn:∀ k,w.heap.size≤k→S k)
  (hS1:SlT ok1 w entT s1 raws1) (hE1:EntsR ok1 w raws1 was) (nd1:∀ k,ok1 k→¬ S k) (hm1:was.length≤1048576) (hsm:∀ e∈was,Small e.2)
  (hS:SlT ok w compT ss set) (nd:∀ k,ok k→¬ S k)
  (hset:∃ (i:Nat) (a:Ent),was[i]?=some a∧findE was id=(i:Int)∧∀ c∈set,CompOk c∧∃ (q:Nat) (y:Comp),findM a.2 c.1=(q:Int)∧a.2[q]?=some y∧CompOk y∧pairM y c=0∧oldM was id c.1=y)
  (hl:pre.length+200 * set.length≤1048576) {K:Sl→W R} (hk:∀ r w',Own S w' 4 boolT r (pre ++ setsB was id set)→Fr S w w'→K r Q w') :
  loopW (σ := Sl × Int) (fun K_48 s_49 =>
       cond (decide (s_49.2 < (ss.n:Int)))
        (idxW ss.a ss.n 4 s_49.2 fun x_50 =>
       ld (.agg [.int .u8,.int .i32,.int .i32,.int .i32]) x_50 fun (x_51:(Int × Int × Int × Int)) =>
       newW 92 [.int .u8 0,.int .i32 0,.int .i32 0,.int .i32 0] fun x_52 =>
       stoL x_52 [.int .u8 x_51.1,.int .i32 x_51.2.1,.int .i32 x_51.2.2.1,.int .i32 x_51.2.2.2] 0 <|
       ld (.sc (.int .u32)) (Addr.add ⟨bl,0,none⟩ 0) fun (x_53:Int) =>
       callW Tryz.prog Z9 [.slice s1.a s1.n s1.c,.int .u32 x_53] [.sc (.int .i64)] fun (x_54:Int) =>
       idxW s1.a s1.n 2 x_54 fun x_55 =>
       ld (.agg [.int .u32,.sl]) x_55 fun (x_56:(Int × Sl)) =>
       newW 57 [.int .u32 0,.slice none 0 0] fun x_57 =>
       stoL x_57 [.int .u32 x_56.1,.slice x_56.2.a x_56.2.n x_56.2.c] 0 <|
       drawW <|
       ld (.sc .sl) (Addr.add x_57 1) fun (x_58:Sl) =>
       ld (.sc .sl) (Addr.add x_57 1) fun (x_59:Sl) =>
       ld (.sc (.int .u8)) (Addr.add x_52 0) fun (x_60:Int) =>
       ld (.agg [.int .u8,.int .i32,.int .i32,.int .i32]) x_52 fun (x_61:(Int × Int × Int × Int)) =>
       callW Tryz.prog Z7 [.slice x_59.a x_59.n x_59.c,.int .u8 x_60] [.sc (.int .i64)] fun (x_62:Int) =>
       andW (fun w=>Rd w x_52 (.agg [.int .u8,.int .i32,.int .i32,.int .i32]) x_61) <|
       andW (fun w=>Rd w (Addr.add x_57 1) (.sc .sl) x_58) <|
       idxW x_58.a x_58.n 4 x_62 fun x_63 =>
       ld (.agg [.int .u8,.int .i32,.int .i32,.int .i32]) x_63 fun (x_64:(Int × Int × Int × Int)) =>
       callW Tryz.prog Z33 [.agg ⟨[.int .u8 x_64.1,.int .i32 x_64.2.1,.int .i32 x_64.2.2.1,.int .i32 x_64.2.2.2]⟩,.agg ⟨[.int .u8 x_61.1,.int .i32 x_61.2.1,.int .i32 x_61.2.2.1,.int .i32 x_61.2.2.2]⟩] [.sc .sl,.sc (.int .i64)] fun (x_65:Sl × Int) =>
       rawW Tryz.prog (Builtin.append_ #[70,70] 70 #[.slice s_49.1.a s_49.1.n s_49.1.c,.slice x_65.1.a x_65.1.n x_65.1.c]) [.sc .sl] fun (x_66:Sl) =>
       K_48 (x_66,IntKind.wrap .i64 (s_49.2+1)))
        (K s_49.1))
       (s,0) Q w:=by
 obtain ⟨i,a,ha,hfi,hall⟩:=hset
 obtain ⟨q1,hq1,hq2,hq3⟩:=hE1.get ha
 have hlen:=hS.len
 have hsa:=hsm a (List.mem_of_getElem? ha)
 refine forI (N:=ss.n) (fun s:Sl × Int=>s.2) (fun j st u=>st.2=(j:Int)∧Own S u 4 boolT st.1 (pre ++ setsB was id (set.take j))∧Fr S w u) ⟨rfl,by simpa [setsB] using o,Fr.refl _ _⟩ (fun j s w' h=>h.1) ?_ ?_
 ·rintro j ⟨z,_⟩ u K' hj ⟨rfl,o,fu⟩ - hK
  have zu:=fu.size
  refine (hS.fr fu nd).get rfl rfl (by omega) fun c hcj=>?_
  obtain ⟨hco,q,y,hq,hy,hyo,hp,hold⟩:=hall c (List.mem_of_getElem? hcj)
  refine newI fun u1 B1 f1 z1=>stoAll B1 rfl rfl fun u2 B2 f2 z2=>?_
  have f12:Fr None u u2:=f1.newer f2 fun k e=>by omega
  have fu2:=fu.then0 f12
  refine fldI (B.fr fu2 hbS) (i:=0) (x:=id) hb ?_
  refine Z39 (hS1.fr fu2 nd1) (hE1.fr fu2 nd1) (by omega) fun u3 f3=>?_
  have fu3:=fu2.then0 f3
  rw [hfi]
  refine (hS1.fr fu3 nd1).get rfl rfl (by have:=(List.getElem?_eq_some_iff.1 hq1).1; omega) fun y1 hy1=>?_
  rw [hq1] at hy1
  cases hy1
  refine newI fun u4 B4 f4 z4=>stoAll B4 rfl rfl fun u5 B5 f5 z5=>?_
  have f35:Fr None u3 u5:=f4.newer f5 fun k e=>by omega
  have fd:Fr None u5 u5.drew:=(Fr.refl _ _).drew
  have f3d:=f35.then0 fd
  have fud:=fu3.then0 f3d
  have Bc:=(B2.fr f3 fun h=>h).fr f3d fun h=>h
  have Be:=B5.fr fd fun h=>h
  refine fldI Be (i:=1) (x:=q1.2) rfl (fldI Be (i:=1) (x:=q1.2) rfl (fldI Bc (i:=0) (x:=c.1) rfl (aggI Bc (x:=c) rfl ?_)))
  refine Z49 (hq3.fr fud nd1) hsa fun u6 f6=>?_
  have fu6:=fud.then0 f6
  rw [hq]
  refine andI (fun j u hj=>?_) (andI ((Be.fr f6 fun h=>h).rd (s:=.sl) (i:=1) (x:=q1.2) rfl) ?_)
  ·rw [add_lit,(Bc.fr f6 fun h=>h).cell,Nat.zero_add]
   exact hj
  refine (hq3.fr fu6 nd1).get rfl rfl (List.getElem?_eq_some_iff.1 hy).1 fun y2 hy2=>?_
  rw [hy] at hy2
  cases hy2
  refine Zqv hp hyo hco fun r u7 o7 f7=>?_
  have fu7:=fu6.then0 f7
  have g07:Fr None u u7:=(((f12.then0 f3).then0 f3d).then0 f6).then0 f7
  have z7:=g07.size
  have l1:=Ztf was id (set.take j)
  have l2:=Zqz y c
  have l3:(set.take j).length=j:=by rw [List.length_take]; omega
  have z6:=(((f12.then0 f3).then0 f3d).then0 f6).size
  refine appS (o.none g07) (fun k e=>hn k (by omega)) o7.sl (by simp only [List.length_append]; omega) fun r2 u8 o8 f8=>?_
  refine hK _ _ ⟨wsucc hj (by omega),?_,fu7.then f8⟩
  have e:setsB was id (set.take (j+1))=setsB was id (set.take j) ++ stepB2 y c:=by unfold setsB; rw [Z8 hcj,List.flatMap_append]; simp [hold]
  rw [e,← List.append_assoc]
  exact o8
 ·rintro ⟨z,_⟩ u ⟨_,o,fu⟩
  rw [List.take_of_length_le (by omega)] at o
  exact hk z u o fu
theorem Zp7 {ok1 ok2:Nat→Prop} {h:Head} (hok:HeadOk h) {s1 s2:Sl} {raws1 raws2:List (Int × Sl)} {was now:List Ent} (hS1:SlT ok1 w entT s1 raws1) (hE1:EntsR ok1 w raws1 was) (hS2:SlT ok2 w entT s2 raws2) (hE2:EntsR ok2 w raws2 now)
  (hm1:was.length≤1048576) (hm2:now.length≤1048576) (hL1:∀ e∈was,EntFit e) (hL2:∀ e∈now,EntFit e) (few1:h.1=1→formM 0 now=0→now.length≤720) (few2:h.1=2→diffE was now=0→was.length≤720∧now.length≤720) {K:Res [.sc .sl,.sc (.int .i64)]→W R}
  (hbad:refE h was now≠0→∀ w',Fr None w w'→K (⟨none,0,0⟩,refE h was now) Q w')
  (hk:refE h was now=0→∀ r w',Own (Up w.heap.size) w' 5 u8T r (refB h was now)→Fr None w w'→K (r,0) Q w') :
  callW Tryz.prog Z58 [.agg ⟨[.int .u8 h.1,.int .u8 h.2.1,.int .u32 h.2.2.1,.int .u32 h.2.2.2.1,.int .u32 h.2.2.2.2]⟩,.slice s1.a s1.n s1.c,.slice s2.a s2.n s2.c] [.sc .sl,.sc (.int .i64)] K Q w:=by
 refine Zfg h s1 s2 K Q w ?_
 unfold Z8u
 have hS10:SlT (fun k=>ok1 k∧k < w.heap.size) w entT s1 raws1:=hS1.mono fun k hk e=>⟨e,hk⟩
 have hE10:EntsR (fun k=>ok1 k∧k < w.heap.size) w raws1 was:=hE1.mono fun k hk e=>⟨e,hk⟩
 have hS20:SlT (fun k=>ok2 k∧k < w.heap.size) w entT s2 raws2:=hS2.mono fun k hk e=>⟨e,hk⟩
 have hE20:EntsR (fun k=>ok2 k∧k < w.heap.size) w raws2 now:=hE2.mono fun k hk e=>⟨e,hk⟩
 have l2:=hS2.len.trans hE2.len
 have fit:∀ {e:Ent},EntFit e→IdOk e.1∧e.2.length≤9223372036854775807∧∀ c∈e.2,CompOk c:=fun h=>⟨h.1,by have:=h.2.1; omega,h.2.2⟩
 refine newI fun w1 B1 f1 t1=>aggI B1 (x:=h) rfl (Zer hok fun w2 f2=>?_)
 have f02:=f1.then0 f2
 have B2:=B1.fr f2 fun h=>h
 refine condN (fun hne=>?_) fun heq=>?_
 ·have e:refE h was now=headE h:=by unfold refE; rw [if_pos hne]
  rw [← e]
  exact hbad (by rw [e]; exact hne) w2 f02
 have eE:refE h was now=if formE h was now≠0 then formE h was now else if 4096 < (packM (refBits h was now)).length then 3 else 0:=by unfold refE; rw [if_neg (by rw [heq]; simp)]
 have bad:formE h was now≠0→∀ w',Fr None w2 w'→K (⟨none,0,0⟩,formE h was now) Q w':=fun hne w' f=>by
  have e:refE h was now=formE h was now:=by rw [eE,if_pos hne]
  rw [← e]
  exact hbad (by rw [e]; exact hne) w' (f02.then0 f)
 have z2:=f02.size
 have lh:=Zok hok
 refine aggI B2 (x:=h) rfl (Zp5 hok heq fun a w3 o3 f3=>?_)
 have B3:=B2.fr f3 fun h=>h
 have f03:=f02.then0 f3
 have z3:=f3.size
 refine fldI B3 (i:=0) (x:=h.1) rfl ?_
 refine joinI (fun z v=>formE h was now=0∧Own (Up w2.heap.size) v 4 boolT z (refBits h was now)∧(refBits h was now).length≤1048576∧Fr None w2 v) ?_ ?_
 ·refine condE (fun k1=>?_) fun k1=>?_
  ·
   have eF:formE h was now=formM 0 now:=by unfold formE; rw [if_pos k1]
   refine Z5x (hS20.fr0 f03) (hE20.fr f03 fun _ _ h=>h) (by omega) (fun e he=>fit (hL2 e he)) fun w4 f4=>?_
   rw [← Zap now 0 true fun _=>rfl,← eF]
   have f34:=f3.then0 f4
   have f04:=f03.then0 f4
   refine condN (fun hne=>bad hne w4 f34) fun h0=>?_
   have fn:=formOk.1 (eF ▸ h0)
   have hfew:=few1 k1 (eF ▸ h0)
   have le:=Zka (l:=now) (by omega) fun e he=>fn.six he
   have z4:=f34.size
   have eB:refBits h was now=headB h ++ entsB now:=by unfold refBits; rw [if_pos k1]
   refine Zhs (S:=Up w2.heap.size) (o3.none f4) (fun k e=>by show w2.heap.size≤k; omega) (hS20.fr0 f04) (hE20.fr f04 fun _ _ h=>h) (fun k _ e e2=>by have e2:w2.heap.size≤k:=e2; omega) (fun e he=>fn.entTold he (hL2 e he)) (by omega) fun r w5 o5 f5=>?_
   refine ⟨h0,by rw [eB]; exact o5,by rw [eB,List.length_append]; omega,f34.newer f5 fun k e=>e⟩
  ·refine fldI B3 (i:=0) (x:=h.1) rfl ?_
   refine joinI (fun z v=>formE h was now=0∧Own (Up w2.heap.size) v 4 boolT z (refBits h was now)∧(refBits h was now).length≤1048576∧Fr None w2 v) ?_ fun _ _ h=>h
   refine condE (fun k2=>?_) fun k2=>?_
   ·
    have eF:formE h was now=diffE was now:=by unfold formE; rw [if_neg k1,if_pos k2]
    have eB:refBits h was now=headB h ++ deltaB was (goneM was now) (comeM was now) (chgsM was now):=by unfold refBits; rw [if_neg k1,if_pos k2]
    refine Zhq (hS10.fr0 f03) (hE10.fr f03 fun _ _ h=>h) (hS20.fr0 f03) (hE20.fr f03 fun _ _ h=>h) hm1 hm2 hL1 hL2 (fun hne w6 f6=>?_) fun h0 r w6 D f6=>?_
    ·refine newI fun w7 B7 f7 t7=>stoAll B7 rfl rfl fun w8 B8 f8 t8=>condT (by simpa using hne) ?_
     have:=bad (by rw [eF]; exact hne) w8 ((f3.then0 f6).then0 (f7.newer f8 fun k e=>by omega))
     rw [eF] at this
     exact this
    have h0':formE h was now=0:=by rw [eF]; exact h0
    obtain ⟨few21,few22⟩:=few2 k2 h0
    have fw:FormOk was:=formOk.1 (by
     unfold diffE at h0
     refine Classical.byContradiction fun hc=>?_
     rw [if_pos hc] at h0
     exact hc h0)
    have fn:FormOk now:=formOk.1 (by
     unfold diffE at h0
     rw [if_neg (by rw [formOk.2 fw]; simp)] at h0
     exact h0)
    have hct:=Zpx fw fn hL1 hL2
    have hgl:(goneM was now).length≤was.length:=by unfold goneM; rw [List.length_map]; exact List.length_filter_le _ _
    have hcl:=Zl6 was now
    have hgo:=(Zq9 (now:=now) hL1 hm1).2
    have lg:=Zst (l:=goneM was now) (by omega)
    have lc:=Zka (l:=comeM was now) (by omega) fun e he=>fn.six (List.mem_filter.1 he).1
    have ld':=Zsk was (l:=chgsM was now) (by omega) fun d hd=>(hct d hd).six
    have hct2:=fn.come (was:=was) hL2
    generalize hG:goneM was now=gone at *
    generalize hC:comeM was now=come at *
    generalize hH:chgsM was now=chg at *
    have z6:=f6.size
    refine newI fun w7 B7 f7 t7=>stoAll B7 rfl rfl fun w8 B8 f8 t8=>condF rfl ?_
    have f68:Fr None w6 w8:=f7.newer f8 fun k e=>by omega
    have f38:=f6.then0 f68
    have f28:=f3.then0 f38
    have f08:=f02.then0 f28
    have z8:=f68.size
    obtain ⟨S,hSd⟩:∃ S:Nat→Prop,S=fun k=>(w2.heap.size≤k∧k < w3.heap.size)∨w8.heap.size≤k:=⟨_,rfl⟩
    have hSn:∀ k,w8.heap.size≤k→S k:=fun k e=>by rw [hSd]; exact .inr e
    have hSu:∀ k,S k→w2.heap.size≤k:=fun k e=>by rw [hSd] at e; rcases e with e | e <;> omega
    have D8:DltR (fun k=>w3.heap.size≤k∧k < w6.heap.size) w8 r gone come chg:=DltR.st D f68 fun k hk e=>⟨fun h=>h,e,hk⟩
    have nd:∀ k,w3.heap.size≤k∧k < w6.heap.size→¬ S k:=fun k e e2=>by rw [hSd] at e2; rcases e2 with e2 | e2 <;> omega
    have nd1:∀ k,ok1 k∧k < w.heap.size→¬ S k:=fun k e e2=>by have:=hSu k e2; omega
    have nb:¬ S w6.heap.size:=fun e=>by rw [hSd] at e; rcases e with e | e <;> omega
    have o8:Own S w8 4 boolT a (headB h):=(o3.mono (S':=S) fun k hk e=>by rw [hSd]; exact .inl ⟨e,hk⟩).none f38
    obtain ⟨Dg,⟨rc,Dc,Ec⟩,⟨rd,Dd,Ed⟩⟩:=D8
    have ng:=Dg.len
    have nc:=Dc.len
    have nd':=Dd.len
    have ndl:=Ed.len
    refine fldI B8 (i:=0) (x:=r.1) rfl ?_
    have ew:IntKind.wrap .u64 (r.1.n:Int)=((gone.length:Nat):Int):=by rw [wU64 (by omega)]; omega
    rw [ew]
    refine Z5c (by omega) fun d w9 o9 f9=>?_
    have z9:=f9.size
    have lv:=Zg9 (v:=gone.length) (by omega)
    refine appS (o8.none f9) (fun k e=>hSn k (by omega)) o9.sl (by omega) fun a2 w10 o10 f10=>?_
    have f810:Fr S w8 w10:=f9.any.then f10
    refine fldI (B8.fr f810 nb) (i:=0) (x:=r.1) rfl ?_
    refine forI (N:=r.1.n) (fun s:Sl × Int × Int=>s.2.2) (fun j st u=>st.2.2=(j:Int)∧st.2.1=lastF (fun i:Int=>i) 0 (gone.take j)∧Own S u 4 boolT st.1 (headB h ++ varB gone.length ++ encs idBits (fun i:Int=>i) 0 (gone.take j))∧Fr S w8 u) ⟨rfl,rfl,by simpa [encs] using o10,f810⟩ (fun j s w' h=>h.1) ?_ ?_
    ·rintro j ⟨z,la,_⟩ u K' hj ⟨rfl,rfl,o,fu⟩ - hK
     have zu:=fu.size
     refine (Dg.fr fu nd).get rfl rfl (by omega) fun x hx=>?_
     have htk:=Zl8 idBits (fun i:Int=>i) gone 0 j
     have hgb:(goneB gone).length=(varB gone.length).length+(encs idBits (fun i:Int=>i) 0 gone).length:=by unfold goneB; rw [List.length_append]
     refine Zg6 o (fun k e=>hSn k (by omega)) (by simp only [List.length_append]; omega) fun r3 u3 o3' f3'=>?_
     refine hK _ _ ⟨wsucc hj (by omega),?_,?_,fu.then f3'⟩
     ·rw [Z8 hx,Zil]
     ·rw [Z8 hx,Zh9,← List.append_assoc]
      exact o3'
    rintro ⟨b,lb,_⟩ w11 ⟨_,_,o11,f11⟩
    rw [List.take_of_length_le (by omega),List.append_assoc] at o11
    have o11:Own S w11 4 boolT b (headB h ++ goneB gone):=o11
    have z11:=f11.size
    refine fldI (B8.fr f11 nb) (i:=1) (x:=r.2.1) rfl ?_
    refine Zhs o11 (fun k e=>hSn k (by omega)) (Dc.fr f11 nd) (Ec.fr f11 nd) (fun k _ e e2=>nd k e e2) hct2 (by rw [List.length_append]; omega) fun c w12 o12 f12=>?_
    have f812:=f11.then f12
    have z12:=f812.size
    refine fldI (B8.fr f812 nb) (i:=2) (x:=r.2.2) rfl ?_
    have ew:IntKind.wrap .u64 (r.2.2.n:Int)=((chg.length:Nat):Int):=by rw [wU64 (by omega)]; omega
    rw [ew]
    refine Z5c (by omega) fun d2 w13 o13 f13=>?_
    have z13:=f13.size
    have lv2:=Zg9 (v:=chg.length) (by omega)
    refine appS (o12.none f13) (fun k e=>hSn k (by omega)) o13.sl (by simp only [List.length_append]; omega) fun a3 w14 o14 f14=>?_
    have f814:Fr S w8 w14:=(f812.then0 f13).then f14
    refine fldI (B8.fr f814 nb) (i:=2) (x:=r.2.2) rfl ?_
    have hcb:(chgsB was chg).length=(varB chg.length).length+(encs (chgB was) (fun d:Chg=>d.1) 0 chg).length:=by unfold chgsB; rw [List.length_append]
    refine forI (N:=r.2.2.n) (fun s:Sl × Int × Int=>s.2.2) (fun j st u=>st.2.2=(j:Int)∧st.2.1=lastF (fun d:Chg=>d.1) 0 (chg.take j)∧Own S u 4 boolT st.1 (headB h ++ goneB gone ++ entsB come ++ varB chg.length ++ encs (chgB was) (fun d:Chg=>d.1) 0 (chg.take j))∧Fr S w8 u) ⟨rfl,rfl,by simpa [encs] using o14,f814⟩ (fun j s w' h=>h.1) ?_ ?_
    ·rintro j ⟨z,la,_⟩ u K' hj ⟨rfl,rfl,o,fu⟩ - hK
     have zu:=fu.size
     obtain ⟨d,hd⟩:∃ d,chg[j]?=some d:=⟨_,List.getElem?_eq_getElem (by omega)⟩
     obtain ⟨t,ht,tr1,tr2,tr3,tr4⟩:=Ed.get hd
     have T:=hct d (List.mem_of_getElem? hd)
     refine (Dd.fr fu nd).get rfl rfl (by omega) fun y hy=>?_
     rw [ht] at hy
     cases hy
     refine newI fun u1 C1 g1 y1=>stoAll C1 rfl rfl fun u2 C2 g2 y2=>?_
     have g12:Fr None u u2:=g1.newer g2 fun k e=>by omega
     have fu2:=fu.then0 g12
     have htk:=Zl8 (chgB was) (fun d:Chg=>d.1) chg 0 (j+1)
     rw [Z8 hd,Zh9,List.length_append] at htk
     obtain ⟨pre,hpre⟩:∃ pre,pre=headB h ++ goneB gone ++ entsB come ++ varB chg.length ++ encs (chgB was) (fun d:Chg=>d.1) 0 (chg.take j):=⟨_,rfl⟩
     have lpre:pre.length+(chgB was (lastF (fun d:Chg=>d.1) 0 (chg.take j)) d).length≤1000000:=by
      rw [hpre]
      simp only [List.length_append]
      omega
     rw [← hpre] at o
     have hcB:(chgB was (lastF (fun d:Chg=>d.1) 0 (chg.take j)) d).length=(idBits (lastF (fun d:Chg=>d.1) 0 (chg.take j)) d.1).length+(5+(5+(5+((compsB d.2.2.1).length+(setsB was d.1 d.2.2.2).length)))):=by
      unfold chgB
      simp only [List.length_append,Z4]
     have o2:Own (fun k=>S k∧k≠u.heap.size) u2 4 boolT z pre:=(o.mono (S':=fun k=>S k∧k≠u.heap.size) fun k hk e=>⟨e,by omega⟩).none g12
     have hn2:∀ {v:World},u2.heap.size≤v.heap.size→∀ k,v.heap.size≤k→S k∧k≠u.heap.size:=fun hv k e=>⟨hSn k (by omega),by omega⟩
     refine fldI C2 (i:=0) (x:=t.1) rfl ?_
     rw [tr1]
     refine Zg6 o2 (hn2 (Nat.le_refl _)) (by omega) fun r3 u3 o3' f3'=>?_
     have y3:=f3'.size
     have C3:=C2.fr f3' fun e=>e.2 rfl
     have fu3:=fu2.then (f3'.sub fun k e=>e.1)
     refine fldI C3 (i:=0) (x:=t.1) rfl (fldI C3 (i:=1) (x:=t.2.1) rfl ?_)
     rw [tr2]
     have el:IntKind.wrap .u64 d.2.1=((d.2.1.toNat:Nat):Int):=by have:=T.lost; rw [wU64 (by omega)]; omega
     rw [el]
     have up2:∀ {x v:World} {q:Sl} {l:List Bool},u2.heap.size≤x.heap.size→Own (Up x.heap.size) v 4 boolT q l→Own (fun k=>S k∧k≠u.heap.size) v 4 boolT q l:=fun hx o=>o.mono fun k _ e=>by have e:_≤k:=e; exact ⟨hSn k (by omega),by omega⟩
     have six:=T.six
     refine Z5b (n:=5) o3'.sl (by decide) (by have:=T.lost; omega) (by simp only [List.length_append]; omega) fun r4 u4 o4 f4=>?_
     have y4:=f4.size
     have C4:=C3.fr f4 fun h=>h
     have fu4:=fu3.then0 f4
     refine fldI C4 (i:=2) (x:=t.2.2.1) rfl ?_
     refine Zd3 (tr3.fr fu4 nd) (by omega) fun u5 f5=>?_
     have em:IntKind.wrap .u64 ((maskN d.2.2.1:Nat):Int)=((maskN d.2.2.1:Nat):Int):=by have:=T.newm; rw [wU64 (by omega)]
     rw [em]
     have y5:=f5.size
     refine Z5b (n:=5) (o4.none f5).sl (by decide) (by have:=T.newm; omega) (by simp only [List.length_append,Z4]; omega) fun r6 u6 o6 f6'=>?_
     have y6:=f6'.size
     have f46:=f5.then0 f6'
     have C6:=C4.fr f46 fun h=>h
     have fu6:=fu4.then0 f46
     refine fldI C6 (i:=3) (x:=t.2.2.2) rfl ?_
     refine Zd3 (tr4.fr fu6 nd) (by omega) fun u7 f7'=>?_
     have em:IntKind.wrap .u64 ((maskN d.2.2.2:Nat):Int)=((maskN d.2.2.2:Nat):Int):=by have:=T.setm; rw [wU64 (by omega)]
     rw [em]
     have y7:=f7'.size
     refine Z5b (n:=5) (o6.none f7').sl (by decide) (by have:=T.setm; omega) (by simp only [List.length_append,Z4]; omega) fun r8 u8 o8' f8'=>?_
     have y8:=f8'.size
     have f68':=f7'.then0 f8'
     have C8:=C6.fr f68' fun h=>h
     have fu8:=fu6.then0 f68'
     refine fldI C8 (i:=2) (x:=t.2.2.1) rfl ?_
     have cl:=Zpy d.2.2.1
     refine Zes (up2 (by omega) o8') (hn2 (by omega)) (by simp only [List.length_append,Z4]; omega) (tr3.fr fu8 nd) (fun k _ e e2=>nd k e e2.1) T.new fun r9 u9 o9' f9'=>?_
     have y9:=f9'.size
     have C9:=C8.fr f9' fun e=>e.2 rfl
     have fu9:=fu8.then (f9'.sub fun k e=>e.1)
     refine fldI C9 (i:=3) (x:=t.2.2.2) rfl ?_
     refine Zwe (K:=fun z=>K' (z,t.1,IntKind.wrap .i64 ((j:Int)+1))) (id:=d.1) (set:=d.2.2.2) C9 (by rw [tr1]; rfl) (fun e=>e.2 rfl) o9' (hn2 (by omega)) ((hS10.fr0 f08).fr fu9 nd1) ((hE10.fr f08 fun _ _ h=>h).fr fu9 nd1) (fun k e e2=>nd1 k e e2.1) hm1 (fun e he=>(hL1 e he).2.1) (tr4.fr fu9 nd) (fun k e e2=>nd k e e2.1) T.set (by simp only [List.length_append,Z4]; omega) fun r10 u10 o10' f10'=>?_
     refine hK _ _ ⟨wsucc hj (by omega),?_,?_,fu9.then (f10'.sub fun k e=>e.1)⟩
     ·show t.1=_
      rw [Z8 hd,Zil,tr1]
     ·rw [Z8 hd,Zh9,← List.append_assoc,← hpre]
      unfold chgB
      have o7:=o10'.mono (S':=S) fun k _ e=>e.1
      simp only [List.append_assoc] at o7 ⊢
      exact o7
    ·rintro ⟨b2,lb2,_⟩ u ⟨_,_,o,fu⟩
     rw [List.take_of_length_le (by omega)] at o
     refine ⟨h0',?_,by rw [eB]; unfold deltaB; simp only [List.length_append]; omega,f28.newer fu hSu⟩
     rw [eB]
     unfold deltaB
     have o7:=o.mono (S':=Up w2.heap.size) fun k _ e=>hSu k e
     simp only [List.append_assoc] at o7
     have ec:chgsB was chg=varB chg.length ++ encs (chgB was) (fun d:Chg=>d.1) 0 chg:=rfl
     rw [ec]
     exact o7
   ·
    have eF:formE h was now=if 0 < now.length then 4 else 0:=by unfold formE; rw [if_neg k1,if_neg k2]
    have eB:refBits h was now=headB h:=by unfold refBits; rw [if_neg k1,if_neg k2,List.append_nil]
    refine condD (fun k3=>?_) fun k3=>?_
    ·rw [if_pos (by omega)] at eF
     have:=bad (by rw [eF]; decide) w3 f3
     rw [eF] at this
     exact this
    ·rw [if_neg (by omega)] at eF
     exact ⟨eF,by rw [eB]; exact o3,by rw [eB]; omega,f3⟩
 rintro z v ⟨h0,o,hlen,fv⟩
 rw [if_neg (fun x=>x h0)] at eE
 refine Zp4 o.sl (by omega) fun p w4 o4 f4=>?_
 have f04:=(f02.then0 fv).then0 f4
 have zv:=fv.size
 refine Zjs o4.sl (Zot _) (by rw [Zhh]; omega) (fun hl=>?_) fun hl q w5 o5 f5=>?_
 ·rw [if_pos hl] at eE
  have:=hbad (by rw [eE]; decide) w4 f04
  rw [eE] at this
  exact this
 ·rw [if_neg (by omega)] at eE
  exact hk eE q w5 (o5.up (by have:=f4.size; omega)) (f04.then0 f5)
end Go.Proofs.YtchhhjlpnecjkaaGreat
namespace Go.Proofs.YtchhhjlpnecjkaaGreat
open Go Go.RowKit Go.Proofs.YtchhhjlpnecjkaaGreat.Den
end Go.Proofs.YtchhhjlpnecjkaaGreat
namespace Go.Proofs.YtchhhjlpnecjkaaGreat
open Go Go.RowKit Go.Proofs.YtchhhjlpnecjkaaGreat.Den
variable {R:Type} {Q:R→World→Prop} {w:World}
theorem Zbo {ok ok2:Nat→Prop} {s s2:Sl} {l l2:List Int} (hS:SlT ok w u8T s l) (hS2:SlT ok2 w u8T s2 l2) (h1:BytesOk l) (h2:BytesOk l2) {K:Res [.sc .bool]→W R} (hk:K (decide (l=l2)) Q w) :
  callW Tryz.prog Z7v [.slice s.a s.n s.c,.slice s2.a s2.n s2.c] [.sc .bool] K Q w:=by
 refine Znu s s2 K Q w ?_
 unfold Zgt
 refine strI hS (strI hS2 ?_)
 rw [Zyy h1 h2]
 exact hk
theorem Zlx {ok:Nat→Prop} {s:Sl} {l:List Int} (hS:SlT ok w u8T s l) (hb:BytesOk l) (hm:l.length≤140737488355000) {K:Res [.sc .sl,.sc (.int .i64)]→W R} (h1:∀ w',Fr None w w'→(l.length < 4→K (⟨none,0,0⟩,2) Q w')∧(4100 < l.length→K (⟨none,0,0⟩,3) Q w')∧(4≤l.length→l.length≤4100→sealF (l.take (l.length - 4))≠l→K (⟨none,0,0⟩,6) Q w'))
  (hk:4≤l.length→l.length≤4100→sealF (l.take (l.length - 4))=l→∀ r w',Own (Up w.heap.size) w' 5 u8T r (l.take (l.length - 4))→Fr None w w'→K (r,0) Q w') :
  callW Tryz.prog Z70 [.slice s.a s.n s.c] [.sc .sl,.sc (.int .i64)] K Q w:=by
 refine Zpj s K Q w ?_
 unfold Zj5
 have hlen:=hS.len
 rw [w64 (x:=(s.n:Int) - 4) (by omega)]
 refine condD (fun h=>(h1 w (Fr.refl _ _)).1 (by omega)) fun ha=>?_
 refine condD (fun h=>(h1 w (Fr.refl _ _)).2.1 (by omega)) fun hc=>?_
 have fd:Fr None w w.drew:=(Fr.refl _ _).drew
 have hSd:=hS.fr0 fd
 have hbt:BytesOk (l.take (l.length - 4)):=fun x hx=>hb x (List.mem_of_mem_take hx)
 have hbd:BytesOk (l.drop (l.length - 4)):=fun x hx=>hb x (List.mem_of_mem_drop hx)
 have hlt:(l.take (l.length - 4)).length=l.length - 4:=by rw [List.length_take]; omega
 refine hSd.from (n:=l.length - 4) rfl (by omega) (by omega) fun r1 hr1 _=>?_
 refine hSd.cutI (n:=l.length - 4) (by omega) (by omega) fun r2 _ hr2=>?_
 refine Zep (hr2 _ _ hSd) (by omega) (Zd1 fun t w1 o1 f1=>?_)
 refine Zbo (hr1.fr0 f1) o1.sl hbd (Zth _) ?_
 have key:(l.drop (l.length - 4)=tailF (sumF (l.take (l.length - 4))))↔sealF (l.take (l.length - 4))=l:=by
  constructor
  ·intro e
   unfold sealF
   rw [← e,List.take_append_drop]
  ·intro e
   have:=congrArg (List.drop (l.length - 4)) e
   unfold sealF at this
   rw [List.drop_left' hlt] at this
   exact this.symm
 have f01:=fd.then0 f1
 refine condI (fun h=>?_) fun h=>?_
 ·refine (h1 w1 f01).2.2 (by omega) (by omega) fun e=>?_
  have:=key.2 e
  simp [this] at h
 ·have h:l.drop (l.length - 4)=tailF (sumF (l.take (l.length - 4))):=by simpa using h
  refine (hS.fr0 f01).cutI (n:=l.length - 4) (by omega) (by omega) fun r3 _ hr3=>?_
  refine Z4z (hr3 _ _ (hS.fr0 f01)) (by omega) fun r w2 o2 f2=>?_
  have z1:=f01.size
  exact hk (by omega) (by omega) (key.1 h) r w2 (o2.up z1) (f01.then0 f2)
end Go.Proofs.YtchhhjlpnecjkaaGreat
namespace Go.Proofs.YtchhhjlpnecjkaaGreat
open Go Go.RowKit Go.Proofs.YtchhhjlpnecjkaaGreat.Den
variable {R:Type} {Q:R→World→Prop} {w:World}
def RestR (k:Int) (was:List Ent) (L:List Bool) (now:List Ent):Prop:=(k=1∧∃ L',entsD L=some (now,L'))∨(k=2∧∃ d L',deltaD was L=some (d,L')∧PatchOk was d.1 d.2.1 d.2.2 now)∨(k≠1∧k≠2∧now=[])
set_option maxRecDepth 100000 in
theorem Zk1 {b:Nat} {L:List Bool} {F:Nat→Prop} (h:RD b L F w) (hF:∀ k,F k→k < w.heap.size) {hd:Head} {okw:Nat→Prop} {sw:Sl} {raws:List (Int × Sl)} {was:List Ent} (hS:SlT okw w entT sw raws) (hE:EntsR okw w raws was) (hL:∀ e∈was,EntFit e) (hm:was.length≤200000) (hd':∀ k,okw k→k≠b) (hf:hd.1=2→FormOk was) {K:Res [.sc .sl,.sc (.int .i64)]→W R}
  (h0:(∀ now,¬ RestR hd.1 was L now)→∀ w',Fr (fun k=>k=b) w w'→K (⟨none,0,0⟩,4) Q w') (hk:∀ now,RestR hd.1 was L now→(∀ e∈now,EntFit e)→now.length≤1048576→∀ r raws' w',SlT (Up w.heap.size) w' entT r raws'→EntsR (Up w.heap.size) w' raws' now→Fr (fun k=>k=b) w w'→K (r,0) Q w') :
  callW Tryz.prog Zhe [.agg ⟨[.int .u8 hd.1,.int .u8 hd.2.1,.int .u32 hd.2.2.1,.int .u32 hd.2.2.2.1,.int .u32 hd.2.2.2.2]⟩,.agg ⟨[.pointer (some ⟨b,0,none⟩)]⟩,.slice sw.a sw.n sw.c] [.sc .sl,.sc (.int .i64)] K Q w:=by
 unfold callW
 go_enter_defers Tryz.func29,Tryz.ntmps29
 generalize hc:Code.seq (Code.seq _ (Code.block _ _)) _=c
 go_wp2
 have hc:c=doorOf Tryz.f29:=hc.symm
 subst hc
 have hbb:=hF b h.1
 have hl8:=h.len
 obtain ⟨w3,hw3⟩:∃ w3,w3=((w.alloc (.cells ⟨[.int .u8 hd.1,.int .u8 hd.2.1,.int .u32 hd.2.2.1,.int .u32 hd.2.2.2.1,.int .u32 hd.2.2.2.2]⟩ 30)).alloc (.cells ⟨[.pointer (some ⟨b,0,none⟩)]⟩ 62)).alloc (.cells #[.int .i64 0] 31):=⟨_,rfl⟩
 have f1:Fr None w (w.alloc (.cells ⟨[.int .u8 hd.1,.int .u8 hd.2.1,.int .u32 hd.2.2.1,.int .u32 hd.2.2.2.1,.int .u32 hd.2.2.2.2]⟩ 30)):=(Fr.refl None w).alloc _
 have f2:=f1.alloc (.cells ⟨[.pointer (some ⟨b,0,none⟩)]⟩ 62)
 have f3:=f2.alloc (.cells #[.int .i64 0] 31)
 have Bh:Blk w3 w.heap.size 30 [.int .u8 hd.1,.int .u8 hd.2.1,.int .u32 hd.2.2.1,.int .u32 hd.2.2.2.1,.int .u32 hd.2.2.2.2]:=by rw [hw3]; exact ((Blk.new w _ _).alloc _).alloc _
 have Br:Blk w3 (w.heap.size+1) 62 [.pointer (some ⟨b,0,none⟩)]:=by
  rw [hw3]
  refine Blk.alloc ?_ _
  have:=Blk.new (w.alloc (.cells ⟨[.int .u8 hd.1,.int .u8 hd.2.1,.int .u32 hd.2.2.1,.int .u32 hd.2.2.2.1,.int .u32 hd.2.2.2.2]⟩ 30)) 62 [.pointer (some ⟨b,0,none⟩)]
  simpa using this
 have Be:Blk w3 (w.heap.size+2) 31 [.int .i64 0]:=by
  rw [hw3]
  have:=Blk.new ((w.alloc (.cells ⟨[.int .u8 hd.1,.int .u8 hd.2.1,.int .u32 hd.2.2.1,.int .u32 hd.2.2.2.1,.int .u32 hd.2.2.2.2]⟩ 30)).alloc (.cells ⟨[.pointer (some ⟨b,0,none⟩)]⟩ 62)) 31 [.int .i64 0]
  simpa using this
 have fw:Fr None w w3:=by rw [hw3]; exact f3
 have z3:w3.heap.size=w.heap.size+3:=by rw [hw3]; simp
 rw [← hw3]
 clear hw3 f1 f2 f3
 have hr3:=RD.st.fr0 h fw
 have hF3:∀ k,F k→k < w3.heap.size:=fun k e=>by have:=hF k e; omega
 have fin:∀ {u v:World},Fr (fun k=>k=b) w3 u→Fr (fun k=>k=w.heap.size+2) u v→Fr (fun k=>k=b) w v:=fun g f=>(fw.any.then g).thenNew f fun k e=>by omega
 have hbC:¬ w.heap.size+2=b:=by omega
 by_cases k1:hd.1=1
 ·rw [k1] at Bh h0 hk
  refine Zw8 Bh Br (TC:=31) ?_
  have:=Zju (R:=Unit ⊕ List PanicEntry) (Q:=fun s w'=>match s with
   | .inl _=>False
   | .inr ch=>ch=giveUp∧entsD L=none∧Fr (fun k=>k=b) w3 w') hr3 hF3 (K:=fun r _ w'=>∃ l L',entsD L=some (l,L')∧Fr (fun k=>k=b) w3 w'∧∃ raws',SlT (Up w3.heap.size) w' entT r raws'∧EntsR (Up w3.heap.size) w' raws' l) (fun hn w' f=>⟨rfl,hn,f⟩)
   fun l L' hl r raws' lab w' o e up _ f=>⟨l,L',hl,f,raws',o.sl.mono fun k _ e=>(up k (by omega)).1,e.mono fun k _ e=>(up k (by omega)).1⟩
  refine Calls.mono this ?_
  rintro e w' (⟨r,rfl,l,L',hl,f,raws',hS',hE'⟩ | ⟨ch,rfl,rfl,hn,f⟩)
  ·refine ⟨Be.fr f hbC,.inl ⟨r,rfl,fun w2 f2=>⟨(r,0),rfl,?_⟩⟩⟩
   obtain ⟨fit,fl⟩:=Zog hl
   refine hk l (.inl ⟨rfl,L',hl⟩) (fun e he=>(fit e he).1) (by omega) r raws' w2 ((hS'.fr f2 fun k (e:w3.heap.size≤k) e2=>by omega).mono fun k _ (e:w3.heap.size≤k)=>by show w.heap.size≤k; omega) ((hE'.fr f2 fun k (e:w3.heap.size≤k) e2=>by omega).mono fun k _ (e:w3.heap.size≤k)=>by show w.heap.size≤k; omega) (fin f f2)
  ·refine ⟨Be.fr f hbC,.inr ⟨rfl,fun w2 f2=>⟨(⟨none,0,0⟩,4),rfl,h0 (fun now hr=>?_) w2 (fin f f2)⟩⟩⟩
   rcases hr with ⟨_,L',h⟩ | ⟨h,_⟩ | ⟨h,_⟩
   ·rw [hn] at h; cases h
   ·cases h
   ·exact h rfl
 by_cases k2:hd.1=2
 ·have hform:=hf k2
  rw [k2] at Bh h0 hk
  refine Zw9 Bh Br (TC:=31) ?_
  have hS3:=hS.fr0 fw
  have hE3:=hE.fr fw fun _ _ h=>h
  have:=Zp9 (R:=Unit ⊕ List PanicEntry) (Q:=fun s w'=>match s with
   | .inl _=>False
   | .inr ch=>ch=giveUp∧deltaD was L=none∧Fr (fun k=>k=b) w3 w') hr3 hF3 hS3 hE3 hform.rise (by omega) hL hd' (K:=fun r _ w'=>∃ d L',deltaD was L=some (d,L')∧Fr (fun k=>k=b) w3 w'∧DltR (Up w3.heap.size) w' r d.1 d.2.1 d.2.2) (fun hn w' f=>⟨rfl,hn,f⟩)
   fun d L' hd r w' dr _ f=>⟨d,L',hd,f,dr⟩
  refine Calls.mono this ?_
  rintro e w' (⟨r,rfl,d,L',hdl,f,dr⟩ | ⟨ch,rfl,rfl,hn,f⟩)
  ·refine .inl ⟨r,rfl,?_⟩
   obtain ⟨q1,q2,q3,q4,q5⟩:=Zq2 hL hdl
   have sz:=f.size
   have:=Zlw (R:=Unit) (Q:=fun _ _=>False) (hS3.fr f hd') (hE3.fr f hd') hform hL dr (by omega) (fun e he=>(q2 e he).1) (by omega) q5 (by omega) (K:=fun r _ w''=>Fr None w' w''∧((r=((⟨none,0,0⟩:Sl),(4:Int))∧∀ now,¬ PatchOk was d.1 d.2.1 d.2.2 now)∨(r.2=0∧∃ now,PatchOk was d.1 d.2.1 d.2.2 now∧(∀ e∈now,EntFit e)∧now.length≤was.length+d.2.1.length∧∃ raws',SlT (Up w'.heap.size) w'' entT r.1 raws'∧EntsR (Up w'.heap.size) w'' raws' now)))
    (fun hn w'' g=>⟨g,.inl ⟨rfl,hn⟩⟩) fun now hp fit hlen r raws' w'' o e g=>⟨g,.inr ⟨rfl,now,hp,fit,hlen,raws',o.sl,e⟩⟩
   refine Calls.mono this ?_
   rintro e w'' ⟨rr,rfl,g,hcase⟩
   refine ⟨(Be.fr f hbC).fr g fun h=>h,rr.1,rr.2,rfl,fun w2 f2=>⟨rr,rfl,?_⟩⟩
   have fin2:=fin (f.then g.any) f2
   rcases hcase with ⟨rfl,hn⟩ | ⟨hr0,now,hp,fit,hlen,raws',hS',hE'⟩
   ·refine h0 (fun now hr=>?_) w2 fin2
    rcases hr with ⟨h,_⟩ | ⟨_,d2,L2,h2,h3⟩ | ⟨_,h,_⟩
    ·cases h
    ·rw [hdl] at h2; cases h2; exact hn now h3
    ·exact h rfl
   ·have e:rr=(rr.1,0):=Prod.ext rfl hr0
    rw [e]
    refine hk now (.inr (.inl ⟨rfl,d,L',hdl,hp⟩)) fit (by omega) rr.1 raws' w2 ((hS'.fr f2 fun k (e:w'.heap.size≤k) e2=>by omega).mono fun k _ (e:w'.heap.size≤k)=>by show w.heap.size≤k; omega) ((hE'.fr f2 fun k (e:w'.heap.size≤k) e2=>by omega).mono fun k _ (e:w'.heap.size≤k)=>by show w.heap.size≤k; omega) fin2
  ·refine .inr ⟨rfl,Be.fr f hbC,fun w2 f2=>⟨(⟨none,0,0⟩,4),rfl,h0 (fun now hr=>?_) w2 (fin f f2)⟩⟩
   rcases hr with ⟨h,_⟩ | ⟨_,d2,L2,h2,h3⟩ | ⟨_,h,_⟩
   ·cases h
   ·rw [hn] at h2; cases h2
   ·exact h rfl
 ·refine Zu7 Bh Be k1 k2 fun w2 f2=>⟨(⟨none,0,0⟩,0),rfl,?_⟩
  exact hk [] (.inr (.inr ⟨k1,k2,rfl⟩)) (fun e he=>by cases he) (by simp) ⟨none,0,0⟩ [] w2 (SlT.nil _) (EntsR.nil _ _) (fin (Fr.refl _ _) f2)
theorem RestR.uniq {k:Int} {was:List Ent} {L:List Bool} {x y:List Ent} (hf:k=2→FormOk was) (hx:RestR k was L x) (hy:RestR k was L y):x=y:=by
 rcases hx with ⟨k1,L1,h1⟩ | ⟨k2,d,L1,h1,p1⟩ | ⟨k1,k2,rfl⟩
 ·rcases hy with ⟨_,L2,h2⟩ | ⟨k2,_⟩ | ⟨k2,_⟩
  ·rw [h1] at h2; cases h2; rfl
  ·omega
  ·exact absurd k1 k2
 ·rcases hy with ⟨k1,_⟩ | ⟨_,d2,L2,h2,p2⟩ | ⟨_,k1,_⟩
  ·omega
  ·rw [h1] at h2
   cases h2
   exact Zuu (hf k2) p1.form p2.form (p1.gone.trans p2.gone.symm) (p1.come.trans p2.come.symm) (p1.chg.trans p2.chg.symm)
  ·exact absurd k2 k1
 ·rcases hy with ⟨k3,_⟩ | ⟨k3,_⟩ | ⟨_,_,rfl⟩
  ·exact absurd k3 k1
  ·exact absurd k3 k2
  ·rfl
def frameErr (l:List Int):Int:=if l.length < 4 then 2 else if 4100 < l.length then 3 else if sealF (l.take (l.length - 4))≠l then 6 else 0
theorem Zdd {l:List Int} (h:frameErr l=0):4≤l.length∧l.length≤4100∧sealF (l.take (l.length - 4))=l:=by
 unfold frameErr at h
 split at h
 ·cases h
 ·split at h
  ·cases h
  ·split at h
   ·cases h
   ·exact ⟨by omega,by omega,Classical.byContradiction (by assumption)⟩
theorem Zrw {l:List Int} (h1:4≤l.length) (h2:l.length≤4100) (h3:sealF (l.take (l.length - 4))=l):frameErr l=0:=by
 unfold frameErr
 rw [if_neg (by omega),if_neg (by omega),if_neg (fun h=>h h3)]
theorem Zbq {ok:Nat→Prop} {s:Sl} {l:List Int} (hS:SlT ok w u8T s l) (hb:BytesOk l) (hm:l.length≤140737488355000) {K:Res [.sc .sl,.sc (.int .i64)]→W R} (h0:frameErr l≠0→∀ w',Fr None w w'→K (⟨none,0,0⟩,frameErr l) Q w') (hk:frameErr l=0→∀ r w',Own (Up w.heap.size) w' 5 u8T r (l.take (l.length - 4))→Fr None w w'→K (r,0) Q w') :
  callW Tryz.prog Z70 [.slice s.a s.n s.c] [.sc .sl,.sc (.int .i64)] K Q w:=by
 refine Zlx hS hb hm (fun w' f=>⟨fun h=>?_,fun h=>?_,fun h1 h2 h3=>?_⟩) fun h1 h2 h3 r w' o f=>hk (Zrw h1 h2 h3) r w' o f
 ·have e:frameErr l=2:=by unfold frameErr; rw [if_pos h]
  have:=h0 (by rw [e]; decide) w' f
  rw [e] at this
  exact this
 ·have e:frameErr l=3:=by unfold frameErr; rw [if_neg (by omega),if_pos h]
  have:=h0 (by rw [e]; decide) w' f
  rw [e] at this
  exact this
 ·have e:frameErr l=6:=by unfold frameErr; rw [if_neg (by omega),if_neg (by omega),if_pos h3]
  have:=h0 (by rw [e]; decide) w' f
  rw [e] at this
  exact this
theorem Zjy {ok:Nat→Prop} {s:Sl} {l:List Int} (hS:SlT ok w u8T s l) (hb:BytesOk l) (hm:l.length≤140737488355000) {K:Res [.agg headT,.sc (.int .i64)]→W R} (h0:frameErr l≠0→∀ w',Fr None w w'→K ((0,0,0,0,0),frameErr l) Q w')
  (h1:frameErr l=0→headD (bitsU (l.take (l.length - 4)))=none→∀ w',Fr None w w'→K ((0,0,0,0,0),4) Q w') (hk:frameErr l=0→∀ hd L',headD (bitsU (l.take (l.length - 4)))=some (hd,L')→HeadOk hd→headE hd=0→∀ w',Fr None w w'→K (hd,0) Q w') :
  callW Tryz.prog Z7z [.slice s.a s.n s.c] [.agg headT,.sc (.int .i64)] K Q w:=by
 refine Zo2 s K Q w ?_
 unfold Zh1
 refine newI fun w1 B1 f1 z1=>Zbq (hS.fr0 f1) hb hm (fun he w2 f2=>?_) fun he r w2 o2 f2=>?_
 ·refine condT (by simpa using he) (stoAll (B1.fr f2 fun h=>h) rfl rfl fun w3 B3 f3 z3=>aggI B3 (x:=((0,0,0,0,0):Head)) rfl ?_)
  exact h0 he w3 ((f1.then0 f2).newer f3 fun k e=>by omega)
 obtain ⟨l1,l2,l3⟩:=Zdd he
 refine condF rfl ?_
 have hbt:BytesOk (l.take (l.length - 4)):=fun x hx=>hb x (List.mem_of_mem_take hx)
 have f02:=f1.then0 f2
 have B1:=B1.fr f2 fun h=>h
 have z2:=f2.size
 have tl:(l.take (l.length - 4)).length≤4096:=by rw [List.length_take]; omega
 refine Zaz o2.sl hbt (by omega) (fun hn p w3 f3=>?_) fun hd L' hh hok hE b w3 hr f3=>?_
 ·refine newI fun w4 B4 f4 z4=>newI fun w5 B5 f5 z5=>stoAll (B4.fr f5 fun h=>h) rfl rfl fun w6 B6 f6 z6=>stoAll (B5.fr f6 fun e=>by omega) rfl rfl fun w7 B7 f7 z7=>condT rfl ?_
  have g37:Fr None w3 w7:=((f4.then0 f5).newer f6 fun k e=>by omega).newer f7 fun k e=>by omega
  refine stoAll ((B1.fr f3 fun h=>h).fr g37 fun h=>h) rfl rfl fun w8 B8 f8 z8=>aggI B8 (x:=((0,0,0,0,0):Head)) rfl ?_
  exact h1 he hn w8 (((f02.then0 f3).then0 g37).newer f8 fun k e=>by omega)
 ·refine newI fun w4 B4 f4 z4=>newI fun w5 B5 f5 z5=>stoAll (B4.fr f5 fun h=>h) rfl rfl fun w6 B6 f6 z6=>stoAll (B5.fr f6 fun e=>by omega) rfl rfl fun w7 B7 f7 z7=>condF rfl ?_
  have g37:Fr None w3 w7:=((f4.then0 f5).newer f6 fun k e=>by omega).newer f7 fun k e=>by omega
  refine aggI (B6.fr f7 fun e=>by omega) (x:=hd) rfl (stoAll ((B1.fr f3 fun h=>h).fr g37 fun h=>h) rfl rfl fun w8 B8 f8 z8=>aggI B8 (x:=hd) rfl ?_)
  exact hk he hd L' hh hok hE w8 (((f02.then0 f3).then0 g37).newer f8 fun k e=>by omega)
def OpenR (l:List Int) (was:List Ent) (hd:Head) (now:List Ent):Prop:=∃ L',headD (bitsU (l.take (l.length - 4)))=some (hd,L')∧(hd.1=2→FormOk was)∧RestR hd.1 was L' now∧sealE hd was now=0∧sealB hd was now=l
theorem OpenR.uniq {l:List Int} {was:List Ent} {hd hd':Head} {now now':List Ent} (h:OpenR l was hd now) (h':OpenR l was hd' now'):hd'=hd∧now'=now:=by
 obtain ⟨L1,a1,a2,a3,_⟩:=h
 obtain ⟨L2,b1,b2,b3,_⟩:=h'
 rw [a1] at b1
 cases b1
 exact ⟨rfl,b3.uniq a2 a3⟩
theorem Zjx {ok okw:Nat→Prop} {s sw:Sl} {l:List Int} {raws:List (Int × Sl)} {was:List Ent} (hS:SlT ok w u8T s l) (hb:BytesOk l) (hm:l.length≤140737488355000) (hW:SlT okw w entT sw raws) (hE:EntsR okw w raws was) (hL:∀ e∈was,EntFit e) (hwl:was.length≤200000) {K:Res [.agg headT,.sc .sl,.sc (.int .i64)]→W R} (h0:frameErr l≠0→∀ w',Fr None w w'→K ((0,0,0,0,0),⟨none,0,0⟩,frameErr l) Q w')
  (h1:frameErr l=0→(∀ hd now,¬ OpenR l was hd now)→∀ w',Fr None w w'→K ((0,0,0,0,0),⟨none,0,0⟩,4) Q w') (hk:frameErr l=0→∀ hd now,OpenR l was hd now→HeadOk hd→(∀ e∈now,EntFit e)→now.length≤1048576→∀ r raws' w',SlT (Up w.heap.size) w' entT r raws'→EntsR (Up w.heap.size) w' raws' now→Fr None w w'→K (hd,r,0) Q w') :
  callW Tryz.prog Z7y [.slice s.a s.n s.c,.slice sw.a sw.n sw.c] [.agg headT,.sc .sl,.sc (.int .i64)] K Q w:=by
 refine Zo1 s sw K Q w ?_
 unfold Zh0
 refine newI fun w1 B1 f1 z1=>Zbq (hS.fr0 f1) hb hm (fun he w2 f2=>?_) fun he r w2 o2 f2=>?_
 ·refine condT (by simpa using he) (stoAll (B1.fr f2 fun h=>h) rfl rfl fun w3 B3 f3 z3=>aggI B3 (x:=((0,0,0,0,0):Head)) rfl ?_)
  exact h0 he w3 ((f1.then0 f2).newer f3 fun k e=>by omega)
 obtain ⟨l1,l2,l3⟩:=Zdd he
 refine condF rfl ?_
 have hbt:BytesOk (l.take (l.length - 4)):=fun x hx=>hb x (List.mem_of_mem_take hx)
 have f02:=f1.then0 f2
 have B1:=B1.fr f2 fun h=>h
 have z2:=f2.size
 have tl:(l.take (l.length - 4)).length≤4096:=by rw [List.length_take]; omega
 have bad:∀ {u:World},Fr None w u→Blk u w.heap.size 30 [.int .u8 0,.int .u8 0,.int .u32 0,.int .u32 0,.int .u32 0]→(∀ hd now,¬ OpenR l was hd now)→(stoL ⟨w.heap.size,0,none⟩ [.int .u8 0,.int .u8 0,.int .u32 0,.int .u32 0,.int .u32 0] 0 <|
   ld (.agg headT) ⟨w.heap.size,0,none⟩ fun (x:Head)=>(retW (x,(⟨none,0,0⟩:Sl),(4:Int)):W (Head × Sl × Int))) (fun r w=>K r Q w) u:=by
  intro u f B hn
  refine stoAll B rfl rfl fun w8 B8 f8 z8=>aggI B8 (x:=((0,0,0,0,0):Head)) rfl ?_
  exact h1 he hn w8 (f.newer f8 fun k e=>by omega)
 refine Zaz o2.sl hbt (by omega) (fun hn p w3 f3=>?_) fun hd L' hh hok hE0 b w3 hr f3=>?_
 ·refine newI fun w4 B4 f4 z4=>newI fun w5 B5 f5 z5=>stoAll (B4.fr f5 fun h=>h) rfl rfl fun w6 B6 f6 z6=>stoAll (B5.fr f6 fun e=>by omega) rfl rfl fun w7 B7 f7 z7=>condT rfl ?_
  have g37:Fr None w3 w7:=((f4.then0 f5).newer f6 fun k e=>by omega).newer f7 fun k e=>by omega
  exact bad ((f02.then0 f3).then0 g37) ((B1.fr f3 fun h=>h).fr g37 fun h=>h) fun hd now ⟨L',h,_⟩=>by rw [hn] at h; cases h
 refine newI fun w4 B4 f4 z4=>newI fun w5 B5 f5 z5=>stoAll (B4.fr f5 fun h=>h) rfl rfl fun w6 B6 f6 z6=>stoAll (B5.fr f6 fun e=>by omega) rfl rfl fun w7 B7 f7 z7=>condF rfl ?_
 have g37:Fr None w3 w7:=((f4.then0 f5).newer f6 fun k e=>by omega).newer f7 fun k e=>by omega
 have z3:=f3.size
 have b2:w2.heap.size≤b:=hr.1
 have b3:b < w3.heap.size:=by obtain ⟨cs,B,_⟩:=hr.blk; exact B.lt
 have hr7:RD b L' (fun k=>w2.heap.size≤k∧k < w3.heap.size) w7:=RD.st hr g37 fun k hk (e:w2.heap.size≤k)=>⟨fun h=>h,e,hk⟩
 have B67:=B6.fr f7 (show ¬ w3.heap.size=w4.heap.size by omega)
 have f07:=(f02.then0 f3).then0 g37
 have B17:=(B1.fr f3 fun h=>h).fr g37 fun h=>h
 have hW':SlT (fun k=>k < w.heap.size) w7 entT sw raws:=(hW.mono fun k hk _=>hk).fr0 f07
 have hE':EntsR (fun k=>k < w.heap.size) w7 raws was:=(hE.mono fun k hk _=>hk).fr f07 fun _ _ h=>h
 refine joinI (fun z v=>z=decide (hd.1=2∧formM 0 was≠0)∧Fr None w7 v) ?_ ?_
 ·refine fldI B67 (i:=0) (x:=hd.1) rfl (condE (fun k2=>?_) fun k2=>⟨(decide_eq_false fun h=>k2 h.1).symm,Fr.refl _ _⟩)
  refine Z6o hW' hE' (by omega) (fun e he=>(hL e he).idOk) fun w8 f8=>⟨?_,f8⟩
  by_cases hfm:formM 0 was=0
  ·rw [hfm,decide_eq_false fun h=>h.2 rfl]; rfl
  ·rw [decide_eq_true ⟨k2,hfm⟩]
   simpa using hfm
 rintro _ w8 ⟨rfl,f8⟩
 have B18:=B17.fr f8 fun h=>h
 have f08:=f07.then0 f8
 refine condD (fun hbad=>?_) fun hgood=>?_
 ·refine bad f08 B18 fun hd' now ⟨L2,h2,h3,_⟩=>?_
  rw [hh] at h2
  cases h2
  exact hbad.2 (formOk.2 (h3 hbad.1))
 have hf2:hd.1=2→FormOk was:=fun k2=>Classical.byContradiction fun h=>hgood ⟨k2,fun h2=>h (formOk.1 h2)⟩
 have B68:=B67.fr f8 fun h=>h
 have z7s:=g37.size
 have z8:=f8.size
 have ltb:∀ k,k < w.heap.size→k≠b:=fun k e e2=>by omega
 refine aggI B68 (x:=hd) rfl (aggI (B7.fr f8 fun h=>h) (x:=some ⟨b,0,none⟩) rfl ?_)
 refine Zk1 (RD.st.fr0 hr7 f8) (fun k e=>by omega) (hW'.fr0 f8) (hE'.fr f8 fun _ _ h=>h) hL hwl ltb hf2 (fun hn w9 f9=>?_) fun now hR hfit hnl r9 raws9 w9 S9 E9 f9=>?_
 ·have f09:Fr None w w9:=f08.newer f9 fun k e=>by omega
  refine condT rfl (bad f09 (B18.fr f9 fun e=>by omega) fun hd' now ⟨L2,h2,_,h4,_⟩=>?_)
  rw [hh] at h2
  cases h2
  exact hn now h4
 have f09:Fr None w w9:=f08.newer f9 fun k e=>by omega
 have B19:=B18.fr f9 (show ¬ w.heap.size=b by omega)
 have B69:=B68.fr f9 (show ¬ w3.heap.size=b by omega)
 refine condF rfl (aggI B69 (x:=hd) rfl ?_)
 have W9:=(hW'.fr0 f8).fr f9 ltb
 have WE9:=(hE'.fr f8 fun _ _ h=>h).fr f9 ltb
 have no:sealE hd was now≠0∨sealB hd was now≠l→∀ hd' now',¬ OpenR l was hd' now':=by
  rintro hne hd' now' ⟨L2,c1,c2,c3,c4,c5⟩
  rw [hh] at c1
  cases c1
  have:=RestR.uniq c2 c3 hR
  subst this
  exact hne.elim (fun h=>h c4) fun h=>h c5
 refine Zbs hok W9 WE9 S9 E9 (by omega) hnl hL hfit (fun hbad w10 f10=>?_) fun hse r10 w10 o10 f10=>?_
 ·refine joinI (fun z v=>z=true∧v=w10) (condT (by simpa using hbad) ⟨rfl,rfl⟩) ?_
  rintro z v ⟨rfl,rfl⟩
  exact condT rfl (bad (f09.then0 f10) (B19.fr f10 fun h=>h) (no (.inl hbad)))
 have hbs:BytesOk (sealB hd was now):=Zki (Zot _)
 refine joinI (fun z v=>z=!decide (sealB hd was now=l)∧v=w10) (condF rfl ?_) ?_
 ·exact Zbo o10.sl (hS.fr0 (f09.then0 f10)) hbs hb ⟨rfl,rfl⟩
 rintro z v ⟨rfl,rfl⟩
 refine condI (fun hz=>?_) fun hz=>?_
 ·have hz:sealB hd was now≠l:=by simpa using hz
  exact bad (f09.then0 f10) (B19.fr f10 fun h=>h) (no (.inr hz))
 ·have hz:sealB hd was now=l:=by simpa using hz
  refine aggI (B69.fr f10 fun h=>h) (x:=hd) rfl (stoAll (B19.fr f10 fun h=>h) rfl rfl fun w11 B11 f11 z11=>aggI B11 (x:=hd) rfl ?_)
  have f1011:Fr (fun k=>k=w.heap.size) w9 w11:=f10.any.then f11
  exact hk he hd now ⟨L',hh,hf2,hR,hse,hz⟩ hok hfit hnl r9 raws9 w11 ((S9.fr f1011 fun k (e:w8.heap.size≤k) e2=>by omega).mono fun k _ (e:w8.heap.size≤k)=>by show w.heap.size≤k; omega) ((E9.fr f1011 fun k (e:w8.heap.size≤k) e2=>by omega).mono fun k _ (e:w8.heap.size≤k)=>by show w.heap.size≤k; omega) (f09.newer f1011 fun k e=>by omega)
end Go.Proofs.YtchhhjlpnecjkaaGreat
namespace Go.Proofs.YtchhhjlpnecjkaaGreat
open Go Go.RowKit Go.Proofs.YtchhhjlpnecjkaaGreat.Den
theorem Zyq {s:WS} {n lo hi:Int} (hs:s.2=0) (h1:lo≤n) (h2:n≤hi) (h3:hi - lo≤18446744073709551615) (hl:s.1.length+(inB n lo hi).length≤1048576):inM s n lo hi=(s.1 ++ inB n lo hi,0):=by
 have hw:=Zpd h1 h2 h3
 have h64:=Z3b h3
 unfold inB at hl
 rw [Z4] at hl
 unfold inM doM putInM
 rw [if_neg (by omega),if_neg (by omega)]
 unfold putB keepM
 rw [if_neg (by omega),if_neg (by rw [Int.toNat_natCast,Nat.div_eq_of_lt hw]; simp),if_neg (by omega),if_pos hs]
 unfold inB
 rw [Int.toNat_natCast]
theorem Za0 {s:WS} {v:Nat} (hs:s.2=0) (hl:s.1.length+(varB v).length≤1048576):varM s v=(s.1 ++ varB v,0):=Zzu hs (by rw [Za1] at hl; exact hl)
theorem Ztx {h:Head} (he:headE h=0):(1≤h.1∧h.1≤5)∧h.2.1≤15:=by
 unfold headE at he
 split at he
 ·cases he
 ·omega
theorem Zxi {s:WS} {h:Head} (hok:HeadOk h) (he:headE h=0) (hs:s.2=0) (hl:s.1.length+(headB h).length≤1048576):headM s h=(s.1 ++ headB h,0):=by
 obtain ⟨hk,hc⟩:=Ztx he
 obtain ⟨_,⟨c0,_⟩,_,⟨t0,t1⟩,_⟩:=hok
 unfold headB at hl ⊢
 simp only [List.length_append] at hl
 unfold headM
 rw [Zyq hs hk.1 hk.2 (by omega) (by omega)]
 rw [Zyq rfl c0 hc (by omega) (by simp only [List.length_append]; omega)]
 rw [Za0 rfl (by simp only [List.length_append]; omega)]
 dsimp only
 by_cases k3:h.1≤3
 ·rw [if_pos k3] at hl ⊢
  rw [if_pos k3]
  rw [Z4] at hl
  rw [Zcp rfl (by omega) (by show h.2.2.2.1.toNat < 4294967296; omega) (by simp only [List.length_append]; omega)]
  by_cases k2:h.1=2
  ·rw [if_pos k2] at hl ⊢
   rw [if_pos k2,Za0 rfl (by simp only [List.length_append]; rw [Z4]; show _+32+_≤_; omega)]
   simp only [List.append_assoc]
   rfl
  ·rw [if_neg k2,if_neg k2]
   simp only [List.append_assoc,List.append_nil]
   rfl
 ·have k2:¬ h.1=2:=by omega
  rw [if_neg k3,if_neg k3,if_neg k2,if_neg k2]
  simp only [List.append_assoc,List.append_nil]
theorem Ztb {s:WS} {l:List Part} (hs:s.2=0) (hl:s.1.length+(partsB l).length≤1048576):doM s (putP s.1 l)=(s.1 ++ partsB l,0):=by
 unfold doM putP keepM
 rw [if_neg (by omega),if_pos hs]
theorem Zoi {α:Type} {f:WS→α→WS} {enc:α→List Bool} {P:α→Prop} (hf:∀ s a,P a→s.2=0→s.1.length+(enc a).length≤1048576→f s a=(s.1 ++ enc a,0)):∀ (l:List α) (s:WS),(∀ a∈l,P a)→s.2=0→s.1.length+(l.flatMap enc).length≤1048576→l.foldl f s=(s.1 ++ l.flatMap enc,0)
 | [],s,_,hs,_=>by rw [List.flatMap_nil,List.append_nil]; exact Prod.ext rfl hs
 | a :: r,s,hp,hs,hl=>by
  rw [List.flatMap_cons,List.length_append] at hl
  rw [List.foldl_cons,hf s a (hp a List.mem_cons_self) hs (by omega),Zoi hf r _ (fun x hx=>hp x (List.mem_cons_of_mem _ hx)) rfl (by simp only [List.length_append]; omega),List.flatMap_cons,List.append_assoc]
theorem Z7t {α:Type} {f:WS × Int→α→WS × Int} {enc:Int→α→List Bool} {id:α→Int} {P:α→Prop} (hf:∀ p a,P a→p.1.2=0→p.1.1.length+(enc p.2 a).length≤1048576→f p a=((p.1.1 ++ enc p.2 a,0),id a)) :
  ∀ (l:List α) (p:WS × Int),(∀ a∈l,P a)→p.1.2=0→p.1.1.length+(encs enc id p.2 l).length≤1048576→(l.foldl f p).1=(p.1.1 ++ encs enc id p.2 l,0)
 | [],p,_,hs,_=>by rw [encs,List.append_nil]; exact Prod.ext rfl hs
 | a :: r,p,hp,hs,hl=>by
  rw [encs,List.length_append] at hl
  rw [List.foldl_cons,hf p a (hp a List.mem_cons_self) hs (by omega),Z7t hf r _ (fun x hx=>hp x (List.mem_cons_of_mem _ hx)) rfl (by simp only [List.length_append]; omega),encs,List.append_assoc]
theorem Zq1 {s:WS} {l:List Comp} (hc:∀ c∈l,checkM c=0) (hs:s.2=0) (hl:s.1.length+(compsB l).length≤1048576):compsM s l=(s.1 ++ compsB l,0) :=
 Zoi (enc:=compB) (P:=fun c=>checkM c=0) (fun s a ha hs hl=>by unfold putC; rw [if_neg (by rw [ha]; simp)]; exact Ztb hs hl) l s hc hs hl
theorem Zy8 {was:List Ent} {id:Int} {s:WS} {l:List Comp} (hc:∀ c∈l,pairM (oldM was id c.1) c=0) (hs:s.2=0) (hl:s.1.length+(setsB was id l).length≤1048576):setsM was id s l=(s.1 ++ setsB was id l,0):=by
 have hf:∀ (s:WS) (a:Comp),pairM (oldM was id a.1) a=0→s.2=0→s.1.length+(stepB2 (oldM was id a.1) a).length≤1048576→doM s (putS s.1 (oldM was id a.1) a)=(s.1 ++ stepB2 (oldM was id a.1) a,0):=by
  intro s a ha hs hl
  have e:putS s.1 (oldM was id a.1) a=putP s.1 (stepP (oldM was id a.1) a):=if_neg (by rw [ha]; simp)
  rw [e]
  exact Ztb hs hl
 generalize hg:(fun (s:WS) (a:Comp)=>doM s (putS s.1 (oldM was id a.1) a))=g at *
 generalize he:(fun c:Comp=>stepB2 (oldM was id c.1) c)=enc at *
 have h1:setsM was id s l=l.foldl g s:=by rw [← hg]; rfl
 have h2:setsB was id l=l.flatMap enc:=by rw [← he]; rfl
 rw [h1,h2]
 rw [h2] at hl
 exact Zoi (f:=g) (enc:=enc) (P:=fun c=>pairM (oldM was id c.1) c=0) (fun s a ha hs hl=>by rw [← hg,← he]; rw [← he] at hl; exact hf s a ha hs hl) l s hc hs hl
theorem Zso {s:WS} {l:List Ent} (hc:∀ e∈l,maskN e.2 < 32∧∀ c∈e.2,checkM c=0) (hs:s.2=0) (hl:s.1.length+(entsB l).length≤1048576):entsW s l=(s.1 ++ entsB l,0):=by
 unfold entsB at hl ⊢
 rw [List.length_append] at hl
 unfold entsW
 rw [Za0 hs (by omega),Z7t (enc:=entB) (id:=fun e:Ent=>e.1) (P:=fun e=>maskN e.2 < 32∧∀ c∈e.2,checkM c=0) ?_ l _ hc rfl (by simp only [List.length_append]; omega)]
 ·dsimp only; rw [List.append_assoc]
 ·intro p a ha hs hl
  unfold entB idBits at hl ⊢
  simp only [List.length_append,Z4] at hl
  unfold entM
  rw [Za0 hs (by omega),Zcp rfl (by omega) (by rw [Int.toNat_natCast]; exact ha.1) (by simp only [List.length_append]; omega)]
  have t5:Int.toNat 5=5:=rfl
  rw [Zq1 ha.2 rfl (by simp only [List.length_append,Z4,t5]; omega)]
  simp only [List.append_assoc,Int.toNat_natCast,t5]
theorem Zxg {s:WS} {l:List Int} (hs:s.2=0) (hl:s.1.length+(goneB l).length≤1048576):goneW s l=(s.1 ++ goneB l,0):=by
 unfold goneB at hl ⊢
 rw [List.length_append] at hl
 unfold goneW
 rw [Za0 hs (by omega),Z7t (enc:=idBits) (id:=fun e:Int=>e) (P:=fun _=>True) ?_ l _ (fun _ _=>trivial) rfl (by simp only [List.length_append]; omega)]
 ·dsimp only; rw [List.append_assoc]
 ·intro p a _ hs hl
  unfold idBits at hl ⊢
  unfold idM
  rw [Za0 hs hl]
theorem Zx3 {was:List Ent} {s:WS} {l:List Chg} (hc:∀ d∈l,ChgTold was d) (hs:s.2=0) (hl:s.1.length+(chgsB was l).length≤1048576):chgsW was s l=(s.1 ++ chgsB was l,0):=by
 unfold chgsB at hl ⊢
 rw [List.length_append] at hl
 unfold chgsW
 rw [Za0 hs (by omega),Z7t (enc:=chgB was) (id:=fun d:Chg=>d.1) (P:=ChgTold was) ?_ l _ hc rfl (by simp only [List.length_append]; omega)]
 ·dsimp only; rw [List.append_assoc]
 ·intro p a ha hs hl
  obtain ⟨_,⟨a1,a2⟩,a3,a4,a5,a6,i,e,_,_,a7⟩:=ha
  unfold chgB idBits at hl ⊢
  simp only [List.length_append,Z4] at hl
  have t5:Int.toNat 5=5:=rfl
  unfold chgM1
  rw [Za0 hs (by omega),Zcp (v:=a.2.1) rfl (by omega) (by show a.2.1.toNat < 32; omega) (by simp only [List.length_append]; omega)]
  rw [Zcp (v:=(maskN a.2.2.1:Int)) rfl (by omega) (by rw [Int.toNat_natCast]; exact a4) (by simp only [List.length_append,Z4,t5]; omega),Zcp (v:=(maskN a.2.2.2:Int)) rfl (by omega) (by rw [Int.toNat_natCast]; exact a5) (by simp only [List.length_append,Z4,t5]; omega)]
  rw [Zq1 (fun c hc=>(a3 c hc).1) rfl (by simp only [List.length_append,Z4,t5]; omega)]
  rw [Zy8 (fun c hc=>by obtain ⟨_,q,y,_,_,_,h1,h2⟩:=a7 c hc; rw [h2]; exact h1) rfl (by simp only [List.length_append,Z4,t5]; omega)]
  simp only [List.append_assoc,Int.toNat_natCast,t5]
theorem Zu6 {h:Head} {was now:List Ent} (hok:HeadOk h) (h1:h.1=1→formM 0 now=0→now.length≤720) (h2:h.1=2→diffE was now=0→was.length≤720∧now.length≤720) (hf:formE h was now=0) (hs1:h.1=1→FormOk now) (hs2:h.1=2→FormOk was∧FormOk now) (hT:∀ d∈chgsM was now,h.1=2→ChgTold was d):(refBits h was now).length≤999000:=by
 have hb:=Zok hok
 unfold refBits
 rw [List.length_append]
 unfold formE at hf
 by_cases k1:h.1=1
 ·rw [if_pos k1] at hf ⊢
  have:=h1 k1 hf
  have:=Zka (l:=now) (by omega) fun e he=>(hs1 k1).six he
  omega
 ·rw [if_neg k1] at hf ⊢
  by_cases k2:h.1=2
  ·rw [if_pos k2] at hf ⊢
   obtain ⟨n1,n2⟩:=h2 k2 hf
   obtain ⟨_,fn⟩:=hs2 k2
   have gl:(goneM was now).length≤was.length:=by unfold goneM; rw [List.length_map]; exact List.length_filter_le _ _
   have cc:=Zl6 was now
   have g:=Zst (l:=goneM was now) (by omega)
   have c:=Zka (l:=comeM was now) (by omega) fun e he=>fn.six (List.mem_filter.1 he).1
   have d:=Zsk was (l:=chgsM was now) (by omega) fun d hd=>(hT d hd k2).six
   unfold deltaB
   simp only [List.length_append]
   omega
  ·rw [if_neg k2]
   simp
   omega
theorem Zy4 {h:Head} {was now:List Ent} (hok:HeadOk h) (hL1:∀ e∈was,EntFit e) (hL2:∀ e∈now,EntFit e) (h1:h.1=1→formM 0 now=0→now.length≤720) (h2:h.1=2→diffE was now=0→was.length≤720∧now.length≤720) :
  sealE h was now=refE h was now∧(sealE h was now=0→sealB h was now=refB h was now):=by
 by_cases he:headE h=0
 rotate_left
 ·have e1:sealE h was now=headE h:=by unfold sealE; rw [if_pos he]
  have e2:refE h was now=headE h:=by unfold refE; rw [if_pos he]
  exact ⟨by rw [e1,e2],fun h=>absurd (e1.symm.trans h) he⟩
 have hb:=Zok hok
 have hd:headM ([],0) h=(headB h,0):=by rw [Zxi hok he rfl (by simp; omega)]; rfl
 by_cases hf:formE h was now=0
 rotate_left
 ·have e2:refE h was now=formE h was now:=by unfold refE; rw [if_neg (by rw [he]; simp),if_pos hf]
  have ew:(sealW h was now).2=formE h was now:=by
   unfold sealW
   rw [hd]
   unfold formE at hf ⊢
   dsimp only
   by_cases k1:h.1=1
   ·rw [if_pos k1] at hf ⊢
    rw [if_pos k1]
    have:keepM 0 (formM 0 now)=formM 0 now:=rfl
    rw [this,if_neg hf]
   ·rw [if_neg k1] at hf ⊢
    rw [if_neg k1]
    by_cases k2:h.1=2
    ·rw [if_pos k2] at hf ⊢
     rw [if_pos k2,if_neg hf]
     rfl
    ·rw [if_neg k2] at hf ⊢
     rw [if_neg k2]
     split
     ·rfl
     ·rename_i hn
      exact absurd (if_neg hn) hf
  have e1:sealE h was now=formE h was now:=by unfold sealE; rw [if_neg (by rw [he]; simp),if_pos (by rw [ew]; exact hf),ew]
  exact ⟨by rw [e1,e2],fun h=>absurd (e1.symm.trans h) hf⟩
 have hs1:h.1=1→FormOk now:=fun k=>formOk.1 (by unfold formE at hf; rw [if_pos k] at hf; exact hf)
 have hs2:h.1=2→FormOk was∧FormOk now:=fun k=>by
  have:diffE was now=0:=by unfold formE at hf; rw [if_neg (by omega),if_pos k] at hf; exact hf
  refine ⟨formOk.1 ?_,Zic this⟩
  unfold diffE at this
  split at this
  ·exact absurd this (by assumption)
  ·rename_i hn
   exact Classical.byContradiction hn
 have hT:∀ d∈chgsM was now,h.1=2→ChgTold was d:=fun d hd k=>Zpx (hs2 k).1 (hs2 k).2 hL1 hL2 d hd
 have hle:=Zu6 hok h1 h2 hf hs1 hs2 hT
 have hW:sealW h was now=(refBits h was now,0):=by
  unfold refBits at hle ⊢
  rw [List.length_append] at hle
  unfold sealW
  rw [hd]
  unfold formE at hf
  dsimp only
  by_cases k1:h.1=1
  ·rw [if_pos k1] at hf hle ⊢
   rw [if_pos k1,hf]
   have:keepM 0 0=0:=rfl
   rw [this,if_pos rfl]
   exact Zso (fun e he=>⟨(hs1 k1).mask he fun _ hc=>hc,(Z1r.1 ((hs1 k1).list he)).1⟩) rfl (by dsimp only; omega)
  ·rw [if_neg k1] at hf hle ⊢
   rw [if_neg k1]
   by_cases k2:h.1=2
   ·rw [if_pos k2] at hf hle ⊢
    rw [if_pos k2,if_pos hf,hf]
    have:keepM 0 0=0:=rfl
    rw [this]
    unfold deltaB at hle ⊢
    simp only [List.length_append] at hle
    unfold deltaW
    obtain ⟨_,fn⟩:=hs2 k2
    rw [Zxg rfl (by dsimp only; omega)]
    rw [Zso (fun e he=>by have hm:=(List.mem_filter.1 he).1; exact ⟨fn.mask hm fun _ hc=>hc,(Z1r.1 (fn.list hm)).1⟩) rfl (by simp only [List.length_append]; omega)]
    rw [Zx3 (fun d hd=>hT d hd k2) rfl (by simp only [List.length_append]; omega)]
    simp only [List.append_assoc]
   ·rw [if_neg k2] at hf hle ⊢
    rw [if_neg k2,if_neg (by intro hn; rw [if_pos hn] at hf; cases hf),List.append_nil]
 refine ⟨?_,fun _=>by unfold sealB refB; rw [hW]⟩
 have e1:sealE h was now=if 4096 < (packM (refBits h was now)).length then 3 else 0:=by unfold sealE; rw [if_neg (by rw [he]; simp),hW,if_neg (by simp)]
 have e2:refE h was now=if 4096 < (packM (refBits h was now)).length then 3 else 0:=by unfold refE; rw [if_neg (by rw [he]; simp),if_neg (by rw [hf]; simp)]
 rw [e1,e2]
end Go.Proofs.YtchhhjlpnecjkaaGreat
namespace Go.Proofs.YtchhhjlpnecjkaaGreat
open Go Go.RowKit Go.Proofs.YtchhhjlpnecjkaaGreat.Den
variable {R:Type} {Q:R→World→Prop} {w:World}
theorem Ztc {β:Type} {f:Int→List Bool→Option (β × List Bool)} {id:β→Int}:∀ (n:Nat) (last:Int) {L:List Bool} {l:List β} {r:List Bool},repD f id n last L=some (l,r)→∀ x∈l,∃ last' L' r',f last' L'=some (x,r')
 | 0,_,L,l,r,h,x,hx=>by
  rw [repD] at h
  cases h
  cases hx
 | n+1,last,L,l,r,h,x,hx=>by
  rw [repD] at h
  cases h1:f last L with
  | none=>rw [h1] at h; cases h
  | some p =>
   obtain ⟨b,L2⟩:=p
   rw [h1] at h
   dsimp only at h
   cases h2:repD f id n (id b) L2 with
   | none=>rw [h2] at h; cases h
   | some p =>
    obtain ⟨bs,L3⟩:=p
    rw [h2] at h
    cases h
    rcases List.mem_cons.1 hx with e | e
    ·exact ⟨last,L,L2,by rw [h1,e]⟩
    ·exact Ztc n _ h2 x e
theorem Zrr {was:List Ent} {last:Int} {L:List Bool} {d:Chg} {r:List Bool} (h:chgD was last L=some (d,r)):d.2.2.2.length≤9:=by
 unfold chgD at h
 cases h1:idDec last L with
 | none=>rw [h1] at h; cases h
 | some p =>
  obtain ⟨id,L1⟩:=p
  rw [h1] at h
  dsimp only at h
  cases h2:getN 5 L1 with
  | none=>rw [h2] at h; cases h
  | some p =>
   obtain ⟨lost,L2⟩:=p
   rw [h2] at h
   dsimp only at h
   cases h3:getN 5 L2 with
   | none=>rw [h3] at h; cases h
   | some p =>
    obtain ⟨fr,L3⟩:=p
    rw [h3] at h
    dsimp only at h
    cases h4:getN 5 L3 with
    | none=>rw [h4] at h; cases h
    | some p =>
     obtain ⟨st,L4⟩:=p
     rw [h4] at h
     dsimp only at h
     cases h5:compsD (kindsOf fr) L4 with
     | none=>rw [h5] at h; cases h
     | some p =>
      obtain ⟨ns,L5⟩:=p
      rw [h5] at h
      dsimp only at h
      cases h6:setsD was id (kindsOf st) L5 with
      | none=>rw [h6] at h; cases h
      | some p =>
       obtain ⟨ss,L6⟩:=p
       rw [h6] at h
       cases h
       obtain ⟨_,c2,_⟩:=Zcw _ _ _ h6
       have hl:ss.length=(kindsOf st).length:=by rw [← c2,List.length_map]
       have:=Zld (Zb8 h4)
       show ss.length≤9
       omega
theorem Zpw {was:List Ent} {L:List Bool} {ds:List Chg} {r:List Bool} (h:chgsD was L=some (ds,r)):∀ d∈ds,d.2.2.2.length≤9:=fun d hd=>by
 unfold chgsD at h
 cases h1:getVar L with
 | none=>rw [h1] at h; cases h
 | some p =>
  rw [h1] at h
  obtain ⟨_,_,_,h2⟩:=Ztc _ _ h d hd
  exact Zrr h2
theorem Zw4 {ok:Nat→Prop} {s:Sl} {l:List Int} (hS:SlT ok w u8T s l) (hb:BytesOk l) (hm:l.length≤140737488355000) {K:Res [.sc .sl,.sc (.int .i64)]→W R} (h0:frameErr l≠0→∀ w',Fr None w w'→K (⟨none,0,0⟩,frameErr l) Q w')
  (hk:frameErr l=0→∀ r w',Own (Up w.heap.size) w' 5 u8T r (l.take (l.length - 4))→Fr None w w'→K (r,0) Q w') :
  callW Tryz.prog Z1j [.slice s.a s.n s.c] [.sc .sl,.sc (.int .i64)] K Q w:=by
 refine Zjr hS hb hm (fun w' f=>⟨fun h=>?_,fun h=>?_,fun h1 h2 h3=>?_⟩) fun h1 h2 h3 r w' o f=>hk ?_ r w' o f
 ·have e:frameErr l=2:=by unfold frameErr; rw [if_pos h]
  have:=h0 (by rw [e]; decide) w' f
  rwa [e] at this
 ·have e:frameErr l=3:=by unfold frameErr; rw [if_neg (by omega),if_pos h]
  have:=h0 (by rw [e]; decide) w' f
  rwa [e] at this
 ·have e:frameErr l=6:=by unfold frameErr; rw [if_neg (by omega),if_neg (by omega),if_pos h3]
  have:=h0 (by rw [e]; decide) w' f
  rwa [e] at this
 ·unfold frameErr; rw [if_neg (by omega),if_neg (by omega),if_neg (fun h=>h h3)]
theorem Zwf {ok:Nat→Prop} {s:Sl} {l:List Int} (hS:SlT ok w u8T s l) (hb:BytesOk l) (hm:l.length≤131072) {K:Addr→W R} (hk:∀ b w',w.heap.size≤b→Src w' b (bitsU l) false→Fr None w w'→K ⟨b,0,none⟩ Q w') :
  (callW Tryz.prog Z1h [.slice s.a s.n s.c] [.sc .sl] fun (x_4:Sl)=>newW 73 [.slice x_4.a x_4.n x_4.c,.bool false] K:W R) Q w:=by
 refine Zjq hS hb (by omega) fun r w1 o1 f1=>newI fun w2 B f2 z2=>?_
 have z1:=f1.size
 refine hk _ w2 (by omega) ⟨⟨r,B,(o1.sl.mono fun k hk _=>hk).fr0 f2⟩,?_⟩ (f1.then0 f2)
 have:=Z5j l
 omega
theorem Zhr {ok:Nat→Prop} {s:Sl} {l:List Int} (hS:SlT ok w u8T s l) (hb:BytesOk l) (hm:l.length≤140737488355000) {K:Res [.agg headT,.sc (.int .i64)]→W R} (h0:frameErr l≠0→∀ w',Fr None w w'→K ((0,0,0,0,0),frameErr l) Q w')
  (h1:frameErr l=0→headD (bitsU (l.take (l.length - 4)))=none→∀ w',Fr None w w'→K ((0,0,0,0,0),4) Q w') (hk:frameErr l=0→∀ hd L',headD (bitsU (l.take (l.length - 4)))=some (hd,L')→HeadOk hd→∀ w',Fr None w w'→K (hd,0) Q w') :
  callW Tryz.prog Z23 [.slice s.a s.n s.c] [.agg headT,.sc (.int .i64)] K Q w:=by
 refine Zff s K Q w ?_
 unfold Z8t
 refine newI fun w1 X f1 z1=>Zw4 (hS.fr0 f1) hb hm (fun he w2 f2=>?_) fun he r w2 o2 f2=>?_
 ·refine condT (by simpa using he) (stoAll (X.fr f2 fun h=>h) rfl rfl fun w3 X3 f3 z3=>aggI X3 (x:=((0,0,0,0,0):Head)) rfl ?_)
  exact h0 he w3 ((f1.then0 f2).newer f3 fun k e=>by omega)
 obtain ⟨l1,l2,l3⟩:=Zdd he
 have tl:(l.take (l.length - 4)).length≤4096:=by rw [List.length_take]; omega
 refine condF rfl (Zwf o2.sl (fun x hx=>hb x (List.mem_of_mem_take hx)) (by omega) fun b w3 hb3 hs3 f3=>?_)
 have f12:=f2.then0 f3
 have f03:=f1.then0 f12
 have s12:=f2.size
 have X3:=X.fr f12 fun h=>h
 refine Zhw hs3 fun hd L' bad w4 hok hs4 f4 d=>?_
 have X4:=X3.fr f4 fun e=>by omega
 have f04:Fr None w w4:=f03.newer f4 fun k e=>by omega
 have s4:=f4.size
 have s3:=f3.size
 refine newI fun w5 H1 f5 z5=>stoAll H1 rfl rfl fun w6 H f6 z6=>?_
 have f46:Fr None w4 w6:=f5.newer f6 fun k e=>by omega
 have X6:=X4.fr f46 fun h=>h
 refine Z79 (hs4.fr0 f46) (condI (fun hbad=>?_) fun hbad=>?_)
 ·refine stoAll X6 rfl rfl fun w7 X7 f7 z7=>aggI X7 (x:=((0,0,0,0,0):Head)) rfl ?_
  refine h1 he ?_ w7 ((f04.then0 f46).newer f7 fun k e=>by omega)
  rcases d.2 hbad with q | q
  ·cases q
  ·exact q
 ·refine aggI H (x:=hd) rfl (stoAll X6 rfl rfl fun w7 X7 f7 z7=>aggI X7 (x:=hd) rfl ?_)
  exact hk he hd L' (d.1 hbad).2 hok w7 ((f04.then0 f46).newer f7 fun k e=>by omega)
end Go.Proofs.YtchhhjlpnecjkaaGreat
namespace Go.Proofs.YtchhhjlpnecjkaaGreat
open Go Go.RowKit Go.Proofs.YtchhhjlpnecjkaaGreat.Den
variable {R:Type} {Q:R→World→Prop} {w:World}
theorem hT_le {k:Int} {L r:List Bool} {t:Nat} (h:hT k L=some (t,r)):r.length≤L.length:=by
 unfold hT at h
 split at h
 ·exact Zb7 h
 ·cases h; exact Nat.le_refl _
theorem hB_le {k:Int} {t:Nat} {L r:List Bool} {x:Int} (h:hB k t L=some (x,r)):r.length≤L.length:=by
 unfold hB at h
 split at h
 ·cases hg:getVar L with
  | none=>rw [hg] at h; cases h
  | some p =>
   obtain ⟨v,L1⟩:=p
   rw [hg] at h
   dsimp only at h
   have:=Za2 16 0 0 hg
   split at h
   ·cases h
   ·cases h; omega
 ·cases h; exact Nat.le_refl _
theorem Zva {L r:List Bool} {hd:Head} (h:headD L=some (hd,r)):r.length≤L.length:=by
 rw [Zsv] at h
 cases h1:getIn 1 5 L with
 | none=>rw [h1] at h; cases h
 | some p =>
 obtain ⟨k,L1⟩:=p
 rw [h1] at h
 dsimp only at h
 have l1:=Zke h1
 unfold hR0 at h
 cases h2:getN 4 L1 with
 | none=>rw [h2] at h; cases h
 | some p =>
 obtain ⟨c,L2⟩:=p
 rw [h2] at h
 dsimp only at h
 have l2:=Zb7 h2
 unfold hR1 at h
 cases h3:getVar L2 with
 | none=>rw [h3] at h; cases h
 | some p =>
 obtain ⟨e,L3⟩:=p
 rw [h3] at h
 dsimp only at h
 have l3:=Za2 16 0 0 h3
 unfold hR2 at h
 cases h4:hT k L3 with
 | none=>rw [h4] at h; cases h
 | some p =>
 obtain ⟨t,L4⟩:=p
 rw [h4] at h
 dsimp only at h
 have l4:=hT_le h4
 unfold hR3 at h
 cases h5:hB k t L4 with
 | none=>rw [h5] at h; cases h
 | some p =>
 obtain ⟨x,L5⟩:=p
 rw [h5] at h
 dsimp only at h
 have l5:=hB_le h5
 split at h
 ·cases h; omega
 ·cases h
theorem Zp6 {ok okw:Nat→Prop} {s sw:Sl} {l:List Int} {raws:List (Int × Sl)} {was:List Ent} (hS:SlT ok w u8T s l) (hb:BytesOk l) (hm:l.length≤404) (hW:SlT okw w entT sw raws) (hE:EntsR okw w raws was) (hL:∀ e∈was,EntFit e) (hwl:was.length≤400) {K:Res [.agg headT,.sc .sl,.sc (.int .i64)]→W R} (h0:frameErr l≠0→∀ w',Fr None w w'→K ((0,0,0,0,0),⟨none,0,0⟩,frameErr l) Q w')
  (h1:frameErr l=0→(∀ hd now,¬ OpenR l was hd now)→∀ w',Fr None w w'→K ((0,0,0,0,0),⟨none,0,0⟩,4) Q w') (hk:frameErr l=0→∀ hd now,OpenR l was hd now→HeadOk hd→(∀ e∈now,EntFit e)→now.length≤720→∀ r raws' w',SlT (Up w.heap.size) w' entT r raws'→EntsR (Up w.heap.size) w' raws' now→Fr None w w'→K (hd,r,0) Q w') :
  callW Tryz.prog Z35 [.slice s.a s.n s.c,.slice sw.a sw.n sw.c] [.agg headT,.sc .sl,.sc (.int .i64)] K Q w:=by
 refine Zfe s sw K Q w ?_
 unfold Z8s
 have hWo:SlT (fun k=>k < w.heap.size) w entT sw raws:=hW.mono fun k hk _=>hk
 have hEo:EntsR (fun k=>k < w.heap.size) w raws was:=hE.mono fun k hk _=>hk
 refine newI fun w1 X f1 z1=>?_
 have bad:∀ {u:World} {e:Int},Fr None w u→Blk u w.heap.size 30 [.int .u8 0,.int .u8 0,.int .u32 0,.int .u32 0,.int .u32 0]→(∀ w',Fr None w w'→K ((0,0,0,0,0),⟨none,0,0⟩,e) Q w')→(stoL ⟨w.heap.size,0,none⟩ [.int .u8 0,.int .u8 0,.int .u32 0,.int .u32 0,.int .u32 0] 0 <|
   ld (.agg headT) ⟨w.heap.size,0,none⟩ fun (x:Head)=>(retW (x,(⟨none,0,0⟩:Sl),e):W (Head × Sl × Int))) (fun r w=>K r Q w) u:=by
  intro u e f B hh
  refine stoAll B rfl rfl fun w8 B8 f8 z8=>aggI B8 (x:=((0,0,0,0,0):Head)) rfl ?_
  exact hh w8 (f.newer f8 fun k e=>by omega)
 refine Zhr (hS.fr0 f1) hb (by omega) (fun he w2 f2=>?_) (fun he hn w2 f2=>?_) fun he hd L' hh hok w2 f2=>?_
 ·refine newI fun w3 H1 f3 z3=>stoAll H1 rfl rfl fun w4 H f4 z4=>condT (by simpa using he) ?_
  have g:Fr None w1 w4:=(f2.then0 f3).newer f4 fun k e=>by have:=f2.size; omega
  exact bad (f1.then0 g) (X.fr g fun h=>h) (h0 he)
 ·refine newI fun w3 H1 f3 z3=>stoAll H1 rfl rfl fun w4 H f4 z4=>condT rfl ?_
  have g:Fr None w1 w4:=(f2.then0 f3).newer f4 fun k e=>by have:=f2.size; omega
  exact bad (f1.then0 g) (X.fr g fun h=>h) (h1 he fun hd now ⟨L',h,_⟩=>by rw [hn] at h; cases h)
 have none4:(∀ now,¬ ((hd.1=2→FormOk was)∧RestR hd.1 was L' now))→∀ hd now,¬ OpenR l was hd now:=fun hno hd' now' ⟨L2,c1,c2,c3,_⟩=>by
  rw [hh] at c1
  cases c1
  exact hno now' ⟨c2,c3⟩
 refine newI fun w3 H1 f3 z3=>stoAll H1 rfl rfl fun w4 H f4 z4=>condF rfl ?_
 have s2:=f2.size
 have g14:Fr None w1 w4:=(f2.then0 f3).newer f4 fun k e=>by omega
 have f04:=f1.then0 g14
 have X4:=X.fr g14 fun h=>h
 refine Zw4 (hS.fr0 f04) hb (by omega) (fun hn w5 f5=>absurd he hn) fun _ r5 w5 o5 f5=>?_
 obtain ⟨l1,l2,l3⟩:=Zdd he
 have tl:(l.take (l.length - 4)).length≤400:=by rw [List.length_take]; omega
 refine Zwf o5.sl (fun x hx=>hb x (List.mem_of_mem_take hx)) (by omega) fun b w6 hb6 hs6 f6=>?_
 have hb4:w4.heap.size≤b:=by have:=f5.size; omega
 have f46:=f5.then0 f6
 have f06:=f04.then0 f46
 have hbl:=hs6.lt
 refine Zhw hs6 fun hd2 L2 bad2 w7 hok2 hs7 f7 d=>?_
 have hb2:bad2=false:=by
  cases hq:bad2 with
  | false=>rfl
  | true =>
   rcases d.2 hq with q | q
   ·cases q
   ·rw [hh] at q; cases q
 subst hb2
 have hq:=(d.1 rfl).2
 rw [hh] at hq
 cases hq
 have hbits:L'.length≤3200:=by
  have e:=Z5j (l.take (l.length - 4))
  have:=Zva hh
  omega
 have f07:Fr None w w7:=f06.newer f7 fun k e=>by have:=f04.size; omega
 have X7:=(X4.fr f46 fun h=>h).fr f7 fun e=>by omega
 have H7:=(H.fr f46 fun h=>h).fr f7 fun e=>by omega
 have s06:=f06.size
 have s7:=f7.size
 have hSw:SlT (fun k=>k < b) w7 entT sw raws:=(hWo.mono fun k _ e=>by omega).fr0 f07
 have hEw:EntsR (fun k=>k < b) w7 raws was:=(hEo.mono fun k _ e=>by omega).fr f07 fun _ _ h=>h
 refine fldI H7 (i:=0) (x:=hd.1) rfl ?_
 refine joinI (fun z u=>Fr None w u∧Blk u w.heap.size 30 [.int .u8 0,.int .u8 0,.int .u32 0,.int .u32 0,.int .u32 0]∧Blk u w2.heap.size 30 (headC hd)∧∃ (L5:List Bool) (bad':Bool),Src u b L5 bad'∧(bad'=true→∀ now,¬ ((hd.1=2→FormOk was)∧RestR hd.1 was L' now)) ∧
   (bad'=false→∃ now raws',(hd.1=2→FormOk was)∧RestR hd.1 was L' now∧(∀ e∈now,EntFit e)∧now.length≤720∧SlT (Up w2.heap.size) u entT z raws'∧EntsR (Up w2.heap.size) u raws' now)) ?_ ?_
 ·refine condE (fun k1=>?_) fun k1=>?_
  ·refine Zhv hs7 fun r rs es L5 bad' u o E hs5 k5 d5=>?_
   refine ⟨f07.newer k5 fun k e=>by omega,X7.fr k5 fun e=>by omega,H7.fr k5 fun e=>by omega,L5,bad',hs5,fun hbt now ⟨_,hr⟩=>?_,fun hbf=>?_⟩
   ·rcases d5.2 hbt with q | q
    ·cases q
    ·rcases hr with ⟨_,L9,h9⟩ | ⟨k2,_⟩ | ⟨k2,_⟩
     ·rw [q] at h9; cases h9
     ·omega
     ·exact k2 k1
   ·have hes:=(d5.1 hbf).2
    obtain ⟨q1,q2⟩:=Zog hes
    exact ⟨es,rs,fun h=>by omega,.inl ⟨k1,L5,hes⟩,fun e he=>(q1 e he).1,by omega,o.sl.mono fun k _ (e:w7.heap.size≤k)=>by show w2.heap.size≤k; omega,E.mono fun k _ e=>by show w2.heap.size≤k; have:=e.1; omega⟩
  ·refine joinI (fun z u=>Fr None w u∧Blk u w.heap.size 30 [.int .u8 0,.int .u8 0,.int .u32 0,.int .u32 0,.int .u32 0]∧Blk u w2.heap.size 30 (headC hd)∧∃ (L5:List Bool) (bad':Bool),Src u b L5 bad'∧(bad'=true→∀ now,¬ ((hd.1=2→FormOk was)∧RestR hd.1 was L' now)) ∧
    (bad'=false→∃ now raws',(hd.1=2→FormOk was)∧RestR hd.1 was L' now∧(∀ e∈now,EntFit e)∧now.length≤720∧SlT (Up w2.heap.size) u entT z raws'∧EntsR (Up w2.heap.size) u raws' now)) ?_ fun z u h=>h
   refine condE (fun k2=>?_) fun k2=>?_
   rotate_left
   ·exact ⟨f07,X7,H7,L',false,hs7,(fun h=>by cases h),fun _=>⟨[],[],fun h=>absurd h k2,.inr (.inr ⟨k1,k2,rfl⟩),(fun e h=>by cases h),by simp,SlT.nil _,EntsR.nil _ _⟩⟩
   refine Z5x hSw hEw (by omega) (fun e he=>⟨(hL e he).1,by have:=(hL e he).2.1; omega,(hL e he).2.2⟩) fun w8 f8=>?_
   rw [← Zap was 0 true fun _=>rfl]
   refine condN (fun hbad=>?_) fun hform=>?_
   ·exact bad (f07.then0 f8) (X7.fr f8 fun h=>h) (h1 he (none4 fun now ⟨hf,_⟩=>hbad (formOk.2 (hf k2))))
   have hform:FormOk was:=formOk.1 hform
   refine newI fun w9 D f9 z9=>?_
   have f79:=f8.then0 f9
   have s8:=f8.size
   have hs9:=hs7.fr0 f79
   have bw:=hs7.lt
   refine Zyb hs9 (db:=w8.heap.size) (s1:=⟨none,0,0⟩) (s2:=⟨none,0,0⟩) D (by omega) fun u1 t1 gone L3 bad3 o1 hs1 D1 k1' dg=>?_
   have y1:=k1'.size
   refine Zhv hs1 fun t2 rs2 come L4 bad4 u2 o2 E2 hs2 k2' dc=>?_
   have y2:=k2'.size
   refine setA (D1.fr k2' fun e=>by omega) (by simp) rfl fun u3 D3 k3' y3=>?_
   have hs3:Src u3 b L4 bad4:=hs2.fr k3' fun k e e2=>by omega
   have ltS:∀ k,k < b→¬ (k=b∨k=w8.heap.size):=fun k h e=>by omega
   have k93:Fr (fun k=>k=b∨k=w8.heap.size) w9 u3:=(k1'.then (k2'.sub fun k e=>.inl e)).then (k3'.sub fun k e=>.inr e)
   refine Zya hs3 D3 (by omega) ((hSw.fr0 f79).fr k93 ltS) ((hEw.fr f79 fun _ _ h=>h).fr k93 ltS) hL (by omega) hform fun u4 t4 rs4 chg L5 bad5 A4 hs4 D4 k4' dd1 dd2=>?_
   have y4:=k4'.size
   have k94:=k93.then k4'
   have f9n:Fr None w w9:=f07.then0 f79
   have f04':Fr None w u4:=f9n.newer k94 fun k e=>by omega
   have X4':=(X7.fr f79 fun h=>h).fr k94 fun e=>by omega
   have H4':=(H7.fr f79 fun h=>h).fr k94 fun e=>by omega
   refine Z79 hs4 (condI (fun hbt=>?_) fun hbf=>?_)
   ·refine bad f04' X4' (h1 he (none4 fun now ⟨_,hr⟩=>?_))
    rcases hr with ⟨q,_⟩ | ⟨_,dl,L9,h9,hp⟩ | ⟨_,q,_⟩
    ·exact k1 q
    ·unfold deltaD at h9
     cases h3:bad3 with
     | true =>
      rcases dg.2 h3 with q | q
      ·cases q
      ·rw [q] at h9; cases h9
     | false =>
      rw [(dg.1 h3).2] at h9
      dsimp only at h9
      cases h4:bad4 with
      | true =>
       rcases dc.2 h4 with q | q
       ·rw [h3] at q; cases q
       ·rw [q] at h9; cases h9
      | false =>
       rw [(dc.1 h4).2] at h9
       dsimp only at h9
       rcases dd2 hbt with q | q
       ·rw [h4] at q; cases q
       ·cases hcs:chgsD was L4 with
        | none=>rw [hcs] at h9; cases h9
        | some p =>
         obtain ⟨ds,r9⟩:=p
         rw [hcs] at h9
         cases h9
         obtain ⟨dx,hdx,hnx⟩:=q _ _ hcs
         exact hnx (Zx0 hp dx hdx)
    ·exact q k2
   ·obtain ⟨q4,p4⟩:=dd1 hbf
    obtain ⟨q3,p3⟩:=dc.1 q4
    obtain ⟨_,p2⟩:=dg.1 q3
    have hdl:deltaD was L'=some ((gone,come,chg),L5):=by
     unfold deltaD
     rw [p2]
     dsimp only
     rw [p3]
     dsimp only
     rw [p4]
    obtain ⟨m1,m2,m3,m4,m5⟩:=Zq2 hL hdl
    dsimp only at m1 m2 m3 m4 m5
    obtain ⟨oA,eA⟩:=A4
    have nb:∀ {k:Nat},w9.heap.size≤k→¬ (k=b∨k=w8.heap.size):=fun h e=>by omega
    have hD:DltR (fun _=>True) u4 (t1,t2,t4) gone come chg:=by
     have k14:Fr (fun k=>k=b∨k=w8.heap.size) u1 u4:=((k2'.sub fun k e=>.inl e).then (k3'.sub fun k e=>.inr e)).then k4'
     have k24:Fr (fun k=>k=b∨k=w8.heap.size) u2 u4:=(k3'.sub fun k e=>.inr e).then k4'
     refine ⟨(o1.fr k14 fun k (e:w9.heap.size≤k)=>nb e).sl.mono fun _ _ _=>trivial,⟨rs2,(o2.fr k24 fun k (e:u1.heap.size≤k)=>nb (by omega)).sl.mono fun _ _ _=>trivial,(E2.fr k24 fun k e=>nb (by have:=e.1; omega)).mono fun _ _ _=>trivial⟩,⟨rs4,oA.sl.mono fun _ _ _=>trivial,eA.imp fun a c ⟨g1,g2,g3,g4⟩=>⟨g1,g2,g3.mono fun _ _ _=>trivial,g4.mono fun _ _ _=>trivial⟩⟩⟩
    have hSu:=((hSw.fr0 f79).fr k94 ltS)
    have hEu:=((hEw.fr f79 fun _ _ h=>h).fr k94 ltS)
    have sl2:=Zpw p4
    have z4:=f04'.size
    refine aggI D4 (x:=((t1,t2,t4):DRaw)) rfl ?_
    have fin:∀ {e:Int} {r:Sl} {u5:World},Fr None u4 u5→(e≠0→∀ now,¬ ((hd.1=2→FormOk was)∧RestR hd.1 was L' now))→(e=0→∃ now raws',(hd.1=2→FormOk was)∧RestR hd.1 was L' now∧(∀ e∈now,EntFit e)∧now.length≤720∧SlT (Up u4.heap.size) u5 entT r raws'∧EntsR (Up u4.heap.size) u5 raws' now) →
      ∀ {R':Type} {Q':R'→World→Prop},(stoL (Addr.add ⟨b,0,none⟩ 1) [.bool (e != 0)] 0 (fun _ u=>Fr None w u∧Blk u w.heap.size 30 [.int .u8 0,.int .u8 0,.int .u32 0,.int .u32 0,.int .u32 0]∧Blk u w2.heap.size 30 (headC hd)∧∃ (L5:List Bool) (bad':Bool),Src u b L5 bad'∧(bad'=true→∀ now,¬ ((hd.1=2→FormOk was)∧RestR hd.1 was L' now)) ∧
       (bad'=false→∃ now raws',(hd.1=2→FormOk was)∧RestR hd.1 was L' now∧(∀ e∈now,EntFit e)∧now.length≤720∧SlT (Up w2.heap.size) u entT r raws'∧EntsR (Up w2.heap.size) u raws' now):W R')) Q' u5:=by
     intro e r u5 f hne heq R' Q'
     refine Z3j (hs4.fr0 f) fun u6 hs6 f6 _=>⟨(f04'.then0 f).newer f6 fun k e=>by omega,(X4'.fr f fun h=>h).fr f6 fun e=>by omega,(H4'.fr f fun h=>h).fr f6 fun e=>by omega,L5,_,hs6,fun h=>hne (by simpa using h),fun h=>?_⟩
     obtain ⟨now,rr,c1,c2,c3,c4,c5,c6⟩:=heq (by simpa using h)
     exact ⟨now,rr,c1,c2,c3,c4,(c5.fr f6 fun k (e:u4.heap.size≤k) e2=>by omega).mono fun k _ (e:u4.heap.size≤k)=>by show w2.heap.size≤k; omega,(c6.fr f6 fun k (e:u4.heap.size≤k) e2=>by omega).mono fun k _ (e:u4.heap.size≤k)=>by show w2.heap.size≤k; omega⟩
    refine Zmw hSu hEu hform hL hD (by omega) (fun e he=>(m2 e he).1) (by omega) (fun x hx=>⟨m5 x hx,sl2 x hx⟩) (by omega) (fun hno u5 f5=>?_) fun now hp fit hlen r rr u5 o E f5=>?_
    ·refine fin (e:=4) f5 (fun _ now ⟨_,hr⟩=>?_) fun h=>by cases h
     rcases hr with ⟨q,_⟩ | ⟨_,dl,L9,h9,hp⟩ | ⟨_,q,_⟩
     ·exact k1 q
     ·rw [hdl] at h9; cases h9; exact hno now hp
     ·exact q k2
    ·refine fin (e:=0) f5 (fun h=>absurd rfl h) fun _=>⟨now,rr,fun _=>hform,.inr (.inl ⟨k2,_,_,hdl,hp⟩),fit,by omega,o.sl,E⟩
 rintro z u ⟨fu,Xu,Hu,L5,bad',hsu,hbt,hbf⟩
 refine Z79 hsu (condI (fun hb'=>bad fu Xu (h1 he (none4 (hbt hb')))) fun hb'=>?_)
 obtain ⟨now,rr,hfm,hR,fit,hlen,Sz,Ez⟩:=hbf hb'
 have few1:hd.1=1→formM 0 now=0→now.length≤720:=fun _ _=>hlen
 have few2:hd.1=2→diffE was now=0→was.length≤720∧now.length≤720:=fun _ _=>⟨by omega,hlen⟩
 obtain ⟨sr1,sr2⟩:=Zy4 hok hL fit few1 few2
 have no:sealE hd was now≠0∨sealB hd was now≠l→∀ hd' now',¬ OpenR l was hd' now':=by
  rintro hne hd' now' ⟨L2,c1,c2,c3,c4,c5⟩
  rw [hh] at c1
  cases c1
  have:=RestR.uniq c2 c3 hR
  subst this
  exact hne.elim (fun h=>h c4) fun h=>h c5
 refine aggI Hu (x:=hd) rfl (Zp7 hok (hWo.fr0 fu) (hEo.fr fu fun _ _ h=>h) Sz Ez (by omega) (by omega) hL fit few1 few2 (fun hbad u2 g2=>?_) fun hgood p u2 o2 g2=>?_)
 ·refine joinI (fun q v=>q=true∧v=u2) (condT (by simpa using hbad) ⟨rfl,rfl⟩) ?_
  rintro q v ⟨rfl,rfl⟩
  exact condT rfl (bad (fu.then0 g2) (Xu.fr g2 fun h=>h) (h1 he (no (.inl (by rw [sr1]; exact hbad)))))
 ·have hse:sealE hd was now=0:=sr1.trans hgood
  have esb:=sr2 hse
  rw [← esb] at o2
  refine joinI (fun q v=>q=(!decide (sealB hd was now=l))∧Fr None u2 v) (condF rfl ?_) ?_
  ·exact Z9z o2.sl (hS.fr0 (fu.then0 g2)) (Zki (Zot _)) hb ⟨rfl,Fr.refl _ _⟩
  rintro q v ⟨rfl,gv⟩
  have g2v:=g2.then0 gv
  refine condI (fun hq=>bad (fu.then0 g2v) (Xu.fr g2v fun h=>h) (h1 he (no (.inr fun e=>by rw [decide_eq_true e] at hq; cases hq)))) fun hq=>?_
  have hq:sealB hd was now=l:=by simpa using hq
  refine aggI (Hu.fr g2v fun h=>h) (x:=hd) rfl (stoAll (Xu.fr g2v fun h=>h) rfl rfl fun v2 X2 k2 y2=>aggI X2 (x:=hd) rfl ?_)
  have k02:Fr None w v2:=(fu.then0 g2v).newer k2 fun k e=>by omega
  have szu:=fu.size
  refine hk he hd now ⟨L',hh,hfm,hR,hse,hq⟩ hok fit hlen z rr v2 ?_ ?_ k02
  ·exact ((Sz.fr0 g2v).fr k2 fun k (e:w2.heap.size≤k) e2=>by omega).mono fun k _ (e:w2.heap.size≤k)=>by show w.heap.size≤k; omega
  ·exact ((Ez.fr g2v fun _ _ h=>h).fr k2 fun k (e:w2.heap.size≤k) e2=>by omega).mono fun k _ (e:w2.heap.size≤k)=>by show w.heap.size≤k; omega
end Go.Proofs.YtchhhjlpnecjkaaGreat
namespace Go.Proofs.YtchhhjlpnecjkaaGreat
open Go Go.RowKit Go.ChangeShapes Go.WideShapes Go.ChangeAt Go.Proofs.YtchhhjlpnecjkaaGreat.Den
variable {R:Type} {Q:R→World→Prop} {w:World} {H:Type} {enc:TypeId × Value→H}
theorem Zv1:∀ (L:List Ent) (n:Int),0≤n→n+((L.map fun e=>e.2.length).sum:Nat)≤1000000000→L.foldl (fun n e=>IntKind.wrap .i64 (n+(e.2.length:Int))) n=n+((L.map fun e=>e.2.length).sum:Nat)
 | [],n,_,_=>by simp
 | e :: r,n,h0,h=>by
  simp only [List.map_cons,List.sum_cons] at h ⊢
  rw [List.foldl_cons,w64 (by omega),Zv1 r _ (by omega) (by omega)]
  omega
theorem Z107 {W:World} {raws:List (Int × Sl)} {L:List Ent} (hE:All2 (EntIn W) raws L) (hb:(raws.map fun r=>r.2.n+1).sum≤1048576) (hf:fewM L≤400):L.length≤400:=by
 have hs:∀ (raws:List (Int × Sl)) (L:List Ent),All2 (EntIn W) raws L→(L.map fun e=>e.2.length).sum+L.length=(raws.map fun r=>r.2.n+1).sum:=by
  intro raws
  induction raws with
  | nil =>
   intro L h
   have:=h.len
   have:L=[]:=List.length_eq_zero_iff.1 (by simpa using this.symm)
   subst this
   rfl
  | cons r raws ih =>
   intro L h
   obtain ⟨e,L0,rfl,he,h0⟩:=h.inv
   have:=ih L0 h0
   have hn:r.2.n=e.2.length:=he.sl.len
   simp only [List.map_cons,List.sum_cons,List.length_cons]
   omega
 have h1:=hs raws L hE
 unfold fewM at hf
 rw [Zv1 L _ (by omega) (by omega)] at hf
 omega
def OpenAns (l:List Int) (was:List Ent) (hd:Head) (now:List Ent) (e:Int):Prop :=
 (frameErr l≠0∧hd=(0,0,0,0,0)∧now=[]∧e=frameErr l)∨(frameErr l=0∧(∀ hd now,¬ OpenR l was hd now)∧hd=(0,0,0,0,0)∧now=[]∧e=4)∨(frameErr l=0∧OpenR l was hd now∧e=0)
theorem OpenAns.uniq {l:List Int} {was:List Ent} {hd hd':Head} {now now':List Ent} {e e':Int} (h:OpenAns l was hd now e) (h':OpenAns l was hd' now' e'):hd'=hd∧now'=now∧e'=e:=by
 rcases h with ⟨a1,rfl,rfl,rfl⟩ | ⟨a1,a2,rfl,rfl,rfl⟩ | ⟨a1,a2,rfl⟩
 ·rcases h' with ⟨b1,rfl,rfl,rfl⟩ | ⟨b1,_⟩ | ⟨b1,_⟩
  ·exact ⟨rfl,rfl,rfl⟩
  ·exact absurd b1 a1
  ·exact absurd b1 a1
 ·rcases h' with ⟨b1,_⟩ | ⟨b1,b2,rfl,rfl,rfl⟩ | ⟨b1,b2,_⟩
  ·exact absurd a1 b1
  ·exact ⟨rfl,rfl,rfl⟩
  ·exact absurd b2 (a2 _ _)
 ·rcases h' with ⟨b1,_⟩ | ⟨b1,b2,_⟩ | ⟨b1,b2,rfl⟩
  ·exact absurd a1 b1
  ·exact absurd a2 (b2 _ _)
  ·obtain ⟨c1,c2⟩:=a2.uniq b2
   exact ⟨c1,c2,rfl⟩
theorem Zll {ok okw:Nat→Prop} {s sw:Sl} {l:List Int} {raws:List (Int × Sl)} {was:List Ent} (hS:SlT ok w u8T s l) (hb:BytesOk l) (hm:l.length≤404) (hW:SlT okw w entT sw raws) (hE:EntsR okw w raws was) (hL:∀ e∈was,EntFit e) (hwl:was.length≤400) {K:Res [.agg headT,.sc .sl,.sc (.int .i64)]→W R}
  (hk:∀ hd now e r raws' w',OpenAns l was hd now e→(∀ e∈now,EntFit e)→now.length≤1048576→SlT (Up w.heap.size) w' entT r raws'→EntsR (Up w.heap.size) w' raws' now→Fr None w w'→K (hd,r,e) Q w') :
  callW Tryz.prog Z7y [.slice s.a s.n s.c,.slice sw.a sw.n sw.c] [.agg headT,.sc .sl,.sc (.int .i64)] K Q w :=
 Zjx hS hb (by omega) hW hE hL (by omega) (fun he w' f=>hk _ [] _ _ [] w' (.inl ⟨he,rfl,rfl,rfl⟩) (fun e h=>by cases h) (by simp) (SlT.nil _) (EntsR.nil _ _) f)
  (fun he hn w' f=>hk _ [] _ _ [] w' (.inr (.inl ⟨he,hn,rfl,rfl,rfl⟩)) (fun e h=>by cases h) (by simp) (SlT.nil _) (EntsR.nil _ _) f)
  fun he hd now hr _ fit hl r raws' w' S E f=>hk hd now 0 r raws' w' (.inr (.inr ⟨he,hr,rfl⟩)) fit hl S E f
theorem Zqo {ok okw:Nat→Prop} {s sw:Sl} {l:List Int} {raws:List (Int × Sl)} {was:List Ent} (hS:SlT ok w u8T s l) (hb:BytesOk l) (hm:l.length≤404) (hW:SlT okw w entT sw raws) (hE:EntsR okw w raws was) (hL:∀ e∈was,EntFit e) (hwl:was.length≤400) {K:Res [.agg headT,.sc .sl,.sc (.int .i64)]→W R}
  (hk:∀ hd now e r raws' w',OpenAns l was hd now e→SlT (Up w.heap.size) w' entT r raws'→EntsR (Up w.heap.size) w' raws' now→Fr None w w'→K (hd,r,e) Q w') :
  callW Tryz.prog Z35 [.slice s.a s.n s.c,.slice sw.a sw.n sw.c] [.agg headT,.sc .sl,.sc (.int .i64)] K Q w :=
 Zp6 hS hb hm hW hE hL hwl (fun he w' f=>hk _ [] _ _ [] w' (.inl ⟨he,rfl,rfl,rfl⟩) (SlT.nil _) (EntsR.nil _ _) f)
  (fun he hn w' f=>hk _ [] _ _ [] w' (.inr (.inl ⟨he,hn,rfl,rfl,rfl⟩)) (SlT.nil _) (EntsR.nil _ _) f)
  fun he hd now hr _ _ _ r raws' w' S E f=>hk hd now 0 r raws' w' (.inr (.inr ⟨he,hr,rfl⟩)) S E f
end Go.Proofs.YtchhhjlpnecjkaaGreat
namespace Go.Proofs.YtchhhjlpnecjkaaGreat
open Go Go.RowKit Go.ChangeShapes Go.WideShapes Go.ChangeAt Go.Proofs.YtchhhjlpnecjkaaGreat.Den
variable {R:Type} {Q:R→World→Prop} {w:World} {H:Type} {enc:TypeId × Value→H}
theorem Own.resize {S:Nat→Prop} {E:TypeId} {t:Ty} {r:Sl} {l:List t.T} (h:Den.Own S w E t r l) {n m sz:Nat} (hm:m≤l.length) {hi:Int} (hh:hi=(m:Int)) {K:Sl→W R} (hk:K ⟨r.a,m,r.c⟩ Q w):slcW r.a n r.c sz none (some hi) K Q w:=by
 subst hh
 have hl:=h.len
 have hc:=h.cap
 refine chkI (by simp only [Option.getD_some,Option.getD_none]; omega) ?_
 simp only [Option.getD_some,Option.getD_none,Int.toNat_natCast,Int.toNat_zero,Nat.sub_zero,Nat.zero_mul]
 have e:(if r.c=0 then r.a else r.a.map (·.add 0))=r.a:=by
  split
  ·rfl
  ·rcases h.cases with ⟨rfl,_⟩ | ⟨g,c,cur,rfl,_⟩
   ·rfl
   ·simp [add_lit]
 rw [e]
 exact hk
theorem drawI {K:Den.W R} (h:K Q w.drew):drawW K Q w:=h
theorem bothI {X Y:Den.W R} (h1:X Q w) (h2:Y Q w):bothW X Y Q w:=⟨h1,h2⟩
def PeekAns (l:List Int) (hd:Head) (e:Int):Prop :=
 (frameErr l≠0∧hd=(0,0,0,0,0)∧e=frameErr l)∨(frameErr l=0∧headD (bitsU (l.take (l.length - 4)))=none∧hd=(0,0,0,0,0)∧e=4)∨(frameErr l=0∧(∃ L',headD (bitsU (l.take (l.length - 4)))=some (hd,L'))∧e=0)
theorem PeekAns.uniq {l:List Int} {hd hd':Head} {e e':Int} (h:PeekAns l hd e) (h':PeekAns l hd' e'):hd'=hd∧e'=e:=by
 rcases h with ⟨a1,rfl,rfl⟩ | ⟨a1,a2,rfl,rfl⟩ | ⟨a1,⟨L,a2⟩,rfl⟩
 ·rcases h' with ⟨b1,rfl,rfl⟩ | ⟨b1,_⟩ | ⟨b1,_⟩
  ·exact ⟨rfl,rfl⟩
  ·exact absurd b1 a1
  ·exact absurd b1 a1
 ·rcases h' with ⟨b1,_⟩ | ⟨b1,b2,rfl,rfl⟩ | ⟨b1,⟨L2,b2⟩,_⟩
  ·exact absurd a1 b1
  ·exact ⟨rfl,rfl⟩
  ·rw [a2] at b2; cases b2
 ·rcases h' with ⟨b1,_⟩ | ⟨b1,b2,_⟩ | ⟨b1,⟨L2,b2⟩,rfl⟩
  ·exact absurd a1 b1
  ·rw [a2] at b2; cases b2
  ·rw [a2] at b2; cases b2; exact ⟨rfl,rfl⟩
theorem Zlm {ok:Nat→Prop} {s:Sl} {l:List Int} (hS:SlT ok w u8T s l) (hb:BytesOk l) (hm:l.length≤404) {K:Res [.agg headT,.sc (.int .i64)]→W R} (hk:∀ hd e w',PeekAns l hd e→Fr None w w'→K (hd,e) Q w') :
  callW Tryz.prog Z7z [.slice s.a s.n s.c] [.agg headT,.sc (.int .i64)] K Q w :=
 Zjy hS hb (by omega) (fun he w' f=>hk _ _ w' (.inl ⟨he,rfl,rfl⟩) f) (fun he hn w' f=>hk _ _ w' (.inr (.inl ⟨he,hn,rfl,rfl⟩)) f) fun he hd L' h _ _ w' f=>hk hd 0 w' (.inr (.inr ⟨he,⟨L',h⟩,rfl⟩)) f
theorem Zqp {ok:Nat→Prop} {s:Sl} {l:List Int} (hS:SlT ok w u8T s l) (hb:BytesOk l) (hm:l.length≤404) {K:Res [.agg headT,.sc (.int .i64)]→W R} (hk:∀ hd e w',PeekAns l hd e→Fr None w w'→K (hd,e) Q w') :
  callW Tryz.prog Z23 [.slice s.a s.n s.c] [.agg headT,.sc (.int .i64)] K Q w :=
 Zhr hS hb (by omega) (fun he w' f=>hk _ _ w' (.inl ⟨he,rfl,rfl⟩) f) (fun he hn w' f=>hk _ _ w' (.inr (.inl ⟨he,hn,rfl,rfl⟩)) f) fun he hd L' h _ w' f=>hk hd 0 w' (.inr (.inr ⟨he,⟨L',h⟩,rfl⟩)) f
theorem Zs3 {n0:Nat} (hn:n0≤w.heap.size) {b:Nat} (hb:n0≤b) (B:Blk w b 5 []) {ok:Nat→Prop} {s:Sl} {l:List Int} (hS:SlT ok w u8T s l) (hm:l.length≤400) {K:Sl→W R}
  (hk:∀ r w',Den.Own (fun k=>k=b∨w.heap.size≤k) w' 5 u8T r l→Fr (fun k=>k=b) w w'→K r Q w'):rawW Tryz.prog (Builtin.append_ #[22,22] 22 #[.slice (some ⟨b,0,none⟩) 0 0,.slice s.a s.n s.c]) [.sc .sl] K Q w:=by
 have o:Den.Own (fun k=>k=b) w 5 u8T ⟨some ⟨b,0,none⟩,0,0⟩ []:=Den.Own.mk' (l:=[]) (c:=0) (cur:=#[]) rfl B (Nat.le_refl _) (Nat.zero_le _) rfl rfl
 exact appI (S':=fun k=>k=b∨w.heap.size≤k) Z3r o hS (by simp; omega) (by rw [Zm]; simp; omega) (fun k e=>.inl e) (.inr (Nat.le_refl _)) fun r w' o' f _=>hk r w' o' (f.mono fun k _ e=>by simp [Sl.v,Value.ownBlock] at e; exact e.symm)
def PoI (w0:World) (l:List Int) (z:Sl) (v:World):Prop:=Den.Own (Up w0.heap.size) v 5 u8T z (l ++ [165])∧Fr None w0 v
theorem Zxz {w0:World} (hf:Fr None w0 w) {ok:Nat→Prop} {s:Sl} {l:List Int} (hS:SlT ok w u8T s l) (hm:l.length≤400) {K:Sl→W R} (hk:∀ r w',PoI w0 l r w'→K r Q w') :
  newW 5 [] (fun a=>rawW Tryz.prog (Builtin.append_ #[22,22] 22 #[.slice (some a) 0 0,.slice s.a s.n s.c]) [.sc .sl] fun (r:Sl) =>
   newW 5 [.int .u8 165] fun b=>rawW Tryz.prog (Builtin.append_ #[22,22] 22 #[.slice r.a r.n r.c,.slice (some b) 1 1]) [.sc .sl] K) Q w:=by
 have z0:=hf.size
 refine newI fun w1 B1 f1 z1=>Zs3 (n0:=w0.heap.size) (by omega) z0 B1 (hS.fr0 f1) hm fun r w2 o2 f2=>newI fun w3 B3 f3 z3=>?_
 have z2:=f2.size
 have f01:=hf.then0 f1
 have f02:Fr None w0 w2:=f01.newer f2 fun k e=>by omega
 have f03:=f02.then0 f3
 refine app1 (S':=Up w0.heap.size) Z3r (o2.none f3) B3 rfl (by omega) (by rw [Zm]; omega) (fun k e=>by show w0.heap.size≤k; omega) (by show w0.heap.size≤_; omega) fun r4 w4 o4 f4 _=>?_
 exact hk r4 w4 ⟨o4,f03.newer f4 fun k e=>by have:=o2.own k e; omega⟩
theorem Zw2 {w0:World} (hf:Fr None w0 w) {ok:Nat→Prop} {s:Sl} {l:List Int} (hS:SlT ok w u8T s l) (hm:l.length≤400) {K:Sl→W R} (hk:∀ r w',PoI w0 l r w'→K r Q w') :
  newW 5 [] (fun a=>newW 5 [.int .u8 165] fun b=>rawW Tryz.prog (Builtin.append_ #[22,22] 22 #[.slice (some a) 0 0,.slice s.a s.n s.c]) [.sc .sl] fun (r:Sl) =>
   rawW Tryz.prog (Builtin.append_ #[22,22] 22 #[.slice r.a r.n r.c,.slice (some b) 1 1]) [.sc .sl] K) Q w:=by
 have z0:=hf.size
 refine newI fun w1 B1 f1 z1=>newI fun w3 B3 f3 z3=>Zs3 (n0:=w0.heap.size) (by omega) z0 (B1.fr f3 fun h=>h) ((hS.fr0 f1).fr0 f3) hm fun r w2 o2 f2=>?_
 have z2:=f2.size
 have f03:=(hf.then0 f1).then0 f3
 have f02:Fr None w0 w2:=f03.newer f2 fun k e=>by omega
 refine app1 (S':=Up w0.heap.size) Z3r o2 (B3.fr f2 fun e=>by omega) rfl (by omega) (by rw [Zm]; omega) (fun k e=>by show w0.heap.size≤k; omega) (by show w0.heap.size≤_; omega) fun r4 w4 o4 f4 _=>?_
 exact hk r4 w4 ⟨o4,f02.newer f4 fun k e=>by have:=o2.own k e; omega⟩
theorem Zw3 {w0:World} (hf:Fr None w0 w) {ok:Nat→Prop} {s:Sl} {l:List Int} (hS:SlT ok w u8T s l) (hm:l.length≤400) {K:Sl→W R} (hk:∀ r w',PoI w0 l r w'→K r Q w') :
  newW 5 [.int .u8 165] (fun b=>newW 5 [] fun a=>rawW Tryz.prog (Builtin.append_ #[22,22] 22 #[.slice (some a) 0 0,.slice s.a s.n s.c]) [.sc .sl] fun (r:Sl) =>
   rawW Tryz.prog (Builtin.append_ #[22,22] 22 #[.slice r.a r.n r.c,.slice (some b) 1 1]) [.sc .sl] K) Q w:=by
 have z0:=hf.size
 refine newI fun w3 B3 f3 z3=>newI fun w1 B1 f1 z1=>Zs3 (n0:=w0.heap.size) (by omega) (by omega) B1 ((hS.fr0 f3).fr0 f1) hm fun r w2 o2 f2=>?_
 have z2:=f2.size
 have f03:=(hf.then0 f3).then0 f1
 have f02:Fr None w0 w2:=f03.newer f2 fun k e=>by omega
 refine app1 (S':=Up w0.heap.size) Z3r o2 ((B3.fr f1 fun h=>h).fr f2 fun e=>by omega) rfl (by omega) (by rw [Zm]; omega) (fun k e=>by show w0.heap.size≤k; omega) (by show w0.heap.size≤_; omega) fun r4 w4 o4 f4 _=>?_
 exact hk r4 w4 ⟨o4,f02.newer f4 fun k e=>by have:=o2.own k e; omega⟩
theorem Zlf {W:World} {sb:Sl} {l:List Int} (hB:SlT (Old W) W u8T sb l) (hbo:∀ c∈l,0≤c∧c≤255) (_c0:sb.c≤maxLen) {sw:Sl} {raws:List (Int × Sl)} {was:List Ent} (hS:SlT (Old W) W entT sw raws) (hE:All2 (EntIn W) raws was) (_c1:sw.c≤maxLen) (hm1:(raws.map fun r=>r.2.n+1).sum≤1048576) :
  Calls Tryz.prog 6 #[.slice sb.a sb.n sb.c,.slice sw.a sw.n sw.c] W (fun e w'=>e=.returned (.bool true)∧Fr None W w'):=by
 refine Zwy (Z97 sb sw _ _ W ?_)
 unfold Z4f
 obtain ⟨n1,t1⟩:=EntIn.fit hE hm1
 have hbn:=hB.len
 refine Zmv fun w1 f1=>condF rfl (Zqt (hS.fr0 f1) (EntIn.later hE f1) (by omega) fun w2 f2=>?_)
 have f02:=f1.then0 f2
 refine condI (fun _=>⟨rfl,f02⟩) fun hfew=>?_
 have hfew:fewM was≤400:=by simpa using hfew
 have hw4:=Z107 hE hm1 hfew
 obtain ⟨q,hq⟩:∃ q,q=min 400 l.length:=⟨_,rfl⟩
 refine (hB.fr0 f02).cutI (n:=q) (by rw [hbn]; split <;> omega) (by omega) fun s3 _ hs3=>?_
 have hb3:BytesOk (l.take q):=fun x hx=>hbo x (List.mem_of_mem_take hx)
 have hl3:(l.take q).length≤400:=by rw [List.length_take]; omega
 have S3:SlT (Old W) W u8T s3 (l.take q):=hs3 _ _ hB
 generalize l.take q=pl at hb3 hl3 S3
 have hn3:=S3.len
 have S32:=S3.fr0 f02
 have fd:Fr None w2 w2.drew:=(Fr.refl _ _).drew
 refine joinI (fun (z:Sl × Sl) v=>∃ r raws',PoI w2 pl r v∧z.1=⟨r.a,pl.length,r.c⟩∧Den.Own (Up w2.heap.size) v 57 entT z.2 raws'∧EntsR (Up w2.heap.size) v raws' was) ?_ ?_
 ·have fin:∀ {r:Sl} {v:World} {K:Sl→Sl→Den.W Bool} {Q':Bool→World→Prop},PoI w2 pl r v→(∀ r4 raws4 w4,PoI w2 pl r w4→Den.Own (Up w2.heap.size) w4 57 entT r4 raws4→EntsR (Up w2.heap.size) w4 raws4 was→K ⟨r.a,pl.length,r.c⟩ r4 Q' w4) →
    slcW r.a r.n r.c 1 none (some (s3.n:Int)) (fun x=>callW Tryz.prog Z0 [.slice sw.a sw.n sw.c] [.sc .sl] fun (y:Sl)=>K x y) Q' v:=fun {r v K Q'} hI hk=>by
   obtain ⟨o,f⟩:=hI
   have f0:=f02.then0 f
   have z:=f.size
   refine Own.resize o (m:=pl.length) (by simp) (by rw [hn3]) (Zad (hS.fr0 f0) (EntIn.later hE f0) n1 (fun e he=>(t1 e he).2.1) fun r4 raws4 w4 o4 E4 f4=>?_)
   exact hk r4 raws4 w4 ⟨o.none f4,f.then0 f4⟩ (o4.mono fun k _ e=>by show w2.heap.size≤k; exact Nat.le_trans z e) (E4.mono fun k _ e=>Nat.le_trans z e)
  have fin2:∀ {r:Sl} {v:World} {K:Sl→Sl→Den.W Bool} {Q':Bool→World→Prop},PoI w2 pl r v→(∀ r4 raws4 w4,PoI w2 pl r w4→Den.Own (Up w2.heap.size) w4 57 entT r4 raws4→EntsR (Up w2.heap.size) w4 raws4 was→K ⟨r.a,pl.length,r.c⟩ r4 Q' w4) →
    callW Tryz.prog Z0 [.slice sw.a sw.n sw.c] [.sc .sl] (fun (y:Sl)=>slcW r.a r.n r.c 1 none (some (s3.n:Int)) fun x=>K x y) Q' v:=fun {r v K Q'} hI hk=>by
   obtain ⟨o,f⟩:=hI
   have f0:=f02.then0 f
   have z:=f.size
   refine Zad (hS.fr0 f0) (EntIn.later hE f0) n1 (fun e he=>(t1 e he).2.1) fun r4 raws4 w4 o4 E4 f4=>Own.resize (o.none f4) (m:=pl.length) (by simp) (by rw [hn3]) ?_
   exact hk r4 raws4 w4 ⟨o.none f4,f.then0 f4⟩ (o4.mono fun k _ e=>by show w2.heap.size≤k; exact Nat.le_trans z e) (E4.mono fun k _ e=>Nat.le_trans z e)
  have S3d:=S32.fr0 fd
  refine drawI ?_
  repeat' with_reducible refine bothI ?_ ?_
  all_goals with_reducible first
   | refine Zxz fd S3d hl3 fun r v hI=>?_
   | refine Zw2 fd S3d hl3 fun r v hI=>?_
   | refine Zw3 fd S3d hl3 fun r v hI=>?_
  all_goals first
   | exact fin hI fun r4 raws4 w4 a b c=>⟨_,_,a,rfl,b,c⟩
   | exact fin2 hI fun r4 raws4 w4 a b c=>⟨_,_,a,rfl,b,c⟩
 rintro ⟨q0,a0⟩ w3 ⟨r,raws',⟨o3,f3⟩,hq0,oa,Ea⟩
 dsimp only at hq0 oa Ea ⊢
 subst hq0
 have f03:=f02.then0 f3
 have hq3:SlT (Up w2.heap.size) w3 u8T ⟨r.a,pl.length,r.c⟩ pl:=by
  have:=(o3.take (n:=pl.length) (by simp)).sl
  rw [List.take_left] at this
  exact this
 refine Zlm hq3 hb3 (by omega) fun h1 e1 w4 a4 f4=>?_
 refine newI fun w5 B5 f5 z5=>stoAll B5 rfl rfl fun w6 B6 f6 z6=>?_
 have f36:=f4.then0 (f5.newer f6 fun k e=>by omega)
 have f06:=f03.then0 f36
 refine Zqp (S3.fr0 f06) hb3 (by omega) fun h2 e2 w7 a7 f7=>?_
 obtain ⟨e3,e4⟩:=a4.uniq a7
 subst e3
 subst e4
 refine newI fun w8 B8 f8 z8=>stoAll B8 rfl rfl fun w9 B9 f9 z9=>?_
 have f69:=f7.then0 (f8.newer f9 fun k e=>by omega)
 have f39:=f36.then0 f69
 refine Zll (hq3.fr0 f39) hb3 (by omega) (oa.sl.fr0 f39) (Ea.fr f39 fun _ _ h=>h) t1 hw4 fun y1 l1 g1 r10 raws10 w10 a10 fit hnl S10 E10 f10=>?_
 refine newI fun w11 B11 f11 z11=>stoAll B11 rfl rfl fun w12 B12 f12 z12=>?_
 have f1012:Fr None w10 w12:=f11.newer f12 fun k e=>by omega
 have f912:=f10.then0 f1012
 have f312:=f39.then0 f912
 have f012:=f03.then0 f312
 refine Zqo (S3.fr0 f012) hb3 (by omega) (hS.fr0 f012) (EntIn.later hE f012) t1 hw4 fun y2 l2 g2 r13 raws13 w13 a13 S13 E13 f13=>?_
 obtain ⟨e5,e6,e7⟩:=a10.uniq a13
 subst e5
 subst e6
 subst e7
 refine newI fun w14 B14 f14 z14=>stoAll B14 rfl rfl fun w15 B15 f15 z15=>?_
 have f1315:Fr None w13 w15:=f14.newer f15 fun k e=>by omega
 have f1215:=f13.then0 f1315
 have f915:=f912.then0 f1215
 have f315:=f312.then0 f1215
 have f015:=f012.then0 f1215
 refine joinI (fun z v=>z=true∧Fr None W v) ?_ fun z v ⟨hz,hv⟩=>by subst hz; exact ⟨rfl,hv⟩
 refine aggI (((B6.fr f69 fun h=>h).fr f915 fun h=>h)) (x:=h2) rfl (aggI (B9.fr f915 fun h=>h) (x:=h2) rfl (eqlI Zsp (Zsr h2 h2) (condT (by simp) (condT (by simp) ?_))))
 refine aggI (B12.fr f1215 fun h=>h) (x:=y2) rfl (aggI B15 (x:=y2) rfl (eqlI Zsp (Zsr y2 y2) (condT (by simp) (condT (by simp) ?_))))
 refine Z6d ((S10.fr0 f1012).fr0 f1215) ((E10.fr f1012 fun _ _ h=>h).fr f1215 fun _ _ h=>h) (S13.fr0 f1315) (E13.fr f1315 fun _ _ h=>h) hnl (fun e he=>(fit e he).2.1) fun w16 f16=>condT (by simp) ?_
 have f316:=f315.then0 f16
 have f016:=f015.then0 f16
 refine Z9z (hq3.fr0 f316) (S3.fr0 f016) hb3 hb3 (condT (by simp) ?_)
 have o16:=o3.none f316
 have hlen:(pl ++ [165]:List Int).length=pl.length+1:=by simp
 refine Own.resize o16 (m:=pl.length+1) (by omega) (by rw [hn3,w64 (by omega)]; rfl) ?_
 have er:(⟨r.a,pl.length+1,r.c⟩:Sl)=r:=by
  have:=o16.len
  rw [← hlen,← this]
 rw [er]
 refine o16.sl.get (j:=pl.length) rfl (by rw [hn3]) (by omega) fun x hx=>?_
 rw [List.getElem?_append_right (Nat.le_refl _),Nat.sub_self] at hx
 cases hx
 refine condT rfl ?_
 refine Z6d (oa.sl.fr0 f316) (Ea.fr f316 fun _ _ h=>h) (hS.fr0 f016) (EntIn.later hE f016) n1 (fun e he=>(t1 e he).2.1) fun v7 k7=>⟨by simp,f016.then0 k7⟩
end Go.Proofs.YtchhhjlpnecjkaaGreat
namespace Go.Proofs.YtchhhjlpnecjkaaGreat
open Go Go.RowKit Go.ChangeShapes Go.WideShapes Go.ChangeAt Go.Proofs.YtchhhjlpnecjkaaGreat.Den
variable {R:Type} {Q:R→World→Prop} {w:World} {H:Type} {enc:TypeId × Value→H}
set_option maxRecDepth 100000 in
theorem Zhi (os:Os) (started:os.Started) (H:Type) (enc:TypeId × Value→H) (F:Stop.Interp) :
  ReturnsInHanded {} Tryz.checked os 6 .any ((Rows.OpenSpec.upto Rows.packetOpensSpec).pre6 enc Tryz.prog Tryz.f6 Rows.packetOpensUptoRow.domain false) (((Rows.OpenSpec.upto Rows.packetOpensSpec).at F).post enc Tryz.prog Tryz.f6 false true false false):=by
 refine returnsInHanded_of_cond (C:=Tryz.checked) (s:=Rows.OpenSpec.upto Rows.packetOpensSpec) (k:=Rows.uptoSmall) rfl Zxw started (by kernel_rfl) Tryz.func6
  (OpenSpec.witness (enc:=enc) (C:=Tryz.checked) (s:=Rows.OpenSpec.upto Rows.packetOpensSpec) (k:=Rows.uptoSmall) rfl false ⟨#[],#[.slice none 0 0,.slice none 0 0],[]⟩ 8 (by kernel_rfl) (by kernel_rfl) (by kernel_rfl)
   (x:=([.nil,.nil],[],[])) (by kernel_rfl) rfl (by kernel_rfl)) ?_
 intro W base args ds gs before hval0 hW _ hk _
 have hval:∀ (j:Nat) t v,Tryz.f6.params[j]?=some t→args[j]?=some v→Value.okWide Tryz.prog W .any base t v:=hval0
 have hW':=hW
 obtain ⟨p,q,hA0,hV,rfl,hfz,hnd⟩:=hW
 have hA:DataW.TrodAll enc Tryz.prog W 0 (fun _=>true) true Tryz.f6.params.toList args.toList ds p:=hA0
 rw [Tryz.params6] at hA hval
 obtain ⟨v0,v1,d0,d1,p0,p1,rfl,rfl,rfl,h0,h1⟩:=trodAll_two hA
 have hb:Rows.uptoBulkAll ([d0,d1] ++ gs)≤1048576:=of_decide_eq_true hk
 simp only [List.cons_append,Rows.uptoBulkAll] at hb
 obtain ⟨s0,l0,rfl,S0,c0,e0⟩:=Zps Zul (hval 0 _ v0 rfl rfl) h0
 obtain ⟨s1,l1,rfl,S1,c1,e1⟩:=Zps Zx9 (hval 1 _ v1 rfl rfl) h1
 obtain ⟨L1,O1⟩:=Zzb fun r hr=>e1 r hr
 have b1:=(Zuz h1 rfl S1)
 have b1k:Rows.uptoBulk d1≤1048576:=by omega
 refine (Zlf S0 (fun c hc=>Zz3 (e0 c hc)) c0 S1 O1 c1 (Nat.le_trans b1 b1k)).mono fun e W' ⟨he,hf⟩=>?_
 subst he
 exact ⟨_,rfl,Zxm (s:=Rows.packetOpensSpec) Zsy Zwx (by kernel_rfl) (by rw [Tryz.params6]; decide +kernel) rfl ⟨rfl,rfl,rfl⟩ hW' hf⟩
set_option maxHeartbeats 4000000 in
theorem packetOpens_holds:Rows.PacketOpensUptoSaid :=
 OpenClaim.holds_of_cond 6 Tryz.f6 rfl rfl rfl rfl rfl rfl rfl ⟨rfl,rfl,rfl,rfl,rfl⟩ rfl rfl rfl rfl rfl (by kernel_rfl) Tryz.func6
  (by unfold joinedFacts; repeat' (with_reducible refine band ?_ ?_)
      all_goals first | with_reducible exact Zsy | with_reducible exact Zu0 | with_reducible exact Zvl | (as_aux_lemma=>kernel_rfl))
  (of_decide_eq_true (by kernel_rfl)) (by unfold Func.isWrapper; first | (rw [if_pos (by decide +kernel)]; kernel_rfl) | (rw [if_neg (by decide +kernel)]; exact ⟨rfl,rfl⟩))
  (fun os started H enc _ F=>Zhi os started H enc F)
end Go.Proofs.YtchhhjlpnecjkaaGreat
