/-
  What the proof of packetBodies_holds leans on, laid together by a program of this session (wip/pack.py) out of its own texts; the last of these texts holds packetBodies_holds.
-/
import Derived.Test.YtchhhjlpnecjkaaGreatB5
set_option linter.unusedVariables false
namespace Go.Proofs.YtchhhjlpnecjkaaGreat
open Go Go.RowKit Go.Proofs.YtchhhjlpnecjkaaGreat.Den
variable {R:Type} {Q:R→World→Prop} {w:World}
theorem Zfg {n:Nat} {L r:List Bool} {v:Nat} (h:getN n L=some (v,r)):r.length≤L.length:=by
 unfold getN at h
 split at h
 ·cases h; rw [List.length_drop]; omega
 ·cases h
theorem Zrr {lo hi:Int} {L r:List Bool} {v:Int} (h:getIn lo hi L=some (v,r)):r.length≤L.length:=by
 unfold getIn at h
 cases hg:getN (widthM lo hi) L with
 | none=>rw [hg] at h; cases h
 | some p =>
  rw [hg] at h
  dsimp only at h
  split at h
  ·cases h; exact Zfg hg
  ·cases h
theorem Zt3 {n j:Nat} (hj:j < n):List.range n=List.range j ++ (j :: List.range' (j+1) (n - j - 1)):=by
 have:n=j+((n - j - 1)+1):=by omega
 rw [this,List.range_eq_range',List.range_eq_range',← List.range'_append_1,Nat.zero_add,List.range'_succ]
 congr 4
 omega
theorem Z11b {ok:Nat→Prop} {s:Sl} {L:List Bool} (hS:SlT ok w boolT s L) (hm:L.length≤1048576) {k:Int} (hk0:0≤k) {K:Res [.agg [.int .u8,.int .i32,.int .i32,.int .i32],.sc .sl,.sc (.int .i64)]→W R} (h0:compD k L=none→∀ e w',e≠0→Fr None w w'→K ((0,0,0,0),s,e) Q w')
  (hk:∀ c L' r w',compD k L=some (c,L')→L'.length≤L.length→SlT ok w' boolT r L'→Fr None w w'→K (c,r,0) Q w'):callW Tryz.prog Z8n [.slice s.a s.n s.c,.int .u8 k] [.agg [.int .u8,.int .i32,.int .i32,.int .i32],.sc .sl,.sc (.int .i64)] K Q w:=by
 refine Zn3 s k K Q w ?_
 unfold Z8b
 have hcn:=Z5j k
 have hS2:SlT (fun k=>ok k∧k < w.heap.size) w boolT s L:=hS.mono fun k hk h=>⟨h,hk⟩
 refine newI fun w1 Bx f1 z1=>Z48 hk0 fun w2 f2=>?_
 have Bx:=Bx.fr f2 fun h=>h
 have f02:=f1.then0 f2
 have s2:=f2.size
 refine condE (fun hz=>?_) fun hz=>?_
 ·refine stoAll Bx rfl rfl fun w3 B3 f3 y3=>aggI B3 (x:=((0,0,0,0):Comp)) rfl ?_
  exact h0 (by unfold compD; rw [if_pos (by omega)]) 1 w3 (by decide) (f02.newer f3 fun k e=>by omega)
 have hD:compD k L=match readF k (List.range (cntM k)) L with
   | none=>none
   | some (vs,r)=>some (mkC k vs,r):=by unfold compD; rw [if_neg (by omega)] <;> rfl
 refine newI fun w3 C1 f3 y3=>stoAll C1 rfl rfl fun w4 C f4 y4=>?_
 have f24:Fr None w2 w4:=f3.newer f4 fun k e=>by omega
 refine Z48 hk0 fun w5 f5=>?_
 have f25:=f24.then0 f5
 have f05:=f02.then0 f25
 refine forI (N:=cntM k) (fun s:Sl × Int=>s.2) (fun j st u=>st.2=(j:Int)∧(∃ vs L',vs.length=j∧readF k (List.range j) L=some (vs,L')∧Blk u w2.heap.size 92 (compC (mkC k vs))∧SlT (fun k=>ok k∧k < w.heap.size) u boolT st.1 L'∧L'.length≤L.length)∧Fr None w u∧Blk u w.heap.size 92 (compC (0,0,0,0)))
  ⟨rfl,⟨[],L,rfl,rfl,C.fr f5 fun h=>h,hS2.fr0 f05,Nat.le_refl _⟩,f05,Bx.fr f25 fun h=>h⟩ (fun j s w' h=>h.1) ?_ ?_
 ·rintro j ⟨t,_⟩ u K' hj ⟨rfl,⟨vs,L',hvl,hrd,Cu,tS,hle⟩,fu,Bu⟩ - hK
  obtain ⟨r1,r2⟩:=Z1p k (j:Int)
  refine Z8x hk0 fun u2 g2=>?_
  rw [w64 (x:=(rangeM k (j:Int)).1) (by omega),w64 (x:=(rangeM k (j:Int)).2.1) (by omega)]
  refine Zft (tS.fr0 g2) (by omega) (by omega) (Zrt k hj) (by omega) (fun hn e u3 he g3=>?_) fun v L2 r u3 hg v1 v2 hr g3=>?_
  ·have hnone:compD k L=none:=by
    rw [hD,Zt3 hj,Zhl,hrd]
    dsimp only
    rw [readF,hn]
   have g23:=g2.then0 g3
   refine condT (by simpa using he) (stoAll (Bu.fr g23 fun h=>h) rfl rfl fun u4 B4 g4 y4=>aggI B4 (x:=((0,0,0,0):Comp)) rfl ?_)
   exact h0 hnone e u4 he ((fu.then0 g23).newer g4 fun k e=>by omega)
  ·have g23:=g2.then0 g3
   refine condF rfl (fIdx rfl (by omega) ?_)
   rw [w32 (x:=v) (by omega)]
   refine setI (i:=1+j) (Cu.fr g23 fun h=>h) (by simp; omega) rfl fun u4 B4 g4 y4=>?_
   subst hvl
   rw [Z121 (by omega)] at B4
   have s02:=f02.size
   have fu3:=fu.then0 g23
   have f4':Fr None w u4:=fu3.newer g4 fun k e=>by omega
   refine hK _ _ ⟨wsucc hj (by omega),⟨vs ++ [v],L2,by simp,?_,B4,hr.fr g4 fun k e (e2:k=w2.heap.size)=>by omega,by have:=Zrr hg; omega⟩,f4',(Bu.fr g23 fun h=>h).fr g4 fun e=>by omega⟩
   rw [List.range_succ,Zhl,hrd]
   dsimp only
   rw [readF,hg]
   rfl
 ·rintro ⟨t,_⟩ u ⟨-,⟨vs,L',hvl,hrd,Cu,tS,hle⟩,fu,Bu⟩
  rw [hrd] at hD
  refine aggI Cu (x:=mkC k vs) rfl (stoAll Bu rfl rfl fun u2 B2 g2 y2=>aggI B2 (x:=mkC k vs) rfl ?_)
  have f2':Fr None w u2:=fu.newer g2 fun k e=>by omega
  exact hk _ L' t u2 hD hle ((tS.fr g2 fun k e (e2:k=w.heap.size)=>by omega).mono fun k _ h=>h.1) f2'
theorem Z14s {was:Comp} {i:Nat} {L r:List Bool} {v:Int} (h:movedD was i L=some (v,r)):r.length≤L.length:=by
 unfold movedD at h
 cases h1:getN 1 L with
 | none=>rw [h1] at h; cases h
 | some p =>
  obtain ⟨b,L1⟩:=p
  rw [h1] at h
  dsimp only at h
  have l1:=Zfg h1
  split at h
  ·cases h; exact l1
  ·cases h2:getN 1 L1 with
   | none=>rw [h2] at h; cases h
   | some p =>
    obtain ⟨b2,L2⟩:=p
    rw [h2] at h
    dsimp only at h
    have l2:=Zfg h2
    split at h
    ·cases h3:getIn (rangeM was.1 (i:Int)).1 (rangeM was.1 (i:Int)).2.1 L2 with
     | none=>rw [h3] at h; cases h
     | some p =>
      obtain ⟨n,L3⟩:=p
      rw [h3] at h
      dsimp only at h
      have l3:=Zrr h3
      split at h
      ·cases h
      ·cases h; omega
    ·cases h3:getN 4 L2 with
     | none=>rw [h3] at h; cases h
     | some p =>
      obtain ⟨z,L3⟩:=p
      rw [h3] at h
      dsimp only at h
      have l3:=Zfg h3
      split at h
      ·cases h
      ·cases h; omega
theorem Zi1 {ok:Nat→Prop} {s:Sl} {L:List Bool} (hS:SlT ok w boolT s L) (hm:L.length≤1048576) {was:Comp} (hco:CompOk was) {K:Res [.agg [.int .u8,.int .i32,.int .i32,.int .i32],.sc .sl,.sc (.int .i64)]→W R} (h0:stepDec was L=none→∀ e w',e≠0→Fr None w w'→K ((0,0,0,0),s,e) Q w')
  (hk:∀ c L' r w',stepDec was L=some (c,L')→L'.length≤L.length→SlT ok w' boolT r L'→Fr None w w'→K (c,r,0) Q w'):callW Tryz.prog Zd [.slice s.a s.n s.c,.agg ⟨compC was⟩] [.agg [.int .u8,.int .i32,.int .i32,.int .i32],.sc .sl,.sc (.int .i64)] K Q w:=by
 refine Zg3 s was K Q w ?_
 unfold Z4r
 have hcn:=Z5j was.1
 have hS2:SlT (fun k=>ok k∧k < w.heap.size) w boolT s L:=hS.mono fun k hk h=>⟨h,hk⟩
 refine newI fun w1 B1 f1 z1=>newI fun w2 B2 f2 z2=>aggI (B1.fr f2 fun h=>h) (x:=was) rfl (Z8w hco.1.1 fun w3 f3=>?_)
 have f03:=(f1.then0 f2).then0 f3
 have B1:=(B1.fr f2 fun h=>h).fr f3 fun h=>h
 have B2:=B2.fr f3 fun h=>h
 have s3:=f3.size
 refine condN (fun hz=>?_) fun hz=>?_
 ·refine stoAll B2 rfl rfl fun w4 B4 f4 y4=>aggI B4 (x:=((0,0,0,0):Comp)) rfl ?_
  exact h0 (by unfold stepDec; rw [if_pos hz]) _ w4 hz (f03.newer f4 fun k e=>by omega)
 have hD:stepDec was L=match readS was (List.range (cntM was.1)) L with
   | none=>none
   | some (vs,r)=>some (mkC was.1 vs,r):=by unfold stepDec; rw [if_neg fun h=>h hz] <;> rfl
 refine aggI B1 (x:=was) rfl (newI fun w4 C1 f4 y4=>stoAll C1 rfl rfl fun w5 C f5 y5=>?_)
 have f35:Fr None w3 w5:=f4.newer f5 fun k e=>by omega
 refine fldI (B1.fr f35 fun h=>h) (i:=0) (x:=was.1) rfl (Z48 hco.1.1 fun w6 f6=>?_)
 have f36:=f35.then0 f6
 have f06:=f03.then0 f36
 have s03:=f03.size
 refine forI (N:=cntM was.1) (fun s:Sl × Int=>s.2) (fun j st u=>st.2=(j:Int)∧(∃ vs L',vs.length=j∧readS was (List.range j) L=some (vs,L')∧Blk u w3.heap.size 92 (compC (ovC was vs))∧SlT (fun k=>ok k∧k < w.heap.size) u boolT st.1 L'∧L'.length≤L.length)∧Fr None w u∧Blk u w.heap.size 92 (compC was)∧Blk u w1.heap.size 92 (compC (0,0,0,0)))
  ⟨rfl,⟨[],L,rfl,rfl,C.fr f6 fun h=>h,hS2.fr0 f06,Nat.le_refl _⟩,f06,B1.fr f36 fun h=>h,B2.fr f36 fun h=>h⟩ (fun j s w' h=>h.1) ?_ ?_
 ·rintro j ⟨t,_⟩ u K' hj ⟨rfl,⟨vs,L',hvl,hrd,Cu,tS,hle⟩,fu,Bu,Xu⟩ - hK
  obtain ⟨r1,r2⟩:=Z1p was.1 (j:Int)
  have hflw:=flI hco j
  have fail:∀ {u':World} (e:Int) ,Fr None u u'→e≠0→movedD was j L'=none→(stoL ⟨w1.heap.size,0,none⟩ [.int .u8 0,.int .i32 0,.int .i32 0,.int .i32 0] 0 <|
    ld (.agg [.int .u8,.int .i32,.int .i32,.int .i32]) ⟨w1.heap.size,0,none⟩ fun (x:(Int × Int × Int × Int))=>(retW (x,s,e):W ((Int × Int × Int × Int) × Sl × Int))) (fun r w=>K r Q w) u':=by
   intro u' e f he hn
   have hnone:stepDec was L=none:=by
    rw [hD,Zt3 hj,Zhm,hrd]
    dsimp only
    rw [readS,hn]
   refine stoAll (Xu.fr f fun h=>h) rfl rfl fun u4 B4 g4 y4=>aggI B4 (x:=((0,0,0,0):Comp)) rfl ?_
   exact h0 hnone e u4 he ((fu.then0 f).newer g4 fun k e=>by omega)
  refine joinI (fun z u'=>(∃ vs' L2,vs'.length=j+1∧readS was (List.range (j+1)) L=some (vs',L2)∧Blk u' w3.heap.size 92 (compC (ovC was vs'))∧SlT (fun k=>ok k∧k < w.heap.size) u' boolT z L2∧L2.length≤L.length)∧Fr None w u'∧Blk u' w.heap.size 92 (compC was)∧Blk u' w1.heap.size 92 (compC (0,0,0,0))) ?_ fun z u' ⟨h1,h2⟩=>hK _ _ ⟨wsucc hj (by omega),h1,h2⟩
  have step:∀ {v:Int} {L2:List Bool},movedD was j L'=some (v,L2)→readS was (List.range (j+1)) L=some (vs ++ [v],L2):=fun hg=>by
   rw [List.range_succ,Zhm,hrd]
   dsimp only
   rw [readS,hg]
   rfl
  have done:∀ {R':Type} {Q':R'→World→Prop} {u':World} {v:Int} {L2:List Bool} {r:Sl},Fr None u u'→movedD was j L'=some (v,L2)→SlT (fun k=>ok k∧k < w.heap.size) u' boolT r L2→(idxW (some (Addr.add ⟨w3.heap.size,0,none⟩ 1)) 3 1 (j:Int) fun x_38=>stoL x_38 [.int .i32 (IntKind.wrap .i32 v)] 0 <|
    (fun _ u'=>(∃ vs' L2,vs'.length=j+1∧readS was (List.range (j+1)) L=some (vs',L2)∧Blk u' w3.heap.size 92 (compC (ovC was vs'))∧SlT (fun k=>ok k∧k < w.heap.size) u' boolT r L2∧L2.length≤L.length)∧Fr None w u'∧Blk u' w.heap.size 92 (compC was)∧Blk u' w1.heap.size 92 (compC (0,0,0,0)):W R')) Q' u':=by
   intro R' Q' u' v L2 r f hg hr
   have hv:=Zyw hco hg
   refine fIdx rfl (by omega) ?_
   rw [w32 hv]
   refine setI (i:=1+j) (Cu.fr f fun h=>h) (by simp; omega) rfl fun u4 B4 g4 y4=>?_
   have hvl2:=hvl
   subst hvl
   rw [Z126 (by omega)] at B4
   exact ⟨⟨vs ++ [v],L2,by simp,step hg,B4,hr.fr g4 fun k e (e2:k=w3.heap.size)=>by omega,by have:=Z14s hg; omega⟩,(fu.then0 f).newer g4 fun k e=>by omega,(Bu.fr f fun h=>h).fr g4 fun e=>by omega,(Xu.fr f fun h=>h).fr g4 fun e=>by omega⟩
  refine fldI Bu (i:=0) (x:=was.1) rfl (Z8x hco.1.1 fun u2 g2=>?_)
  refine Z9k (tS.fr0 g2) (by omega) (n:=1) (by decide) (fun hn=>condT rfl (fail 2 g2 (by decide) (by unfold movedD; rw [hn]))) fun b L1 ra u3 hb hra g3=>condF rfl ?_
  have g03:=g2.then0 g3
  have l1:=Zfg hb
  refine condE (fun hb0=>?_) fun hb0=>?_
  ·have hb0:b=0:=by omega
   have hg:movedD was j L'=some (fl was j,L1):=by unfold movedD; rw [hb]; dsimp only; rw [if_pos hb0]
   refine ⟨⟨vs ++ [fl was j],L1,by simp [hvl],step hg,?_,hra,by omega⟩,fu.then0 g03,Bu.fr g03 fun h=>h,Xu.fr g03 fun h=>h⟩
   have e:ovC was (vs ++ [fl was j])=ovC was vs:=by
    rw [← hvl]
    rcases vs with _ | ⟨a,_ | ⟨b,_ | ⟨d,r⟩⟩⟩
    ·rfl
    ·rfl
    ·rfl
    ·simp at hvl; omega
   rw [e]
   exact Cu.fr g03 fun h=>h
  have hb1:¬ b=0:=by omega
  refine Z9k hra (by omega) (n:=1) (by decide) (fun hn=>condT rfl (fail 2 g03 (by decide) (by unfold movedD; rw [hb]; dsimp only; rw [if_neg hb1,hn]))) fun b2 L2 rb u4 hb2 hrb g4=>condF rfl ?_
  have g04:=g03.then0 g4
  have l2:=Zfg hb2
  have b2lt:b2 < 2:=Zfh hb2
  have mv:movedD was j L'=if b2=0 then (match getIn (rangeM was.1 (j:Int)).1 (rangeM was.1 (j:Int)).2.1 L2 with
    | none=>none
    | some (n,L3)=>if zigM (n - fl was j)≤16 then none else some (n,L3))
   else match getN 4 L2 with
    | none=>none
    | some (z,L3)=>if fl was j+zagM ((z:Int)+1) < (rangeM was.1 (j:Int)).1∨(rangeM was.1 (j:Int)).2.1 < fl was j+zagM ((z:Int)+1) then none else some (fl was j+zagM ((z:Int)+1),L3):=by
   conv=>lhs; unfold movedD
   rw [hb]
   dsimp only
   rw [if_neg hb1,hb2] <;> rfl
  rw [w64 (x:=(rangeM was.1 (j:Int)).1) (by omega),w64 (x:=(rangeM was.1 (j:Int)).2.1) (by omega)]
  refine joinI (fun (z:Sl × Int × Int) u'=>Fr None u u'∧((z.2.1≠0∧movedD was j L'=none)∨(z.2.1=0∧∃ L3,movedD was j L'=some (z.2.2,L3)∧SlT (fun k=>ok k∧k < w.heap.size) u' boolT z.1 L3))) ?_ ?_
  ·refine condE (fun h1=>?_) fun h1=>?_
   ·rw [if_neg (by omega)] at mv
    have cont:∀ {R':Type} {Q':R'→World→Prop} {u5:World} {r:Sl} {z e:Int},Fr None u u5→0≤z→z≤15→((e=2∧movedD was j L'=none)∨(e=0∧∃ L3:List Bool,SlT (fun k=>ok k∧k < w.heap.size) u5 boolT r L3∧movedD was j L'=if fl was j+zagM (z+1) < (rangeM was.1 (j:Int)).1∨(rangeM was.1 (j:Int)).2.1 < fl was j+zagM (z+1) then none else some (fl was j+zagM (z+1),L3))) →
      (drawW <|
     idxW (some (Addr.add ⟨w.heap.size,0,none⟩ 1)) 3 1 (j:Int) fun x_21 =>
     ld (.sc (.int .i32)) x_21 fun (x_22:Int) =>
     callW Tryz.prog Z4y [.int .u64 (IntKind.wrap .u64 (z+1))] [.sc (.int .i64)] fun (x_23:Int) =>
     andW (fun w=>Rd w x_21 (.sc (.int .i32)) x_22) <|
     joinW (σ:=Bool) (fun J_24 =>
      cond (e == 0)
       (cond (decide ((IntKind.wrap .i64 ((IntKind.wrap .i64 x_22) + x_23)) < (rangeM was.1 (j : Int)).1))
            (J_24 true)
            (J_24 (decide ((IntKind.wrap .i64 ((IntKind.wrap .i64 x_22)+x_23)) > (rangeM was.1 (j:Int)).2.1))))
       (J_24 false))
     <| fun s_25 =>
     joinW (σ:=Int) (fun J_26 =>
      cond s_25
       (J_26 5)
       (J_26 e))
     <| fun s_27 =>
     (fun (z:Sl × Int × Int)=>((fun _ u'=>Fr None u u'∧((z.2.1≠0∧movedD was j L'=none)∨(z.2.1=0∧∃ L3,movedD was j L'=some (z.2.2,L3)∧SlT (fun k=>ok k∧k < w.heap.size) u' boolT z.1 L3))):W R')) (r,s_27,IntKind.wrap .i64 ((IntKind.wrap .i64 x_22)+x_23))) Q' u5:=by
     intro R' Q' u5 r z e f5 z0 z1 hcase
     have fd:Fr None u5 u5.drew:=(Fr.refl _ _).drew
     have f5d:=f5.then0 fd
     have Bd:=Bu.fr f5d fun h=>h
     refine fIdx rfl (by omega) (fld0 Bd (x:=fl was j) (Z2c was (by omega)) ?_)
     rw [wU64 (x:=z+1) (by omega)]
     have hzr:-20≤zagM (z+1)∧zagM (z+1)≤20:=by unfold zagM; split <;> omega
     refine Z119 (by omega) (by omega) (andI ((Bd.cell (1+j)).trans (Z2c was (by omega))) ?_)
     rw [w64 (x:=fl was j) (by omega),w64 (x:=fl was j+zagM (z+1)) (by omega)]
     refine joinI (fun q u'=>u'=u5.drew∧(q=true↔(e=0∧(fl was j+zagM (z+1) < (rangeM was.1 (j:Int)).1∨(rangeM was.1 (j:Int)).2.1 < fl was j+zagM (z+1))))) ?_ ?_
     ·refine condE (fun he=>condD (fun h=>⟨rfl,by simp [he,h]⟩) fun h=>⟨rfl,by simp [he]; omega⟩) fun he=>⟨rfl,by simp [he]⟩
     rintro q _ ⟨rfl,hq⟩
     refine joinI (fun e2 u'=>u'=u5.drew∧e2=if q=true then 5 else e) (condI (fun h=>⟨rfl,by rw [if_pos h]⟩) fun h=>⟨rfl,by rw [if_neg (by rw [h]; decide)]⟩) ?_
     rintro e2 _ ⟨rfl,rfl⟩
     refine ⟨f5d,?_⟩
     rcases hcase with ⟨he,hn⟩ | ⟨he,L3,hr,hm3⟩
     ·refine .inl ⟨?_,hn⟩
      show (if q=true then 5 else e)≠0
      split <;> omega
     ·by_cases hc:fl was j+zagM (z+1) < (rangeM was.1 (j:Int)).1∨(rangeM was.1 (j:Int)).2.1 < fl was j+zagM (z+1)
      ·rw [if_pos hc] at hm3
       refine .inl ⟨?_,hm3⟩
       show (if q=true then 5 else e)≠0
       rw [if_pos (hq.2 ⟨he,hc⟩)]
       decide
      ·rw [if_neg hc] at hm3
       refine .inr ⟨?_,L3,hm3,hr.fr0 fd⟩
       show (if q=true then 5 else e)=0
       rw [if_neg fun h=>hc (hq.1 h).2]
       exact he
    refine Z9k hrb (by omega) (n:=4) (by decide) (fun hn=>?_) fun z L3 rc u5 hz4 hrc g5=>?_
    ·refine cont (e:=2) (z:=0) g04 (by decide) (by decide) (.inl ⟨rfl,?_⟩)
     rw [mv,hn]
    ·have hz16:z < 16:=Zfh hz4
     refine cont (e:=0) (z:=(z:Int)) (g04.then0 g5) (by omega) (by omega) (.inr ⟨rfl,L3,hrc,?_⟩)
     rw [mv,hz4]
   ·rw [if_pos (by omega)] at mv
    refine Zft hrb (by omega) (by omega) (Zrt was.1 hj) (by omega) (fun hn e u5 he g5=>?_) fun v L3 rc u5 hg v1 v2 hrc g5=>?_
    ·rw [hn] at mv
     refine joinI (fun q u'=>q=false∧u'=u5) (condF (by simpa using he) ⟨rfl,rfl⟩) ?_
     rintro q u6 ⟨rfl,e6⟩
     subst e6
     refine joinI (fun e2 u'=>e2=e∧u'=u6) (condF rfl ⟨rfl,rfl⟩) ?_
     rintro e2 u7 ⟨rfl,e7⟩
     subst e7
     exact ⟨g04.then0 g5,.inl ⟨he,mv⟩⟩
    ·rw [hg] at mv
     dsimp only at mv
     have g05:=g04.then0 g5
     refine joinI (fun q u'=>(q=true↔zigM (v - fl was j)≤16)∧u'=u5) (condT rfl (fIdx rfl (by omega) (fld0 (Bu.fr g05 fun h=>h) (x:=fl was j) (Z2c was (by omega)) ?_))) ?_
     ·rw [w64 (x:=fl was j) (by omega),w64 (x:=v - fl was j) (by omega)]
      exact Ztg (by omega) ⟨by simp,rfl⟩
     rintro q u6 ⟨hq,e6⟩
     subst e6
     refine joinI (fun e2 u'=>(e2=if q=true then 4 else 0)∧u'=u6) (condI (fun h=>⟨by rw [if_pos h],rfl⟩) fun h=>⟨by rw [if_neg (by rw [h]; decide)],rfl⟩) ?_
     rintro e2 u7 ⟨rfl,e7⟩
     subst e7
     refine ⟨g05,?_⟩
     by_cases hc:zigM (v - fl was j)≤16
     ·rw [if_pos hc] at mv
      exact .inl ⟨by show (if q=true then (4:Int) else 0)≠0; rw [if_pos (hq.2 hc)]; decide,mv⟩
     ·rw [if_neg hc] at mv
      exact .inr ⟨by show (if q=true then (4:Int) else 0)=0; rw [if_neg fun h=>hc (hq.1 h)],L3,mv,hrc⟩
  rintro ⟨rz,e,v⟩ u5 ⟨g5,hcase⟩
  refine condN (fun he=>?_) fun he=>?_
  ·rcases hcase with ⟨_,hn⟩ | ⟨h,_⟩
   ·exact fail e g5 he hn
   ·exact absurd h he
  ·rcases hcase with ⟨h,_⟩ | ⟨_,L3,hg,hr⟩
   ·exact absurd he h
   ·exact done g5 hg hr
 ·rintro ⟨t,_⟩ u ⟨-,⟨vs,L',hvl,hrd,Cu,tS,hle⟩,fu,Bu,Xu⟩
  rw [hrd] at hD
  rw [Z14y hz hvl] at Cu
  refine aggI Cu (x:=mkC was.1 vs) rfl (stoAll Xu rfl rfl fun u2 B2 g2 y2=>aggI B2 (x:=mkC was.1 vs) rfl ?_)
  have f2':Fr None w u2:=fu.newer g2 fun k e=>by omega
  exact hk _ L' t u2 hD hle ((tS.fr g2 fun k e (e2:k=w1.heap.size)=>by omega).mono fun k _ h=>h.1) f2'
end Go.Proofs.YtchhhjlpnecjkaaGreat
namespace Go.Proofs.YtchhhjlpnecjkaaGreat
open Go Go.RowKit Go.Proofs.YtchhhjlpnecjkaaGreat.Den
variable {R:Type} {Q:R→World→Prop} {w:World} {b:Nat} {L:List Bool} {bad:Bool}
def Src (w:World) (b:Nat) (L:List Bool) (bad:Bool):Prop:=(∃ s:Sl,Blk w b 73 [.slice s.a s.n s.c,.bool bad]∧SlT (fun k=>k < b) w boolT s L)∧L.length≤1048576
theorem Src.fr (h:Src w b L bad) {S:Nat→Prop} {w':World} (f:Fr S w w') (hs:∀ k,k≤b→¬ S k):Src w' b L bad:=by
 obtain ⟨⟨s,B,t⟩,hl⟩:=h
 exact ⟨⟨s,B.fr f (hs b (Nat.le_refl _)),t.fr f fun k e=>hs k (Nat.le_of_lt e)⟩,hl⟩
theorem Src.fr0 (h:Src w b L bad) {w':World} (f:Fr None w w'):Src w' b L bad:=h.fr f fun _ _ h=>h
theorem Src.lt (h:Src w b L bad):b < w.heap.size:=by obtain ⟨⟨s,B,t⟩,hl⟩:=h; exact B.lt
theorem Zah (h:Src w b L bad) {K:Bool→W R} (hk:K bad Q w):ld (.sc .bool) (Addr.add ⟨b,0,none⟩ 1) K Q w:=by
 obtain ⟨⟨s,B,t⟩,hl⟩:=h
 exact fldI B (i:=1) (x:=bad) rfl hk
theorem Z4j (h:Src w b L bad) {c:Bool} {K:W R} (hk:∀ w',Src w' b L c→Fr (fun k=>k=b) w w'→w'.heap.size=w.heap.size→K Q w'):stoL (Addr.add ⟨b,0,none⟩ 1) [.bool c] 0 K Q w:=by
 obtain ⟨⟨s,B,t⟩,hl⟩:=h
 exact setA B (by simp) rfl fun w' B' f z=>hk w' ⟨⟨s,B',t.fr f fun k e e2=>by omega⟩,hl⟩ f z
def Dec {α:Type} (bad:Bool) (r:Option (α × List Bool)) (v:α) (L':List Bool) (bad':Bool):Prop:=(bad'=false→bad=false∧r=some (v,L'))∧(bad'=true→bad=true∨r=none)
theorem Zrv {r:Sl} {L':List Bool} {e:Int} (h:Src w b L bad) (hr:SlT (fun k=>k < b) w boolT r L') (hl:L'.length≤1048576) {K:W R} (hk:∀ w',Src w' b L' (bad || e != 0)→Fr (fun k=>k=b) w w'→w'.heap.size=w.heap.size→K Q w') :
  (ptrW (some ⟨b,0,none⟩) fun x_4=>stoL (Addr.add x_4 0) [.slice r.a r.n r.c] 0 <|
   joinW (σ:=Unit) (fun J_5=>ptrW (some ⟨b,0,none⟩) fun x_6=>ld (.sc .bool) (Addr.add x_6 1) fun (x_7:Bool) =>
    cond x_7 (ptrW (some ⟨b,0,none⟩) fun x_8=>stoL (Addr.add x_8 1) [.bool true] 0 <| J_5 ())
     (ptrW (some ⟨b,0,none⟩) fun x_9=>stoL (Addr.add x_9 1) [.bool (e != 0)] 0 <| J_5 ())) <| fun _=>K:W R) Q w:=by
 obtain ⟨⟨s,B,t⟩,hl'⟩:=h
 refine ptrI (setA B (by simp) rfl fun w1 B1 f1 z1=>?_)
 have h1:Src w1 b L' bad:=⟨⟨r,B1,hr.fr f1 fun k e e2=>by omega⟩,hl⟩
 refine joinI (fun _ u=>Src u b L' (bad || e != 0)∧Fr (fun k=>k=b) w u∧u.heap.size=w.heap.size) ?_ fun _ u ⟨h1,h2,h3⟩=>hk u h1 h2 h3
 refine ptrI (Zah h1 (condI (fun hb=>ptrI (Z4j h1 fun w2 h2 f2 z2=>⟨by rw [hb]; exact h2,f1.then f2,by omega⟩)) fun hb=>ptrI (Z4j h1 fun w2 h2 f2 z2=>⟨by rw [hb]; exact h2,f1.then f2,by omega⟩)))
theorem Z17z {c:Bool} (h:Src w b L bad) {K:W R} (hk:∀ w',Src w' b L (bad || c)→Fr (fun k=>k=b) w w'→w'.heap.size=w.heap.size→K Q w') :
  (joinW (σ:=Unit) (fun J_5=>ptrW (some ⟨b,0,none⟩) fun x_6=>ld (.sc .bool) (Addr.add x_6 1) fun (x_7:Bool) =>
    cond x_7 (ptrW (some ⟨b,0,none⟩) fun x_8=>stoL (Addr.add x_8 1) [.bool true] 0 <| J_5 ())
     (ptrW (some ⟨b,0,none⟩) fun x_9=>stoL (Addr.add x_9 1) [.bool c] 0 <| J_5 ())) <| fun _=>K:W R) Q w:=by
 refine joinI (fun _ u=>Src u b L (bad || c)∧Fr (fun k=>k=b) w u∧u.heap.size=w.heap.size) ?_ fun _ u ⟨h1,h2,h3⟩=>hk u h1 h2 h3
 refine ptrI (Zah h (condI (fun hb=>ptrI (Z4j h fun w2 h2 f2 z2=>⟨by rw [hb]; exact h2,f2,z2⟩)) fun hb=>ptrI (Z4j h fun w2 h2 f2 z2=>⟨by rw [hb]; exact h2,f2,z2⟩)))
theorem Z4i (h:Src w b L bad) {n:Nat} (hn:n≤64) {K:Res [.sc (.int .u64)]→W R} (hk:∀ (v:Nat) L' bad' w',Src w' b L' bad'→Fr (fun k=>k=b) w w'→v < 2 ^ n→Dec bad (getN n L) v L' bad'→K (v:Int) Q w') :
  callW Tryz.prog Z2 [.pointer (some ⟨b,0,none⟩),.int .i64 (n:Int)] [.sc (.int .u64)] K Q w:=by
 refine Zbh _ _ K Q w ?_
 unfold Z2n
 have h':=h
 obtain ⟨⟨s,B,t⟩,hl⟩:=h'
 refine ptrI (fldI B (i:=0) (x:=s) rfl (Z9k t hl hn (fun hg=>?_) fun v L' r w1 hg hr f1=>?_))
 ·exact Zrv (e:=2) h t hl fun w2 h2 f2 _=>hk 0 L _ w2 h2 f2 (Nat.two_pow_pos _) ⟨fun e=>by simp at e,fun _=>.inr hg⟩
 ·refine Zrv (e:=0) (h.fr0 f1) hr (by have:=Zfg hg; omega) fun w2 h2 f2 _=>hk v L' _ w2 h2 (f1.any.then f2) (Zfh hg) ⟨fun e=>⟨by simpa using e,hg⟩,fun e=>.inl (by simpa using e)⟩
theorem Z4h (h:Src w b L bad) {K:Res [.sc (.int .u64)]→W R} (hk:∀ (v:Nat) L' bad' w',Src w' b L' bad'→Fr (fun k=>k=b) w w'→v < 18446744073709551616→Dec bad (getVar L) v L' bad'→K (v:Int) Q w') :
  callW Tryz.prog Z3 [.pointer (some ⟨b,0,none⟩)] [.sc (.int .u64)] K Q w:=by
 refine Zbg _ K Q w ?_
 unfold Z2m
 have h':=h
 obtain ⟨⟨s,B,t⟩,hl⟩:=h'
 refine ptrI (fldI B (i:=0) (x:=s) rfl (Zup t hl (fun hg e w1 he f1=>?_) fun v L' r w1 hg hv hr f1=>?_))
 ·refine Zrv (e:=e) (h.fr0 f1) (t.fr0 f1) hl fun w2 h2 f2 _=>hk 0 L _ w2 h2 (f1.any.then f2) (by decide) ⟨fun q=>?_,fun _=>.inr hg⟩
  have:(e != 0)=true:=by simpa using he
  rw [this] at q
  simp at q
 ·refine Zrv (e:=0) (h.fr0 f1) hr (by have:=Zdk 16 0 0 hg; omega) fun w2 h2 f2 _=>hk v L' _ w2 h2 (f1.any.then f2) hv ⟨fun e=>⟨by simpa using e,hg⟩,fun e=>.inl (by simpa using e)⟩
theorem Zmq (h:Src w b L bad) {last:Int} (hlast:0≤last∧last≤4294967295) {K:Res [.sc (.int .u32)]→W R} (hk:∀ (id:Int) L' bad' w',Src w' b L' bad'→Fr (fun k=>k=b) w w'→IdOk id→Dec bad (idDec last L) id L' bad'→K id Q w') :
  callW Tryz.prog Zf [.pointer (some ⟨b,0,none⟩),.int .u32 last] [.sc (.int .u32)] K Q w:=by
 refine Ze7 _ _ K Q w ?_
 unfold Z3h
 refine Z4h h fun v L1 bad1 w1 h1 f1 hv hd=>Z17z h1 fun w2 h2 f2 _=>?_
 have hid:IntKind.wrap .u32 (IntKind.wrap .u32 (last+IntKind.wrap .u32 (v:Int))+1)=(last+(v:Int)+1) % 4294967296:=by
  rw [IntKind.wrap_u32,IntKind.wrap_u32,IntKind.wrap_u32]
  omega
 rw [hid]
 refine hk _ L1 _ w2 h2 (f1.then f2) ⟨by omega,by omega⟩ ⟨fun e=>?_,fun e=>?_⟩
 ·obtain ⟨e1,e2⟩:=Bool.or_eq_false_iff.1 e
  obtain ⟨g1,g2⟩:=hd.1 e1
  refine ⟨g1,?_⟩
  unfold idDec
  rw [g2]
  dsimp only
  rw [if_neg (by have:=of_decide_eq_false e2; omega)]
 ·rcases (Bool.or_eq_true_iff).1 e with e1 | e1
  ·rcases hd.2 e1 with g | g
   ·exact .inl g
   ·exact .inr (by unfold idDec; rw [g])
  ·have e1:=of_decide_eq_true e1
   by_cases hb:bad1=true
   ·rcases hd.2 hb with g | g
    ·exact .inl g
    ·exact .inr (by unfold idDec; rw [g])
   ·have hb:bad1=false:=by simpa using hb
    refine .inr ?_
    unfold idDec
    rw [(hd.1 hb).2]
    dsimp only
    rw [if_pos (by omega)]
theorem Z16u:∀ m:Fin 32,∀ j:Fin 5,(Int.tmod (shR .u64 ((m.val:Nat):Int) ((j.val:Nat):Int)) 2 == 1)=m.val.testBit j.val:=by decide +kernel
theorem Z14o:∀ m:Fin 32,∀ j:Fin 5,(Int.tmod (shR .u64 ((m.val:Nat):Int) ((j.val:Nat):Int)) 2 == 0)=!m.val.testBit j.val:=by decide +kernel
theorem Zpk:∀ (is js:List Int) (L:List Bool),compsD (is ++ js) L=match compsD is L with
  | none=>none
  | some (cs,L2)=>match compsD js L2 with
   | none=>none
   | some (cs2,L3)=>some (cs ++ cs2,L3)
 | [],js,L=>by
  rw [List.nil_append,compsD]
  dsimp only
  cases compsD js L with
  | none=>rfl
  | some p=>rfl
 | i :: r,js,L=>by
  rw [List.cons_append,compsD,compsD]
  cases compD i L with
  | none=>rfl
  | some p =>
   obtain ⟨v,L2⟩:=p
   dsimp only
   rw [Zpk r js L2]
   cases compsD r L2 with
   | none=>rfl
   | some q =>
    obtain ⟨vs,L3⟩:=q
    dsimp only
    cases compsD js L3 with
    | none=>rfl
    | some t=>rfl
theorem Zqv (m:Nat) {j:Nat} (hj:j < 5) (hb:m.testBit j=true):∃ r,kindsB m 5=kindsB m j ++ ((j:Int) :: r):=by
 have:∀ n,j < n→∃ r,kindsB m n=kindsB m j ++ ((j:Int) :: r):=by
  intro n
  induction n with
  | zero=>intro h; omega
  | succ n ih =>
   intro h
   rw [Z7u]
   rcases Nat.lt_or_ge j n with h1 | h1
   ·obtain ⟨r,hr⟩:=ih h1
    exact ⟨_,by rw [hr,List.append_assoc,List.cons_append]⟩
   ·have:j=n:=by omega
    subst this
    rw [if_pos hb]
    exact ⟨[],rfl⟩
 exact this 5 hj
theorem Zk5 (h:Src w b L bad) {m:Nat} (hm:m < 32) {K:Res [.sc .sl]→W R} (hk:∀ r cs L' bad' w',Own (Up w.heap.size) w' 92 compT r cs→cs.length≤5→(∀ c∈cs,CompOk c)→Src w' b L' bad'→Fr (fun k=>k=b) w w'→Dec bad (compsD (kindsOf m) L) cs L' bad'→K r Q w') :
  callW Tryz.prog Zy [.pointer (some ⟨b,0,none⟩),.int .u64 (m:Int)] [.sc .sl] K Q w:=by
 refine Zbf _ _ K Q w ?_
 unfold Z2l
 have hbw:=h.lt
 refine forI (N:=5) (fun s:Sl × Int=>s.2) (fun j st u=>st.2=(j:Int)∧Fr (fun k=>k=b) w u∧∃ cs L' bad',Own (Up w.heap.size) u 92 compT st.1 cs∧cs.length≤j∧(∀ c∈cs,CompOk c)∧Src u b L' bad'∧(bad'=false→bad=false∧compsD (kindsB m j) L=some (cs,L'))∧(bad'=true→bad=true∨compsD (kindsOf m) L=none))
  ⟨rfl,Fr.refl _ _,[],L,bad,Own.nil _ _ _ _,Nat.le_refl _,(fun c h=>by cases h),h,fun e=>⟨e,rfl⟩,fun e=>.inl e⟩ (fun j s w' h=>h.1) ?_ ?_
 ·rintro j ⟨z,_⟩ u K' hj ⟨rfl,fu,cs,L',bad',o,hlen,hco,hs,hg,hb⟩ - hK
  have su:=fu.size
  have hbit:=Z16u ⟨m,hm⟩ ⟨j,hj⟩
  dsimp only at hbit
  refine joinI (fun q v=>v=u∧q=(m.testBit j && !bad')) (chkI (Int.natCast_nonneg j) ?_) ?_
  ·show (cond (Int.tmod (shR .u64 (m:Int) (j:Int)) 2 == 1) _ _:W _) _ _
   rw [hbit]
   refine condI (fun h1=>ptrI (Zah hs ⟨rfl,by rw [h1]; rfl⟩)) fun h1=>⟨rfl,by rw [h1]; rfl⟩
  rintro q v ⟨rfl,rfl⟩
  refine joinI (fun z v'=>Fr (fun k=>k=b) w v'∧∃ cs L' bad',Own (Up w.heap.size) v' 92 compT z cs∧cs.length≤j+1∧(∀ c∈cs,CompOk c)∧Src v' b L' bad'∧(bad'=false→bad=false∧compsD (kindsB m (j+1)) L=some (cs,L'))∧(bad'=true→bad=true∨compsD (kindsOf m) L=none)) ?_ fun z v' ⟨h1,h2⟩=>hK _ _ ⟨by rw [wu8 (by omega)]; rfl,h1,h2⟩
  refine condI (fun hc=>?_) fun hc=>?_
  ·obtain ⟨hb1,hb2⟩:=Bool.and_eq_true_iff.1 hc
   have hb2:bad'=false:=by simpa using hb2
   subst hb2
   obtain ⟨g1,g2⟩:=hg rfl
   have hs':=hs
   obtain ⟨⟨s,B,t⟩,hl⟩:=hs'
   have app:∀ {R':Type} {Q':R'→World→Prop} {c:Comp} {L2:List Bool} {r:Sl} {e:Int} {v1:World},CompOk c→Fr None v v1→SlT (fun k=>k < b) v1 boolT r L2→L2.length≤1048576→((e=0∧compD (j:Int) L'=some (c,L2))∨(e≠0∧compD (j:Int) L'=none)) →
     (newW 92 [.int .u8 0,.int .i32 0,.int .i32 0,.int .i32 0] fun c_11 =>
    stoL c_11 [.int .u8 c.1,.int .i32 c.2.1,.int .i32 c.2.2.1,.int .i32 c.2.2.2] 0 <|
    ptrW (some ⟨b,0,none⟩) fun x_12 =>
    stoL (Addr.add x_12 0) [.slice r.a r.n r.c] 0 <|
    ptrW (some ⟨b,0,none⟩) fun x_13 =>
    stoL (Addr.add x_13 1) [.bool (e != 0)] 0 <|
    ld (.agg [.int .u8,.int .i32,.int .i32,.int .i32]) c_11 fun (x_14:(Int × Int × Int × Int)) =>
    newW 92 [.int .u8 x_14.1,.int .i32 x_14.2.1,.int .i32 x_14.2.2.1,.int .i32 x_14.2.2.2] fun x_15 =>
    rawW Tryz.prog (Builtin.append_ #[55,55] 55 #[.slice z.a z.n z.c,.slice (some x_15) 1 1]) [.sc .sl] fun (x_16:Sl) =>
    (fun _ v'=>Fr (fun k=>k=b) w v'∧∃ cs L' bad',Own (Up w.heap.size) v' 92 compT x_16 cs∧cs.length≤j+1∧(∀ c∈cs,CompOk c)∧Src v' b L' bad'∧(bad'=false→bad=false∧compsD (kindsB m (j+1)) L=some (cs,L'))∧(bad'=true→bad=true∨compsD (kindsOf m) L=none):W R')) Q' v1:=by
    intro R' Q' c L2 r e v1 hc f1 hr hl2 hcase
    refine newI fun v2 C1 f2 y2=>stoAll C1 rfl rfl fun v3 C f3 y3=>?_
    have f13:Fr None v1 v3:=f2.newer f3 fun k e=>by omega
    have f03:=f1.then0 f13
    have s13:=f03.size
    have s1:=f1.size
    refine ptrI (setA (B.fr f03 fun h=>h) (by simp) rfl fun v4 B4 f4 y4=>ptrI (setA B4 (by simp) rfl fun v5 B5 f5 y5=>?_))
    have f45:=f4.then f5
    refine aggI (C.fr f45 fun e=>by omega) (x:=c) rfl ?_
    have o5:=(o.none f03).fr f45 fun k (e:w.heap.size≤k) e2=>by omega
    refine appP (x:=c) Z2u rfl o5 (fun k e=>by show w.heap.size≤k; omega) (by omega) (by omega) fun z2 v6 o6 f6=>?_
    have hs5:Src v5 b L2 (e != 0):=⟨⟨r,B5,(hr.fr0 f13).fr f45 fun k e e2=>by omega⟩,hl2⟩
    refine ⟨(((fu.then f03.any).then f45).thenNew f6 fun k e=>o5.own k e),cs ++ [c],L2,_,o6,by simp; omega,?_,hs5.fr f6 fun k e e2=>by have:w.heap.size≤k:=o5.own k e2; omega,fun h=>?_,fun h=>?_⟩
    ·intro x hx
     rcases List.mem_append.1 hx with hx | hx
     ·exact hco x hx
     ·simp at hx; rw [hx]; exact hc
    ·rcases hcase with ⟨he,hd⟩ | ⟨he,hd⟩
     ·refine ⟨g1,?_⟩
      rw [Z7u,if_pos hb1,Zpk,g2]
      dsimp only
      rw [compsD,hd]
      rfl
     ·exact absurd (by simpa using h) he
    ·rcases hcase with ⟨he,hd⟩ | ⟨he,hd⟩
     ·rw [he] at h; cases h
     ·refine .inr ?_
      obtain ⟨rr,hrr⟩:=Zqv m hj hb1
      rw [← Z5q hm,hrr,Zpk,g2]
      dsimp only
      rw [compsD,hd]
   refine ptrI (fldI B (i:=0) (x:=s) rfl (Z11b t hl (Int.natCast_nonneg j) (fun hn e v1 he f1=>?_) fun c L2 r v1 hd hle hr f1=>?_))
   ·exact app (c:=(0,0,0,0)) ⟨by decide,by unfold i32; decide,by unfold i32; decide,by unfold i32; decide⟩ f1 (t.fr0 f1) hl (.inr ⟨he,hn⟩)
   ·exact app (Z11l (by omega) hd) f1 hr (by omega) (.inl ⟨rfl,hd⟩)
  ·refine ⟨fu,cs,L',bad',o,by omega,hco,hs,fun e=>?_,hb⟩
   subst e
   obtain ⟨g1,g2⟩:=hg rfl
   have:m.testBit j=false:=by simpa using hc
   rw [Z7u,if_neg (by rw [this]; decide),List.append_nil]
   exact ⟨g1,g2⟩
 ·rintro ⟨z,_⟩ u ⟨-,fu,cs,L',bad',o,hlen,hco,hs,hg,hb⟩
  rw [Z5q hm] at hg
  exact hk z cs L' bad' u o hlen hco hs fu ⟨hg,hb⟩
end Go.Proofs.YtchhhjlpnecjkaaGreat
namespace Go.Proofs.YtchhhjlpnecjkaaGreat
open Go Go.RowKit Go.Proofs.YtchhhjlpnecjkaaGreat.Den
variable {R:Type} {Q:R→World→Prop} {w:World} {b:Nat} {L:List Bool} {bad:Bool}
theorem Z169 {n:Nat} {z:Sl} {raws:List (Int × Sl)} {done:List Ent} (o:Own (Up n) w 57 entT z raws) (eR:EntsR (fun k=>n≤k∧z.v.ownBlock≠some k) w raws done) (hn:n≤w.heap.size) (hl:raws.length≤2097152) {id:Int} {r:Sl} {cs:List Comp} (hr:SlT (fun k=>n≤k∧z.v.ownBlock≠some k) w compT r cs) {K:Sl→W R}
  (hk:∀ z' w',Own (Up n) w' 57 entT z' (raws ++ [(id,r)])→EntsR (fun k=>n≤k∧z'.v.ownBlock≠some k) w' (raws ++ [(id,r)]) (done ++ [(id,cs)])→Fr (Up n) w w'→K z' Q w') :
  (newW 57 [.int .u32 id,.slice r.a r.n r.c] fun a=>rawW Tryz.prog (Builtin.append_ #[23,23] 23 #[.slice z.a z.n z.c,.slice (some a) 1 1]) [.sc .sl] K:W R) Q w:=by
 have oz:Own (fun k=>n≤k∧(z.v.ownBlock=some k∨w.heap.size≤k)) w 57 entT z raws:=⟨o.row,fun k e=>⟨o.own k e,.inl e⟩⟩
 refine appP (x:=((id,r):Int × Sl)) Z8k rfl oz (fun k e=>⟨by omega,.inr e⟩) (by omega) (by omega) fun z' w' o' f'=>?_
 have ne:∀ k,k < w.heap.size→z.v.ownBlock≠some k→z'.v.ownBlock≠some k:=fun k hk hz e=>by
  rcases (o'.own k e).2 with h | h
  ·exact hz h
  ·omega
 have fix:∀ {s:Sl} {l:List Comp},SlT (fun k=>n≤k∧z.v.ownBlock≠some k) w compT s l→SlT (fun k=>n≤k∧z'.v.ownBlock≠some k) w' compT s l:=fun h =>
  ((h.mono (ok':=fun k=>(n≤k∧z.v.ownBlock≠some k)∧k < w.heap.size) fun k hk e=>⟨e,hk⟩).fr f' fun k e e2=>e.1.2 e2).mono fun k _ e=>⟨e.1.1,ne k e.2 e.1.2⟩
 refine hk z' w' (o'.mono fun k _ e=>e.1) (EntsR.snoc ⟨eR.len,fun i a c ha hc=>?_⟩ rfl (fix hr)) (f'.sub fun k e=>o.own k e)
 obtain ⟨h1,h2⟩:=eR.at_ i a c ha hc
 exact ⟨h1,fix h2⟩
theorem Zop (h:Src w b L bad) {K:Res [.sc .sl]→W R} (hk:∀ r raws l L' bad' w',Own (Up w.heap.size) w' 57 entT r raws→EntsR (fun k=>w.heap.size≤k∧r.v.ownBlock≠some k) w' raws l→Src w' b L' bad'→Fr (fun k=>k=b) w w'→Dec bad (entsD L) l L' bad'→K r Q w') :
  callW Tryz.prog Z1s [.pointer (some ⟨b,0,none⟩)] [.sc .sl] K Q w:=by
 refine Zcp _ K Q w ?_
 unfold Z2v
 have hbw:=h.lt
 refine Z4h h fun n L1 bad1 w1 h1 f1 hn hd1=>?_
 have len1:L1.length≤1048576:=h1.2
 refine loopI (fun (st:Sl × Int × Int) u=>∃ (raws:List (Int × Sl)) (done:List Ent) (L':List Bool) (bad':Bool) (last:Int) (m:Nat),st.2.1=last∧IdOk last∧st.2.2=((m:Nat):Int)∧m < 18446744073709551616∧Own (Up w.heap.size) u 57 entT st.1 raws∧EntsR (fun k=>w.heap.size≤k∧st.1.v.ownBlock≠some k) u raws done∧Src u b L' bad'∧Fr (fun k=>k=b) w u ∧
   (bad'=false→bad=false∧entsD L=moreD done (repD entD (fun e:Ent=>e.1) m last L')∧done.length+L'.length≤1048576)∧(bad'=true→bad=true∨entsD L=none))
  (fun st _=>st.2.2.toNat) ⟨[],[],L1,bad1,0,n,rfl,⟨by decide,by decide⟩,rfl,hn,Own.nil _ _ _ _,EntsR.nil _ _,h1,f1,fun e=>?_,fun e=>?_⟩ ?_
 ·obtain ⟨g1,g2⟩:=hd1.1 e
  refine ⟨g1,?_,by simpa using len1⟩
  unfold entsD
  rw [g2]
  dsimp only
  cases repD entD (fun e:Ent=>e.1) n 0 L1 with
  | none=>rfl
  | some p=>rfl
 ·rcases hd1.2 e with g | g
  ·exact .inl g
  ·exact .inr (by unfold entsD; rw [g])
 rintro ⟨z,c1,c2⟩ u ⟨raws,done,L',bad',last,m,hc1,hlast,hc2,hm,o,eR,hs,fu,hgood,hbad⟩
 dsimp only at hc1 hc2
 subst hc1
 subst hc2
 have su:=fu.size
 refine joinI (fun q v=>v=u∧q=(decide (0 < m) && !bad')) ?_ ?_
 ·refine condD (fun hp=>ptrI (Zah hs ⟨rfl,?_⟩)) fun hp=>⟨rfl,?_⟩
  ·have hp:((m:Nat):Int) > 0:=hp
   rw [decide_eq_true (show 0 < m by omega)]; rfl
  ·have hp:¬ ((m:Nat):Int) > 0:=hp
   rw [decide_eq_false (show ¬ 0 < m by omega)]; rfl
 rintro q v ⟨rfl,rfl⟩
 refine condI (fun hc=>?_) fun hc=>?_
 ·obtain ⟨hc1,hc2⟩:=Bool.and_eq_true_iff.1 hc
  have hpos:=of_decide_eq_true hc1
  have hb':bad'=false:=by simpa using hc2
  subst hb'
  obtain ⟨g1,g2,g3⟩:=hgood rfl
  obtain ⟨m,rfl⟩:∃ q,m=q+1:=⟨m - 1,by omega⟩
  refine Zmq hs hlast fun id L2 bad2 v1 hs1 k1 hid d1=>?_
  have y1:=k1.size
  refine newI fun v2 C1 k2 y2=>stoAll C1 rfl rfl fun v3 C k3 y3=>?_
  have k13:Fr None v1 v3:=k2.newer k3 fun k e=>by omega
  refine fldI C (i:=0) (x:=id) rfl ?_
  refine Z4i (hs1.fr0 k13) (n:=5) (by decide) fun mk L3 bad3 v4 hs4 k4 hmk d2=>?_
  have y4:=k4.size
  refine Zk5 hs4 hmk fun r cs L4 bad4 v5 o5 hcl hco hs5 k5 d3=>?_
  have y5:=k5.size
  have C5:=(C.fr k4 fun e=>by omega).fr k5 fun e=>by omega
  refine setA C5 (by simp) rfl fun v6 C6 k6 y6=>aggI C6 (x:=((id,r):Int × Sl)) rfl ?_
  have k03:Fr (fun k=>k=b) v v3:=k1.then k13.any
  have k05:Fr (fun k=>k=b) v v5:=(k03.then k4).then k5
  have k06:Fr (fun k=>k=b) v v6:=k05.thenNew k6 fun k e=>by omega
  have nb:∀ {k:Nat},w.heap.size≤k→¬ k=b:=fun h e=>by omega
  have o6:=o.fr k06 fun k (e:w.heap.size≤k)=>nb e
  have E6:=eR.fr k06 fun k e=>nb e.1
  have r6:SlT (fun k=>w.heap.size≤k∧z.v.ownBlock≠some k) v6 compT r cs:=(o5.sl.mono (ok':=fun k=>v4.heap.size≤k) fun k _ e=>e).fr k6 (fun k e e2=>by omega) |>.mono fun k _ (e:v4.heap.size≤k)=>⟨by omega,fun e2=>by have:=o.lt e2; omega⟩
  have hel:=eR.len
  refine Z169 o6 E6 (by omega) (by omega) r6 fun z' v7 o7 E7 k7=>?_
  have hs7:Src v7 b L4 bad4:=(hs5.fr k6 fun k e e2=>by omega).fr k7 fun k e (e2:w.heap.size≤k)=>by omega
  have mm:IntKind.wrap .u64 (((m+1:Nat):Int) - 1)=(m:Int):=by rw [wU64 (by omega)]; omega
  refine ⟨⟨raws ++ [(id,r)],done ++ [(id,cs)],L4,bad4,id,m,rfl,hid,mm,by omega,o7,E7,hs7,(fu.then k06).thenNew k7 fun k e=>e,fun e=>?_,fun e=>?_⟩,?_⟩
  ·obtain ⟨q1,q2⟩:=d3.1 e
   obtain ⟨q3,q4⟩:=d2.1 q1
   obtain ⟨_,q5⟩:=d1.1 q3
   have hent:entD c1 L'=some ((id,cs),L4):=by
    unfold entD
    rw [q5]
    dsimp only
    rw [q4]
    dsimp only
    rw [q2]
   refine ⟨g1,by rw [g2]; exact Zcm hent,?_⟩
   have:=Zwk hent
   simp only [List.length_append,List.length_singleton]
   omega
  ·refine .inr ?_
   have hnone:entD c1 L'=none:=by
    unfold entD
    cases h2:bad2 with
    | true =>
     rcases d1.2 h2 with q | q
     ·cases q
     ·rw [q]
    | false =>
     rw [(d1.1 h2).2]
     dsimp only
     cases h3:bad3 with
     | true =>
      rcases d2.2 h3 with q | q
      ·rw [h2] at q; cases q
      ·rw [q]
     | false =>
      rw [(d2.1 h3).2]
      dsimp only
      rcases d3.2 e with q | q
      ·rw [h3] at q; cases q
      ·rw [q]
   rw [g2,repD,hnone]
   rfl
  ·show (IntKind.wrap .u64 (((m+1:Nat):Int) - 1)).toNat < ((m+1:Nat):Int).toNat
   rw [mm]
   omega
 ·refine hk z raws done L' bad' v o eR hs fu ⟨fun e=>?_,hbad⟩
  obtain ⟨g1,g2,g3⟩:=hgood e
  have hz:m=0:=by
   rw [e] at hc
   have:decide (0 < m)=false:=by simpa using hc
   have:=of_decide_eq_false this
   omega
  subst hz
  exact ⟨g1,by rw [g2]; show some (done ++ [],L')=_; rw [List.append_nil]⟩
end Go.Proofs.YtchhhjlpnecjkaaGreat
namespace Go.Proofs.YtchhhjlpnecjkaaGreat
open Go Go.RowKit Go.Proofs.YtchhhjlpnecjkaaGreat.Den
variable {R:Type} {Q:R→World→Prop} {w:World} {b:Nat} {L:List Bool} {bad:Bool}
def hB (k:Int) (t:Nat) (L:List Bool):Option (Int × List Bool):=if k=2 then (match getVar L with
 | none=>none
 | some (b,L)=>if t≤b then none else some (((t - b - 1:Nat):Int),L)) else some (0,L)
def hT (k:Int) (L:List Bool):Option (Nat × List Bool):=if k≤3 then getN 32 L else some (0,L)
def hR3 (k c:Int) (e t:Nat) (L:List Bool):Option (Head × List Bool):=match hB k t L with
 | none=>none
 | some (b,L)=>if e≤4294967295∧headE (k,c,(e:Int),(t:Int),b)=0 then some ((k,c,(e:Int),(t:Int),b),L) else none
def hR2 (k c:Int) (e:Nat) (L:List Bool):Option (Head × List Bool):=match hT k L with
 | none=>none
 | some (t,L)=>hR3 k c e t L
def hR1 (k c:Int) (L:List Bool):Option (Head × List Bool):=match getVar L with
 | none=>none
 | some (e,L)=>hR2 k c e L
def hR0 (k:Int) (L:List Bool):Option (Head × List Bool):=match getN 4 L with
 | none=>none
 | some (c,L)=>hR1 k (c:Int) L
theorem Z11s (L:List Bool):headD L=match getIn 1 5 L with
  | none=>none
  | some (k,L)=>hR0 k L:=by
 unfold headD
 cases getIn 1 5 L with
 | none=>rfl
 | some p =>
  obtain ⟨k,L1⟩:=p
  dsimp only
  have hw:widthM 0 15=4:=by decide +kernel
  unfold hR0 getIn
  rw [hw]
  cases h4:getN 4 L1 with
  | none=>rfl
  | some q =>
   obtain ⟨c,L2⟩:=q
   have:c < 2 ^ 4:=Zfh h4
   dsimp only
   rw [if_pos (by omega),Int.zero_add]
   rfl
theorem Z14a {ok:Nat→Prop} {s:Sl} {L:List Bool} (hS:SlT ok w boolT s L) (hm:L.length≤1048576) {lo hi:Int} (h1:-2147483648≤lo) (h2:lo≤hi) (h3:hi≤2147483647) {K:Res [.sc (.int .i64),.sc .sl,.sc (.int .i64)]→W R}
  (hk:∀ v r e L' w',SlT ok w' boolT r L'→L'.length≤1048576→Fr None w w'→((e=0∧getIn lo hi L=some (v,L')∧lo≤v∧v≤hi)∨(e≠0∧v=0∧getIn lo hi L=none))→K (v,r,e) Q w'):callW Tryz.prog Z1m [.slice s.a s.n s.c,.int .i64 lo,.int .i64 hi] [.sc (.int .i64),.sc .sl,.sc (.int .i64)] K Q w :=
 Zft hS hm h1 h2 h3 (fun hn e w' he f=>hk 0 s e L w' (hS.fr0 f) hm f (.inr ⟨he,rfl,hn⟩)) fun v L' r w' hg v1 v2 hr f=>hk v r 0 L' w' hr (by have:=Zrr hg; omega) f (.inl ⟨rfl,hg,v1,v2⟩)
theorem Zoq (h:Src w b L false) {K:Res [.agg [.int .u8,.int .u8,.int .u32,.int .u32,.int .u32]]→W R} (hk:∀ hd L' bad' w',HeadOk hd→Src w' b L' bad'→Fr (fun k=>k=b) w w'→Dec false (headD L) hd L' bad'→K hd Q w') :
  callW Tryz.prog Z1t [.pointer (some ⟨b,0,none⟩)] [.agg [.int .u8,.int .u8,.int .u32,.int .u32,.int .u32]] K Q w:=by
 refine Zcq _ K Q w ?_
 unfold Z2w
 have hbw:=h.lt
 refine newI fun w1 X f1 z1=>newI fun w2 H f2 z2=>?_
 have X:=X.fr f2 fun h=>h
 have f02:=f1.then0 f2
 have h2:=h.fr0 f02
 have nb:∀ {x:Nat},w.heap.size≤x→¬ x=b:=fun hx e=>by omega
 obtain ⟨⟨s,B,t⟩,hl⟩:=h2
 refine ptrI (fldI B (i:=0) (x:=s) rfl (Z14a t hl (by decide) (by decide) (by decide) fun k r e0 L1 w3 hr hl1 f3 hcase=>?_))
 refine ptrI (setA (B.fr f3 fun h=>h) (by simp) rfl fun w4 B4 f4 z4=>ptrI (setA B4 (by simp) rfl fun w5 B5 f5 z5=>?_))
 have f45:=f4.then f5
 have h5:Src w5 b L1 (e0 != 0):=⟨⟨r,B5,hr.fr f45 fun k e e2=>by omega⟩,hl1⟩
 have hk5:0≤k∧k≤5:=by rcases hcase with ⟨_,_,a,c⟩ | ⟨_,a,_⟩ <;> omega
 have d0:((e0 != 0)=false→headD L=hR0 k L1)∧((e0 != 0)=true→headD L=none):=by
  rw [Z11s]
  rcases hcase with ⟨he,hg,_⟩ | ⟨he,_,hg⟩
  ·exact ⟨fun _=>by rw [hg],fun e=>by rw [he] at e; cases e⟩
  ·exact ⟨fun e=>absurd (by simpa using e) he,fun _=>by rw [hg]⟩
 have g25:=f3.any.then f45
 have X5:=X.fr g25 (nb (Nat.le_refl _))
 have H5:=H.fr g25 (nb (by omega))
 have g05:=f02.any.then g25
 generalize (e0 != 0)=bad1 at h5 d0
 clear hcase hr B4 B5 B t
 refine Z4i h5 (n:=4) (by decide) fun c L2 bad2 w6 h6 f6 hc d2=>?_
 have z6:=f6.size
 refine setA (H5.fr f6 (nb (by omega))) (by simp) rfl fun w7 H7 f7 z7=>setA H7 (by simp) rfl fun w8 H8 f8 z8=>?_
 have kk:IntKind.wrap .u8 k=k:=wu8 (by omega)
 have cc:IntKind.wrap .u8 (c:Int)=(c:Int):=wu8 (by omega)
 rw [kk,cc] at H8
 have f78:=f7.then f8
 have h8:Src w8 b L2 bad2:=h6.fr f78 fun k e e2=>by omega
 have X8:=(X5.fr f6 (nb (Nat.le_refl _))).fr f78 fun e=>by omega
 have g08:Fr (fun k=>k=b) w w8:=(g05.then f6).thenNew f78 fun k e=>by omega
 refine Z4h h8 fun e L3 bad3 w9 h9 f9 he d3=>?_
 have z9:=f9.size
 refine setA (H8.fr f9 (nb (by omega))) (by simp) rfl fun w10 H10 f10 z10=>?_
 have h10:Src w10 b L3 bad3:=h9.fr f10 fun k e e2=>by omega
 refine Z17z (c:=decide ((e:Int) > 4294967295)) h10 fun w11 h11 f11 z11=>?_
 have X11:=((X8.fr f9 (nb (Nat.le_refl _))).fr f10 fun e=>by omega).fr f11 (nb (Nat.le_refl _))
 have H11:=H10.fr f11 (nb (by omega))
 have g011:Fr (fun k=>k=b) w w11:=((g08.then f9).thenNew f10 fun k e=>by omega).then f11
 have d4:(bad3 || decide ((e:Int) > 4294967295))=false→bad3=false∧e≤4294967295:=fun h=>by
  obtain ⟨a,c⟩:=Bool.or_eq_false_iff.1 h
  exact ⟨a,by have:=of_decide_eq_false c; omega⟩
 have d4':(bad3 || decide ((e:Int) > 4294967295))=true→bad3=true∨4294967295 < e:=fun h=>by
  rcases Bool.or_eq_true_iff.1 h with a | a
  ·exact .inl a
  ·exact .inr (by have:=of_decide_eq_true a; omega)
 generalize (bad3 || decide ((e:Int) > 4294967295))=bad4 at h11 d4 d4'
 refine fldI H11 (i:=0) (x:=k) rfl ?_
 refine joinI (fun _ u=>∃ (t:Nat) (L4:List Bool) (bad5:Bool),t < 4294967296∧Src u b L4 bad5∧Blk u w1.heap.size 30 [.int .u8 k,.int .u8 (c:Int),.int .u32 (IntKind.wrap .u32 (e:Int)),.int .u32 (t:Int),.int .u32 0]∧Blk u w.heap.size 30 [.int .u8 0,.int .u8 0,.int .u32 0,.int .u32 0,.int .u32 0]∧Fr (fun k=>k=b) w u∧Dec bad4 (hT k L3) t L4 bad5) ?_ ?_
 ·refine condD (fun hk3=>?_) fun hk3=>?_
  ·refine Z4i h11 (n:=32) (by decide) fun t L4 bad5 u1 hs1 k1 ht d5=>?_
   have y1:=k1.size
   have tt:IntKind.wrap .u32 (t:Int)=(t:Int):=by rw [IntKind.wrap_u32]; omega
   rw [tt]
   refine setA (H11.fr k1 (nb (by omega))) (by simp) rfl fun u2 H2 k2 y2=>?_
   refine ⟨t,L4,bad5,by omega,hs1.fr k2 fun k e e2=>by omega,H2,(X11.fr k1 (nb (Nat.le_refl _))).fr k2 fun e=>by omega,(g011.then k1).thenNew k2 fun k e=>by omega,?_⟩
   unfold hT
   rw [if_pos hk3]
   exact d5
  ·refine ⟨0,L3,bad4,by decide,h11,H11,X11,g011,?_⟩
   unfold hT
   rw [if_neg hk3]
   exact ⟨fun h=>⟨h,rfl⟩,fun h=>.inl h⟩
 rintro _ u ⟨t,L4,bad5,ht,hs,Hu,Xu,gu,d5⟩
 have su:=gu.size
 refine fldI Hu (i:=0) (x:=k) rfl ?_
 refine joinI (fun _ v=>∃ (bs:Int) (L5:List Bool) (bad6:Bool),(0≤bs∧bs≤4294967295)∧Src v b L5 bad6∧Blk v w1.heap.size 30 [.int .u8 k,.int .u8 (c:Int),.int .u32 (IntKind.wrap .u32 (e:Int)),.int .u32 (t:Int),.int .u32 bs]∧Blk v w.heap.size 30 [.int .u8 0,.int .u8 0,.int .u32 0,.int .u32 0,.int .u32 0]∧Fr (fun k=>k=b) w v∧Dec bad5 (hB k t L4) bs L5 bad6) ?_ ?_
 ·refine condE (fun hk2=>?_) fun hk2=>?_
  ·refine Z4h hs fun x L5 bad6 v1 hs1 k1 hx d6=>?_
   have y1:=k1.size
   have H1:=Hu.fr k1 (nb (by omega))
   have X1:=Xu.fr k1 (nb (Nat.le_refl _))
   have tw:IntKind.wrap .u64 (t:Int)=(t:Int):=wU64 (by omega)
   refine joinI (fun _ v=>Src v b L5 (bad6 || decide (t≤x))∧Fr (fun k=>k=b) v1 v∧v.heap.size=v1.heap.size) ?_ ?_
   ·refine ptrI (Zah hs1 (condI (fun hb=>ptrI (Z4j hs1 fun v2 hs2 k2 y2=>⟨by rw [hb]; exact hs2,k2,y2⟩)) fun hb=>fldI H1 (i:=3) (x:=(t:Int)) rfl (ptrI (Z4j hs1 fun v2 hs2 k2 y2=>⟨?_,k2,y2⟩))))
    rw [hb]
    have e1:decide ((x:Int) ≥ IntKind.wrap .u64 (t:Int))=decide (t≤x):=decide_eq_decide.2 (by rw [tw]; omega)
    rw [← e1]
    exact hs2
   rintro _ v ⟨hs2,k2,y2⟩
   have H2:=H1.fr k2 (nb (by omega))
   refine fldI H2 (i:=3) (x:=(t:Int)) rfl (setA H2 (by simp) rfl fun v3 H3 k3 y3=>?_)
   have hw:∀ y:Int,0≤IntKind.wrap .u32 y∧IntKind.wrap .u32 y≤4294967295:=fun y=>by rw [IntKind.wrap_u32]; omega
   refine ⟨_,L5,_,hw _,hs2.fr k3 fun k e e2=>by omega,H3,((X1.fr k2 (nb (Nat.le_refl _))).fr k3 fun e=>by omega),((gu.then k1).then k2).thenNew k3 fun k e=>by omega,?_⟩
   unfold hB
   rw [if_pos hk2]
   refine ⟨fun h=>?_,fun h=>?_⟩
   ·obtain ⟨a1,a2⟩:=Bool.or_eq_false_iff.1 h
    obtain ⟨a3,a4⟩:=d6.1 a1
    have a2:=of_decide_eq_false a2
    refine ⟨a3,?_⟩
    rw [a4]
    dsimp only
    rw [if_neg a2]
    congr 2
    rw [IntKind.wrap_u32,IntKind.wrap_u32,IntKind.wrap_u32]
    omega
   ·rcases Bool.or_eq_true_iff.1 h with a | a
    ·rcases d6.2 a with q | q
     ·exact .inl q
     ·exact .inr (by rw [q])
    ·have a:=of_decide_eq_true a
     cases h6:bad6 with
     | true =>
      rcases d6.2 h6 with q | q
      ·exact .inl q
      ·exact .inr (by rw [q])
     | false =>
      refine .inr ?_
      rw [(d6.1 h6).2]
      dsimp only
      rw [if_pos a]
  ·refine ⟨0,L4,bad5,by decide,hs,Hu,Xu,gu,?_⟩
   unfold hB
   rw [if_neg hk2]
   exact ⟨fun h=>⟨h,rfl⟩,fun h=>.inl h⟩
 rintro _ v ⟨bs,L5,bad6,hbs,hsv,Hv,Xv,gv,d6⟩
 have ew:0≤IntKind.wrap .u32 (e:Int)∧IntKind.wrap .u32 (e:Int)≤4294967295:=by rw [IntKind.wrap_u32]; omega
 have hok:HeadOk (k,(c:Int),IntKind.wrap .u32 (e:Int),(t:Int),bs):=⟨by dsimp only; omega,by dsimp only; omega,ew,by dsimp only; omega,hbs⟩
 have sv:=gv.size
 refine joinI (fun _ v2=>Src v2 b L5 (bad6 || headE (k,(c:Int),IntKind.wrap .u32 (e:Int),(t:Int),bs) != 0)∧Fr (fun k=>k=b) v v2) ?_ ?_
 ·refine ptrI (Zah hsv (condI (fun hb=>ptrI (Z4j hsv fun v2 hs2 k2 y2=>⟨by rw [hb]; exact hs2,k2⟩)) fun hb=>aggI Hv (x:=((k,(c:Int),IntKind.wrap .u32 (e:Int),(t:Int),bs):Head)) rfl (Zk3 hok fun v1 k1=>ptrI (Z4j (hsv.fr0 k1) fun v2 hs2 k2 y2=>⟨by rw [hb]; exact hs2,k1.any.then k2⟩))))
 rintro _ v2 ⟨hs2,k2⟩
 refine aggI (Hv.fr k2 (nb (by omega))) (x:=((k,(c:Int),IntKind.wrap .u32 (e:Int),(t:Int),bs):Head)) rfl (stoAll (Xv.fr k2 (nb (Nat.le_refl _))) rfl rfl fun v3 X3 k3 y3=>aggI X3 (x:=((k,(c:Int),IntKind.wrap .u32 (e:Int),(t:Int),bs):Head)) rfl ?_)
 refine hk _ L5 _ v3 hok (hs2.fr k3 fun k e e2=>by omega) ((gv.then k2).thenNew k3 fun k e=>by omega) ⟨fun h=>?_,fun h=>?_⟩
 ·obtain ⟨a6,a7⟩:=Bool.or_eq_false_iff.1 h
  have a7:headE (k,(c:Int),IntKind.wrap .u32 (e:Int),(t:Int),bs)=0:=by simpa using a7
  obtain ⟨b5,c5⟩:=d6.1 a6
  obtain ⟨b4,c4⟩:=d5.1 b5
  obtain ⟨b3,he2⟩:=d4 b4
  obtain ⟨b2,c2⟩:=d3.1 b3
  obtain ⟨b1,c1⟩:=d2.1 b2
  have e1:IntKind.wrap .u32 (e:Int)=(e:Int):=by rw [IntKind.wrap_u32]; omega
  rw [e1] at a7 ⊢
  refine ⟨rfl,?_⟩
  rw [d0.1 b1]
  unfold hR0
  rw [c1]
  dsimp only
  unfold hR1
  rw [c2]
  dsimp only
  unfold hR2
  rw [c4]
  dsimp only
  unfold hR3
  rw [c5]
  dsimp only
  rw [if_pos ⟨he2,a7⟩]
 ·refine .inr ?_
  cases q1:bad1 with
  | true=>exact d0.2 q1
  | false =>
  rw [d0.1 q1]
  unfold hR0
  cases q2:bad2 with
  | true =>
   rcases d2.2 q2 with q | q
   ·rw [q1] at q; cases q
   ·rw [q]
  | false =>
  rw [(d2.1 q2).2]
  dsimp only
  unfold hR1
  cases q3:bad3 with
  | true =>
   rcases d3.2 q3 with q | q
   ·rw [q2] at q; cases q
   ·rw [q]
  | false =>
  rw [(d3.1 q3).2]
  dsimp only
  unfold hR2
  by_cases he2:e≤4294967295
  ·have q4:bad4=false:=by
    cases q4:bad4 with
    | false=>rfl
    | true =>
     rcases d4' q4 with q | q
     ·rw [q3] at q; cases q
     ·omega
   cases q5:bad5 with
   | true =>
    rcases d5.2 q5 with q | q
    ·rw [q4] at q; cases q
    ·rw [q]
   | false =>
   rw [(d5.1 q5).2]
   dsimp only
   unfold hR3
   cases q6:bad6 with
   | true =>
    rcases d6.2 q6 with q | q
    ·rw [q5] at q; cases q
    ·rw [q]
   | false =>
   rw [(d6.1 q6).2]
   dsimp only
   have e1:IntKind.wrap .u32 (e:Int)=(e:Int):=by rw [IntKind.wrap_u32]; omega
   rw [q6,e1] at h
   have:headE (k,(c:Int),(e:Int),(t:Int),bs)≠0:=by simpa using h
   rw [if_neg fun g=>this g.2]
  ·cases hT k L3 with
   | none=>rfl
   | some p =>
    obtain ⟨t2,L6⟩:=p
    dsimp only
    unfold hR3
    cases hB k t2 L6 with
    | none=>rfl
    | some p =>
     obtain ⟨b2,L7⟩:=p
     dsimp only
     rw [if_neg fun g=>he2 g.1]
end Go.Proofs.YtchhhjlpnecjkaaGreat
namespace Go.Proofs.YtchhhjlpnecjkaaGreat
open Go Go.RowKit Go.Proofs.YtchhhjlpnecjkaaGreat.Den
variable {R:Type} {Q:R→World→Prop} {w:World} {b:Nat} {L:List Bool} {bad:Bool}
def hadK (was:List Ent) (id k:Int):Prop:=∃ a∈was,a.1=id∧∃ x∈a.2,x.1=k
theorem Z16g {l:List Comp} {k:Int} (h:¬ findM l k < 0):∃ (j:Nat) (x:Comp),findM l k=(j:Int)∧l[j]?=some x∧x.1=k∧l.find? (fun c=>c.1 == k)=some x:=by
 unfold findM at h ⊢
 split at h
 ·rename_i i hi
  obtain ⟨hl,e,hlt⟩:=List.findIdx?_eq_some_iff_getElem.1 hi
  refine ⟨i,l[i],rfl,List.getElem?_eq_getElem hl,by simpa using e,?_⟩
  rw [List.find?_eq_some_iff_getElem]
  exact ⟨e,i,hl,rfl,fun j hj=>by simpa using hlt j hj⟩
 ·exact absurd (by decide) h
theorem Z16f {L:List Ent} {id:Int} {i:Nat} (h:findE L id=(i:Int)):L.findIdx? (fun e=>e.1 == id)=some i:=by
 unfold findE at h
 split at h
 ·rename_i q hq
  have:q=i:=by omega
  rw [hq,this]
 ·omega
theorem Zt6 (was:List Ent) (id:Int):∀ (is js:List Int) (L:List Bool),setsD was id (is ++ js) L=match setsD was id is L with
  | none=>none
  | some (cs,L2)=>match setsD was id js L2 with
   | none=>none
   | some (cs2,L3)=>some (cs ++ cs2,L3)
 | [],js,L=>by
  rw [List.nil_append,setsD]
  dsimp only
  cases setsD was id js L with
  | none=>rfl
  | some p=>rfl
 | i :: r,js,L=>by
  rw [List.cons_append,setsD,setsD]
  by_cases h:(oldM was id i).1≠i
  ·rw [if_pos h,if_pos h]
  ·rw [if_neg h,if_neg h]
   cases stepDec (oldM was id i) L with
   | none=>rfl
   | some p =>
    obtain ⟨v,L2⟩:=p
    dsimp only
    rw [Zt6 was id r js L2]
    cases setsD was id r L2 with
    | none=>rfl
    | some q =>
     obtain ⟨vs,L3⟩:=q
     dsimp only
     cases setsD was id js L3 with
     | none=>rfl
     | some t=>rfl
def SetS (n:Nat) (was:List Ent) (id:Int) (m:Nat) (L0:List Bool) (bad0:Bool) (b cb:Nat) (c0:Int × Int × Sl) (j:Nat) (w0 u:World):Prop :=
 Fr (fun k=>k=b∨k=cb) w0 u∧∃ (t:Sl) (ss:List Comp) (L':List Bool) (bad':Bool),Own (Up n) u 92 compT t ss∧ss.length≤j∧(∀ c∈ss,CompOk c)∧Src u b L' bad'∧Blk u cb 86 [.int .u32 c0.1,.int .u8 c0.2.1,.slice c0.2.2.a c0.2.2.n c0.2.2.c,.slice t.a t.n t.c] ∧
  (bad'=false→bad0=false∧setsD was id (kindsB m j) L0=some (ss,L'))∧(bad'=true→bad0=true∨∀ ss' r,setsD was id (kindsOf m) L0=some (ss',r)→∃ x∈ss',¬ hadK was id x.1)
theorem Z17e (h:Src w b L bad) {cb:Nat} {c0:Int × Int × Sl} (C:Blk w cb 86 [.int .u32 c0.1,.int .u8 c0.2.1,.slice c0.2.2.a c0.2.2.n c0.2.2.c,.slice none 0 0]) (hcb:b < cb) {sw:Sl} {raws:List (Int × Sl)} {was:List Ent} (hS:SlT (fun k=>k < b) w entT sw raws) (hE:EntsR (fun k=>k < b) w raws was) (hL:∀ e∈was,EntFit e) (hwl:was.length≤1048576) (hf:FormOk was) {id:Int} {m:Nat} (hm:m < 32) {K:W R} (hk:∀ u,SetS w.heap.size was id m L bad b cb c0 5 w u→K Q u) :
  (loopW (σ := Int) (fun K_40 s_41 =>
       cond (decide (s_41 < 5))
        (joinW (σ:=Unit) (fun J_42 =>
        joinW (σ:=Bool) (fun J_43 =>
         chkW (0≤s_41) <|
         cond ((Int.tmod (shR .u64 (m:Int) s_41) 2) == 0)
          (J_43 true)
          (ld (.sc .bool) (Addr.add ⟨b, 0, none⟩ 1) fun (x_44 : Bool) =>
             J_43 x_44))
        <| fun s_45 =>
        cond s_45
         (J_42 ())
         (joinW (σ:=Int) (fun J_46 =>
         cond (decide (findE was id ≥ 0))
          (idxW sw.a sw.n 2 (findE was id) fun x_47 =>
          ld (.sc .sl) (Addr.add x_47 1) fun (x_48:Sl) =>
          callW Tryz.prog Z7 [.slice x_48.a x_48.n x_48.c,.int .u8 s_41] [.sc (.int .i64)] fun (x_49:Int) =>
          J_46 x_49)
          (J_46 (-1)))
        <| fun s_50 =>
        cond (decide (s_50 < 0))
         (stoL (Addr.add ⟨b,0,none⟩ 1) [.bool true] 0 <|
         J_42 ())
         (joinW (σ:=(Option Addr) × Sl × Int) (fun J_51 =>
         drawW <|
         bothW
          (ld (.sc .sl) (Addr.add ⟨b,0,none⟩ 0) fun (x_52:Sl) =>
          idxW sw.a sw.n 2 (findE was id) fun x_53 =>
          ld (.sc .sl) (Addr.add x_53 1) fun (x_54:Sl) =>
          idxW x_54.a x_54.n 4 s_50 fun x_55 =>
          ld (.agg [.int .u8,.int .i32,.int .i32,.int .i32]) x_55 fun (x_56:(Int × Int × Int × Int)) =>
          callW Tryz.prog Zd [.slice x_52.a x_52.n x_52.c,.agg ⟨[.int .u8 x_56.1,.int .i32 x_56.2.1,.int .i32 x_56.2.2.1,.int .i32 x_56.2.2.2]⟩] [.agg [.int .u8,.int .i32,.int .i32,.int .i32],.sc .sl,.sc (.int .i64)] fun (x_57:(Int × Int × Int × Int) × Sl × Int) =>
          newW 92 [.int .u8 0,.int .i32 0,.int .i32 0,.int .i32 0] fun x_58 =>
          stoL x_58 [.int .u8 x_57.1.1,.int .i32 x_57.1.2.1,.int .i32 x_57.1.2.2.1,.int .i32 x_57.1.2.2.2] 0 <|
          J_51 ((some x_58),x_57.2.1,x_57.2.2))
          (ld (.sc .sl) (Addr.add ⟨b,0,none⟩ 0) fun (x_59:Sl) =>
          idxW sw.a sw.n 2 (findE was id) fun x_60 =>
          ld (.sc .sl) (Addr.add x_60 1) fun (x_61:Sl) =>
          idxW x_61.a x_61.n 4 s_50 fun x_62 =>
          ld (.agg [.int .u8,.int .i32,.int .i32,.int .i32]) x_62 fun (x_63:(Int × Int × Int × Int)) =>
          newW 92 [.int .u8 0,.int .i32 0,.int .i32 0,.int .i32 0] fun x_64 =>
          callW Tryz.prog Zd [.slice x_59.a x_59.n x_59.c,.agg ⟨[.int .u8 x_63.1,.int .i32 x_63.2.1,.int .i32 x_63.2.2.1,.int .i32 x_63.2.2.2]⟩] [.agg [.int .u8,.int .i32,.int .i32,.int .i32],.sc .sl,.sc (.int .i64)] fun (x_65:(Int × Int × Int × Int) × Sl × Int) =>
          stoL x_64 [.int .u8 x_65.1.1,.int .i32 x_65.1.2.1,.int .i32 x_65.1.2.2.1,.int .i32 x_65.1.2.2.2] 0 <|
          J_51 ((some x_64),x_65.2.1,x_65.2.2)))
        <| fun s_66 =>
        stoL (Addr.add ⟨b,0,none⟩ 0) [.slice s_66.2.1.a s_66.2.1.n s_66.2.1.c] 0 <|
        stoL (Addr.add ⟨b,0,none⟩ 1) [.bool (s_66.2.2 != 0)] 0 <|
        ld (.sc .sl) (Addr.add ⟨cb,0,none⟩ 3) fun (x_67:Sl) =>
        ptrW s_66.1 fun x_68 =>
        ld (.agg [.int .u8,.int .i32,.int .i32,.int .i32]) x_68 fun (x_69:(Int × Int × Int × Int)) =>
        newW 92 [.int .u8 x_69.1,.int .i32 x_69.2.1,.int .i32 x_69.2.2.1,.int .i32 x_69.2.2.2] fun x_70 =>
        rawW Tryz.prog (Builtin.append_ #[55,55] 55 #[.slice x_67.a x_67.n x_67.c,.slice (some x_70) 1 1]) [.sc .sl] fun (x_71:Sl) =>
        stoL (Addr.add ⟨cb,0,none⟩ 3) [.slice x_71.a x_71.n x_71.c] 0 <|
        J_42 ())))
       <| fun _ =>
       K_40 (IntKind.wrap .u8 (s_41+1)))
        K) 0:W R) Q w:=by
 have hcw:=C.lt
 refine forI (N:=5) (fun s:Int=>s) (fun j s u=>s=(j:Int)∧SetS w.heap.size was id m L bad b cb c0 j w u)
  ⟨rfl,Fr.refl _ _,⟨none,0,0⟩,[],L,bad,Own.nil _ _ _ _,Nat.le_refl _,(fun c h=>by cases h),h,C,fun e=>⟨e,rfl⟩,fun e=>.inl e⟩ (fun j s w' h=>h.1) ?_ fun s u ⟨_,h⟩=>hk u h
 rintro j s u K' hj ⟨rfl,fu,t,ss,L',bad',o,hlen,hco,hs,Cu,hg,hb⟩ - hK
 have su:=fu.size
 have hbit:=Z14o ⟨m,hm⟩ ⟨j,hj⟩
 dsimp only at hbit
 have lt:∀ k,k < b→¬ (k=b∨k=cb):=fun k h e=>by omega
 refine joinI (fun _ v=>SetS w.heap.size was id m L bad b cb c0 (j+1) w v) ?_ fun _ v h=>hK _ _ ⟨by rw [wu8 (by omega)]; rfl,h⟩
 refine joinI (fun q v=>v=u∧q=(!m.testBit j || bad')) (chkI (Int.natCast_nonneg j) ?_) ?_
 ·show (cond (Int.tmod (shR .u64 (m:Int) (j:Int)) 2 == 0) _ _:W _) _ _
  rw [hbit]
  refine condI (fun h1=>⟨rfl,by rw [h1]; rfl⟩) fun h1=>Zah hs ⟨rfl,by rw [h1]; rfl⟩
 rintro q v ⟨rfl,rfl⟩
 refine condI (fun hc=>?_) fun hc=>?_
 ·refine ⟨fu,t,ss,L',bad',o,by omega,hco,hs,Cu,fun e=>?_,hb⟩
  subst e
  have:m.testBit j=false:=by simpa using hc
  rw [Z7u,if_neg (by rw [this]; decide),List.append_nil]
  exact hg rfl
 obtain ⟨hb1,hb2⟩:=Bool.or_eq_false_iff.1 hc
 have hb1:m.testBit j=true:=by simpa using hb1
 subst hb2
 obtain ⟨g1,g2⟩:=hg rfl
 obtain ⟨rr,hrr⟩:=Zqv m hj hb1
 have hnext:kindsB m (j+1)=kindsB m j ++ [(j:Int)]:=by rw [Z7u,if_pos hb1]
 have impossible:¬ hadK was id (j:Int)→∀ ss' r,setsD was id (kindsOf m) L=some (ss',r)→∃ x∈ss',¬ hadK was id x.1:=fun hno ss' r hd=>by
  obtain ⟨_,hks,_⟩:=Zhp _ _ _ hd
  have:(j:Int)∈ss'.map (·.1):=by rw [hks,← Z5q hm,hrr]; simp
  obtain ⟨x,hx,e⟩:=List.mem_map.1 this
  exact ⟨x,hx,by rw [e]; exact hno⟩
 have hSu:=hS.fr fu lt
 have hEu:=hE.fr fu lt
 have gone:∀ {v1:World},Fr None v v1→¬ hadK was id (j:Int)→(stoL (Addr.add ⟨b,0,none⟩ 1) [.bool true] 0 (fun _ v=>SetS w.heap.size was id m L bad b cb c0 (j+1) w v:W R)) Q v1:=fun f hno =>
  Z4j (hs.fr0 f) fun v2 hs2 f2 _=>by
   have f2':=fu.then (f.any.then (f2.sub fun k e=>.inl e))
   exact ⟨f2',t,ss,L',true,(o.none f).fr f2 fun k (e:w.heap.size≤k) e2=>by omega,by omega,hco,hs2,(Cu.fr f fun h=>h).fr f2 fun e=>by omega,fun e=>(by cases e),fun _=>.inr (impossible hno)⟩
 rcases Zei (L:=was) (id:=id) with ⟨ef,hno⟩ | ⟨i,a,ef,ha,hid⟩
 ·have hnh:¬ hadK was id (j:Int):=fun ⟨a,ha,e,_⟩=>Z6r.1 hno a ha e
  rw [ef]
  refine joinI (fun z v1=>z=-1∧v1=v) (condF rfl ⟨rfl,rfl⟩) ?_
  rintro z v1 ⟨rfl,rfl⟩
  exact condT rfl (gone (Fr.refl _ _) hnh)
 rw [ef]
 obtain ⟨ra,hra,ra1,ra2⟩:=hEu.get ha
 have haf:=hL a (List.mem_of_getElem? ha)
 refine joinI (fun z v1=>z=findM a.2 (j:Int)∧Fr None v v1) (condT (decide_eq_true (Int.natCast_nonneg i)) ?_) ?_
 ·refine hSu.readK rfl rfl hra fun ad had=>(had _ hSu).fld (i:=1) (s:=.sl) (y:=ra.2) rfl ?_
  exact Z5n ra2 haf.2.1 fun v1 k1=>⟨rfl,k1⟩
 rintro z v1 ⟨rfl,k1⟩
 refine condD (fun hlt=>gone k1 fun ⟨a2,ha2,e2,x,hx,ex⟩=>?_) fun hge=>?_
 ·have:=Zv7 hf.rise ha2 (List.mem_of_getElem? ha) (by rw [e2,hid])
  subst this
  exact Zsp ⟨x,hx,ex⟩ hlt
 obtain ⟨q,x,hq,hx,hxk,hfind⟩:=Z16g hge
 rw [hq]
 have hold:oldM was id (j:Int)=x:=by
  unfold oldM
  rw [Z16f ef]
  dsimp only
  rw [ha]
  show ((a.2.find? fun c=>c.1 == (j:Int))).getD (0,0,0,0)=x
  rw [hfind]
  rfl
 have hxo:CompOk x:=haf.2.2 x (List.mem_of_getElem? hx)
 have hs1:=hs.fr0 k1
 have hs1':=hs1
 obtain ⟨⟨s,B,ts⟩,hl⟩:=hs1'
 have kd:Fr None v1 v1.drew:=(Fr.refl _ _).drew
 have k1d:=k1.then0 kd
 have hSd:=hSu.fr0 k1d
 have rad:=ra2.fr0 k1d
 have hxlt:=(List.getElem?_eq_some_iff.1 hx).1
 refine joinI (fun (z:Option Addr × Sl × Int) v2=>Fr None v v2∧∃ xb c L2,z.1=some ⟨xb,0,none⟩∧v.heap.size≤xb∧Blk v2 xb 92 (compC c)∧CompOk c∧SlT (fun k=>k < b) v2 boolT z.2.1 L2∧L2.length≤1048576∧((z.2.2=0∧stepDec x L'=some (c,L2))∨(z.2.2≠0∧stepDec x L'=none))) ?_ ?_
 ·have y1:=k1.size
  refine bothI ?_ ?_
  ·refine fldI (B.fr kd fun h=>h) (i:=0) (x:=s) rfl (hSd.readK rfl rfl hra fun ad had=>(had _ hSd).fld (i:=1) (s:=.sl) (y:=ra.2) rfl (rad.get rfl rfl hxlt fun x' hx'=>?_))
   rw [hx] at hx'
   cases hx'
   refine Zi1 (ts.fr0 kd) hl hxo (fun hn e v2 he k2=>?_) fun c L2 r v2 hd hle hr k2=>?_
   ·have z2:=k2.size
    have zd:v1.drew.heap.size=v1.heap.size:=rfl
    refine newI fun v3 X1 k3 y3=>stoAll X1 rfl rfl fun v4 X k4 y4=>⟨((k1d.then0 k2).then0 k3).newer k4 fun k e=>by omega,_,(0,0,0,0),L',rfl,by omega,X,⟨by decide,by unfold i32; decide,by unfold i32; decide,by unfold i32; decide⟩,((ts.fr0 kd).fr0 k2).fr0 (k3.newer k4 fun k e=>by omega),hl,.inr ⟨he,hn⟩⟩
   ·have z2:=k2.size
    have zd:v1.drew.heap.size=v1.heap.size:=rfl
    refine newI fun v3 X1 k3 y3=>stoAll X1 rfl rfl fun v4 X k4 y4=>⟨((k1d.then0 k2).then0 k3).newer k4 fun k e=>by omega,_,c,L2,rfl,by omega,X,Zqa hxo hd,hr.fr0 (k3.newer k4 fun k e=>by omega),by omega,.inl ⟨rfl,hd⟩⟩
  ·refine fldI (B.fr kd fun h=>h) (i:=0) (x:=s) rfl (hSd.readK rfl rfl hra fun ad had=>(had _ hSd).fld (i:=1) (s:=.sl) (y:=ra.2) rfl (rad.get rfl rfl hxlt fun x' hx'=>?_))
   rw [hx] at hx'
   cases hx'
   refine newI fun v3 X1 k3 y3=>?_
   have zd:v1.drew.heap.size=v1.heap.size:=rfl
   refine Zi1 ((ts.fr0 kd).fr0 k3) hl hxo (fun hn e v2 he k2=>?_) fun c L2 r v2 hd hle hr k2=>?_
   ·refine stoAll (X1.fr k2 fun h=>h) rfl rfl fun v4 X k4 y4=>⟨((k1d.then0 k3).then0 k2).newer k4 fun k e=>by omega,_,(0,0,0,0),L',rfl,by omega,X,⟨by decide,by unfold i32; decide,by unfold i32; decide,by unfold i32; decide⟩,(((ts.fr0 kd).fr0 k3).fr0 k2).fr k4 fun k e e2=>by omega,hl,.inr ⟨he,hn⟩⟩
   ·refine stoAll (X1.fr k2 fun h=>h) rfl rfl fun v4 X k4 y4=>⟨((k1d.then0 k3).then0 k2).newer k4 fun k e=>by omega,_,c,L2,rfl,by omega,X,Zqa hxo hd,hr.fr k4 fun k e e2=>by omega,by omega,.inl ⟨rfl,hd⟩⟩
 rintro ⟨zp,r,e⟩ v2 ⟨k2,xb,c,L2,hz,hxb,X,hc,hr,hl2,hcase⟩
 have hz:zp=some ⟨xb,0,none⟩:=hz
 subst hz
 have hr:SlT (fun k=>k < b) v2 boolT r L2:=hr
 have hcase:(e=0∧stepDec x L'=some (c,L2))∨(e≠0∧stepDec x L'=none):=hcase
 obtain ⟨⟨s2,B2,_⟩,_⟩:=hs.fr0 k2
 have C2:=Cu.fr k2 fun h=>h
 have cv:=Cu.lt
 have bv:=hs.lt
 refine setA B2 (by simp) rfl fun v3 B3 k3 y3=>setA B3 (by simp) rfl fun v4 B4 k4 y4=>?_
 have k34:=k3.then k4
 have C4:=C2.fr k34 fun e=>by omega
 refine fldI C4 (i:=3) (x:=t) rfl (ptrI (aggI (X.fr k34 fun e=>by omega) (x:=c) rfl ?_))
 have o4:=(o.none k2).fr k34 fun k (e:w.heap.size≤k) e2=>by omega
 have y2:=k2.size
 refine appP (x:=c) Z2u rfl o4 (fun k e=>by show w.heap.size≤k; omega) (by omega) (by omega) fun t' v5 o5 k5=>?_
 have tlt:∀ k,t.v.ownBlock=some k→w.heap.size≤k:=fun k e=>o4.own k e
 have C5:=C4.fr k5 fun e=>by have:=tlt _ e; omega
 refine setA C5 (by simp) rfl fun v6 C6 k6 y6=>?_
 have hs4:Src v4 b L2 (e != 0):=⟨⟨r,B4,hr.fr k34 fun k e e2=>by omega⟩,hl2⟩
 have hs6:Src v6 b L2 (e != 0):=(hs4.fr k5 fun k e e2=>by have:=tlt _ e2; omega).fr k6 fun k e e2=>by omega
 refine ⟨((((fu.then k2.any).then (k34.sub fun k e=>.inl e)).thenNew k5 tlt).then (k6.sub fun k e=>.inr e)),t',ss ++ [c],L2,_,o5.fr k6 fun k (e:w.heap.size≤k) e2=>by omega,by simp; omega,fun y hy=>?_,hs6,C6,fun he=>?_,fun he=>?_⟩
 ·rcases List.mem_append.1 hy with hy | hy
  ·exact hco y hy
  ·simp at hy; rw [hy]; exact hc
 ·rcases hcase with ⟨e0,hd⟩ | ⟨e0,hd⟩
  ·refine ⟨g1,?_⟩
   rw [hnext,Zt6,g2]
   dsimp only
   rw [setsD,hold,if_neg (by rw [hxk]; simp),hd]
   rfl
  ·exact absurd (by simpa using he) e0
 ·rcases hcase with ⟨e0,hd⟩ | ⟨e0,hd⟩
  ·rw [e0] at he; cases he
  ·refine .inr fun ss' r' h'=>?_
   rw [← Z5q hm,hrr,Zt6,g2] at h'
   dsimp only at h'
   rw [setsD,hold,if_neg (by rw [hxk]; simp),hd] at h'
   cases h'
end Go.Proofs.YtchhhjlpnecjkaaGreat
namespace Go.Proofs.YtchhhjlpnecjkaaGreat
open Go Go.RowKit Go.Proofs.YtchhhjlpnecjkaaGreat.Den
variable {R:Type} {Q:R→World→Prop} {w:World} {b:Nat} {L:List Bool} {bad:Bool}
theorem Z17w {β:Type} {f:Int→List Bool→Option (β × List Bool)} {id:β→Int} {L0 L':List Bool} {done:List β} {last:Int} (h:L0=L0):moreD done (repD f id 0 last L')=some (done,L'):=by
 show some (done ++ [],L')=_
 rw [List.append_nil]
theorem Zyv {β:Type} (x:Option (List β × List Bool)):x=moreD [] x:=by
 cases x with
 | none=>rfl
 | some p=>rfl
theorem Z17d (h:Src w b L bad) {db:Nat} {s1 s2:Sl} (D:Blk w db 80 [.slice none 0 0,.slice s1.a s1.n s1.c,.slice s2.a s2.n s2.c]) (hdb:b < db) {K:W R}
  (hk:∀ u t gone L' bad',Own (Up w.heap.size) u 54 idT t gone→Src u b L' bad'→Blk u db 80 [.slice t.a t.n t.c,.slice s1.a s1.n s1.c,.slice s2.a s2.n s2.c]→Fr (fun k=>k=b∨k=db) w u→Dec bad (goneD L) gone L' bad'→K Q u) :
  (callW Tryz.prog Z3 [.pointer (some ⟨b, 0, none⟩)] [.sc (.int .u64)] fun (x_16 : Int) =>
     loopW (σ:=Int × Int) (fun K_17 s_18 =>
      joinW (σ:=Bool) (fun J_19 =>
       cond (decide (s_18.2 > 0))
        (ld (.sc .bool) (Addr.add ⟨b, 0, none⟩ 1) fun (x_20 : Bool) =>
           J_19 (!x_20))
        (J_19 false))
      <| fun s_21 =>
      cond s_21
       (callW Tryz.prog Zf [.pointer (some ⟨b,0,none⟩),.int .u32 s_18.1] [.sc (.int .u32)] fun (x_22:Int) =>
      ld (.sc .sl) (Addr.add ⟨db,0,none⟩ 0) fun (x_23:Sl) =>
      newW 54 [.int .u32 x_22] fun x_24 =>
      rawW Tryz.prog (Builtin.append_ #[77,77] 77 #[.slice x_23.a x_23.n x_23.c,.slice (some x_24) 1 1]) [.sc .sl] fun (x_25:Sl) =>
      stoL (Addr.add ⟨db,0,none⟩ 0) [.slice x_25.a x_25.n x_25.c] 0 <|
      K_17 (x_22,IntKind.wrap .u64 (s_18.2 - 1)))
       K) (0,x_16):W R) Q w:=by
 have hdw:=D.lt
 refine Z4h h fun n L1 bad1 w1 h1 f1 hn hd1=>?_
 have len1:L1.length≤1048576:=h1.2
 refine loopI (fun (st:Int × Int) u=>∃ (t:Sl) (done:List Int) (L':List Bool) (bad':Bool) (m:Nat),IdOk st.1∧st.2=((m:Nat):Int)∧m < 18446744073709551616∧Own (Up w.heap.size) u 54 idT t done∧Src u b L' bad'∧Blk u db 80 [.slice t.a t.n t.c,.slice s1.a s1.n s1.c,.slice s2.a s2.n s2.c]∧Fr (fun k=>k=b∨k=db) w u ∧
   (bad'=false→bad=false∧goneD L=moreD done (repD idDec (fun i:Int=>i) m st.1 L')∧done.length+L'.length≤1048576)∧(bad'=true→bad=true∨goneD L=none))
  (fun st _=>st.2.toNat) ⟨⟨none,0,0⟩,[],L1,bad1,n,(show IdOk 0 from ⟨by decide,by decide⟩),rfl,hn,Own.nil _ _ _ _,h1,D.fr f1 fun e=>by omega,f1.sub fun k e=>.inl e,fun e=>?_,fun e=>?_⟩ ?_
 ·obtain ⟨g1,g2⟩:=hd1.1 e
  refine ⟨g1,?_,by simpa using len1⟩
  unfold goneD
  rw [g2]
  exact Zyv _
 ·rcases hd1.2 e with g | g
  ·exact .inl g
  ·exact .inr (by unfold goneD; rw [g])
 rintro ⟨c1,c2⟩ u ⟨t,done,L',bad',m,hlast,hc2,hm,o,hs,Du,fu,hgood,hbad⟩
 dsimp only at hlast hc2 hgood
 subst hc2
 have su:=fu.size
 refine joinI (fun q v=>v=u∧q=(decide (0 < m) && !bad')) ?_ ?_
 ·refine condD (fun hp=>Zah hs ⟨rfl,?_⟩) fun hp=>⟨rfl,?_⟩
  ·have hp:((m:Nat):Int) > 0:=hp
   rw [decide_eq_true (show 0 < m by omega)]; rfl
  ·have hp:¬ ((m:Nat):Int) > 0:=hp
   rw [decide_eq_false (show ¬ 0 < m by omega)]; rfl
 rintro q v ⟨rfl,rfl⟩
 refine condI (fun hc=>?_) fun hc=>?_
 ·obtain ⟨hc1,hc2⟩:=Bool.and_eq_true_iff.1 hc
  have hpos:=of_decide_eq_true hc1
  have hb':bad'=false:=by simpa using hc2
  subst hb'
  obtain ⟨g1,g2,g3⟩:=hgood rfl
  obtain ⟨m,rfl⟩:∃ q,m=q+1:=⟨m - 1,by omega⟩
  refine Zmq hs hlast fun id L2 bad2 v1 hs1 k1 hid d1=>?_
  have y1:=k1.size
  have o1:=o.fr k1 fun k (e:w.heap.size≤k) e2=>by have:=h.lt; omega
  have hbw:=h.lt
  refine fldI (Du.fr k1 fun e=>by omega) (i:=0) (x:=t) rfl ?_
  refine appP (x:=id) Z17r rfl o1 (fun k e=>by show w.heap.size≤k; omega) (by omega) (by omega) fun t' v2 o2 k2=>?_
  have tl:∀ k,t.v.ownBlock=some k→w.heap.size≤k:=fun k e=>o1.own k e
  refine setA ((Du.fr k1 fun e=>by omega).fr k2 fun e=>by have:=tl _ e; omega) (by simp) rfl fun v3 D3 k3 y3=>?_
  have mm:IntKind.wrap .u64 (((m+1:Nat):Int) - 1)=(m:Int):=by rw [wU64 (by omega)]; omega
  refine ⟨⟨t',done ++ [id],L2,bad2,m,hid,mm,by omega,o2.fr k3 fun k (e:w.heap.size≤k) e2=>by omega,(hs1.fr k2 fun k e e2=>by have:=tl _ e2; omega).fr k3 fun k e e2=>by omega,D3,((fu.then (k1.sub fun k e=>.inl e)).thenNew k2 tl).then (k3.sub fun k e=>.inr e),fun e=>?_,fun e=>?_⟩,?_⟩
  ·obtain ⟨_,q5⟩:=d1.1 e
   refine ⟨g1,by rw [g2]; exact Zcm q5,?_⟩
   have:=Zh7 q5
   simp only [List.length_append,List.length_singleton]
   omega
  ·refine .inr ?_
   rcases d1.2 e with q | q
   ·cases q
   ·rw [g2,repD,q]; rfl
  ·show (IntKind.wrap .u64 (((m+1:Nat):Int) - 1)).toNat < ((m+1:Nat):Int).toNat
   rw [mm]
   omega
 ·refine hk v t done L' bad' o hs Du fu ⟨fun e=>?_,hbad⟩
  obtain ⟨g1,g2,g3⟩:=hgood e
  have hz:m=0:=by
   rw [e] at hc
   have:decide (0 < m)=false:=by simpa using hc
   have:=of_decide_eq_false this
   omega
  subst hz
  exact ⟨g1,by rw [g2]; exact Z17w (L0:=L) rfl⟩
end Go.Proofs.YtchhhjlpnecjkaaGreat
namespace Go.Proofs.YtchhhjlpnecjkaaGreat
open Go Go.RowKit Go.Proofs.YtchhhjlpnecjkaaGreat.Den
variable {R:Type} {Q:R→World→Prop} {w:World} {b:Nat} {L:List Bool} {bad:Bool}
def ChgReal (was:List Ent) (d:Chg):Prop:=∀ x∈d.2.2.2,hadK was d.1 x.1
theorem Z161 {was now:List Ent} {gone:List Int} {come:List Ent} {chg:List Chg} (hp:PatchOk was gone come chg now):∀ d∈chg,ChgReal was d:=fun d hd x hx=>by
 rw [← hp.chg] at hd
 obtain ⟨a,ha,b,hb,e1,e2,e3⟩:=Z13r hd
 rw [e3] at hx
 have h2:=(List.mem_filter.1 (show x∈chM a.2 b.2 from hx)).2
 have hf:(findC a.2 x.1).2=true:=by
  cases hc:(findC a.2 x.1).2 with
  | true=>rfl
  | false=>rw [hc] at h2; simp at h2
 obtain ⟨h3,h4⟩:=Z26 hf
 exact ⟨a,ha,by omega,_,h3,h4⟩
def ChgsA (n:Nat) (u:World) (t:Sl) (raws:List ChgRaw) (done:List Chg):Prop:=Own (Up n) u 86 chgT t raws∧All2 (fun a d=>chgR (fun k=>n≤k∧t.v.ownBlock≠some k) u a d) raws done
theorem Z163 {n:Nat} {z:Sl} {raws:List ChgRaw} {done:List Chg} (h:ChgsA n w z raws done) (hn:n≤w.heap.size) (hl:raws.length≤2097152) {x:ChgRaw} {d:Chg} (hx:chgR (fun k=>n≤k∧z.v.ownBlock≠some k) w x d) {K:Sl→W R}
  (hk:∀ z' w',ChgsA n w' z' (raws ++ [x]) (done ++ [d])→Fr (Up n) w w'→K z' Q w') :
  (newW 86 [.int .u32 x.1,.int .u8 x.2.1,.slice x.2.2.1.a x.2.2.1.n x.2.2.1.c,.slice x.2.2.2.a x.2.2.2.n x.2.2.2.c] fun a=>rawW Tryz.prog (Builtin.append_ #[78,78] 78 #[.slice z.a z.n z.c,.slice (some a) 1 1]) [.sc .sl] K:W R) Q w:=by
 obtain ⟨o,eR⟩:=h
 have oz:Own (fun k=>n≤k∧(z.v.ownBlock=some k∨w.heap.size≤k)) w 86 chgT z raws:=⟨o.row,fun k e=>⟨o.own k e,.inl e⟩⟩
 refine appP (x:=x) Z13t rfl oz (fun k e=>⟨by omega,.inr e⟩) (by omega) (by omega) fun z' w' o' f'=>?_
 have ne:∀ k,k < w.heap.size→z.v.ownBlock≠some k→z'.v.ownBlock≠some k:=fun k hk hz e=>by
  rcases (o'.own k e).2 with h | h
  ·exact hz h
  ·omega
 have fix:∀ {s:Sl} {l:List Comp},SlT (fun k=>n≤k∧z.v.ownBlock≠some k) w compT s l→SlT (fun k=>n≤k∧z'.v.ownBlock≠some k) w' compT s l:=fun h =>
  ((h.mono (ok':=fun k=>(n≤k∧z.v.ownBlock≠some k)∧k < w.heap.size) fun k hk e=>⟨e,hk⟩).fr f' fun k e e2=>e.1.2 e2).mono fun k _ e=>⟨e.1.1,ne k e.2 e.1.2⟩
 have fixR:∀ {a:ChgRaw} {d:Chg},chgR (fun k=>n≤k∧z.v.ownBlock≠some k) w a d→chgR (fun k=>n≤k∧z'.v.ownBlock≠some k) w' a d:=fun h=>⟨h.1,h.2.1,fix h.2.2.1,fix h.2.2.2⟩
 exact hk z' w' ⟨o'.mono fun k _ e=>e.1,(eR.imp fun a c h=>fixR h).snoc (fixR hx)⟩ (f'.sub fun k e=>o.own k e)
theorem ChgsA.fr {n:Nat} {z:Sl} {raws:List ChgRaw} {done:List Chg} (h:ChgsA n w z raws done) {S:Nat→Prop} {w':World} (f:Fr S w w') (hs:∀ k,n≤k→¬ S k):ChgsA n w' z raws done :=
 ⟨h.1.fr f fun k (e:n≤k)=>hs k e,h.2.imp fun a c ⟨h1,h2,h3,h4⟩=>⟨h1,h2,h3.fr f fun k e=>hs k e.1,h4.fr f fun k e=>hs k e.1⟩⟩
theorem Z17c (h:Src w b L bad) {db:Nat} {s1 s2:Sl} (D:Blk w db 80 [.slice s1.a s1.n s1.c,.slice s2.a s2.n s2.c,.slice none 0 0]) (hdb:b < db) {sw:Sl} {raws:List (Int × Sl)} {was:List Ent} (hS:SlT (fun k=>k < b) w entT sw raws) (hE:EntsR (fun k=>k < b) w raws was) (hL:∀ e∈was,EntFit e) (hwl:was.length≤1048576) (hf:FormOk was) {K:W R}
  (hk:∀ u t raws chg L' bad',ChgsA w.heap.size u t raws chg→Src u b L' bad'→Blk u db 80 [.slice s1.a s1.n s1.c,.slice s2.a s2.n s2.c,.slice t.a t.n t.c]→Fr (fun k=>k=b∨k=db) w u→(bad'=false→bad=false∧chgsD was L=some (chg,L'))→(bad'=true→bad=true∨∀ ds r,chgsD was L=some (ds,r)→∃ d∈ds,¬ ChgReal was d)→K Q u) :
  (callW Tryz.prog Z3 [.pointer (some ⟨b, 0, none⟩)] [.sc (.int .u64)] fun (x_27 : Int) =>
     loopW (σ:=Int × Int) (fun K_28 s_29 =>
      joinW (σ:=Bool) (fun J_30 =>
       cond (decide (s_29.2 > 0))
        (ld (.sc .bool) (Addr.add ⟨b, 0, none⟩ 1) fun (x_31 : Bool) =>
           J_30 (!x_31))
        (J_30 false))
      <| fun s_32 =>
      cond s_32
       (callW Tryz.prog Zf [.pointer (some ⟨b,0,none⟩),.int .u32 s_29.1] [.sc (.int .u32)] fun (x_33:Int) =>
      callW Tryz.prog Z2 [.pointer (some ⟨b,0,none⟩),.int .i64 5] [.sc (.int .u64)] fun (x_34:Int) =>
      newW 86 [.int .u32 0,.int .u8 0,.slice none 0 0,.slice none 0 0] fun x_35 =>
      stoL x_35 [.int .u32 x_33,.int .u8 (IntKind.wrap .u8 x_34),.slice none 0 0,.slice none 0 0] 0 <|
      callW Tryz.prog Z2 [.pointer (some ⟨b,0,none⟩),.int .i64 5] [.sc (.int .u64)] fun (x_36:Int) =>
      callW Tryz.prog Z2 [.pointer (some ⟨b,0,none⟩),.int .i64 5] [.sc (.int .u64)] fun (x_37:Int) =>
      callW Tryz.prog Zy [.pointer (some ⟨b,0,none⟩),.int .u64 x_36] [.sc .sl] fun (x_38:Sl) =>
      stoL (Addr.add x_35 2) [.slice x_38.a x_38.n x_38.c] 0 <|
      callW Tryz.prog Z9 [.slice sw.a sw.n sw.c,.int .u32 x_33] [.sc (.int .i64)] fun (x_39:Int) =>
      loopW (σ:=Int) (fun K_40 s_41 =>
       cond (decide (s_41 < 5))
        (joinW (σ:=Unit) (fun J_42 =>
        joinW (σ:=Bool) (fun J_43 =>
         chkW (0≤s_41) <|
         cond ((Int.tmod (shR .u64 x_37 s_41) 2) == 0)
          (J_43 true)
          (ld (.sc .bool) (Addr.add ⟨b, 0, none⟩ 1) fun (x_44 : Bool) =>
             J_43 x_44))
        <| fun s_45 =>
        cond s_45
         (J_42 ())
         (joinW (σ:=Int) (fun J_46 =>
         cond (decide (x_39 ≥ 0))
          (idxW sw.a sw.n 2 x_39 fun x_47 =>
          ld (.sc .sl) (Addr.add x_47 1) fun (x_48:Sl) =>
          callW Tryz.prog Z7 [.slice x_48.a x_48.n x_48.c,.int .u8 s_41] [.sc (.int .i64)] fun (x_49:Int) =>
          J_46 x_49)
          (J_46 (-1)))
        <| fun s_50 =>
        cond (decide (s_50 < 0))
         (stoL (Addr.add ⟨b,0,none⟩ 1) [.bool true] 0 <|
         J_42 ())
         (joinW (σ:=(Option Addr) × Sl × Int) (fun J_51 =>
         drawW <|
         bothW
          (ld (.sc .sl) (Addr.add ⟨b,0,none⟩ 0) fun (x_52:Sl) =>
          idxW sw.a sw.n 2 x_39 fun x_53 =>
          ld (.sc .sl) (Addr.add x_53 1) fun (x_54:Sl) =>
          idxW x_54.a x_54.n 4 s_50 fun x_55 =>
          ld (.agg [.int .u8,.int .i32,.int .i32,.int .i32]) x_55 fun (x_56:(Int × Int × Int × Int)) =>
          callW Tryz.prog Zd [.slice x_52.a x_52.n x_52.c,.agg ⟨[.int .u8 x_56.1,.int .i32 x_56.2.1,.int .i32 x_56.2.2.1,.int .i32 x_56.2.2.2]⟩] [.agg [.int .u8,.int .i32,.int .i32,.int .i32],.sc .sl,.sc (.int .i64)] fun (x_57:(Int × Int × Int × Int) × Sl × Int) =>
          newW 92 [.int .u8 0,.int .i32 0,.int .i32 0,.int .i32 0] fun x_58 =>
          stoL x_58 [.int .u8 x_57.1.1,.int .i32 x_57.1.2.1,.int .i32 x_57.1.2.2.1,.int .i32 x_57.1.2.2.2] 0 <|
          J_51 ((some x_58),x_57.2.1,x_57.2.2))
          (ld (.sc .sl) (Addr.add ⟨b,0,none⟩ 0) fun (x_59:Sl) =>
          idxW sw.a sw.n 2 x_39 fun x_60 =>
          ld (.sc .sl) (Addr.add x_60 1) fun (x_61:Sl) =>
          idxW x_61.a x_61.n 4 s_50 fun x_62 =>
          ld (.agg [.int .u8,.int .i32,.int .i32,.int .i32]) x_62 fun (x_63:(Int × Int × Int × Int)) =>
          newW 92 [.int .u8 0,.int .i32 0,.int .i32 0,.int .i32 0] fun x_64 =>
          callW Tryz.prog Zd [.slice x_59.a x_59.n x_59.c,.agg ⟨[.int .u8 x_63.1,.int .i32 x_63.2.1,.int .i32 x_63.2.2.1,.int .i32 x_63.2.2.2]⟩] [.agg [.int .u8,.int .i32,.int .i32,.int .i32],.sc .sl,.sc (.int .i64)] fun (x_65:(Int × Int × Int × Int) × Sl × Int) =>
          stoL x_64 [.int .u8 x_65.1.1,.int .i32 x_65.1.2.1,.int .i32 x_65.1.2.2.1,.int .i32 x_65.1.2.2.2] 0 <|
          J_51 ((some x_64),x_65.2.1,x_65.2.2)))
        <| fun s_66 =>
        stoL (Addr.add ⟨b,0,none⟩ 0) [.slice s_66.2.1.a s_66.2.1.n s_66.2.1.c] 0 <|
        stoL (Addr.add ⟨b,0,none⟩ 1) [.bool (s_66.2.2 != 0)] 0 <|
        ld (.sc .sl) (Addr.add x_35 3) fun (x_67:Sl) =>
        ptrW s_66.1 fun x_68 =>
        ld (.agg [.int .u8,.int .i32,.int .i32,.int .i32]) x_68 fun (x_69:(Int × Int × Int × Int)) =>
        newW 92 [.int .u8 x_69.1,.int .i32 x_69.2.1,.int .i32 x_69.2.2.1,.int .i32 x_69.2.2.2] fun x_70 =>
        rawW Tryz.prog (Builtin.append_ #[55,55] 55 #[.slice x_67.a x_67.n x_67.c,.slice (some x_70) 1 1]) [.sc .sl] fun (x_71:Sl) =>
        stoL (Addr.add x_35 3) [.slice x_71.a x_71.n x_71.c] 0 <|
        J_42 ())))
       <| fun s_72 =>
       K_40 (IntKind.wrap .u8 (s_41+1)))
        (ld (.sc .sl) (Addr.add ⟨db,0,none⟩ 2) fun (x_73:Sl) =>
      ld (.agg [.int .u32,.int .u8,.sl,.sl]) x_35 fun (x_74:(Int × Int × Sl × Sl)) =>
      newW 86 [.int .u32 x_74.1,.int .u8 x_74.2.1,.slice x_74.2.2.1.a x_74.2.2.1.n x_74.2.2.1.c,.slice x_74.2.2.2.a x_74.2.2.2.n x_74.2.2.2.c] fun x_75 =>
      rawW Tryz.prog (Builtin.append_ #[78,78] 78 #[.slice x_73.a x_73.n x_73.c,.slice (some x_75) 1 1]) [.sc .sl] fun (x_76:Sl) =>
      stoL (Addr.add ⟨db,0,none⟩ 2) [.slice x_76.a x_76.n x_76.c] 0 <|
      K_28 (x_33,IntKind.wrap .u64 (s_29.2 - 1))))
       0)
       K) (0,x_27):W R) Q w:=by
 have hdw:=D.lt
 have hbw:=h.lt
 refine Z4h h fun nn L1 bad1 w1 h1 f1 hnn hd1=>?_
 have len1:L1.length≤1048576:=h1.2
 refine loopI (fun (st:Int × Int) u=>∃ (t:Sl) (rs:List ChgRaw) (done:List Chg) (L':List Bool) (bad':Bool) (m:Nat),IdOk st.1∧st.2=((m:Nat):Int)∧m < 18446744073709551616∧ChgsA w.heap.size u t rs done∧Src u b L' bad'∧Blk u db 80 [.slice s1.a s1.n s1.c,.slice s2.a s2.n s2.c,.slice t.a t.n t.c]∧Fr (fun k=>k=b∨k=db) w u ∧
   (bad'=false→bad=false∧chgsD was L=moreD done (repD (chgD was) (fun d:Chg=>d.1) m st.1 L')∧done.length+L'.length≤1048576)∧(bad'=true→bad=true∨∀ ds r,chgsD was L=some (ds,r)→∃ d∈ds,¬ ChgReal was d))
  (fun st _=>st.2.toNat) ⟨⟨none,0,0⟩,[],[],L1,bad1,nn,(show IdOk 0 from ⟨by decide,by decide⟩),rfl,hnn,⟨Own.nil _ _ _ _,All2.nil _⟩,h1,D.fr f1 fun e=>by omega,f1.sub fun k e=>.inl e,fun e=>?_,fun e=>?_⟩ ?_
 ·obtain ⟨g1,g2⟩:=hd1.1 e
  refine ⟨g1,?_,by simpa using len1⟩
  unfold chgsD
  rw [g2]
  exact Zyv _
 ·rcases hd1.2 e with g | g
  ·exact .inl g
  ·exact .inr fun ds r hh=>by unfold chgsD at hh; rw [g] at hh; cases hh
 rintro ⟨c1,c2⟩ u ⟨t,rs,done,L',bad',m,hlast,hc2,hm,hA,hs,Du,fu,hgood,hbad⟩
 dsimp only at hlast hc2 hgood
 subst hc2
 have su:=fu.size
 refine joinI (fun q v=>v=u∧q=(decide (0 < m) && !bad')) ?_ ?_
 ·refine condD (fun hp=>Zah hs ⟨rfl,?_⟩) fun hp=>⟨rfl,?_⟩
  ·have hp:((m:Nat):Int) > 0:=hp
   rw [decide_eq_true (show 0 < m by omega)]; rfl
  ·have hp:¬ ((m:Nat):Int) > 0:=hp
   rw [decide_eq_false (show ¬ 0 < m by omega)]; rfl
 rintro q v ⟨rfl,rfl⟩
 refine condI (fun hc=>?_) fun hc=>?_
 ·obtain ⟨hc1,hc2⟩:=Bool.and_eq_true_iff.1 hc
  have hpos:=of_decide_eq_true hc1
  have hb':bad'=false:=by simpa using hc2
  subst hb'
  obtain ⟨g1,g2,g3⟩:=hgood rfl
  obtain ⟨m,rfl⟩:∃ q,m=q+1:=⟨m - 1,by omega⟩
  have nb:∀ {k:Nat},w.heap.size≤k→¬ k=b:=fun h e=>by omega
  have ndb:∀ {k:Nat},w.heap.size≤k→¬ k=db:=fun h e=>by omega
  refine Zmq hs hlast fun id L2 bad2 v1 hs1 k1 hid d1=>?_
  refine Z4i hs1 (n:=5) (by decide) fun lost L3 bad3 v2 hs2 k2 hlost d2=>?_
  have k02:=k1.then k2
  have y2:=k02.size
  refine newI fun v3 C1 k3 y3=>stoAll C1 rfl rfl fun v4 C k4 y4=>?_
  have ww:IntKind.wrap .u8 (lost:Int)=(lost:Int):=wu8 (by omega)
  rw [ww] at C
  have k24:Fr None v2 v4:=k3.newer k4 fun k e=>by omega
  have y24:=k24.size
  refine Z4i (hs2.fr0 k24) (n:=5) (by decide) fun fresh L4 bad4 v5 hs5 k5 hfresh d3=>?_
  refine Z4i hs5 (n:=5) (by decide) fun set L5 bad5 v6 hs6 k6 hset d4=>?_
  have k46:=k5.then k6
  have y46:=k46.size
  refine Zk5 hs6 hfresh fun r cs L6 bad6 v7 o7 hcl hco hs7 k7 d5=>?_
  have y7:=k7.size
  have C7:=(C.fr k46 fun e=>by omega).fr k7 fun e=>by omega
  refine setA C7 (by simp) rfl fun v8 C8 k8 y8=>?_
  have hs8:Src v8 b L6 bad6:=hs7.fr k8 fun k e e2=>by omega
  have kv7:Fr (fun k=>k=b) v v7:=((k02.then k24.any).then k46).then k7
  have kv8:Fr (fun k=>k=b) v v8:=kv7.thenNew k8 fun k e=>by omega
  have k08:Fr (fun k=>k=b∨k=db) w v8:=fu.then (kv8.sub fun k e=>.inl e)
  have ltS:∀ k,k < b→¬ (k=b∨k=db):=fun k h e=>by omega
  refine Z47 (hS.fr k08 ltS) (hE.fr k08 ltS) (by omega) fun v9 k9=>?_
  have y9:=k9.size
  have k09:=k08.then0 k9
  have D9:=(Du.fr kv8 fun e=>by omega).fr k9 fun h=>h
  obtain ⟨oA,eA⟩:=hA
  have tlt:∀ k,t.v.ownBlock=some k→k < v.heap.size:=fun k e=>oA.lt e
  have kv9:Fr (fun k=>k=b) v v9:=kv8.then k9.any
  have r9:SlT (fun k=>v6.heap.size≤k∧k < v7.heap.size) v9 compT r cs:=((o7.sl.mono (ok':=fun k=>v6.heap.size≤k∧k < v7.heap.size) fun k hk e=>⟨e,hk⟩).fr k8 fun k e e2=>by omega).fr0 k9
  refine Z17e (hs8.fr0 k9) (c0:=(id,(lost:Int),r)) (C8.fr k9 fun h=>h) (by omega) (hS.fr k09 ltS) (hE.fr k09 ltS) hL hwl hf hset fun v10 hset10=>?_
  obtain ⟨k10,ts,ss,L7,bad7,o10,hsl,hsco,hs10,C10,d6g,d6b⟩:=hset10
  have y10:=k10.size
  have ncb:∀ {k:Nat},k < v2.heap.size→¬ k=b→¬ (k=b∨k=v2.heap.size):=fun h1 h2 e=>by omega
  have D10:=D9.fr k10 fun e=>by omega
  refine fldI D10 (i:=2) (x:=t) rfl (aggI C10 (x:=((id,(lost:Int),r,ts):ChgRaw)) rfl ?_)
  have kvA:Fr (fun k=>k=b) v v10:=kv9.trans k10 (fun _ h=>h) fun x hx e=>e.elim (fun e=>e) fun e=>by omega
  have A10:ChgsA w.heap.size v10 t rs done:=by
   refine ⟨oA.fr kvA fun k (e:w.heap.size≤k)=>nb e,eA.imp fun a c ⟨h1,h2,h3,h4⟩=>⟨h1,h2,h3.fr kvA fun k e=>nb e.1,h4.fr kvA fun k e=>nb e.1⟩⟩
  have hx:chgR (fun k=>w.heap.size≤k∧t.v.ownBlock≠some k) v10 (id,(lost:Int),r,ts) (id,(lost:Int),cs,ss):=by
   refine ⟨rfl,rfl,(r9.fr k10 fun k e e2=>by omega).mono fun k _ e=>⟨by omega,fun e2=>by have:=tlt k e2; omega⟩,o10.sl.mono fun k _ (e:v9.heap.size≤k)=>⟨by omega,fun e2=>by have:=tlt k e2; omega⟩⟩
  have hrl:=eA.len
  refine Z163 A10 (by omega) (by omega) hx fun z' v11 A11 k11=>?_
  have D11:=D10.fr k11 fun (e:w.heap.size≤db)=>by omega
  refine setA D11 (by simp) rfl fun v12 D12 k12 y12=>?_
  have hs12:Src v12 b L7 bad7:=(hs10.fr k11 fun k e (e2:w.heap.size≤k)=>by omega).fr k12 fun k e e2=>by omega
  have mm:IntKind.wrap .u64 (((m+1:Nat):Int) - 1)=(m:Int):=by rw [wU64 (by omega)]; omega
  refine ⟨⟨z',rs ++ [(id,(lost:Int),r,ts)],done ++ [(id,(lost:Int),cs,ss)],L7,bad7,m,hid,mm,by omega,A11.fr k12 fun k e=>ndb e,hs12,D12,((fu.then (kvA.sub fun k e=>.inl e)).thenNew k11 fun k e=>e).then (k12.sub fun k e=>.inr e),fun e=>?_,fun e=>?_⟩,?_⟩
  ·obtain ⟨q6,p6⟩:=d6g e
   rw [Z5q hset] at p6
   obtain ⟨q5,p5⟩:=d5.1 q6
   obtain ⟨q4,p4⟩:=d4.1 q5
   obtain ⟨q3,p3⟩:=d3.1 q4
   obtain ⟨q2,p2⟩:=d2.1 q3
   obtain ⟨_,p1⟩:=d1.1 q2
   have hcd:chgD was c1 L'=some ((id,(lost:Int),cs,ss),L7):=by
    unfold chgD
    rw [p1]
    dsimp only
    rw [p2]
    dsimp only
    rw [p3]
    dsimp only
    rw [p4]
    dsimp only
    rw [p5]
    dsimp only
    rw [p6]
   refine ⟨g1,by rw [g2]; exact Zcm hcd,?_⟩
   have:=Zwg hcd
   simp only [List.length_append,List.length_singleton]
   omega
  ·refine .inr fun ds rr hh=>?_
   have claim:∀ d' r',chgD was c1 L'=some (d',r')→¬ ChgReal was d':=by
    intro d' r' hcd
    unfold chgD at hcd
    cases h2:bad2 with
    | true =>
     rcases d1.2 h2 with q | q
     ·cases q
     ·rw [q] at hcd; cases hcd
    | false =>
    rw [(d1.1 h2).2] at hcd
    dsimp only at hcd
    cases h3:bad3 with
    | true =>
     rcases d2.2 h3 with q | q
     ·rw [h2] at q; cases q
     ·rw [q] at hcd; cases hcd
    | false =>
    rw [(d2.1 h3).2] at hcd
    dsimp only at hcd
    cases h4:bad4 with
    | true =>
     rcases d3.2 h4 with q | q
     ·rw [h3] at q; cases q
     ·rw [q] at hcd; cases hcd
    | false =>
    rw [(d3.1 h4).2] at hcd
    dsimp only at hcd
    cases h5:bad5 with
    | true =>
     rcases d4.2 h5 with q | q
     ·rw [h4] at q; cases q
     ·rw [q] at hcd; cases hcd
    | false =>
    rw [(d4.1 h5).2] at hcd
    dsimp only at hcd
    cases h6:bad6 with
    | true =>
     rcases d5.2 h6 with q | q
     ·rw [h5] at q; cases q
     ·rw [q] at hcd; cases hcd
    | false =>
    rw [(d5.1 h6).2] at hcd
    dsimp only at hcd
    rcases d6b e with q | q
    ·rw [h6] at q; cases q
    ·cases hsd:setsD was id (kindsOf set) L6 with
     | none=>rw [hsd] at hcd; cases hcd
     | some p =>
      obtain ⟨ss',r2⟩:=p
      rw [hsd] at hcd
      cases hcd
      obtain ⟨x,hx,hnx⟩:=q _ _ hsd
      exact fun hr=>hnx (hr x hx)
   cases hcd:chgD was c1 L' with
   | none=>rw [g2,repD,hcd] at hh; cases hh
   | some p =>
    obtain ⟨d',r'⟩:=p
    refine ⟨d',?_,claim d' r' hcd⟩
    rw [g2,Zcm hcd] at hh
    cases hrep:repD (chgD was) (fun d:Chg=>d.1) m d'.1 r' with
    | none=>rw [hrep] at hh; cases hh
    | some p2 =>
     rw [hrep] at hh
     have hh:(done ++ [d'] ++ p2.1,p2.2)=(ds,rr):=Option.some.inj hh
     have:ds=done ++ [d'] ++ p2.1:=(congrArg (·.1) hh).symm
     rw [this]
     simp
  ·show (IntKind.wrap .u64 (((m+1:Nat):Int) - 1)).toNat < ((m+1:Nat):Int).toNat
   rw [mm]
   omega
 ·refine hk v t rs done L' bad' hA hs Du fu (fun e=>?_) hbad
  obtain ⟨g1,g2,g3⟩:=hgood e
  have hz:m=0:=by
   rw [e] at hc
   have:decide (0 < m)=false:=by simpa using hc
   have:=of_decide_eq_false this
   omega
  subst hz
  exact ⟨g1,by rw [g2]; exact Z17w (L0:=L) rfl⟩
end Go.Proofs.YtchhhjlpnecjkaaGreat
namespace Go.Proofs.YtchhhjlpnecjkaaGreat
open Go Go.RowKit Go.Proofs.YtchhhjlpnecjkaaGreat.Den
variable {R:Type} {Q:R→World→Prop} {w:World} [Pan R]
theorem Zzh {b:Nat} {L:List Bool} {F:Nat→Prop} (h:RD b L F w) (hF:∀ k,F k→k < w.heap.size) {K:Res [.agg [.int .u8,.int .u8,.int .u32,.int .u32,.int .u32]]→W R} (h0:headD L=none→∀ w',Fr (fun k=>k=b) w w'→Pan.pan Q giveUp w') (hk:∀ hd L',headD L=some (hd,L')→HeadOk hd→headE hd=0→∀ w',RD b L' F w'→Fr (fun k=>k=b) w w'→K hd Q w') :
  callP Tryz.prog Z6f [.agg ⟨[.pointer (some ⟨b,0,none⟩)]⟩] [.agg [.int .u8,.int .u8,.int .u32,.int .u32,.int .u32]] K Q w:=by
 refine Zii _ K Q w ?_
 unfold Z5z
 have hbb:=hF b h.1
 refine newI fun w1 Bo f1 z1=>newI fun w2 Bx f2 z2=>?_
 have Bo:=Bo.fr f2 fun h=>h
 have f02:=f1.then0 f2
 refine joinI (fun (s:Option Addr) v=>∃ bh k c L1 L2,s=some ⟨bh,0,none⟩∧getIn 1 5 L=some (k,L1)∧(1≤k∧k≤5)∧getIn 0 15 L1=some (c,L2)∧(0≤c∧c≤15)∧w2.heap.size≤bh∧Blk v bh 30 [.int .u8 k,.int .u8 c,.int .u32 0,.int .u32 0,.int .u32 0]∧RD b L2 F v∧Fr (fun k=>k=b) w2 v) ?_ ?_
 ·have fd:Fr None w2 w2.drew:=(Fr.refl _ _).drew
  have f0d:=f02.then0 fd
  have Bd:=Bo.fr fd fun h=>h
  have hr:=RD.st.fr0 h f0d
  have hx:∀ {u v:World},Fr (fun k=>k=b) u v→Blk u w.heap.size 62 [.pointer (some ⟨b,0,none⟩)]→Blk v w.heap.size 62 [.pointer (some ⟨b,0,none⟩)]:=fun f B=>B.fr f fun e=>by omega
  have hz:w2.drew.heap.size=w2.heap.size:=rfl
  have n1:getIn 1 5 L=none→headD L=none:=fun e=>by unfold headD; rw [e]
  have n2:∀ {k L1},getIn 1 5 L=some (k,L1)→getIn 0 15 L1=none→headD L=none:=fun e e2=>by unfold headD; rw [e]; dsimp only; rw [e2]
  have bad:∀ {u:World},headD L=none→Fr (fun k=>k=b) w2.drew u→Pan.pan Q giveUp u:=fun e f=>h0 e _ (f0d.any.then f)
  refine bothI ?_ (bothI ?_ (bothI ?_ (bothI ?_ ?_)))
  ·refine fldI Bd (i:=0) (x:=some ⟨b,0,none⟩) rfl (fldI Bd (i:=0) (x:=some ⟨b,0,none⟩) rfl ?_)
   refine Z1l hr (by decide) (by decide) (by decide) (fun hg e u1 he hr1 g1=>?_) fun k L1 hg hkr u1 hr1 g1=>?_
   ·exact andI ((hx g1 Bd).rd (s:=.ptr) (i:=0) (x:=some ⟨b,0,none⟩) rfl) (Z5 (fun _=>bad (n1 hg) g1) fun h=>absurd h he)
   refine andI ((hx g1 Bd).rd (s:=.ptr) (i:=0) (x:=some ⟨b,0,none⟩) rfl) (Z5 (fun h=>absurd rfl h) fun _=>?_)
   refine andI ((hx g1 Bd).rd (s:=.ptr) (i:=0) (x:=some ⟨b,0,none⟩) rfl) ?_
   refine Z1l hr1 (by decide) (by decide) (by decide) (fun hg2 e u2 he hr2 g2=>?_) fun c L2 hg2 hcr u2 hr2 g2=>?_
   ·exact Z5 (fun _=>bad (n2 hg hg2) (g1.then g2)) fun h=>absurd h he
   refine Z5 (fun h=>absurd rfl h) fun _=>?_
   refine newI fun u3 B3 g3 y3=>stoAll B3 rfl rfl fun u4 B4 g4 y4=>?_
   have g34:Fr None u2 u4:=g3.newer g4 fun k e=>by omega
   rw [wu8 (by omega),wu8 (by omega)] at B4
   have s2:=(g1.then g2).size
   exact ⟨_,k,c,L1,L2,rfl,hg,hkr,hg2,hcr,by omega,B4,RD.st.fr0 hr2 g34,fd.any.then ((g1.then g2).then g34.any)⟩
  ·refine fldI Bd (i:=0) (x:=some ⟨b,0,none⟩) rfl (fldI Bd (i:=0) (x:=some ⟨b,0,none⟩) rfl ?_)
   refine Z1l hr (by decide) (by decide) (by decide) (fun hg e u1 he hr1 g1=>?_) fun k L1 hg hkr u1 hr1 g1=>?_
   ·exact andI ((hx g1 Bd).rd (s:=.ptr) (i:=0) (x:=some ⟨b,0,none⟩) rfl) (Z5 (fun _=>bad (n1 hg) g1) fun h=>absurd h he)
   refine andI ((hx g1 Bd).rd (s:=.ptr) (i:=0) (x:=some ⟨b,0,none⟩) rfl) (Z5 (fun h=>absurd rfl h) fun _=>?_)
   refine andI ((hx g1 Bd).rd (s:=.ptr) (i:=0) (x:=some ⟨b,0,none⟩) rfl) ?_
   refine Z1l hr1 (by decide) (by decide) (by decide) (fun hg2 e u2 he hr2 g2=>?_) fun c L2 hg2 hcr u2 hr2 g2=>?_
   ·exact newI fun u3 B3 g3 y3=>Z5 (fun _=>bad (n2 hg hg2) ((g1.then g2).then g3.any)) fun h=>absurd h he
   refine newI fun u3 B3 g3 y3=>Z5 (fun h=>absurd rfl h) fun _=>stoAll B3 rfl rfl fun u4 B4 g4 y4=>?_
   have g34:Fr None u2 u4:=g3.newer g4 fun k e=>by omega
   rw [wu8 (by omega),wu8 (by omega)] at B4
   have s2:=(g1.then g2).size
   exact ⟨_,k,c,L1,L2,rfl,hg,hkr,hg2,hcr,by omega,B4,RD.st.fr0 hr2 g34,fd.any.then ((g1.then g2).then g34.any)⟩
  ·refine fldI Bd (i:=0) (x:=some ⟨b,0,none⟩) rfl (fldI Bd (i:=0) (x:=some ⟨b,0,none⟩) rfl ?_)
   refine Z1l hr (by decide) (by decide) (by decide) (fun hg e u1 he hr1 g1=>?_) fun k L1 hg hkr u1 hr1 g1=>?_
   ·exact andI ((hx g1 Bd).rd (s:=.ptr) (i:=0) (x:=some ⟨b,0,none⟩) rfl) (Z5 (fun _=>bad (n1 hg) g1) fun h=>absurd h he)
   refine andI ((hx g1 Bd).rd (s:=.ptr) (i:=0) (x:=some ⟨b,0,none⟩) rfl) (Z5 (fun h=>absurd rfl h) fun _=>?_)
   refine andI ((hx g1 Bd).rd (s:=.ptr) (i:=0) (x:=some ⟨b,0,none⟩) rfl) (newI fun u3 B3 g3 y3=>?_)
   have s1:=g1.size
   refine Z1l (RD.st.fr0 hr1 g3) (by decide) (by decide) (by decide) (fun hg2 e u2 he hr2 g2=>?_) fun c L2 hg2 hcr u2 hr2 g2=>?_
   ·exact Z5 (fun _=>bad (n2 hg hg2) ((g1.then g3.any).then g2)) fun h=>absurd h he
   refine Z5 (fun h=>absurd rfl h) fun _=>stoAll (B3.fr g2 fun e=>by omega) rfl rfl fun u4 B4 g4 y4=>?_
   rw [wu8 (by omega),wu8 (by omega)] at B4
   have g34:Fr (fun k=>k=b) u1 u4:=((g3.any.then g2).thenNew g4 fun k e=>by omega)
   exact ⟨_,k,c,L1,L2,rfl,hg,hkr,hg2,hcr,by omega,B4,RD.st.fr hr2 g4 fun k e e2=>by have:=hF k e; omega,fd.any.then (g1.then g34)⟩
  ·refine fldI Bd (i:=0) (x:=some ⟨b,0,none⟩) rfl (fldI Bd (i:=0) (x:=some ⟨b,0,none⟩) rfl ?_)
   refine Z1l hr (by decide) (by decide) (by decide) (fun hg e u1 he hr1 g1=>?_) fun k L1 hg hkr u1 hr1 g1=>?_
   ·refine andI ((hx g1 Bd).rd (s:=.ptr) (i:=0) (x:=some ⟨b,0,none⟩) rfl) (newI fun u3 B3 g3 y3=>?_)
    exact Z5 (fun _=>bad (n1 hg) (g1.then g3.any)) fun h=>absurd h he
   refine andI ((hx g1 Bd).rd (s:=.ptr) (i:=0) (x:=some ⟨b,0,none⟩) rfl) (newI fun u3 B3 g3 y3=>Z5 (fun h=>absurd rfl h) fun _=>?_)
   have s1:=g1.size
   refine andI (((hx g1 Bd).fr g3 fun h=>h).rd (s:=.ptr) (i:=0) (x:=some ⟨b,0,none⟩) rfl) ?_
   refine Z1l (RD.st.fr0 hr1 g3) (by decide) (by decide) (by decide) (fun hg2 e u2 he hr2 g2=>?_) fun c L2 hg2 hcr u2 hr2 g2=>?_
   ·exact Z5 (fun _=>bad (n2 hg hg2) ((g1.then g3.any).then g2)) fun h=>absurd h he
   refine Z5 (fun h=>absurd rfl h) fun _=>stoAll (B3.fr g2 fun e=>by omega) rfl rfl fun u4 B4 g4 y4=>?_
   rw [wu8 (by omega),wu8 (by omega)] at B4
   have g34:Fr (fun k=>k=b) u1 u4:=((g3.any.then g2).thenNew g4 fun k e=>by omega)
   exact ⟨_,k,c,L1,L2,rfl,hg,hkr,hg2,hcr,by omega,B4,RD.st.fr hr2 g4 fun k e e2=>by have:=hF k e; omega,fd.any.then (g1.then g34)⟩
  ·refine fldI Bd (i:=0) (x:=some ⟨b,0,none⟩) rfl (fldI Bd (i:=0) (x:=some ⟨b,0,none⟩) rfl (newI fun u3 B3 g3 y3=>?_))
   refine Z1l (RD.st.fr0 hr g3) (by decide) (by decide) (by decide) (fun hg e u1 he hr1 g1=>?_) fun k L1 hg hkr u1 hr1 g1=>?_
   ·exact andI ((hx (g3.any.then g1) Bd).rd (s:=.ptr) (i:=0) (x:=some ⟨b,0,none⟩) rfl) (Z5 (fun _=>bad (n1 hg) (g3.any.then g1)) fun h=>absurd h he)
   refine andI ((hx (g3.any.then g1) Bd).rd (s:=.ptr) (i:=0) (x:=some ⟨b,0,none⟩) rfl) (Z5 (fun h=>absurd rfl h) fun _=>?_)
   refine andI ((hx (g3.any.then g1) Bd).rd (s:=.ptr) (i:=0) (x:=some ⟨b,0,none⟩) rfl) ?_
   have s1:=g1.size
   refine Z1l hr1 (by decide) (by decide) (by decide) (fun hg2 e u2 he hr2 g2=>?_) fun c L2 hg2 hcr u2 hr2 g2=>?_
   ·exact Z5 (fun _=>bad (n2 hg hg2) ((g3.any.then g1).then g2)) fun h=>absurd h he
   refine Z5 (fun h=>absurd rfl h) fun _=>stoAll ((B3.fr g1 fun e=>by omega).fr g2 fun e=>by omega) rfl rfl fun u4 B4 g4 y4=>?_
   rw [wu8 (by omega),wu8 (by omega)] at B4
   have g34:Fr (fun k=>k=b) w2.drew u4:=(((g3.any.then g1).then g2).thenNew g4 fun k e=>by omega)
   exact ⟨_,k,c,L1,L2,rfl,hg,hkr,hg2,hcr,by omega,B4,RD.st.fr hr2 g4 fun k e e2=>by have:=hF k e; omega,fd.any.then g34⟩
 rintro s v ⟨bh,k,c,L1,L2,rfl,hg1,hkr,hg2,hcr,hbh,Bh,hr,fv⟩
 have hnb:∀ {x:Nat},w.heap.size≤x→¬ x=b:=fun hx e=>by omega
 have f0v:Fr (fun k=>k=b) w v:=f02.any.then fv
 have Bo:=Bo.fr fv (hnb (Nat.le_refl _))
 have Bx:=Bx.fr fv (hnb (by omega))
 refine aggI Bo (x:=some ⟨b,0,none⟩) rfl ?_
 have hD1:headD L=match getVar L2 with
   | none=>none
   | some (e,L)=>match (if k≤3 then getN 32 L else some (0,L)) with
    | none=>none
    | some (t,L)=>match (if k=2 then (match getVar L with
      | none=>none
      | some (b,L)=>if t≤b then none else some (((t - b - 1:Nat):Int),L)) else some (0,L)) with
     | none=>none
     | some (b,L)=>if e≤4294967295∧headE (k,c,(e:Int),(t:Int),b)=0 then some ((k,c,(e:Int),(t:Int),b),L) else none:=by
  unfold headD
  rw [hg1]
  dsimp only
  rw [hg2] <;> rfl
 refine Z5r hr (fun hg w3 f3=>h0 (by rw [hD1,hg]) w3 (f0v.then f3)) fun e L3 hg3 he w3 hr3 f3=>?_
 rw [hg3] at hD1
 dsimp only at hD1
 have f03:=f0v.then f3
 have Bh3:=Bh.fr f3 (hnb (by omega))
 refine ptrI ?_
 rw [add_lit]
 refine setI (i:=2) Bh3 (by simp) rfl fun w4 Bh4 f4 z4=>?_
 have hFh:∀ k,F k→¬ k=bh:=fun k e e2=>by have:=hF k e; omega
 have hr4:=RD.st.fr hr3 f4 hFh
 have f04:=f03.thenNew f4 fun k e=>by omega
 obtain ⟨e',he'⟩:∃ e',e'=IntKind.wrap .u32 (e:Int):=⟨_,rfl⟩
 have er:e'=(e:Int) % 4294967296:=by rw [he',IntKind.wrap_u32]
 rw [← he'] at Bh4
 have Bh4:Blk w4 bh 30 [.int .u8 k,.int .u8 c,.int .u32 e',.int .u32 0,.int .u32 0]:=Bh4
 have Bo4:=(Bo.fr f3 (hnb (Nat.le_refl _))).fr f4 fun e=>by omega
 have Bx4:=(Bx.fr f3 (hnb (by omega))).fr f4 fun e=>by omega
 refine ptrI (fldI Bh4 (i:=0) (x:=k) rfl ?_)
 refine joinI (fun (_:Unit) v=>∃ (t:Nat) (L4:List Bool),(if k≤3 then getN 32 L3 else some (0,L3))=some (t,L4)∧t < 4294967296∧Blk v bh 30 [.int .u8 k,.int .u8 c,.int .u32 e',.int .u32 (t:Int),.int .u32 0]∧RD b L4 F v∧Fr (fun k=>k=b) w v∧Blk v w.heap.size 62 [.pointer (some ⟨b,0,none⟩)]∧Blk v w1.heap.size 30 [.int .u8 0,.int .u8 0,.int .u32 0,.int .u32 0,.int .u32 0]) ?_ ?_
 ·refine condD (fun k3=>?_) fun k3=>⟨0,L3,if_neg k3,by decide,Bh4,hr4,f04,Bo4,Bx4⟩
  rw [if_pos k3] at hD1
  refine aggI Bo4 (x:=some ⟨b,0,none⟩) rfl (Z8y hr4 (n:=32) (by decide) (fun hg w5 f5=>h0 (by rw [hD1,hg]) w5 (f04.then f5)) fun t L4 hg ht w5 hr5 f5=>?_)
  have Bh5:=Bh4.fr f5 (hnb (by omega))
  refine ptrI ?_
  rw [add_lit]
  refine setI (i:=3) Bh5 (by simp) rfl fun w6 Bh6 f6 z6=>?_
  have ew:IntKind.wrap .u32 (t:Int)=(t:Int):=wu32 (by omega)
  rw [ew] at Bh6
  have s5:=f5.size
  refine ⟨t,L4,by rw [if_pos k3]; exact hg,by omega,Bh6,RD.st.fr hr5 f6 hFh,(f04.then f5).thenNew f6 fun k e=>by omega,(Bo4.fr f5 (hnb (Nat.le_refl _))).fr f6 fun e=>by omega,(Bx4.fr f5 (hnb (by omega))).fr f6 fun e=>by omega⟩
 rintro _ w5 ⟨t,L4,ht,htl,Bh5,hr5,f05,Bo5,Bx5⟩
 rw [ht] at hD1
 dsimp only at hD1
 refine ptrI (fldI Bh5 (i:=0) (x:=k) rfl ?_)
 refine joinI (fun (_ : Unit) v => ∃ (bb : Int) (L5 : List Bool), (if k = 2 then (match getVar L4 with
      | none=>none
      | some (b,L)=>if t≤b then none else some (((t - b - 1:Nat):Int),L)) else some (0,L4))=some (bb,L5)∧(0≤bb∧bb≤4294967295)∧Blk v bh 30 [.int .u8 k,.int .u8 c,.int .u32 e',.int .u32 (t:Int),.int .u32 bb]∧RD b L5 F v∧Fr (fun k=>k=b) w v∧Blk v w1.heap.size 30 [.int .u8 0,.int .u8 0,.int .u32 0,.int .u32 0,.int .u32 0]) ?_ ?_
 ·refine condE (fun k2=>?_) fun k2=>⟨0,L4,if_neg k2,by decide,Bh5,hr5,f05,Bx5⟩
  rw [if_pos k2] at hD1
  refine aggI Bo5 (x:=some ⟨b,0,none⟩) rfl (Z5r hr5 (fun hg w6 f6=>h0 (by rw [hD1,hg]) w6 (f05.then f6)) fun b2 L5 hg hb2 w6 hr6 f6=>?_)
  rw [hg] at hD1
  dsimp only at hD1
  have Bh6:=Bh5.fr f6 (hnb (by omega))
  have f06:=f05.then f6
  have s6:=f6.size
  refine ptrI (fldI Bh6 (i:=3) (x:=(t:Int)) rfl ?_)
  have et:IntKind.wrap .u64 (t:Int)=(t:Int):=wU64 (by omega)
  rw [et]
  refine joinI (fun (_:Unit) v=>b2 < t∧v=w6) ?_ ?_
  ·refine condD (fun hge=>?_) fun hlt=>⟨by omega,rfl⟩
   exact h0 (by rw [hD1,if_pos (by omega)]) w6 f06
  rintro _ w7 ⟨hlt,rfl⟩
  refine ptrI (fldI Bh6 (i:=3) (x:=(t:Int)) rfl (ptrI ?_))
  rw [add_lit]
  refine setI (i:=4) Bh6 (by simp) rfl fun w8 Bh8 f8 z8=>?_
  have ew:IntKind.wrap .u32 (IntKind.wrap .u32 ((t:Int) - IntKind.wrap .u32 (b2:Int)) - 1)=((t - b2 - 1:Nat):Int):=by
   rw [wu32 (x:=(b2:Int)) (by omega),wu32 (x:=(t:Int) - (b2:Int)) (by omega),wu32 (by omega)]
   omega
  rw [ew] at Bh8
  refine ⟨((t - b2 - 1:Nat):Int),L5,by rw [if_pos k2,hg]; dsimp only; rw [if_neg (by omega)],by omega,Bh8,RD.st.fr hr6 f8 hFh,f06.thenNew f8 fun k e=>by omega,(Bx5.fr f6 (hnb (by omega))).fr f8 fun e=>by omega⟩
 rintro _ w6 ⟨bb,L5,hbb5,hbr,Bh6,hr6,f06,Bx6⟩
 rw [hbb5] at hD1
 dsimp only at hD1
 refine joinI (fun z v=>z=!decide (e≤4294967295∧headE (k,c,(e:Int),(t:Int),bb)=0)∧Fr None w6 v) ?_ ?_
 ·refine ptrI (fldI Bh6 (i:=2) (x:=e') rfl ?_)
  rw [wU64 (x:=e') (by omega)]
  refine condN (fun hne=>⟨?_,Fr.refl _ _⟩) fun heq=>ptrI (aggI Bh6 (x:=((k,c,e',(t:Int),bb):Head)) rfl (Zeq fun w7 f7=>⟨?_,f7⟩))
  ·rw [decide_eq_false (fun hc=>hne (by omega))]
   rfl
  ·have heq:e'=(e:Int):=heq
   rw [heq]
   have hle:e≤4294967295:=by omega
   by_cases hz:headE (k,c,(e:Int),(t:Int),bb)=0
   ·rw [decide_eq_true ⟨hle,hz⟩,hz]
    rfl
   ·rw [decide_eq_false fun hc=>hz hc.2]
    simpa using hz
 rintro z w7 ⟨rfl,f7⟩
 have f07:=f06.then f7.any
 refine joinI (fun (_:Unit) v=>(e≤4294967295∧headE (k,c,(e:Int),(t:Int),bb)=0)∧v=w7) ?_ ?_
 ·refine condI (fun hz=>?_) fun hz=>⟨by simpa using hz,rfl⟩
  have hz:¬ (e≤4294967295∧headE (k,c,(e:Int),(t:Int),bb)=0):=fun hc=>by rw [decide_eq_true hc] at hz; cases hz
  exact h0 (by rw [hD1,if_neg hz]) w7 f07
 rintro _ w8 ⟨hok,rfl⟩
 rw [if_pos hok] at hD1
 have ee:e'=(e:Int):=by have:=hok.1; omega
 rw [ee] at Bh6
 have Bh8:=Bh6.fr f7 fun h=>h
 have Bx8:=Bx6.fr f7 fun h=>h
 refine ptrI (aggI Bh8 (x:=((k,c,(e:Int),(t:Int),bb):Head)) rfl (stoAll Bx8 rfl rfl fun w9 B9 f9 z9=>aggI B9 (x:=((k,c,(e:Int),(t:Int),bb):Head)) rfl ?_))
 refine hk (k,c,(e:Int),(t:Int),bb) L5 hD1 (by unfold HeadOk; dsimp only; have:=hok.1; omega) hok.2 w9 (RD.st.fr (RD.st.fr0 hr6 f7) f9 fun k e e2=>by have:=hF k e; omega) (f07.thenNew f9 fun k e=>by omega)
end Go.Proofs.YtchhhjlpnecjkaaGreat
namespace Go.Proofs.YtchhhjlpnecjkaaGreat
open Go Go.RowKit Go.Proofs.YtchhhjlpnecjkaaGreat.Den
theorem Z10o (p:Addr) (w:World):CallsD Tryz.prog Zhe #[.pointer (some p)] .returning w fun e u' w'=>e=.returned (.tuple #[])∧u'=.returning∧w'=w:=by
 refine callsD_of_wpS Tryz.func66 rfl fun c₀ cs hu=>?_
 apply wpS_seq
 apply wpS_region
 simp [wpOpsS,go_sem,recoverD,hu,Tryz.ntmps66,Exit.thenS]
 refine wpS_of_wp ?_
 go_wp2
 cases c₀
 simp_all [bodyPostS,results,Tryz.results66]
set_option maxRecDepth 100000 in
theorem Z10n {b:Nat} {x:Int} {T:TypeId} {older:List PanicEntry} {w:World} (B:Blk w b T [.int .i64 x]):CallsD Tryz.prog Zhe #[.pointer (some ⟨b,0,none⟩)] (.panicking ({ v:=.iface 171 (.agg ⟨[]⟩),recovered:=false } :: older)) w fun e u' w' =>
  e=.returned (.tuple #[])∧u'=.panicking ({ v:=.iface 171 (.agg ⟨[]⟩),recovered:=true } :: older)∧w'=(w.alloc (.cells #[] 171)).setCell ⟨b,0,none⟩ (.int .i64 4):=by
 have hc:w.cell? ⟨b,0,none⟩=some (.int .i64 x):=B.cell 0
 have hz:w.frozen? ⟨b,0,none⟩=false:=B.frozen 0
 have B1:=B.fr ((Fr.refl None w).alloc (.cells #[] 171)) fun h=>h
 have hc2:(w.alloc (.cells #[] 171)).cell? ⟨b,0,none⟩=some (.int .i64 x):=B1.cell 0
 have hz2:(w.alloc (.cells #[] 171)).frozen? ⟨b,0,none⟩=false:=B1.frozen 0
 have hta:∀ (t:TypeId) (w:World),(Instr.typeAssert (.iface 171 (.agg ⟨[]⟩)) t 171 true).run Tryz.prog w=.ok (.tuple #[.agg ⟨[]⟩,.bool true]) w:=fun t w=>by kernel_rfl
 refine callsD_of_wpS Tryz.func66 rfl fun c₀ cs hu=>?_
 apply wpS_seq
 apply wpS_region
 simp [wpOpsS,go_sem,recoverD,hu,Tryz.ntmps66,Exit.thenS]
 refine wpS_of_wp ?_
 go_wp2
 cases c₀
 simp_all [bodyPostS,results,Tryz.results66]
end Go.Proofs.YtchhhjlpnecjkaaGreat
namespace Go.Proofs.YtchhhjlpnecjkaaGreat.Den
open Go
variable {R:Type} {P:Program}
def envL:List (Nat × Value)→Env
 | [],_=>none
 | (j,v) :: r,i=>bif Nat.beq i j then some v else envL r i
theorem Zyp:∀ {l:List (Nat × Value)} {i:Nat} {v:Value},envL l i=some v→(i,v)∈l
 | (j,u) :: r,i,v,h=>by
  rw [envL] at h
  cases hb:Nat.beq i j with
  | true=>rw [hb] at h; cases h; rw [nbeq.1 hb]; exact List.mem_cons_self
  | false=>rw [hb] at h; exact List.mem_cons_of_mem _ (Zyp h)
def doorOf (fn:Func):Code:=match fn.body with
 | some (.seq _ (.seq _ c))=>c
 | _=>.skip
def denDoor (P:Program) (h:Hints) (fn:Func) (ts:List Ty) (env:Env):W (Res ts ⊕ List PanicEntry) :=
 den P fn.ntmps h 0 (doorOf fn) (fun e=>resVars e fn.results.toList ts fun r=>retW (.inl r)) (fun _ _=>failW) (fun e=>resVars e fn.results.toList ts fun r=>retW (.inl r)) env
theorem Z130 (hmix:P.follows .mixedOrders=true) {fn:Func} {h:Hints} {ts:List Ty} (hres:ResOk P fn.results.toList ts) {D:List Deferred} {env:Env} {a:Act} {w:World} {post:Res ts ⊕ List PanicEntry→World→Prop} {QX:Exit→Act→World→Prop}
  (ha:Ag D fn.ntmps env a) (hd:denDoor P h fn ts env post w) (hret:∀ a w z,a.defers=D→(results fn a.tmps).run P w=.ok (resE ts z) w→post (.inl z) w→QX .normal a w∧QX .ret a w) (hp:∀ ch a w,Ag D fn.ntmps (lim env (dsts (doorOf fn))) a→post (.inr ch) w→QX (.panic ch) a w):(doorOf fn).wp P QX a w:=by
 have hfin:∀ (env':Env) (a:Act) (w:World),Ag D fn.ntmps env' a→resVars env' fn.results.toList ts (fun r=>retW (.inl r)) post w→QX .normal a w∧QX .ret a w:=by
  intro env' a w ha hr
  obtain ⟨z,hz,hk⟩:=Zoe ha _ _ _ _ _ hres hr
  have:=Zic fn a.tmps hz
  rw [Z114] at this
  exact hret a w z ha.defers this hk
 refine Z8j hmix (h:=h) (doorOf fn) 0 _ _ _ env a w post QX ha hd ?_ ?_ ?_ hp
 ·rintro a w' ⟨e,h1,_,h3⟩
  exact (hfin e a w' h1 h3).1
 ·rintro id a w' ⟨e,_,_,h3⟩
  exact h3.elim
 ·intro e a w' h1 h3
  exact (hfin e a w' h1 h3).2
end Go.Proofs.YtchhhjlpnecjkaaGreat.Den
set_option linter.unusedVariables false
namespace Go.Proofs.YtchhhjlpnecjkaaGreat
open Go Go.Proofs.YtchhhjlpnecjkaaGreat.Den
def Zbp (body0:Sl) (t2:Addr) (t3:Addr) (t4:Addr):W (((Int × Int × Int × Int × Int) × (Option Addr) × Int) ⊕ List PanicEntry) :=
 callW Tryz.prog Zm7 [.slice body0.a body0.n body0.c] [.sc .ptr] fun (x_1:(Option Addr)) =>
 stoL t3 [.pointer x_1] 0 <|
 drawW <|
 ld (.agg [.ptr]) t3 fun (x_2:(Option Addr)) =>
 ld (.agg [.ptr]) t3 fun (x_3:(Option Addr)) =>
 callP Tryz.prog Z6f [.agg ⟨[.pointer x_2]⟩] [.agg [.int .u8,.int .u8,.int .u32,.int .u32,.int .u32]] fun (x_4:(Int × Int × Int × Int × Int)) =>
 andW (fun w=>Rd w t3 (.agg [.ptr]) x_3) <|
 stoL t2 [.int .u8 x_4.1,.int .u8 x_4.2.1,.int .u32 x_4.2.2.1,.int .u32 x_4.2.2.2.1,.int .u32 x_4.2.2.2.2] 0 <|
 andW (fun w=>Rd w t3 (.agg [.ptr]) x_3) <|
 stoL t3 [.pointer x_3] 0 <|
 stoL t4 [.int .i64 0] 0 <|
 ld (.agg [.int .u8,.int .u8,.int .u32,.int .u32,.int .u32]) t2 fun (x_5:(Int × Int × Int × Int × Int)) =>
 ld (.agg [.ptr]) t3 fun (x_6:(Option Addr)) =>
 ld (.sc (.int .i64)) t4 fun (x_7:Int) =>
 retW (.inl (x_5,x_6,x_7))
def Zbr:Hints:={ dr:=[(3,([],[[(0,[]),(2,[]),(1,[2]),(3,[2]),(4,[]),(5,[])]]))],mp:=[68] }
theorem Zkx (body0:Sl) (t2:Addr) (t3:Addr) (t4:Addr):denDoor Tryz.prog Zbr Tryz.f27 [.agg [.int .u8,.int .u8,.int .u32,.int .u32,.int .u32],.agg [.ptr],.sc (.int .i64)] (envL [(0,.slice body0.a body0.n body0.c),(2,.pointer (some t2)),(3,.pointer (some t3)),(4,.pointer (some t4))])=Zbp body0 t2 t3 t4:=by kernel_rfl
end Go.Proofs.YtchhhjlpnecjkaaGreat
namespace Go.Proofs.YtchhhjlpnecjkaaGreat
open Go Go.RowKit Go.Proofs.YtchhhjlpnecjkaaGreat.Den
variable {R:Type} {Q:R→World→Prop} {w:World}
theorem Zi5 {fn:Func} {tmps:Array Value} {RR:Ending→World→Prop} {p:Addr} {v:Value} (hrun:(results fn tmps).run Tryz.prog w=.ok v w) (hR:RR (.returned v) w):Leaves Tryz.prog fn tmps RR [{ target:=.fn (.func 66) #[],args:=#[.pointer (some p)] }] .returning w:=by
 refine leaves_cons (f:=66) (args:=#[.pointer (some p)]) (by simp) (by simp [go_sem]) ?_
 refine (Z10o p w).mono ?_
 rintro e u' w'' ⟨rfl,rfl,rfl⟩
 exact ⟨v,hrun,hR⟩
theorem Zph {fn:Func} {tmps:Array Value} {RR:Ending→World→Prop} {b:Nat} {x:Int} {T:TypeId} (B:Blk w b T [.int .i64 x]) {v:Value} (h:∀ w',Blk w' b T [.int .i64 4]→Fr (fun k=>k=b) w w'→((results fn tmps).run Tryz.prog w'=.ok v w')∧RR (.returned v) w'):Leaves Tryz.prog fn tmps RR [{ target:=.fn (.func 66) #[],args:=#[.pointer (some ⟨b,0,none⟩)] }] (.panicking giveUp) w:=by
 refine leaves_cons (f:=66) (args:=#[.pointer (some ⟨b,0,none⟩)]) (by simp) (by simp [go_sem]) ?_
 refine (Z10n (older:=[]) B).mono ?_
 rintro e u' w'' ⟨rfl,rfl,rfl⟩
 have f1:Fr None w (w.alloc (.cells #[] 171)):=(Fr.refl None w).alloc _
 have B1:=B.fr f1 fun h=>h
 obtain ⟨h1,h2⟩:=h _ (B1.set 0 (.int .i64 4)) (Fr.setCell (S:=fun k=>k=b) f1.any (p:=⟨b,0,none⟩) (.inl rfl) _)
 simp only [settle,List.dropWhile_nil]
 exact ⟨v,h1,h2⟩
abbrev headT:List Sc:=[.int .u8,.int .u8,.int .u32,.int .u32,.int .u32]
set_option maxRecDepth 100000 in
theorem Zq7 {ok:Nat→Prop} {s:Sl} {l:List Int} (hS:SlT ok w u8T s l) (hb:BytesOk l) (hm:l.length≤1048576) {K:Res [.agg headT,.agg [.ptr],.sc (.int .i64)]→W R} (h0:headD (bitsU l)=none→∀ p w',Fr None w w'→K ((0,0,0,0,0),p,4) Q w')
  (hk:∀ hd L',headD (bitsU l)=some (hd,L')→HeadOk hd→headE hd=0→∀ b w',RD b L' (Up w.heap.size) w'→Fr None w w'→K (hd,some ⟨b,0,none⟩,0) Q w') :
  callW Tryz.prog Zjw [.slice s.a s.n s.c] [.agg headT,.agg [.ptr],.sc (.int .i64)] K Q w:=by
 unfold callW
 go_enter_defers Tryz.func27,Tryz.ntmps27
 generalize hc:Code.seq (Code.region 2 _ _) _=c
 go_wp2
 have hc:c=doorOf Tryz.f27:=hc.symm
 subst hc
 obtain ⟨w3,hw3⟩:∃ w3,w3=((w.alloc (.cells #[.int .u8 0,.int .u8 0,.int .u32 0,.int .u32 0,.int .u32 0] 30)).alloc (.cells #[.pointer none] 62)).alloc (.cells #[.int .i64 0] 31):=⟨_,rfl⟩
 have f1:Fr None w (w.alloc (.cells #[.int .u8 0,.int .u8 0,.int .u32 0,.int .u32 0,.int .u32 0] 30)):=(Fr.refl None w).alloc _
 have f2:=f1.alloc (.cells #[.pointer none] 62)
 have f3:=f2.alloc (.cells #[.int .i64 0] 31)
 have Bh:Blk w3 w.heap.size 30 [.int .u8 0,.int .u8 0,.int .u32 0,.int .u32 0,.int .u32 0]:=by rw [hw3]; exact ((Blk.new w _ _).alloc _).alloc _
 have Br:Blk w3 (w.heap.size+1) 62 [.pointer none]:=by
  rw [hw3]
  refine Blk.alloc ?_ _
  have:=Blk.new (w.alloc (.cells #[.int .u8 0,.int .u8 0,.int .u32 0,.int .u32 0,.int .u32 0] 30)) 62 [.pointer none]
  simpa using this
 have Be:Blk w3 (w.heap.size+2) 31 [.int .i64 0]:=by
  rw [hw3]
  have:=Blk.new ((w.alloc (.cells #[.int .u8 0,.int .u8 0,.int .u32 0,.int .u32 0,.int .u32 0] 30)).alloc (.cells #[.pointer none] 62)) 31 [.int .i64 0]
  simpa using this
 have fw:Fr None w w3:=by rw [hw3]; exact f3
 have z3:w3.heap.size=w.heap.size+3:=by rw [hw3]; simp
 rw [← hw3]
 clear hw3 f1 f2 f3
 refine Z130 mix (fn:=Tryz.f27) (D:=[{ target:=.fn (.func 66) #[],args:=#[.pointer (some ⟨w.heap.size+2,0,none⟩)] }]) (h:=Zbr) (ts:=[.agg headT,.agg [.ptr],.sc (.int .i64)]) ⟨by kernel_rfl,by kernel_rfl,by kernel_rfl,trivial⟩ (env:=envL [(0,.slice s.a s.n s.c),(2,.pointer (some ⟨w.heap.size,0,none⟩)),(3,.pointer (some ⟨w.heap.size+1,0,none⟩)),(4,.pointer (some ⟨w.heap.size+2,0,none⟩))])
  (post:=fun r w'=>match r with
   | .inl z=>K z Q w'
   | .inr ch=>headD (bitsU l)=none∧ch=giveUp∧Fr None w w'∧Blk w' w.heap.size 30 [.int .u8 0,.int .u8 0,.int .u32 0,.int .u32 0,.int .u32 0]∧(∃ p,Blk w' (w.heap.size+1) 62 [.pointer p])∧Blk w' (w.heap.size+2) 31 [.int .i64 0]) ?_ ?_ ?_ ?_
 ·refine ⟨rfl,rfl,fun i v hv=>?_⟩
  have:=Zyp hv
  simp only [List.mem_cons,Prod.mk.injEq,List.not_mem_nil,or_false] at this
  rcases this with ⟨rfl,rfl⟩ | ⟨rfl,rfl⟩ | ⟨rfl,rfl⟩ | ⟨rfl,rfl⟩ <;> rfl
 ·rw [Zkx]
  unfold Zbp
  refine Zug (hS.fr0 fw) hb hm fun b w4 hr f4=>?_
  have z4:=f4.size
  refine stoAll (Br.fr f4 fun h=>h) rfl rfl fun w5 B5 f5 z5=>?_
  have fd:Fr None w5 w5.drew:=(Fr.refl _ _).drew
  have Bd:=B5.fr fd fun h=>h
  have g4:Fr (fun k=>k=w.heap.size+1) w4 w5.drew:=f5.then0 fd
  have hb3:w3.heap.size≤b:=hr.1
  have hrd:RD b (bitsU l) (fun k=>w3.heap.size≤k∧k < w4.heap.size) w5.drew:=RD.st hr g4 fun k hk (e:w3.heap.size≤k)=>⟨by omega,e,hk⟩
  have zd:w5.drew.heap.size=w4.heap.size:=by show w5.heap.size=_; omega
  have Bhd:=(Bh.fr f4 fun h=>h).fr g4 (show ¬ w.heap.size=w.heap.size+1 by omega)
  have Bed:=(Be.fr f4 fun h=>h).fr g4 (show ¬ w.heap.size+2=w.heap.size+1 by omega)
  refine aggI Bd (x:=some ⟨b,0,none⟩) rfl (aggI Bd (x:=some ⟨b,0,none⟩) rfl ?_)
  have f0d:Fr None w w5.drew:=(fw.then0 f4).newer g4 fun k e=>by omega
  refine Zzh hrd (fun k e=>by omega) (fun hn w6 f6=>?_) fun hd L' hh hok he w6 hr6 f6=>?_
  ·exact ⟨hn,rfl,f0d.newer f6 fun k e=>by omega,Bhd.fr f6 fun e=>by omega,⟨_,Bd.fr f6 fun e=>by omega⟩,Bed.fr f6 fun e=>by omega⟩
  ·have B6:=Bd.fr f6 (show ¬ w.heap.size+1=b by omega)
   have rdr:∀ {u:World},Blk u (w.heap.size+1) 62 [.pointer (some ⟨b,0,none⟩)]→Rd u ⟨w.heap.size+1,0,none⟩ (.agg [.ptr]) (some ⟨b,0,none⟩):=fun B j u hj=>B.cells 0 [.pointer (some ⟨b,0,none⟩)] (fun j u hj=>by simpa using hj) j u hj
   refine andI (rdr B6) (stoAll (Bhd.fr f6 fun e=>by omega) rfl rfl fun w7 B7 f7 z7=>andI (rdr (B6.fr f7 fun e=>by omega)) (stoAll (B6.fr f7 fun e=>by omega) rfl rfl fun w8 B8 f8 z8=>?_))
   refine stoAll (((Bed.fr f6 fun e=>by omega).fr f7 fun e=>by omega).fr f8 fun e=>by omega) rfl rfl fun w9 B9 f9 z9=>?_
   refine aggI ((B7.fr f8 fun e=>by omega).fr f9 fun e=>by omega) (x:=hd) rfl (aggI (B8.fr f9 fun e=>by omega) (x:=some ⟨b,0,none⟩) rfl (fld0 B9 (i:=0) (x:=(0:Int)) rfl ?_))
   have f69:Fr (fun k=>w.heap.size≤k∧k < w3.heap.size) w6 w9:=((f7.sub fun k e=>⟨by omega,by omega⟩).then (f8.sub fun k e=>⟨by omega,by omega⟩)).then (f9.sub fun k e=>⟨by omega,by omega⟩)
   refine hk hd L' hh hok he b w9 (RD.st hr6 f69 fun k _ e=>⟨by omega,show w.heap.size≤k by omega⟩) ((f0d.newer f6 fun k e=>by omega).newer f69 fun k e=>e.1)
 ·intro a w' z hD hrun hz
  have:Leaves Tryz.prog Tryz.f27 a.tmps (fun e w'=>∃ r,e=.returned (resE [.agg headT,.agg [.ptr],.sc (.int .i64)] r)∧K r Q w') a.defers .returning w':=by
   rw [hD]
   exact Zi5 hrun ⟨z,rfl,hz⟩
  exact ⟨this,this⟩
 ·rintro ch a w' ha ⟨hn,rfl,f0,Bh',⟨p,Br'⟩,Be'⟩
  show Leaves Tryz.prog Tryz.f27 a.tmps _ a.defers (.panicking giveUp) w'
  rw [ha.defers]
  refine Zph Be' (v:=resE [.agg headT,.agg [.ptr],.sc (.int .i64)] ((0,0,0,0,0),p,4)) fun w2 B2 g2=>⟨?_,_,rfl,h0 hn p w2 (f0.newer g2 fun k e=>by omega)⟩
  have lm:∀ i v,memB (dsts (doorOf Tryz.f27)) i=false→envL [(0,.slice s.a s.n s.c),(2,.pointer (some ⟨w.heap.size,0,none⟩)),(3,.pointer (some ⟨w.heap.size+1,0,none⟩)),(4,.pointer (some ⟨w.heap.size+2,0,none⟩))] i=some v→lim (envL [(0,.slice s.a s.n s.c),(2,.pointer (some ⟨w.heap.size,0,none⟩)),(3,.pointer (some ⟨w.heap.size+1,0,none⟩)),(4,.pointer (some ⟨w.heap.size+2,0,none⟩))]) (dsts (doorOf Tryz.f27)) i=some v:=fun i v h1 h2=>by
   unfold lim
   rw [h1]
   exact h2
  have c2:=Zt5 (P:=Tryz.prog) ha (t:=2) (T:=30) (lm 2 _ (by kernel_rfl) rfl) (y:=.agg headT) (by kernel_rfl) (x:=(0,0,0,0,0)) (w:=w2) (fun j u hj=>(Bh'.fr g2 (show ¬ w.heap.size=w.heap.size+2 by omega)).cells 0 (Tup.e Sc.e headT (0,0,0,0,0)) (fun j u hj=>by rw [Nat.zero_add]; exact hj) j u hj)
  have c3:=Zt5 (P:=Tryz.prog) ha (t:=3) (T:=62) (lm 3 _ (by kernel_rfl) rfl) (y:=.agg [.ptr]) (by kernel_rfl) (x:=p) (w:=w2) (fun j u hj=>(Br'.fr g2 (show ¬ w.heap.size+1=w.heap.size+2 by omega)).cells 0 [.pointer p] (fun j u hj=>by simpa using hj) j u hj)
  have c4:=Zt5 (P:=Tryz.prog) ha (t:=4) (T:=31) (lm 4 _ (by kernel_rfl) rfl) (y:=.sc (.int .i64)) (by kernel_rfl) (x:=(4:Int)) (w:=w2) (B2.cell 0)
  have:=Zic Tryz.f27 a.tmps (Z5m c2 (Z5m c3 (Z5m c4 rfl)))
  exact this
end Go.Proofs.YtchhhjlpnecjkaaGreat
namespace Go.Proofs.YtchhhjlpnecjkaaGreat
open Go Go.RowKit Go.Proofs.YtchhhjlpnecjkaaGreat.Den
variable {R:Type} {Q:R→World→Prop} {w:World}
abbrev restAct (hv rv:Value) (s:Sl) (A B C:Nat):Act:={ tmps:=#[hv,rv,.slice s.a s.n s.c,.pointer (some ⟨A,0,none⟩),.pointer (some ⟨B,0,none⟩),undef,.slice none 0 0,.pointer (some ⟨C,0,none⟩),undef,undef,undef,undef,undef,undef,undef,undef,undef,undef,undef,undef,undef,undef,undef],defers:=[{ target:=.fn (.func 66) #[],args:=#[.pointer (some ⟨C,0,none⟩)] }] }
section
variable {hv rv:Value} {p:Option Addr} {s:Sl} {A B C:Nat} {T TB TC:TypeId} {tl:List Value} {RR:Ending→World→Prop}
theorem Z13b {k:Int} (Bh:Blk w A T (.int .u8 k :: tl)) (Be:Blk w C TC [.int .i64 0]) (h1:¬ k=1) (h2:¬ k=2) (hR:∀ w',Fr (fun k=>k=C) w w'→RR (.returned (.tuple #[.slice none 0 0,.int .i64 0])) w') :
  (doorOf Tryz.f29).wp Tryz.prog (bodyPostD Tryz.prog Tryz.f29 RR) (restAct hv rv s A B C) w:=by
 have c1:w.cell? ⟨A,0,none⟩=some (.int .u8 k):=Bh.cell 0
 have c3:w.cell? ⟨C,0,none⟩=some (.int .i64 0):=Be.cell 0
 have c4:w.frozen? ⟨C,0,none⟩=false:=Be.frozen 0
 have h1':(k == 1)=false:=by simpa using h1
 have h2':(k == 2)=false:=by simpa using h2
 show Code.wp _ (Code.seq (Code.seq _ _) (Code.seq _ _)) _ _ _
 go_wp2
 have c5:=(Be.set 0 (.int .i64 0)).cell 0
 exact Zi5 (v:=.tuple #[.slice none 0 0,.int .i64 0]) (by simp [results,Tryz.results29,go_sem,c5]) (hR _ (Fr.setCell (S:=fun k=>k=C) (Fr.refl _ _) (p:=⟨C,0,none⟩) (.inl rfl) _))
theorem Z15a (Bh:Blk w A T (.int .u8 1 :: tl)) (Br:Blk w B TB [.pointer p])
  (hc:Calls Tryz.prog 72 #[.agg #[.pointer p]] w fun e w'=>Blk w' C TC [.int .i64 0]∧((∃ r:Sl,e=.returned (.slice r.a r.n r.c)∧∀ w2,Fr (fun k=>k=C) w' w2→RR (.returned (.tuple #[.slice r.a r.n r.c,.int .i64 0])) w2)∨(e=.panicked giveUp∧∀ w2,Fr (fun k=>k=C) w' w2→RR (.returned (.tuple #[.slice none 0 0,.int .i64 4])) w2))) :
  (doorOf Tryz.f29).wp Tryz.prog (bodyPostD Tryz.prog Tryz.f29 RR) (restAct hv (.agg #[.pointer p]) s A B C) w:=by
 have c1:w.cell? ⟨A,0,none⟩=some (.int .u8 1):=Bh.cell 0
 have c2:w.cell? ⟨B,0,none⟩=some (.pointer p):=Br.cell 0
 show Code.wp _ (Code.seq (Code.seq _ _) (Code.seq _ _)) _ _ _
 go_wp2_with (go_at_call 72; refine hc.mono ?_; rintro e w' ⟨B',⟨r,rfl,hR⟩ | ⟨rfl,hR⟩⟩ <;> (have c3:w'.cell? ⟨C,0,none⟩=some (.int .i64 0):=B'.cell 0) <;> (have c4:w'.frozen? ⟨C,0,none⟩=false:=B'.frozen 0))
 ·have c5:=(B'.set 0 (.int .i64 0)).cell 0
  exact Zi5 (v:=.tuple #[.slice r.a r.n r.c,.int .i64 0]) (by simp [results,Tryz.results29,go_sem,c5]) (hR _ (Fr.setCell (S:=fun k=>k=C) (Fr.refl _ _) (p:=⟨C,0,none⟩) (.inl rfl) _))
 ·refine Zph (v:=.tuple #[.slice none 0 0,.int .i64 4]) B' fun w2 B2 g2=>⟨?_,hR w2 g2⟩
  have c5:=B2.cell 0
  simp [results,Tryz.results29,go_sem,c5]
theorem Z15b (Bh:Blk w A T (.int .u8 2 :: tl)) (Br:Blk w B TB [.pointer p])
  (hc:Calls Tryz.prog 74 #[.agg #[.pointer p],.slice s.a s.n s.c] w fun e w'=>(∃ d:DRaw,e=.returned (.agg #[.slice d.1.a d.1.n d.1.c,.slice d.2.1.a d.2.1.n d.2.1.c,.slice d.2.2.a d.2.2.n d.2.2.c]) ∧
   Calls Tryz.prog 73 #[.slice s.a s.n s.c,.agg #[.slice d.1.a d.1.n d.1.c,.slice d.2.1.a d.2.1.n d.2.1.c,.slice d.2.2.a d.2.2.n d.2.2.c]] w' fun e w'=>Blk w' C TC [.int .i64 0]∧∃ (r:Sl) (x:Int),e=.returned (.tuple #[.slice r.a r.n r.c,.int .i64 x])∧∀ w2,Fr (fun k=>k=C) w' w2→RR (.returned (.tuple #[.slice r.a r.n r.c,.int .i64 x])) w2)∨(e=.panicked giveUp∧Blk w' C TC [.int .i64 0]∧∀ w2,Fr (fun k=>k=C) w' w2→RR (.returned (.tuple #[.slice none 0 0,.int .i64 4])) w2)) :
  (doorOf Tryz.f29).wp Tryz.prog (bodyPostD Tryz.prog Tryz.f29 RR) (restAct hv (.agg #[.pointer p]) s A B C) w:=by
 have c1:w.cell? ⟨A,0,none⟩=some (.int .u8 2):=Bh.cell 0
 have c2:w.cell? ⟨B,0,none⟩=some (.pointer p):=Br.cell 0
 show Code.wp _ (Code.seq (Code.seq _ _) (Code.seq _ _)) _ _ _
 go_wp2_with (first
  | (go_at_call 74; refine hc.mono ?_; rintro e w' (⟨d,rfl,hc2⟩ | ⟨rfl,B',hR⟩))
  | (go_at_call 73; refine hc2.mono ?_; rintro e w'' ⟨B',r,x,rfl,hR⟩; have c3:w''.cell? ⟨C,0,none⟩=some (.int .i64 0):=B'.cell 0; have c4:w''.frozen? ⟨C,0,none⟩=false:=B'.frozen 0))
 ·have c5:=(B'.set 0 (.int .i64 x)).cell 0
  exact Zi5 (v:=.tuple #[.slice r.a r.n r.c,.int .i64 x]) (by simp [results,Tryz.results29,go_sem,c5]) (hR _ (Fr.setCell (S:=fun k=>k=C) (Fr.refl _ _) (p:=⟨C,0,none⟩) (.inl rfl) _))
 ·refine Zph (v:=.tuple #[.slice none 0 0,.int .i64 4]) B' fun w2 B2 g2=>⟨?_,hR w2 g2⟩
  have c5:=B2.cell 0
  simp [results,Tryz.results29,go_sem,c5]
end
end Go.Proofs.YtchhhjlpnecjkaaGreat
namespace Go.Proofs.YtchhhjlpnecjkaaGreat
open Go Go.RowKit Go.Proofs.YtchhhjlpnecjkaaGreat.Den
variable {R:Type} {Q:R→World→Prop} {w:World}
theorem Zzi (a c:Comp):(stepB2 a c).length≤200:=by
 have e:stepB2 a c=(List.range (cntM c.1)).flatMap fun i=>(oneP a c i).flatMap partB:=by
  unfold stepB2 partsB stepP
  rw [List.flatMap_assoc]
  rfl
 have h3:=Z5j c.1
 have:=Zff (fun i=>(oneP a c i).flatMap partB) 66 (List.range (cntM c.1)) fun i _=>by
  obtain ⟨q1,q2⟩:=Z1p c.1 (i:Int)
  have hw:=Z49 (lo:=(rangeM c.1 (i:Int)).1) (hi:=(rangeM c.1 (i:Int)).2.1) (by omega)
  show ((oneP a c i).flatMap partB).length≤66
  unfold oneP
  split
  ·simp [Zac]
  ·split
   ·simp [Zac]
   ·simp only [List.flatMap_cons,List.flatMap_nil,List.length_append,Zac,List.length_nil]
    unfold fieldP
    rw [Int.toNat_natCast]
    show 1+(1+(widthM (rangeM c.1 (i:Int)).1 (rangeM c.1 (i:Int)).2.1+0))≤66
    omega
 rw [List.length_range] at this
 rw [e]
 omega
theorem Z12c (was:List Ent) (id:Int) (l:List Comp):(setsB was id l).length≤200 * l.length:=Zff _ 200 _ fun c _=>Zzi _ _
theorem Zyh (l:List Comp):(compsB l).length≤192 * l.length:=Zff _ 192 _ fun c _=>Zrl
theorem Z137 (a l:List Comp):(newM a l).length+(chM a l).length≤l.length:=by
 unfold newM chM
 induction l with
 | nil=>simp
 | cons c r ih =>
  simp only [List.filter_cons]
  by_cases h:(findC a c.1).2=true
  ·rw [h]
   by_cases h2:(findC a c.1).1=c
   ·simp [h2]; omega
   ·simp [h2]; omega
  ·have h:(findC a c.1).2=false:=by simpa using h
   rw [h]
   simp
   omega
theorem Z186 (was:List Ent) (last:Int) {d:Chg} (h:d.2.2.1.length+d.2.2.2.length≤6):(chgB was last d).length≤1300:=by
 have h1:=Zo6 last d.1
 have h2:=Zyh d.2.2.1
 have h3:=Z12c was d.1 d.2.2.2
 unfold chgB
 simp only [List.length_append,Z4]
 omega
theorem Zwj {α:Type} {enc:Int→α→List Bool} {id:α→Int} {m:Nat}:∀ (l:List α) (last:Int),(∀ a∈l,∀ last,(enc last a).length≤m)→(encs enc id last l).length≤m * l.length
 | [],_,_=>by simp [encs]
 | a :: r,last,h=>by
  have h1:=Zwj (enc:=enc) (id:=id) r (id a) fun x hx=>h x (List.mem_cons_of_mem _ hx)
  have h2:=h a List.mem_cons_self last
  rw [encs,List.length_append,List.length_cons,Nat.mul_add]
  omega
theorem Zmr {v:Nat} (h:v≤4294967295):(varB v).length≤80:=by
 have lg2:=Z9e (v:=(v:Int)) (by omega) (by omega)
 rw [Int.toNat_natCast] at lg2
 rw [Zdj]
 omega
theorem Z11q {l:List Int} (h:l.length≤4294967295):(goneB l).length≤80+80 * l.length:=by
 unfold goneB
 rw [List.length_append]
 have:=Zmr h
 have:=Zwj (enc:=idBits) (id:=fun i:Int=>i) l 0 fun a _ last=>Zo6 last a
 omega
theorem Zrn {l:List Ent} (h:l.length≤4294967295) (h6:∀ e∈l,e.2.length≤6):(entsB l).length≤80+1300 * l.length:=by
 unfold entsB
 rw [List.length_append]
 have:=Zmr h
 have:=Zwj (enc:=entB) (id:=fun e:Ent=>e.1) l 0 fun a ha last=>Z18b (h6 a ha)
 omega
theorem Z11j (was:List Ent) {l:List Chg} (h:l.length≤4294967295) (h6:∀ d∈l,d.2.2.1.length+d.2.2.2.length≤6):(chgsB was l).length≤80+1300 * l.length:=by
 unfold chgsB
 rw [List.length_append]
 have:=Zmr h
 have:=Zwj (enc:=chgB was) (id:=fun d:Chg=>d.1) l 0 fun a ha last=>Z186 was last (h6 a ha)
 omega
theorem Zsm (was now:List Ent):(comeM was now).length+(chgsM was now).length≤now.length:=by
 unfold comeM chgsM
 induction now with
 | nil=>simp
 | cons e r ih =>
  rw [List.filter_cons,List.filterMap_cons]
  by_cases h:hasE was e.1=true
  ·rw [h]
   simp only [Bool.not_true,Bool.false_eq_true,if_false,List.length_cons]
   cases chgOne was e <;> simp <;> omega
  ·have h:hasE was e.1=false:=by simpa using h
   rw [h]
   have:chgOne was e=none:=by
    unfold chgOne
    have:was.find? (fun a=>a.1 == e.1)=none:=by
     rw [List.find?_eq_none]
     intro x hx
     simpa using Z6r.1 h x hx
    rw [this]
   rw [this]
   simp
   omega
theorem Zyu:∀ (l:List Comp) (m:Nat),m < 32→(∀ c∈l,c.1 < 5)→l.foldl orK m < 32
 | [],m,h,_=>h
 | c :: r,m,h,hc=>by
  rw [List.foldl_cons]
  refine Zyu r _ ?_ fun x hx=>hc x (List.mem_cons_of_mem _ hx)
  have:=hc c List.mem_cons_self
  unfold orK
  split
  ·refine Nat.or_lt_two_pow (n:=5) h ?_
   rw [Nat.one_shiftLeft]
   exact Nat.pow_lt_pow_right (by decide) (by omega)
  ·exact h
theorem FormOk.kinds {L:List Ent} (h:FormOk L) {e:Ent} (he:e∈L):∀ c∈e.2,0≤c.1∧c.1 < 5:=fun c hc=>by
 have h1:=h.told e he
 unfold secretM at h1
 rw [List.any_eq_false] at h1
 have h2:=h1 c hc
 have h3:toldM c.1=true:=by simpa using h2
 unfold toldM at h3
 have:=of_decide_eq_true h3
 omega
theorem FormOk.mask {L:List Ent} (h:FormOk L) {e:Ent} (he:e∈L) {l:List Comp} (hl:∀ c∈l,c∈e.2):maskN l < 32:=Zyu l 0 (by decide) fun c hc=>(h.kinds he c (hl c hc)).2
theorem FormOk.entTold {L:List Ent} (h:FormOk L) {e:Ent} (he:e∈L) (hf:EntFit e):EntTold e:=⟨hf,(Z28.1 (h.list he)).1,h.mask he fun _ hc=>hc,h.six he⟩
theorem FormOk.come {was now:List Ent} (h:FormOk now) (hf:∀ e∈now,EntFit e):∀ e∈comeM was now,EntTold e:=fun e he=>by
 have:=(List.mem_filter.1 he).1
 exact h.entTold this (hf e this)
theorem Z19g {was:List Ent} (h:FormOk was) {a:Ent} (ha:a∈was) {y:Comp} (hy:y∈a.2):oldM was a.1 y.1=y:=by
 obtain ⟨i,hi⟩:=List.mem_iff_getElem?.1 ha
 have hf:was.findIdx? (fun e=>e.1 == a.1)=some i:=by
  rw [List.findIdx?_eq_some_iff_getElem]
  obtain ⟨hl,hg⟩:=List.getElem?_eq_some_iff.1 hi
  refine ⟨hl,by rw [hg]; simp,fun q hq=>?_⟩
  have:=Zd9 h.rise hq (List.getElem?_eq_getElem (by omega)) hi
  simp; omega
 unfold oldM
 rw [hf]
 simp only [hi,Option.bind_some]
 cases hq:a.2.find? (fun c=>c.1 == y.1) with
 | none =>
  rw [List.find?_eq_none] at hq
  exact absurd (hq y hy) (by simp)
 | some z =>
  have h1:=List.mem_of_find?_eq_some hq
  have h2:z.1=y.1:=by have:=List.find?_some hq; simpa using this
  exact Zfr (h.list ha) h1 hy h2
structure ChgTold (was:List Ent) (d:Chg):Prop where
 id:IdOk d.1
 lost:0≤d.2.1∧d.2.1 < 32
 new:∀ c∈d.2.2.1,checkM c=0∧CompOk c
 newm:maskN d.2.2.1 < 32
 setm:maskN d.2.2.2 < 32
 six:d.2.2.1.length+d.2.2.2.length≤6
 set:∃ (i:Nat) (a:Ent),was[i]?=some a∧findE was d.1=(i:Int)∧∀ c∈d.2.2.2,CompOk c∧∃ (q:Nat) (y:Comp),findM a.2 c.1=(q:Int)∧a.2[q]?=some y∧CompOk y∧pairM y c=0∧oldM was d.1 c.1=y
theorem Zyg {was now:List Ent} (hw:FormOk was) (hn:FormOk now) (hL1:∀ e∈was,EntFit e) (hL2:∀ e∈now,EntFit e):∀ d∈chgsM was now,ChgTold was d:=by
 intro d hd
 obtain ⟨e,he,hd⟩:=List.mem_filterMap.1 hd
 obtain ⟨-,a,ha,hid,rfl, -⟩:=Z8i hd
 have la:=hw.list ha
 have le:=hn.list he
 obtain ⟨i,hi⟩:=List.mem_iff_getElem?.1 ha
 have hlost:lostM a.2 e.2 < 32:=by
  have h1:=hw.mask ha (l:=a.2) fun _ h=>h
  have ee:(lostM a.2 e.2).toNat=(BitVec.ofInt 8 (maskN a.2:Int) &&& ~~~BitVec.ofInt 8 (maskN e.2:Int)).toNat:=by
   unfold lostM bNot
   have:=(BitVec.ofInt 8 (maskN a.2:Int) &&& ~~~BitVec.ofInt 8 (maskN e.2:Int)).isLt
   show (IntKind.wrap .u8 ((BitVec.ofInt 8 (maskN a.2:Int) &&& ~~~BitVec.ofInt 8 (maskN e.2:Int)).toNat:Int)).toNat=_
   rw [wu8 (by omega),Int.toNat_natCast]
  have h2:(lostM a.2 e.2).toNat < 32:=by
   rw [ee,BitVec.toNat_and]
   refine Nat.lt_of_le_of_lt Nat.and_le_left ?_
   rw [BitVec.toNat_ofInt]
   omega
  have:=(Zcl a.2 e.2).1
  omega
 have cok:∀ c∈e.2,checkM c=0∧CompOk c:=fun c hc=>⟨(Z28.1 le).1 c hc,(hL2 e he).2.2 c hc⟩
 refine ⟨(hL2 e he).1,⟨(Zcl a.2 e.2).1,hlost⟩,fun c hc=>cok c (Zwv hc),hn.mask he fun c hc=>Zwv hc,hn.mask he fun c hc=>Z10p hc,?_,i,a,hi,?_,fun c hc=>?_⟩
 ·have:=Z137 a.2 e.2
  have:=hn.six he
  show (newM a.2 e.2).length+(chM a.2 e.2).length≤6
  omega
 ·show findE was e.1=_
  rw [← hid]
  exact Zv6 hw.rise hi
 ·have hce:=Z10p hc
  obtain ⟨hck,hco⟩:=cok c hce
  have hf:(findC a.2 c.1).2=true:=by
   have:=(List.mem_filter.1 hc).2
   simp at this
   exact this.1
  obtain ⟨g1,g2⟩:=Z26 hf
  rcases Zfe a.2 c.1 with ⟨_,hno⟩ | ⟨q,y,hq,hy,hk⟩
  ·exact absurd g2 (hno _ g1)
  have hym:=List.mem_of_getElem? hy
  refine ⟨hco,q,y,hq,hy,(hL1 a ha).2.2 y hym,?_,?_⟩
  ·unfold pairM
   rw [if_neg (by rw [(Z28.1 la).1 y hym]; simp),if_neg (by rw [hck]; simp),if_pos hk]
  ·show oldM was e.1 c.1=y
   rw [← hid,← hk]
   exact Z19g hw ha hym
def refBits (h:Head) (was now:List Ent):List Bool:=headB h ++ (if h.1=1 then entsB now else if h.1=2 then deltaB was (goneM was now) (comeM was now) (chgsM was now) else [])
def formE (h:Head) (was now:List Ent):Int:=if h.1=1 then formM 0 now else if h.1=2 then diffE was now else if 0 < now.length then 4 else 0
def refE (h:Head) (was now:List Ent):Int:=if headE h≠0 then headE h else if formE h was now≠0 then formE h was now else if 4096 < (packM (refBits h was now)).length then 3 else 0
def refB (h:Head) (was now:List Ent):List Int:=sealF (packM (refBits h was now))
end Go.Proofs.YtchhhjlpnecjkaaGreat
namespace Go.Proofs.YtchhhjlpnecjkaaGreat
open Go Go.RowKit Go.Proofs.YtchhhjlpnecjkaaGreat.Den
variable {R:Type} {Q:R→World→Prop} {w:World}
theorem Zwp {h:Head} (hok:HeadOk h):(headB h).length≤320:=by
 obtain ⟨⟨k0,k1⟩,⟨c0,c1⟩,⟨e0,e1⟩,⟨t0,t1⟩,⟨b0,b1⟩⟩:=hok
 have l1:=Zpp h.1 1 5
 have l2:=Zpp h.2.1 0 15
 have lw1:widthM 1 5≤64:=Z49 (by decide)
 have lw2:widthM 0 15≤64:=Z49 (by decide)
 have l3:=Zmr (v:=h.2.2.1.toNat) (by omega)
 have l4:=Zmr (v:=idD h.2.2.2.2 h.2.2.2.1) (by unfold idD; omega)
 unfold headB
 simp only [List.length_append]
 have lt32:(if h.1≤3 then bitsOf h.2.2.2.1.toNat 32 else []).length≤32:=by split <;> simp [Z4]
 have lt33:(if h.1=2 then varB (idD h.2.2.2.2 h.2.2.2.1) else []).length≤80:=by
  split
  ·exact l4
  ·simp
 omega
theorem Z15f {S ok ok1:Nat→Prop} {was:List Ent} {s1:Sl} {raws1:List (Int × Sl)} {bl:Nat} {T:TypeId} {cs:List Value} {ss:Sl} {id:Int} {set:List Comp} {pre:List Bool} {s:Sl}
  (B:Blk w bl T cs) (hb:cs[0]?=some (.int .u32 id)) (hbS:¬ S bl) (o:Own S w 4 boolT s pre) (hn:∀ k,w.heap.size≤k→S k)
  (hS1:SlT ok1 w entT s1 raws1) (hE1:EntsR ok1 w raws1 was) (nd1:∀ k,ok1 k→¬ S k) (hm1:was.length≤1048576) (hsm:∀ e∈was,Small e.2)
  (hS:SlT ok w compT ss set) (nd:∀ k,ok k→¬ S k)
  (hset:∃ (i:Nat) (a:Ent),was[i]?=some a∧findE was id=(i:Int)∧∀ c∈set,CompOk c∧∃ (q:Nat) (y:Comp),findM a.2 c.1=(q:Int)∧a.2[q]?=some y∧CompOk y∧pairM y c=0∧oldM was id c.1=y)
  (hl:pre.length+200 * set.length≤1048576) {K:Sl→W R} (hk:∀ r w',Own S w' 4 boolT r (pre ++ setsB was id set)→Fr S w w'→K r Q w') :
  loopW (σ := Sl × Int) (fun K_48 s_49 =>
       cond (decide (s_49.2 < (ss.n:Int)))
        (idxW ss.a ss.n 4 s_49.2 fun x_50 =>
       ld (.agg [.int .u8,.int .i32,.int .i32,.int .i32]) x_50 fun (x_51:(Int × Int × Int × Int)) =>
       newW 92 [.int .u8 0,.int .i32 0,.int .i32 0,.int .i32 0] fun x_52 =>
       stoL x_52 [.int .u8 x_51.1,.int .i32 x_51.2.1,.int .i32 x_51.2.2.1,.int .i32 x_51.2.2.2] 0 <|
       ld (.sc (.int .u32)) (Addr.add ⟨bl,0,none⟩ 0) fun (x_53:Int) =>
       callW Tryz.prog Z9 [.slice s1.a s1.n s1.c,.int .u32 x_53] [.sc (.int .i64)] fun (x_54:Int) =>
       idxW s1.a s1.n 2 x_54 fun x_55 =>
       ld (.agg [.int .u32,.sl]) x_55 fun (x_56:(Int × Sl)) =>
       newW 57 [.int .u32 0,.slice none 0 0] fun x_57 =>
       stoL x_57 [.int .u32 x_56.1,.slice x_56.2.a x_56.2.n x_56.2.c] 0 <|
       drawW <|
       ld (.sc .sl) (Addr.add x_57 1) fun (x_58:Sl) =>
       ld (.sc .sl) (Addr.add x_57 1) fun (x_59:Sl) =>
       ld (.sc (.int .u8)) (Addr.add x_52 0) fun (x_60:Int) =>
       ld (.agg [.int .u8,.int .i32,.int .i32,.int .i32]) x_52 fun (x_61:(Int × Int × Int × Int)) =>
       callW Tryz.prog Z7 [.slice x_59.a x_59.n x_59.c,.int .u8 x_60] [.sc (.int .i64)] fun (x_62:Int) =>
       andW (fun w=>Rd w x_52 (.agg [.int .u8,.int .i32,.int .i32,.int .i32]) x_61) <|
       andW (fun w=>Rd w (Addr.add x_57 1) (.sc .sl) x_58) <|
       idxW x_58.a x_58.n 4 x_62 fun x_63 =>
       ld (.agg [.int .u8,.int .i32,.int .i32,.int .i32]) x_63 fun (x_64:(Int × Int × Int × Int)) =>
       callW Tryz.prog Z41 [.agg ⟨[.int .u8 x_64.1,.int .i32 x_64.2.1,.int .i32 x_64.2.2.1,.int .i32 x_64.2.2.2]⟩,.agg ⟨[.int .u8 x_61.1,.int .i32 x_61.2.1,.int .i32 x_61.2.2.1,.int .i32 x_61.2.2.2]⟩] [.sc .sl,.sc (.int .i64)] fun (x_65:Sl × Int) =>
       rawW Tryz.prog (Builtin.append_ #[70,70] 70 #[.slice s_49.1.a s_49.1.n s_49.1.c,.slice x_65.1.a x_65.1.n x_65.1.c]) [.sc .sl] fun (x_66:Sl) =>
       K_48 (x_66,IntKind.wrap .i64 (s_49.2+1)))
        (K s_49.1))
       (s,0) Q w:=by
 obtain ⟨i,a,ha,hfi,hall⟩:=hset
 obtain ⟨q1,hq1,hq2,hq3⟩:=hE1.get ha
 have hlen:=hS.len
 have hsa:=hsm a (List.mem_of_getElem? ha)
 refine forI (N:=ss.n) (fun s:Sl × Int=>s.2) (fun j st u=>st.2=(j:Int)∧Own S u 4 boolT st.1 (pre ++ setsB was id (set.take j))∧Fr S w u) ⟨rfl,by simpa [setsB] using o,Fr.refl _ _⟩ (fun j s w' h=>h.1) ?_ ?_
 ·rintro j ⟨z,_⟩ u K' hj ⟨rfl,o,fu⟩ - hK
  have zu:=fu.size
  refine (hS.fr fu nd).get rfl rfl (by omega) fun c hcj=>?_
  obtain ⟨hco,q,y,hq,hy,hyo,hp,hold⟩:=hall c (List.mem_of_getElem? hcj)
  refine newI fun u1 B1 f1 z1=>stoAll B1 rfl rfl fun u2 B2 f2 z2=>?_
  have f12:Fr None u u2:=f1.newer f2 fun k e=>by omega
  have fu2:=fu.then0 f12
  refine fldI (B.fr fu2 hbS) (i:=0) (x:=id) hb ?_
  refine Z47 (hS1.fr fu2 nd1) (hE1.fr fu2 nd1) (by omega) fun u3 f3=>?_
  have fu3:=fu2.then0 f3
  rw [hfi]
  refine (hS1.fr fu3 nd1).get rfl rfl (by have:=(List.getElem?_eq_some_iff.1 hq1).1; omega) fun y1 hy1=>?_
  rw [hq1] at hy1
  cases hy1
  refine newI fun u4 B4 f4 z4=>stoAll B4 rfl rfl fun u5 B5 f5 z5=>?_
  have f35:Fr None u3 u5:=f4.newer f5 fun k e=>by omega
  have fd:Fr None u5 u5.drew:=(Fr.refl _ _).drew
  have f3d:=f35.then0 fd
  have fud:=fu3.then0 f3d
  have Bc:=(B2.fr f3 fun h=>h).fr f3d fun h=>h
  have Be:=B5.fr fd fun h=>h
  refine fldI Be (i:=1) (x:=q1.2) rfl (fldI Be (i:=1) (x:=q1.2) rfl (fldI Bc (i:=0) (x:=c.1) rfl (aggI Bc (x:=c) rfl ?_)))
  refine Z5n (hq3.fr fud nd1) hsa fun u6 f6=>?_
  have fu6:=fud.then0 f6
  rw [hq]
  refine andI (fun j u hj=>?_) (andI ((Be.fr f6 fun h=>h).rd (s:=.sl) (i:=1) (x:=q1.2) rfl) ?_)
  ·rw [add_lit,(Bc.fr f6 fun h=>h).cell,Nat.zero_add]
   exact hj
  refine (hq3.fr fu6 nd1).get rfl rfl (List.getElem?_eq_some_iff.1 hy).1 fun y2 hy2=>?_
  rw [hy] at hy2
  cases hy2
  refine Zze hp hyo hco fun r u7 o7 f7=>?_
  have fu7:=fu6.then0 f7
  have g07:Fr None u u7:=(((f12.then0 f3).then0 f3d).then0 f6).then0 f7
  have z7:=g07.size
  have l1:=Z12c was id (set.take j)
  have l2:=Zzi y c
  have l3:(set.take j).length=j:=by rw [List.length_take]; omega
  have z6:=(((f12.then0 f3).then0 f3d).then0 f6).size
  refine appS (o.none g07) (fun k e=>hn k (by omega)) o7.sl (by simp only [List.length_append]; omega) fun r2 u8 o8 f8=>?_
  refine hK _ _ ⟨wsucc hj (by omega),?_,fu7.then f8⟩
  have e:setsB was id (set.take (j+1))=setsB was id (set.take j) ++ stepB2 y c:=by unfold setsB; rw [Z8 hcj,List.flatMap_append]; simp [hold]
  rw [e,← List.append_assoc]
  exact o8
 ·rintro ⟨z,_⟩ u ⟨_,o,fu⟩
  rw [List.take_of_length_le (by omega)] at o
  exact hk z u o fu
theorem Zxe {ok1 ok2:Nat→Prop} {h:Head} (hok:HeadOk h) {s1 s2:Sl} {raws1 raws2:List (Int × Sl)} {was now:List Ent} (hS1:SlT ok1 w entT s1 raws1) (hE1:EntsR ok1 w raws1 was) (hS2:SlT ok2 w entT s2 raws2) (hE2:EntsR ok2 w raws2 now)
  (hm1:was.length≤1048576) (hm2:now.length≤1048576) (hL1:∀ e∈was,EntFit e) (hL2:∀ e∈now,EntFit e) (few1:h.1=1→formM 0 now=0→now.length≤720) (few2:h.1=2→diffE was now=0→was.length≤720∧now.length≤720) {K:Res [.sc .sl,.sc (.int .i64)]→W R}
  (hbad:refE h was now≠0→∀ w',Fr None w w'→K (⟨none,0,0⟩,refE h was now) Q w')
  (hk:refE h was now=0→∀ r w',Own (Up w.heap.size) w' 5 u8T r (refB h was now)→Fr None w w'→K (r,0) Q w') :
  callW Tryz.prog Z7s [.agg ⟨[.int .u8 h.1,.int .u8 h.2.1,.int .u32 h.2.2.1,.int .u32 h.2.2.2.1,.int .u32 h.2.2.2.2]⟩,.slice s1.a s1.n s1.c,.slice s2.a s2.n s2.c] [.sc .sl,.sc (.int .i64)] K Q w:=by
 refine Zks h s1 s2 K Q w ?_
 unfold Z7h
 have hS10:SlT (fun k=>ok1 k∧k < w.heap.size) w entT s1 raws1:=hS1.mono fun k hk e=>⟨e,hk⟩
 have hE10:EntsR (fun k=>ok1 k∧k < w.heap.size) w raws1 was:=hE1.mono fun k hk e=>⟨e,hk⟩
 have hS20:SlT (fun k=>ok2 k∧k < w.heap.size) w entT s2 raws2:=hS2.mono fun k hk e=>⟨e,hk⟩
 have hE20:EntsR (fun k=>ok2 k∧k < w.heap.size) w raws2 now:=hE2.mono fun k hk e=>⟨e,hk⟩
 have l2:=hS2.len.trans hE2.len
 have fit:∀ {e:Ent},EntFit e→IdOk e.1∧e.2.length≤9223372036854775807∧∀ c∈e.2,CompOk c:=fun h=>⟨h.1,by have:=h.2.1; omega,h.2.2⟩
 refine newI fun w1 B1 f1 t1=>aggI B1 (x:=h) rfl (Zk3 hok fun w2 f2=>?_)
 have f02:=f1.then0 f2
 have B2:=B1.fr f2 fun h=>h
 refine condN (fun hne=>?_) fun heq=>?_
 ·have e:refE h was now=headE h:=by unfold refE; rw [if_pos hne]
  rw [← e]
  exact hbad (by rw [e]; exact hne) w2 f02
 have eE:refE h was now=if formE h was now≠0 then formE h was now else if 4096 < (packM (refBits h was now)).length then 3 else 0:=by unfold refE; rw [if_neg (by rw [heq]; simp)]
 have bad:formE h was now≠0→∀ w',Fr None w2 w'→K (⟨none,0,0⟩,formE h was now) Q w':=fun hne w' f=>by
  have e:refE h was now=formE h was now:=by rw [eE,if_pos hne]
  rw [← e]
  exact hbad (by rw [e]; exact hne) w' (f02.then0 f)
 have z2:=f02.size
 have lh:=Zwp hok
 refine aggI B2 (x:=h) rfl (Zxb hok heq fun a w3 o3 f3=>?_)
 have B3:=B2.fr f3 fun h=>h
 have f03:=f02.then0 f3
 have z3:=f3.size
 refine fldI B3 (i:=0) (x:=h.1) rfl ?_
 refine joinI (fun z v=>formE h was now=0∧Own (Up w2.heap.size) v 4 boolT z (refBits h was now)∧(refBits h was now).length≤1048576∧Fr None w2 v) ?_ ?_
 ·refine condE (fun k1=>?_) fun k1=>?_
  ·
   have eF:formE h was now=formM 0 now:=by unfold formE; rw [if_pos k1]
   refine Z8v (hS20.fr0 f03) (hE20.fr f03 fun _ _ h=>h) (by omega) (fun e he=>fit (hL2 e he)) fun w4 f4=>?_
   rw [← Zej now 0 true fun _=>rfl,← eF]
   have f34:=f3.then0 f4
   have f04:=f03.then0 f4
   refine condN (fun hne=>bad hne w4 f34) fun h0=>?_
   have fn:=formOk.1 (eF ▸ h0)
   have hfew:=few1 k1 (eF ▸ h0)
   have le:=Zrn (l:=now) (by omega) fun e he=>fn.six he
   have z4:=f34.size
   have eB:refBits h was now=headB h ++ entsB now:=by unfold refBits; rw [if_pos k1]
   refine Zom (S:=Up w2.heap.size) (o3.none f4) (fun k e=>by show w2.heap.size≤k; omega) (hS20.fr0 f04) (hE20.fr f04 fun _ _ h=>h) (fun k _ e e2=>by have e2:w2.heap.size≤k:=e2; omega) (fun e he=>fn.entTold he (hL2 e he)) (by omega) fun r w5 o5 f5=>?_
   refine ⟨h0,by rw [eB]; exact o5,by rw [eB,List.length_append]; omega,f34.newer f5 fun k e=>e⟩
  ·refine fldI B3 (i:=0) (x:=h.1) rfl ?_
   refine joinI (fun z v=>formE h was now=0∧Own (Up w2.heap.size) v 4 boolT z (refBits h was now)∧(refBits h was now).length≤1048576∧Fr None w2 v) ?_ fun _ _ h=>h
   refine condE (fun k2=>?_) fun k2=>?_
   ·
    have eF:formE h was now=diffE was now:=by unfold formE; rw [if_neg k1,if_pos k2]
    have eB:refBits h was now=headB h ++ deltaB was (goneM was now) (comeM was now) (chgsM was now):=by unfold refBits; rw [if_neg k1,if_pos k2]
    refine Zol (hS10.fr0 f03) (hE10.fr f03 fun _ _ h=>h) (hS20.fr0 f03) (hE20.fr f03 fun _ _ h=>h) hm1 hm2 hL1 hL2 (fun hne w6 f6=>?_) fun h0 r w6 D f6=>?_
    ·refine newI fun w7 B7 f7 t7=>stoAll B7 rfl rfl fun w8 B8 f8 t8=>condT (by simpa using hne) ?_
     have:=bad (by rw [eF]; exact hne) w8 ((f3.then0 f6).then0 (f7.newer f8 fun k e=>by omega))
     rw [eF] at this
     exact this
    have h0':formE h was now=0:=by rw [eF]; exact h0
    obtain ⟨few21,few22⟩:=few2 k2 h0
    have fw:FormOk was:=formOk.1 (by
     unfold diffE at h0
     refine Classical.byContradiction fun hc=>?_
     rw [if_pos hc] at h0
     exact hc h0)
    have fn:FormOk now:=formOk.1 (by
     unfold diffE at h0
     rw [if_neg (by rw [formOk.2 fw]; simp)] at h0
     exact h0)
    have hct:=Zyg fw fn hL1 hL2
    have hgl:(goneM was now).length≤was.length:=by unfold goneM; rw [List.length_map]; exact List.length_filter_le _ _
    have hcl:=Zsm was now
    have hgo:=(Zys (now:=now) hL1 hm1).2
    have lg:=Z11q (l:=goneM was now) (by omega)
    have lc:=Zrn (l:=comeM was now) (by omega) fun e he=>fn.six (List.mem_filter.1 he).1
    have ld':=Z11j was (l:=chgsM was now) (by omega) fun d hd=>(hct d hd).six
    have hct2:=fn.come (was:=was) hL2
    generalize hG:goneM was now=gone at *
    generalize hC:comeM was now=come at *
    generalize hH:chgsM was now=chg at *
    have z6:=f6.size
    refine newI fun w7 B7 f7 t7=>stoAll B7 rfl rfl fun w8 B8 f8 t8=>condF rfl ?_
    have f68:Fr None w6 w8:=f7.newer f8 fun k e=>by omega
    have f38:=f6.then0 f68
    have f28:=f3.then0 f38
    have f08:=f02.then0 f28
    have z8:=f68.size
    obtain ⟨S,hSd⟩:∃ S:Nat→Prop,S=fun k=>(w2.heap.size≤k∧k < w3.heap.size)∨w8.heap.size≤k:=⟨_,rfl⟩
    have hSn:∀ k,w8.heap.size≤k→S k:=fun k e=>by rw [hSd]; exact .inr e
    have hSu:∀ k,S k→w2.heap.size≤k:=fun k e=>by rw [hSd] at e; rcases e with e | e <;> omega
    have D8:DltR (fun k=>w3.heap.size≤k∧k < w6.heap.size) w8 r gone come chg:=DltR.st D f68 fun k hk e=>⟨fun h=>h,e,hk⟩
    have nd:∀ k,w3.heap.size≤k∧k < w6.heap.size→¬ S k:=fun k e e2=>by rw [hSd] at e2; rcases e2 with e2 | e2 <;> omega
    have nd1:∀ k,ok1 k∧k < w.heap.size→¬ S k:=fun k e e2=>by have:=hSu k e2; omega
    have nb:¬ S w6.heap.size:=fun e=>by rw [hSd] at e; rcases e with e | e <;> omega
    have o8:Own S w8 4 boolT a (headB h):=(o3.mono (S':=S) fun k hk e=>by rw [hSd]; exact .inl ⟨e,hk⟩).none f38
    obtain ⟨Dg,⟨rc,Dc,Ec⟩,⟨rd,Dd,Ed⟩⟩:=D8
    have ng:=Dg.len
    have nc:=Dc.len
    have nd':=Dd.len
    have ndl:=Ed.len
    refine fldI B8 (i:=0) (x:=r.1) rfl ?_
    have ew:IntKind.wrap .u64 (r.1.n:Int)=((gone.length:Nat):Int):=by rw [wU64 (by omega)]; omega
    rw [ew]
    refine Z7w (by omega) fun d w9 o9 f9=>?_
    have z9:=f9.size
    have lv:=Zmr (v:=gone.length) (by omega)
    refine appS (o8.none f9) (fun k e=>hSn k (by omega)) o9.sl (by omega) fun a2 w10 o10 f10=>?_
    have f810:Fr S w8 w10:=f9.any.then f10
    refine fldI (B8.fr f810 nb) (i:=0) (x:=r.1) rfl ?_
    refine forI (N:=r.1.n) (fun s:Sl × Int × Int=>s.2.2) (fun j st u=>st.2.2=(j:Int)∧st.2.1=lastF (fun i:Int=>i) 0 (gone.take j)∧Own S u 4 boolT st.1 (headB h ++ varB gone.length ++ encs idBits (fun i:Int=>i) 0 (gone.take j))∧Fr S w8 u) ⟨rfl,rfl,by simpa [encs] using o10,f810⟩ (fun j s w' h=>h.1) ?_ ?_
    ·rintro j ⟨z,la,_⟩ u K' hj ⟨rfl,rfl,o,fu⟩ - hK
     have zu:=fu.size
     refine (Dg.fr fu nd).get rfl rfl (by omega) fun x hx=>?_
     have htk:=Zso idBits (fun i:Int=>i) gone 0 j
     have hgb:(goneB gone).length=(varB gone.length).length+(encs idBits (fun i:Int=>i) 0 gone).length:=by unfold goneB; rw [List.length_append]
     refine Zmo o (fun k e=>hSn k (by omega)) (by simp only [List.length_append]; omega) fun r3 u3 o3' f3'=>?_
     refine hK _ _ ⟨wsucc hj (by omega),?_,?_,fu.then f3'⟩
     ·rw [Z8 hx,Zpv]
     ·rw [Z8 hx,Zo4,← List.append_assoc]
      exact o3'
    rintro ⟨b,lb,_⟩ w11 ⟨_,_,o11,f11⟩
    rw [List.take_of_length_le (by omega),List.append_assoc] at o11
    have o11:Own S w11 4 boolT b (headB h ++ goneB gone):=o11
    have z11:=f11.size
    refine fldI (B8.fr f11 nb) (i:=1) (x:=r.2.1) rfl ?_
    refine Zom o11 (fun k e=>hSn k (by omega)) (Dc.fr f11 nd) (Ec.fr f11 nd) (fun k _ e e2=>nd k e e2) hct2 (by rw [List.length_append]; omega) fun c w12 o12 f12=>?_
    have f812:=f11.then f12
    have z12:=f812.size
    refine fldI (B8.fr f812 nb) (i:=2) (x:=r.2.2) rfl ?_
    have ew:IntKind.wrap .u64 (r.2.2.n:Int)=((chg.length:Nat):Int):=by rw [wU64 (by omega)]; omega
    rw [ew]
    refine Z7w (by omega) fun d2 w13 o13 f13=>?_
    have z13:=f13.size
    have lv2:=Zmr (v:=chg.length) (by omega)
    refine appS (o12.none f13) (fun k e=>hSn k (by omega)) o13.sl (by simp only [List.length_append]; omega) fun a3 w14 o14 f14=>?_
    have f814:Fr S w8 w14:=(f812.then0 f13).then f14
    refine fldI (B8.fr f814 nb) (i:=2) (x:=r.2.2) rfl ?_
    have hcb:(chgsB was chg).length=(varB chg.length).length+(encs (chgB was) (fun d:Chg=>d.1) 0 chg).length:=by unfold chgsB; rw [List.length_append]
    refine forI (N:=r.2.2.n) (fun s:Sl × Int × Int=>s.2.2) (fun j st u=>st.2.2=(j:Int)∧st.2.1=lastF (fun d:Chg=>d.1) 0 (chg.take j)∧Own S u 4 boolT st.1 (headB h ++ goneB gone ++ entsB come ++ varB chg.length ++ encs (chgB was) (fun d:Chg=>d.1) 0 (chg.take j))∧Fr S w8 u) ⟨rfl,rfl,by simpa [encs] using o14,f814⟩ (fun j s w' h=>h.1) ?_ ?_
    ·rintro j ⟨z,la,_⟩ u K' hj ⟨rfl,rfl,o,fu⟩ - hK
     have zu:=fu.size
     obtain ⟨d,hd⟩:∃ d,chg[j]?=some d:=⟨_,List.getElem?_eq_getElem (by omega)⟩
     obtain ⟨t,ht,tr1,tr2,tr3,tr4⟩:=Ed.get hd
     have T:=hct d (List.mem_of_getElem? hd)
     refine (Dd.fr fu nd).get rfl rfl (by omega) fun y hy=>?_
     rw [ht] at hy
     cases hy
     refine newI fun u1 C1 g1 y1=>stoAll C1 rfl rfl fun u2 C2 g2 y2=>?_
     have g12:Fr None u u2:=g1.newer g2 fun k e=>by omega
     have fu2:=fu.then0 g12
     have htk:=Zso (chgB was) (fun d:Chg=>d.1) chg 0 (j+1)
     rw [Z8 hd,Zo4,List.length_append] at htk
     obtain ⟨pre,hpre⟩:∃ pre,pre=headB h ++ goneB gone ++ entsB come ++ varB chg.length ++ encs (chgB was) (fun d:Chg=>d.1) 0 (chg.take j):=⟨_,rfl⟩
     have lpre:pre.length+(chgB was (lastF (fun d:Chg=>d.1) 0 (chg.take j)) d).length≤1000000:=by
      rw [hpre]
      simp only [List.length_append]
      omega
     rw [← hpre] at o
     have hcB:(chgB was (lastF (fun d:Chg=>d.1) 0 (chg.take j)) d).length=(idBits (lastF (fun d:Chg=>d.1) 0 (chg.take j)) d.1).length+(5+(5+(5+((compsB d.2.2.1).length+(setsB was d.1 d.2.2.2).length)))):=by
      unfold chgB
      simp only [List.length_append,Z4]
     have o2:Own (fun k=>S k∧k≠u.heap.size) u2 4 boolT z pre:=(o.mono (S':=fun k=>S k∧k≠u.heap.size) fun k hk e=>⟨e,by omega⟩).none g12
     have hn2:∀ {v:World},u2.heap.size≤v.heap.size→∀ k,v.heap.size≤k→S k∧k≠u.heap.size:=fun hv k e=>⟨hSn k (by omega),by omega⟩
     refine fldI C2 (i:=0) (x:=t.1) rfl ?_
     rw [tr1]
     refine Zmo o2 (hn2 (Nat.le_refl _)) (by omega) fun r3 u3 o3' f3'=>?_
     have y3:=f3'.size
     have C3:=C2.fr f3' fun e=>e.2 rfl
     have fu3:=fu2.then (f3'.sub fun k e=>e.1)
     refine fldI C3 (i:=0) (x:=t.1) rfl (fldI C3 (i:=1) (x:=t.2.1) rfl ?_)
     rw [tr2]
     have el:IntKind.wrap .u64 d.2.1=((d.2.1.toNat:Nat):Int):=by have:=T.lost; rw [wU64 (by omega)]; omega
     rw [el]
     have up2:∀ {x v:World} {q:Sl} {l:List Bool},u2.heap.size≤x.heap.size→Own (Up x.heap.size) v 4 boolT q l→Own (fun k=>S k∧k≠u.heap.size) v 4 boolT q l:=fun hx o=>o.mono fun k _ e=>by have e:_≤k:=e; exact ⟨hSn k (by omega),by omega⟩
     have six:=T.six
     refine Z7v (n:=5) o3'.sl (by decide) (by have:=T.lost; omega) (by simp only [List.length_append]; omega) fun r4 u4 o4 f4=>?_
     have y4:=f4.size
     have C4:=C3.fr f4 fun h=>h
     have fu4:=fu3.then0 f4
     refine fldI C4 (i:=2) (x:=t.2.2.1) rfl ?_
     refine Zhy (tr3.fr fu4 nd) (by omega) fun u5 f5=>?_
     have em:IntKind.wrap .u64 ((maskN d.2.2.1:Nat):Int)=((maskN d.2.2.1:Nat):Int):=by have:=T.newm; rw [wU64 (by omega)]
     rw [em]
     have y5:=f5.size
     refine Z7v (n:=5) (o4.none f5).sl (by decide) (by have:=T.newm; omega) (by simp only [List.length_append,Z4]; omega) fun r6 u6 o6 f6'=>?_
     have y6:=f6'.size
     have f46:=f5.then0 f6'
     have C6:=C4.fr f46 fun h=>h
     have fu6:=fu4.then0 f46
     refine fldI C6 (i:=3) (x:=t.2.2.2) rfl ?_
     refine Zhy (tr4.fr fu6 nd) (by omega) fun u7 f7'=>?_
     have em:IntKind.wrap .u64 ((maskN d.2.2.2:Nat):Int)=((maskN d.2.2.2:Nat):Int):=by have:=T.setm; rw [wU64 (by omega)]
     rw [em]
     have y7:=f7'.size
     refine Z7v (n:=5) (o6.none f7').sl (by decide) (by have:=T.setm; omega) (by simp only [List.length_append,Z4]; omega) fun r8 u8 o8' f8'=>?_
     have y8:=f8'.size
     have f68':=f7'.then0 f8'
     have C8:=C6.fr f68' fun h=>h
     have fu8:=fu6.then0 f68'
     refine fldI C8 (i:=2) (x:=t.2.2.1) rfl ?_
     have cl:=Zyh d.2.2.1
     refine Zk4 (up2 (by omega) o8') (hn2 (by omega)) (by simp only [List.length_append,Z4]; omega) (tr3.fr fu8 nd) (fun k _ e e2=>nd k e e2.1) T.new fun r9 u9 o9' f9'=>?_
     have y9:=f9'.size
     have C9:=C8.fr f9' fun e=>e.2 rfl
     have fu9:=fu8.then (f9'.sub fun k e=>e.1)
     refine fldI C9 (i:=3) (x:=t.2.2.2) rfl ?_
     refine Z15f (K:=fun z=>K' (z,t.1,IntKind.wrap .i64 ((j:Int)+1))) (id:=d.1) (set:=d.2.2.2) C9 (by rw [tr1]; rfl) (fun e=>e.2 rfl) o9' (hn2 (by omega)) ((hS10.fr0 f08).fr fu9 nd1) ((hE10.fr f08 fun _ _ h=>h).fr fu9 nd1) (fun k e e2=>nd1 k e e2.1) hm1 (fun e he=>(hL1 e he).2.1) (tr4.fr fu9 nd) (fun k e e2=>nd k e e2.1) T.set (by simp only [List.length_append,Z4]; omega) fun r10 u10 o10' f10'=>?_
     refine hK _ _ ⟨wsucc hj (by omega),?_,?_,fu9.then (f10'.sub fun k e=>e.1)⟩
     ·show t.1=_
      rw [Z8 hd,Zpv,tr1]
     ·rw [Z8 hd,Zo4,← List.append_assoc,← hpre]
      unfold chgB
      have o7:=o10'.mono (S':=S) fun k _ e=>e.1
      simp only [List.append_assoc] at o7 ⊢
      exact o7
    ·rintro ⟨b2,lb2,_⟩ u ⟨_,_,o,fu⟩
     rw [List.take_of_length_le (by omega)] at o
     refine ⟨h0',?_,by rw [eB]; unfold deltaB; simp only [List.length_append]; omega,f28.newer fu hSu⟩
     rw [eB]
     unfold deltaB
     have o7:=o.mono (S':=Up w2.heap.size) fun k _ e=>hSu k e
     simp only [List.append_assoc] at o7
     have ec:chgsB was chg=varB chg.length ++ encs (chgB was) (fun d:Chg=>d.1) 0 chg:=rfl
     rw [ec]
     exact o7
   ·
    have eF:formE h was now=if 0 < now.length then 4 else 0:=by unfold formE; rw [if_neg k1,if_neg k2]
    have eB:refBits h was now=headB h:=by unfold refBits; rw [if_neg k1,if_neg k2,List.append_nil]
    refine condD (fun k3=>?_) fun k3=>?_
    ·rw [if_pos (by omega)] at eF
     have:=bad (by rw [eF]; decide) w3 f3
     rw [eF] at this
     exact this
    ·rw [if_neg (by omega)] at eF
     exact ⟨eF,by rw [eB]; exact o3,by rw [eB]; omega,f3⟩
 rintro z v ⟨h0,o,hlen,fv⟩
 rw [if_neg (fun x=>x h0)] at eE
 refine Zxa o.sl (by omega) fun p w4 o4 f4=>?_
 have f04:=(f02.then0 fv).then0 f4
 have zv:=fv.size
 refine Zhx o4.sl (Zwz _) (by rw [Zoc]; omega) (fun hl=>?_) fun hl q w5 o5 f5=>?_
 ·rw [if_pos hl] at eE
  have:=hbad (by rw [eE]; decide) w4 f04
  rw [eE] at this
  exact this
 ·rw [if_neg (by omega)] at eE
  exact hk eE q w5 (o5.up (by have:=f4.size; omega)) (f04.then0 f5)
end Go.Proofs.YtchhhjlpnecjkaaGreat
namespace Go.Proofs.YtchhhjlpnecjkaaGreat
open Go Go.RowKit Go.Proofs.YtchhhjlpnecjkaaGreat.Den
end Go.Proofs.YtchhhjlpnecjkaaGreat
namespace Go.Proofs.YtchhhjlpnecjkaaGreat
open Go Go.RowKit Go.Proofs.YtchhhjlpnecjkaaGreat.Den
variable {R:Type} {Q:R→World→Prop} {w:World}
theorem Zfy {ok ok2:Nat→Prop} {s s2:Sl} {l l2:List Int} (hS:SlT ok w u8T s l) (hS2:SlT ok2 w u8T s2 l2) (h1:BytesOk l) (h2:BytesOk l2) {K:Res [.sc .bool]→W R} (hk:K (decide (l=l2)) Q w) :
  callW Tryz.prog Zb5 [.slice s.a s.n s.c,.slice s2.a s2.n s2.c] [.sc .bool] K Q w:=by
 refine Zvm s s2 K Q w ?_
 unfold Zez
 refine strI hS (strI hS2 ?_)
 rw [Z180 h1 h2]
 exact hk
theorem Ztb {ok:Nat→Prop} {s:Sl} {l:List Int} (hS:SlT ok w u8T s l) (hb:BytesOk l) (hm:l.length≤140737488355000) {K:Res [.sc .sl,.sc (.int .i64)]→W R} (h1:∀ w',Fr None w w'→(l.length < 4→K (⟨none,0,0⟩,2) Q w')∧(4100 < l.length→K (⟨none,0,0⟩,3) Q w')∧(4≤l.length→l.length≤4100→sealF (l.take (l.length - 4))≠l→K (⟨none,0,0⟩,6) Q w'))
  (hk:4≤l.length→l.length≤4100→sealF (l.take (l.length - 4))=l→∀ r w',Own (Up w.heap.size) w' 5 u8T r (l.take (l.length - 4))→Fr None w w'→K (r,0) Q w') :
  callW Tryz.prog Zdc [.slice s.a s.n s.c] [.sc .sl,.sc (.int .i64)] K Q w:=by
 refine Zxq s K Q w ?_
 unfold Zgu
 have hlen:=hS.len
 rw [w64 (x:=(s.n:Int) - 4) (by omega)]
 refine condD (fun h=>(h1 w (Fr.refl _ _)).1 (by omega)) fun ha=>?_
 refine condD (fun h=>(h1 w (Fr.refl _ _)).2.1 (by omega)) fun hc=>?_
 have fd:Fr None w w.drew:=(Fr.refl _ _).drew
 have hSd:=hS.fr0 fd
 have hbt:BytesOk (l.take (l.length - 4)):=fun x hx=>hb x (List.mem_of_mem_take hx)
 have hbd:BytesOk (l.drop (l.length - 4)):=fun x hx=>hb x (List.mem_of_mem_drop hx)
 have hlt:(l.take (l.length - 4)).length=l.length - 4:=by rw [List.length_take]; omega
 refine hSd.from (n:=l.length - 4) rfl (by omega) (by omega) fun r1 hr1 _=>?_
 refine hSd.cutI (n:=l.length - 4) (by omega) (by omega) fun r2 _ hr2=>?_
 refine Zk0 (hr2 _ _ hSd) (by omega) (Zhu fun t w1 o1 f1=>?_)
 refine Zfy (hr1.fr0 f1) o1.sl hbd (Z12e _) ?_
 have key:(l.drop (l.length - 4)=tailF (sumF (l.take (l.length - 4))))↔sealF (l.take (l.length - 4))=l:=by
  constructor
  ·intro e
   unfold sealF
   rw [← e,List.take_append_drop]
  ·intro e
   have:=congrArg (List.drop (l.length - 4)) e
   unfold sealF at this
   rw [List.drop_left' hlt] at this
   exact this.symm
 have f01:=fd.then0 f1
 refine condI (fun h=>?_) fun h=>?_
 ·refine (h1 w1 f01).2.2 (by omega) (by omega) fun e=>?_
  have:=key.2 e
  simp [this] at h
 ·have h:l.drop (l.length - 4)=tailF (sumF (l.take (l.length - 4))):=by simpa using h
  refine (hS.fr0 f01).cutI (n:=l.length - 4) (by omega) (by omega) fun r3 _ hr3=>?_
  refine Z6t (hr3 _ _ (hS.fr0 f01)) (by omega) fun r w2 o2 f2=>?_
  have z1:=f01.size
  exact hk (by omega) (by omega) (key.1 h) r w2 (o2.up z1) (f01.then0 f2)
end Go.Proofs.YtchhhjlpnecjkaaGreat
namespace Go.Proofs.YtchhhjlpnecjkaaGreat
open Go Go.RowKit Go.Proofs.YtchhhjlpnecjkaaGreat.Den
variable {R:Type} {Q:R→World→Prop} {w:World}
def RestR (k:Int) (was:List Ent) (L:List Bool) (now:List Ent):Prop:=(k=1∧∃ L',entsD L=some (now,L'))∨(k=2∧∃ d L',deltaD was L=some (d,L')∧PatchOk was d.1 d.2.1 d.2.2 now)∨(k≠1∧k≠2∧now=[])
set_option maxRecDepth 100000 in
theorem Zre {b:Nat} {L:List Bool} {F:Nat→Prop} (h:RD b L F w) (hF:∀ k,F k→k < w.heap.size) {hd:Head} {okw:Nat→Prop} {sw:Sl} {raws:List (Int × Sl)} {was:List Ent} (hS:SlT okw w entT sw raws) (hE:EntsR okw w raws was) (hL:∀ e∈was,EntFit e) (hm:was.length≤200000) (hd':∀ k,okw k→k≠b) (hf:hd.1=2→FormOk was) {K:Res [.sc .sl,.sc (.int .i64)]→W R}
  (h0:(∀ now,¬ RestR hd.1 was L now)→∀ w',Fr (fun k=>k=b) w w'→K (⟨none,0,0⟩,4) Q w') (hk:∀ now,RestR hd.1 was L now→(∀ e∈now,EntFit e)→now.length≤1048576→∀ r raws' w',SlT (Up w.heap.size) w' entT r raws'→EntsR (Up w.heap.size) w' raws' now→Fr (fun k=>k=b) w w'→K (r,0) Q w') :
  callW Tryz.prog Zo9 [.agg ⟨[.int .u8 hd.1,.int .u8 hd.2.1,.int .u32 hd.2.2.1,.int .u32 hd.2.2.2.1,.int .u32 hd.2.2.2.2]⟩,.agg ⟨[.pointer (some ⟨b,0,none⟩)]⟩,.slice sw.a sw.n sw.c] [.sc .sl,.sc (.int .i64)] K Q w:=by
 unfold callW
 go_enter_defers Tryz.func29,Tryz.ntmps29
 generalize hc:Code.seq (Code.seq _ (Code.block _ _)) _=c
 go_wp2
 have hc:c=doorOf Tryz.f29:=hc.symm
 subst hc
 have hbb:=hF b h.1
 have hl8:=h.len
 obtain ⟨w3,hw3⟩:∃ w3,w3=((w.alloc (.cells ⟨[.int .u8 hd.1,.int .u8 hd.2.1,.int .u32 hd.2.2.1,.int .u32 hd.2.2.2.1,.int .u32 hd.2.2.2.2]⟩ 30)).alloc (.cells ⟨[.pointer (some ⟨b,0,none⟩)]⟩ 62)).alloc (.cells #[.int .i64 0] 31):=⟨_,rfl⟩
 have f1:Fr None w (w.alloc (.cells ⟨[.int .u8 hd.1,.int .u8 hd.2.1,.int .u32 hd.2.2.1,.int .u32 hd.2.2.2.1,.int .u32 hd.2.2.2.2]⟩ 30)):=(Fr.refl None w).alloc _
 have f2:=f1.alloc (.cells ⟨[.pointer (some ⟨b,0,none⟩)]⟩ 62)
 have f3:=f2.alloc (.cells #[.int .i64 0] 31)
 have Bh:Blk w3 w.heap.size 30 [.int .u8 hd.1,.int .u8 hd.2.1,.int .u32 hd.2.2.1,.int .u32 hd.2.2.2.1,.int .u32 hd.2.2.2.2]:=by rw [hw3]; exact ((Blk.new w _ _).alloc _).alloc _
 have Br:Blk w3 (w.heap.size+1) 62 [.pointer (some ⟨b,0,none⟩)]:=by
  rw [hw3]
  refine Blk.alloc ?_ _
  have:=Blk.new (w.alloc (.cells ⟨[.int .u8 hd.1,.int .u8 hd.2.1,.int .u32 hd.2.2.1,.int .u32 hd.2.2.2.1,.int .u32 hd.2.2.2.2]⟩ 30)) 62 [.pointer (some ⟨b,0,none⟩)]
  simpa using this
 have Be:Blk w3 (w.heap.size+2) 31 [.int .i64 0]:=by
  rw [hw3]
  have:=Blk.new ((w.alloc (.cells ⟨[.int .u8 hd.1,.int .u8 hd.2.1,.int .u32 hd.2.2.1,.int .u32 hd.2.2.2.1,.int .u32 hd.2.2.2.2]⟩ 30)).alloc (.cells ⟨[.pointer (some ⟨b,0,none⟩)]⟩ 62)) 31 [.int .i64 0]
  simpa using this
 have fw:Fr None w w3:=by rw [hw3]; exact f3
 have z3:w3.heap.size=w.heap.size+3:=by rw [hw3]; simp
 rw [← hw3]
 clear hw3 f1 f2 f3
 have hr3:=RD.st.fr0 h fw
 have hF3:∀ k,F k→k < w3.heap.size:=fun k e=>by have:=hF k e; omega
 have fin:∀ {u v:World},Fr (fun k=>k=b) w3 u→Fr (fun k=>k=w.heap.size+2) u v→Fr (fun k=>k=b) w v:=fun g f=>(fw.any.then g).thenNew f fun k e=>by omega
 have hbC:¬ w.heap.size+2=b:=by omega
 by_cases k1:hd.1=1
 ·rw [k1] at Bh h0 hk
  refine Z15a Bh Br (TC:=31) ?_
  have:=Zr4 (R:=Unit ⊕ List PanicEntry) (Q:=fun s w'=>match s with
   | .inl _=>False
   | .inr ch=>ch=giveUp∧entsD L=none∧Fr (fun k=>k=b) w3 w') hr3 hF3 (K:=fun r _ w'=>∃ l L',entsD L=some (l,L')∧Fr (fun k=>k=b) w3 w'∧∃ raws',SlT (Up w3.heap.size) w' entT r raws'∧EntsR (Up w3.heap.size) w' raws' l) (fun hn w' f=>⟨rfl,hn,f⟩)
   fun l L' hl r raws' lab w' o e up _ f=>⟨l,L',hl,f,raws',o.sl.mono fun k _ e=>(up k (by omega)).1,e.mono fun k _ e=>(up k (by omega)).1⟩
  refine Calls.mono this ?_
  rintro e w' (⟨r,rfl,l,L',hl,f,raws',hS',hE'⟩ | ⟨ch,rfl,rfl,hn,f⟩)
  ·refine ⟨Be.fr f hbC,.inl ⟨r,rfl,fun w2 f2=>⟨(r,0),rfl,?_⟩⟩⟩
   obtain ⟨fit,fl⟩:=Zwl hl
   refine hk l (.inl ⟨rfl,L',hl⟩) (fun e he=>(fit e he).1) (by omega) r raws' w2 ((hS'.fr f2 fun k (e:w3.heap.size≤k) e2=>by omega).mono fun k _ (e:w3.heap.size≤k)=>by show w.heap.size≤k; omega) ((hE'.fr f2 fun k (e:w3.heap.size≤k) e2=>by omega).mono fun k _ (e:w3.heap.size≤k)=>by show w.heap.size≤k; omega) (fin f f2)
  ·refine ⟨Be.fr f hbC,.inr ⟨rfl,fun w2 f2=>⟨(⟨none,0,0⟩,4),rfl,h0 (fun now hr=>?_) w2 (fin f f2)⟩⟩⟩
   rcases hr with ⟨_,L',h⟩ | ⟨h,_⟩ | ⟨h,_⟩
   ·rw [hn] at h; cases h
   ·cases h
   ·exact h rfl
 by_cases k2:hd.1=2
 ·have hform:=hf k2
  rw [k2] at Bh h0 hk
  refine Z15b Bh Br (TC:=31) ?_
  have hS3:=hS.fr0 fw
  have hE3:=hE.fr fw fun _ _ h=>h
  have:=Zxg (R:=Unit ⊕ List PanicEntry) (Q:=fun s w'=>match s with
   | .inl _=>False
   | .inr ch=>ch=giveUp∧deltaD was L=none∧Fr (fun k=>k=b) w3 w') hr3 hF3 hS3 hE3 hform.rise (by omega) hL hd' (K:=fun r _ w'=>∃ d L',deltaD was L=some (d,L')∧Fr (fun k=>k=b) w3 w'∧DltR (Up w3.heap.size) w' r d.1 d.2.1 d.2.2) (fun hn w' f=>⟨rfl,hn,f⟩)
   fun d L' hd r w' dr _ f=>⟨d,L',hd,f,dr⟩
  refine Calls.mono this ?_
  rintro e w' (⟨r,rfl,d,L',hdl,f,dr⟩ | ⟨ch,rfl,rfl,hn,f⟩)
  ·refine .inl ⟨r,rfl,?_⟩
   obtain ⟨q1,q2,q3,q4,q5⟩:=Zyl hL hdl
   have sz:=f.size
   have:=Zta (R:=Unit) (Q:=fun _ _=>False) (hS3.fr f hd') (hE3.fr f hd') hform hL dr (by omega) (fun e he=>(q2 e he).1) (by omega) q5 (by omega) (K:=fun r _ w''=>Fr None w' w''∧((r=((⟨none,0,0⟩:Sl),(4:Int))∧∀ now,¬ PatchOk was d.1 d.2.1 d.2.2 now)∨(r.2=0∧∃ now,PatchOk was d.1 d.2.1 d.2.2 now∧(∀ e∈now,EntFit e)∧now.length≤was.length+d.2.1.length∧∃ raws',SlT (Up w'.heap.size) w'' entT r.1 raws'∧EntsR (Up w'.heap.size) w'' raws' now)))
    (fun hn w'' g=>⟨g,.inl ⟨rfl,hn⟩⟩) fun now hp fit hlen r raws' w'' o e g=>⟨g,.inr ⟨rfl,now,hp,fit,hlen,raws',o.sl,e⟩⟩
   refine Calls.mono this ?_
   rintro e w'' ⟨rr,rfl,g,hcase⟩
   refine ⟨(Be.fr f hbC).fr g fun h=>h,rr.1,rr.2,rfl,fun w2 f2=>⟨rr,rfl,?_⟩⟩
   have fin2:=fin (f.then g.any) f2
   rcases hcase with ⟨rfl,hn⟩ | ⟨hr0,now,hp,fit,hlen,raws',hS',hE'⟩
   ·refine h0 (fun now hr=>?_) w2 fin2
    rcases hr with ⟨h,_⟩ | ⟨_,d2,L2,h2,h3⟩ | ⟨_,h,_⟩
    ·cases h
    ·rw [hdl] at h2; cases h2; exact hn now h3
    ·exact h rfl
   ·have e:rr=(rr.1,0):=Prod.ext rfl hr0
    rw [e]
    refine hk now (.inr (.inl ⟨rfl,d,L',hdl,hp⟩)) fit (by omega) rr.1 raws' w2 ((hS'.fr f2 fun k (e:w'.heap.size≤k) e2=>by omega).mono fun k _ (e:w'.heap.size≤k)=>by show w.heap.size≤k; omega) ((hE'.fr f2 fun k (e:w'.heap.size≤k) e2=>by omega).mono fun k _ (e:w'.heap.size≤k)=>by show w.heap.size≤k; omega) fin2
  ·refine .inr ⟨rfl,Be.fr f hbC,fun w2 f2=>⟨(⟨none,0,0⟩,4),rfl,h0 (fun now hr=>?_) w2 (fin f f2)⟩⟩
   rcases hr with ⟨h,_⟩ | ⟨_,d2,L2,h2,h3⟩ | ⟨_,h,_⟩
   ·cases h
   ·rw [hn] at h2; cases h2
   ·exact h rfl
 ·refine Z13b Bh Be k1 k2 fun w2 f2=>⟨(⟨none,0,0⟩,0),rfl,?_⟩
  exact hk [] (.inr (.inr ⟨k1,k2,rfl⟩)) (fun e he=>by cases he) (by simp) ⟨none,0,0⟩ [] w2 (SlT.nil _) (EntsR.nil _ _) (fin (Fr.refl _ _) f2)
theorem RestR.uniq {k:Int} {was:List Ent} {L:List Bool} {x y:List Ent} (hf:k=2→FormOk was) (hx:RestR k was L x) (hy:RestR k was L y):x=y:=by
 rcases hx with ⟨k1,L1,h1⟩ | ⟨k2,d,L1,h1,p1⟩ | ⟨k1,k2,rfl⟩
 ·rcases hy with ⟨_,L2,h2⟩ | ⟨k2,_⟩ | ⟨k2,_⟩
  ·rw [h1] at h2; cases h2; rfl
  ·omega
  ·exact absurd k1 k2
 ·rcases hy with ⟨k1,_⟩ | ⟨_,d2,L2,h2,p2⟩ | ⟨_,k1,_⟩
  ·omega
  ·rw [h1] at h2
   cases h2
   exact Z13z (hf k2) p1.form p2.form (p1.gone.trans p2.gone.symm) (p1.come.trans p2.come.symm) (p1.chg.trans p2.chg.symm)
  ·exact absurd k2 k1
 ·rcases hy with ⟨k3,_⟩ | ⟨k3,_⟩ | ⟨_,_,rfl⟩
  ·exact absurd k3 k1
  ·exact absurd k3 k2
  ·rfl
def frameErr (l:List Int):Int:=if l.length < 4 then 2 else if 4100 < l.length then 3 else if sealF (l.take (l.length - 4))≠l then 6 else 0
theorem Zpn {l:List Int} (h:frameErr l=0):4≤l.length∧l.length≤4100∧sealF (l.take (l.length - 4))=l:=by
 unfold frameErr at h
 split at h
 ·cases h
 ·split at h
  ·cases h
  ·split at h
   ·cases h
   ·exact ⟨by omega,by omega,Classical.byContradiction (by assumption)⟩
theorem Z10w {l:List Int} (h1:4≤l.length) (h2:l.length≤4100) (h3:sealF (l.take (l.length - 4))=l):frameErr l=0:=by
 unfold frameErr
 rw [if_neg (by omega),if_neg (by omega),if_neg (fun h=>h h3)]
theorem Zra {ok:Nat→Prop} {s:Sl} {l:List Int} (hS:SlT ok w u8T s l) (hb:BytesOk l) (hm:l.length≤140737488355000) {K:Res [.sc .sl,.sc (.int .i64)]→W R} (h0:frameErr l≠0→∀ w',Fr None w w'→K (⟨none,0,0⟩,frameErr l) Q w') (hk:frameErr l=0→∀ r w',Own (Up w.heap.size) w' 5 u8T r (l.take (l.length - 4))→Fr None w w'→K (r,0) Q w') :
  callW Tryz.prog Zdc [.slice s.a s.n s.c] [.sc .sl,.sc (.int .i64)] K Q w:=by
 refine Ztb hS hb hm (fun w' f=>⟨fun h=>?_,fun h=>?_,fun h1 h2 h3=>?_⟩) fun h1 h2 h3 r w' o f=>hk (Z10w h1 h2 h3) r w' o f
 ·have e:frameErr l=2:=by unfold frameErr; rw [if_pos h]
  have:=h0 (by rw [e]; decide) w' f
  rw [e] at this
  exact this
 ·have e:frameErr l=3:=by unfold frameErr; rw [if_neg (by omega),if_pos h]
  have:=h0 (by rw [e]; decide) w' f
  rw [e] at this
  exact this
 ·have e:frameErr l=6:=by unfold frameErr; rw [if_neg (by omega),if_neg (by omega),if_pos h3]
  have:=h0 (by rw [e]; decide) w' f
  rw [e] at this
  exact this
def OpenR (l:List Int) (was:List Ent) (hd:Head) (now:List Ent):Prop:=∃ L',headD (bitsU (l.take (l.length - 4)))=some (hd,L')∧(hd.1=2→FormOk was)∧RestR hd.1 was L' now∧sealE hd was now=0∧sealB hd was now=l
theorem OpenR.uniq {l:List Int} {was:List Ent} {hd hd':Head} {now now':List Ent} (h:OpenR l was hd now) (h':OpenR l was hd' now'):hd'=hd∧now'=now:=by
 obtain ⟨L1,a1,a2,a3,_⟩:=h
 obtain ⟨L2,b1,b2,b3,_⟩:=h'
 rw [a1] at b1
 cases b1
 exact ⟨rfl,b3.uniq a2 a3⟩
theorem Zrb {ok okw:Nat→Prop} {s sw:Sl} {l:List Int} {raws:List (Int × Sl)} {was:List Ent} (hS:SlT ok w u8T s l) (hb:BytesOk l) (hm:l.length≤140737488355000) (hW:SlT okw w entT sw raws) (hE:EntsR okw w raws was) (hL:∀ e∈was,EntFit e) (hwl:was.length≤200000) {K:Res [.agg headT,.sc .sl,.sc (.int .i64)]→W R} (h0:frameErr l≠0→∀ w',Fr None w w'→K ((0,0,0,0,0),⟨none,0,0⟩,frameErr l) Q w')
  (h1:frameErr l=0→(∀ hd now,¬ OpenR l was hd now)→∀ w',Fr None w w'→K ((0,0,0,0,0),⟨none,0,0⟩,4) Q w') (hk:frameErr l=0→∀ hd now,OpenR l was hd now→HeadOk hd→(∀ e∈now,EntFit e)→now.length≤1048576→∀ r raws' w',SlT (Up w.heap.size) w' entT r raws'→EntsR (Up w.heap.size) w' raws' now→Fr None w w'→K (hd,r,0) Q w') :
  callW Tryz.prog Zb8 [.slice s.a s.n s.c,.slice sw.a sw.n sw.c] [.agg headT,.sc .sl,.sc (.int .i64)] K Q w:=by
 refine Zvt s sw K Q w ?_
 unfold Zf6
 refine newI fun w1 B1 f1 z1=>Zra (hS.fr0 f1) hb hm (fun he w2 f2=>?_) fun he r w2 o2 f2=>?_
 ·refine condT (by simpa using he) (stoAll (B1.fr f2 fun h=>h) rfl rfl fun w3 B3 f3 z3=>aggI B3 (x:=((0,0,0,0,0):Head)) rfl ?_)
  exact h0 he w3 ((f1.then0 f2).newer f3 fun k e=>by omega)
 obtain ⟨l1,l2,l3⟩:=Zpn he
 refine condF rfl ?_
 have hbt:BytesOk (l.take (l.length - 4)):=fun x hx=>hb x (List.mem_of_mem_take hx)
 have f02:=f1.then0 f2
 have B1:=B1.fr f2 fun h=>h
 have z2:=f2.size
 have tl:(l.take (l.length - 4)).length≤4096:=by rw [List.length_take]; omega
 have bad:∀ {u:World},Fr None w u→Blk u w.heap.size 30 [.int .u8 0,.int .u8 0,.int .u32 0,.int .u32 0,.int .u32 0]→(∀ hd now,¬ OpenR l was hd now)→(stoL ⟨w.heap.size,0,none⟩ [.int .u8 0,.int .u8 0,.int .u32 0,.int .u32 0,.int .u32 0] 0 <|
   ld (.agg headT) ⟨w.heap.size,0,none⟩ fun (x:Head)=>(retW (x,(⟨none,0,0⟩:Sl),(4:Int)):W (Head × Sl × Int))) (fun r w=>K r Q w) u:=by
  intro u f B hn
  refine stoAll B rfl rfl fun w8 B8 f8 z8=>aggI B8 (x:=((0,0,0,0,0):Head)) rfl ?_
  exact h1 he hn w8 (f.newer f8 fun k e=>by omega)
 refine Zq7 o2.sl hbt (by omega) (fun hn p w3 f3=>?_) fun hd L' hh hok hE0 b w3 hr f3=>?_
 ·refine newI fun w4 B4 f4 z4=>newI fun w5 B5 f5 z5=>stoAll (B4.fr f5 fun h=>h) rfl rfl fun w6 B6 f6 z6=>stoAll (B5.fr f6 fun e=>by omega) rfl rfl fun w7 B7 f7 z7=>condT rfl ?_
  have g37:Fr None w3 w7:=((f4.then0 f5).newer f6 fun k e=>by omega).newer f7 fun k e=>by omega
  exact bad ((f02.then0 f3).then0 g37) ((B1.fr f3 fun h=>h).fr g37 fun h=>h) fun hd now ⟨L',h,_⟩=>by rw [hn] at h; cases h
 refine newI fun w4 B4 f4 z4=>newI fun w5 B5 f5 z5=>stoAll (B4.fr f5 fun h=>h) rfl rfl fun w6 B6 f6 z6=>stoAll (B5.fr f6 fun e=>by omega) rfl rfl fun w7 B7 f7 z7=>condF rfl ?_
 have g37:Fr None w3 w7:=((f4.then0 f5).newer f6 fun k e=>by omega).newer f7 fun k e=>by omega
 have z3:=f3.size
 have b2:w2.heap.size≤b:=hr.1
 have b3:b < w3.heap.size:=by obtain ⟨cs,B,_⟩:=hr.blk; exact B.lt
 have hr7:RD b L' (fun k=>w2.heap.size≤k∧k < w3.heap.size) w7:=RD.st hr g37 fun k hk (e:w2.heap.size≤k)=>⟨fun h=>h,e,hk⟩
 have B67:=B6.fr f7 (show ¬ w3.heap.size=w4.heap.size by omega)
 have f07:=(f02.then0 f3).then0 g37
 have B17:=(B1.fr f3 fun h=>h).fr g37 fun h=>h
 have hW':SlT (fun k=>k < w.heap.size) w7 entT sw raws:=(hW.mono fun k hk _=>hk).fr0 f07
 have hE':EntsR (fun k=>k < w.heap.size) w7 raws was:=(hE.mono fun k hk _=>hk).fr f07 fun _ _ h=>h
 refine joinI (fun z v=>z=decide (hd.1=2∧formM 0 was≠0)∧Fr None w7 v) ?_ ?_
 ·refine fldI B67 (i:=0) (x:=hd.1) rfl (condE (fun k2=>?_) fun k2=>⟨(decide_eq_false fun h=>k2 h.1).symm,Fr.refl _ _⟩)
  refine Z9w hW' hE' (by omega) (fun e he=>(hL e he).idOk) fun w8 f8=>⟨?_,f8⟩
  by_cases hfm:formM 0 was=0
  ·rw [hfm,decide_eq_false fun h=>h.2 rfl]; rfl
  ·rw [decide_eq_true ⟨k2,hfm⟩]
   simpa using hfm
 rintro _ w8 ⟨rfl,f8⟩
 have B18:=B17.fr f8 fun h=>h
 have f08:=f07.then0 f8
 refine condD (fun hbad=>?_) fun hgood=>?_
 ·refine bad f08 B18 fun hd' now ⟨L2,h2,h3,_⟩=>?_
  rw [hh] at h2
  cases h2
  exact hbad.2 (formOk.2 (h3 hbad.1))
 have hf2:hd.1=2→FormOk was:=fun k2=>Classical.byContradiction fun h=>hgood ⟨k2,fun h2=>h (formOk.1 h2)⟩
 have B68:=B67.fr f8 fun h=>h
 have z7s:=g37.size
 have z8:=f8.size
 have ltb:∀ k,k < w.heap.size→k≠b:=fun k e e2=>by omega
 refine aggI B68 (x:=hd) rfl (aggI (B7.fr f8 fun h=>h) (x:=some ⟨b,0,none⟩) rfl ?_)
 refine Zre (RD.st.fr0 hr7 f8) (fun k e=>by omega) (hW'.fr0 f8) (hE'.fr f8 fun _ _ h=>h) hL hwl ltb hf2 (fun hn w9 f9=>?_) fun now hR hfit hnl r9 raws9 w9 S9 E9 f9=>?_
 ·have f09:Fr None w w9:=f08.newer f9 fun k e=>by omega
  refine condT rfl (bad f09 (B18.fr f9 fun e=>by omega) fun hd' now ⟨L2,h2,_,h4,_⟩=>?_)
  rw [hh] at h2
  cases h2
  exact hn now h4
 have f09:Fr None w w9:=f08.newer f9 fun k e=>by omega
 have B19:=B18.fr f9 (show ¬ w.heap.size=b by omega)
 have B69:=B68.fr f9 (show ¬ w3.heap.size=b by omega)
 refine condF rfl (aggI B69 (x:=hd) rfl ?_)
 have W9:=(hW'.fr0 f8).fr f9 ltb
 have WE9:=(hE'.fr f8 fun _ _ h=>h).fr f9 ltb
 have no:sealE hd was now≠0∨sealB hd was now≠l→∀ hd' now',¬ OpenR l was hd' now':=by
  rintro hne hd' now' ⟨L2,c1,c2,c3,c4,c5⟩
  rw [hh] at c1
  cases c1
  have:=RestR.uniq c2 c3 hR
  subst this
  exact hne.elim (fun h=>h c4) fun h=>h c5
 refine Zg1 hok W9 WE9 S9 E9 (by omega) hnl hL hfit (fun hbad w10 f10=>?_) fun hse r10 w10 o10 f10=>?_
 ·refine joinI (fun z v=>z=true∧v=w10) (condT (by simpa using hbad) ⟨rfl,rfl⟩) ?_
  rintro z v ⟨rfl,rfl⟩
  exact condT rfl (bad (f09.then0 f10) (B19.fr f10 fun h=>h) (no (.inl hbad)))
 have hbs:BytesOk (sealB hd was now):=Zoh (Zwz _)
 refine joinI (fun z v=>z=!decide (sealB hd was now=l)∧v=w10) (condF rfl ?_) ?_
 ·exact Zfy o10.sl (hS.fr0 (f09.then0 f10)) hbs hb ⟨rfl,rfl⟩
 rintro z v ⟨rfl,rfl⟩
 refine condI (fun hz=>?_) fun hz=>?_
 ·have hz:sealB hd was now≠l:=by simpa using hz
  exact bad (f09.then0 f10) (B19.fr f10 fun h=>h) (no (.inr hz))
 ·have hz:sealB hd was now=l:=by simpa using hz
  refine aggI (B69.fr f10 fun h=>h) (x:=hd) rfl (stoAll (B19.fr f10 fun h=>h) rfl rfl fun w11 B11 f11 z11=>aggI B11 (x:=hd) rfl ?_)
  have f1011:Fr (fun k=>k=w.heap.size) w9 w11:=f10.any.then f11
  exact hk he hd now ⟨L',hh,hf2,hR,hse,hz⟩ hok hfit hnl r9 raws9 w11 ((S9.fr f1011 fun k (e:w8.heap.size≤k) e2=>by omega).mono fun k _ (e:w8.heap.size≤k)=>by show w.heap.size≤k; omega) ((E9.fr f1011 fun k (e:w8.heap.size≤k) e2=>by omega).mono fun k _ (e:w8.heap.size≤k)=>by show w.heap.size≤k; omega) (f09.newer f1011 fun k e=>by omega)
end Go.Proofs.YtchhhjlpnecjkaaGreat
namespace Go.Proofs.YtchhhjlpnecjkaaGreat
open Go Go.RowKit Go.Proofs.YtchhhjlpnecjkaaGreat.Den
theorem Z17s {s:WS} {n lo hi:Int} (hs:s.2=0) (h1:lo≤n) (h2:n≤hi) (h3:hi - lo≤18446744073709551615) (hl:s.1.length+(inB n lo hi).length≤1048576):inM s n lo hi=(s.1 ++ inB n lo hi,0):=by
 have hw:=Zxk h1 h2 h3
 have h64:=Z49 h3
 unfold inB at hl
 rw [Z4] at hl
 unfold inM doM putInM
 rw [if_neg (by omega),if_neg (by omega)]
 unfold putB keepM
 rw [if_neg (by omega),if_neg (by rw [Int.toNat_natCast,Nat.div_eq_of_lt hw]; simp),if_neg (by omega),if_pos hs]
 unfold inB
 rw [Int.toNat_natCast]
theorem Zdi {s:WS} {v:Nat} (hs:s.2=0) (hl:s.1.length+(varB v).length≤1048576):varM s v=(s.1 ++ varB v,0):=Z18w hs (by rw [Zdj] at hl; exact hl)
theorem Z131 {h:Head} (he:headE h=0):(1≤h.1∧h.1≤5)∧h.2.1≤15:=by
 unfold headE at he
 split at he
 ·cases he
 ·omega
theorem Z16l {s:WS} {h:Head} (hok:HeadOk h) (he:headE h=0) (hs:s.2=0) (hl:s.1.length+(headB h).length≤1048576):headM s h=(s.1 ++ headB h,0):=by
 obtain ⟨hk,hc⟩:=Z131 he
 obtain ⟨_,⟨c0,_⟩,_,⟨t0,t1⟩,_⟩:=hok
 unfold headB at hl ⊢
 simp only [List.length_append] at hl
 unfold headM
 rw [Z17s hs hk.1 hk.2 (by omega) (by omega)]
 rw [Z17s rfl c0 hc (by omega) (by simp only [List.length_append]; omega)]
 rw [Zdi rfl (by simp only [List.length_append]; omega)]
 dsimp only
 by_cases k3:h.1≤3
 ·rw [if_pos k3] at hl ⊢
  rw [if_pos k3]
  rw [Z4] at hl
  rw [Zhi rfl (by omega) (by show h.2.2.2.1.toNat < 4294967296; omega) (by simp only [List.length_append]; omega)]
  by_cases k2:h.1=2
  ·rw [if_pos k2] at hl ⊢
   rw [if_pos k2,Zdi rfl (by simp only [List.length_append]; rw [Z4]; show _+32+_≤_; omega)]
   simp only [List.append_assoc]
   rfl
  ·rw [if_neg k2,if_neg k2]
   simp only [List.append_assoc,List.append_nil]
   rfl
 ·have k2:¬ h.1=2:=by omega
  rw [if_neg k3,if_neg k3,if_neg k2,if_neg k2]
  simp only [List.append_assoc,List.append_nil]
theorem Z128 {s:WS} {l:List Part} (hs:s.2=0) (hl:s.1.length+(partsB l).length≤1048576):doM s (putP s.1 l)=(s.1 ++ partsB l,0):=by
 unfold doM putP keepM
 rw [if_neg (by omega),if_pos hs]
theorem Zwn {α:Type} {f:WS→α→WS} {enc:α→List Bool} {P:α→Prop} (hf:∀ s a,P a→s.2=0→s.1.length+(enc a).length≤1048576→f s a=(s.1 ++ enc a,0)):∀ (l:List α) (s:WS),(∀ a∈l,P a)→s.2=0→s.1.length+(l.flatMap enc).length≤1048576→l.foldl f s=(s.1 ++ l.flatMap enc,0)
 | [],s,_,hs,_=>by rw [List.flatMap_nil,List.append_nil]; exact Prod.ext rfl hs
 | a :: r,s,hp,hs,hl=>by
  rw [List.flatMap_cons,List.length_append] at hl
  rw [List.foldl_cons,hf s a (hp a List.mem_cons_self) hs (by omega),Zwn hf r _ (fun x hx=>hp x (List.mem_cons_of_mem _ hx)) rfl (by simp only [List.length_append]; omega),List.flatMap_cons,List.append_assoc]
theorem Zb3 {α:Type} {f:WS × Int→α→WS × Int} {enc:Int→α→List Bool} {id:α→Int} {P:α→Prop} (hf:∀ p a,P a→p.1.2=0→p.1.1.length+(enc p.2 a).length≤1048576→f p a=((p.1.1 ++ enc p.2 a,0),id a)) :
  ∀ (l:List α) (p:WS × Int),(∀ a∈l,P a)→p.1.2=0→p.1.1.length+(encs enc id p.2 l).length≤1048576→(l.foldl f p).1=(p.1.1 ++ encs enc id p.2 l,0)
 | [],p,_,hs,_=>by rw [encs,List.append_nil]; exact Prod.ext rfl hs
 | a :: r,p,hp,hs,hl=>by
  rw [encs,List.length_append] at hl
  rw [List.foldl_cons,hf p a (hp a List.mem_cons_self) hs (by omega),Zb3 hf r _ (fun x hx=>hp x (List.mem_cons_of_mem _ hx)) rfl (by simp only [List.length_append]; omega),encs,List.append_assoc]
theorem Zyk {s:WS} {l:List Comp} (hc:∀ c∈l,checkM c=0) (hs:s.2=0) (hl:s.1.length+(compsB l).length≤1048576):compsM s l=(s.1 ++ compsB l,0) :=
 Zwn (enc:=compB) (P:=fun c=>checkM c=0) (fun s a ha hs hl=>by unfold putC; rw [if_neg (by rw [ha]; simp)]; exact Z128 hs hl) l s hc hs hl
theorem Z17a {was:List Ent} {id:Int} {s:WS} {l:List Comp} (hc:∀ c∈l,pairM (oldM was id c.1) c=0) (hs:s.2=0) (hl:s.1.length+(setsB was id l).length≤1048576):setsM was id s l=(s.1 ++ setsB was id l,0):=by
 have hf:∀ (s:WS) (a:Comp),pairM (oldM was id a.1) a=0→s.2=0→s.1.length+(stepB2 (oldM was id a.1) a).length≤1048576→doM s (putS s.1 (oldM was id a.1) a)=(s.1 ++ stepB2 (oldM was id a.1) a,0):=by
  intro s a ha hs hl
  have e:putS s.1 (oldM was id a.1) a=putP s.1 (stepP (oldM was id a.1) a):=if_neg (by rw [ha]; simp)
  rw [e]
  exact Z128 hs hl
 generalize hg:(fun (s:WS) (a:Comp)=>doM s (putS s.1 (oldM was id a.1) a))=g at *
 generalize he:(fun c:Comp=>stepB2 (oldM was id c.1) c)=enc at *
 have h1:setsM was id s l=l.foldl g s:=by rw [← hg]; rfl
 have h2:setsB was id l=l.flatMap enc:=by rw [← he]; rfl
 rw [h1,h2]
 rw [h2] at hl
 exact Zwn (f:=g) (enc:=enc) (P:=fun c=>pairM (oldM was id c.1) c=0) (fun s a ha hs hl=>by rw [← hg,← he]; rw [← he] at hl; exact hf s a ha hs hl) l s hc hs hl
theorem Z11n {s:WS} {l:List Ent} (hc:∀ e∈l,maskN e.2 < 32∧∀ c∈e.2,checkM c=0) (hs:s.2=0) (hl:s.1.length+(entsB l).length≤1048576):entsW s l=(s.1 ++ entsB l,0):=by
 unfold entsB at hl ⊢
 rw [List.length_append] at hl
 unfold entsW
 rw [Zdi hs (by omega),Zb3 (enc:=entB) (id:=fun e:Ent=>e.1) (P:=fun e=>maskN e.2 < 32∧∀ c∈e.2,checkM c=0) ?_ l _ hc rfl (by simp only [List.length_append]; omega)]
 ·dsimp only; rw [List.append_assoc]
 ·intro p a ha hs hl
  unfold entB idBits at hl ⊢
  simp only [List.length_append,Z4] at hl
  unfold entM
  rw [Zdi hs (by omega),Zhi rfl (by omega) (by rw [Int.toNat_natCast]; exact ha.1) (by simp only [List.length_append]; omega)]
  have t5:Int.toNat 5=5:=rfl
  rw [Zyk ha.2 rfl (by simp only [List.length_append,Z4,t5]; omega)]
  simp only [List.append_assoc,Int.toNat_natCast,t5]
theorem Z16j {s:WS} {l:List Int} (hs:s.2=0) (hl:s.1.length+(goneB l).length≤1048576):goneW s l=(s.1 ++ goneB l,0):=by
 unfold goneB at hl ⊢
 rw [List.length_append] at hl
 unfold goneW
 rw [Zdi hs (by omega),Zb3 (enc:=idBits) (id:=fun e:Int=>e) (P:=fun _=>True) ?_ l _ (fun _ _=>trivial) rfl (by simp only [List.length_append]; omega)]
 ·dsimp only; rw [List.append_assoc]
 ·intro p a _ hs hl
  unfold idBits at hl ⊢
  unfold idM
  rw [Zdi hs hl]
theorem Z164 {was:List Ent} {s:WS} {l:List Chg} (hc:∀ d∈l,ChgTold was d) (hs:s.2=0) (hl:s.1.length+(chgsB was l).length≤1048576):chgsW was s l=(s.1 ++ chgsB was l,0):=by
 unfold chgsB at hl ⊢
 rw [List.length_append] at hl
 unfold chgsW
 rw [Zdi hs (by omega),Zb3 (enc:=chgB was) (id:=fun d:Chg=>d.1) (P:=ChgTold was) ?_ l _ hc rfl (by simp only [List.length_append]; omega)]
 ·dsimp only; rw [List.append_assoc]
 ·intro p a ha hs hl
  obtain ⟨_,⟨a1,a2⟩,a3,a4,a5,a6,i,e,_,_,a7⟩:=ha
  unfold chgB idBits at hl ⊢
  simp only [List.length_append,Z4] at hl
  have t5:Int.toNat 5=5:=rfl
  unfold chgM1
  rw [Zdi hs (by omega),Zhi (v:=a.2.1) rfl (by omega) (by show a.2.1.toNat < 32; omega) (by simp only [List.length_append]; omega)]
  rw [Zhi (v:=(maskN a.2.2.1:Int)) rfl (by omega) (by rw [Int.toNat_natCast]; exact a4) (by simp only [List.length_append,Z4,t5]; omega),Zhi (v:=(maskN a.2.2.2:Int)) rfl (by omega) (by rw [Int.toNat_natCast]; exact a5) (by simp only [List.length_append,Z4,t5]; omega)]
  rw [Zyk (fun c hc=>(a3 c hc).1) rfl (by simp only [List.length_append,Z4,t5]; omega)]
  rw [Z17a (fun c hc=>by obtain ⟨_,q,y,_,_,_,h1,h2⟩:=a7 c hc; rw [h2]; exact h1) rfl (by simp only [List.length_append,Z4,t5]; omega)]
  simp only [List.append_assoc,Int.toNat_natCast,t5]
theorem Z13a {h:Head} {was now:List Ent} (hok:HeadOk h) (h1:h.1=1→formM 0 now=0→now.length≤720) (h2:h.1=2→diffE was now=0→was.length≤720∧now.length≤720) (hf:formE h was now=0) (hs1:h.1=1→FormOk now) (hs2:h.1=2→FormOk was∧FormOk now) (hT:∀ d∈chgsM was now,h.1=2→ChgTold was d):(refBits h was now).length≤999000:=by
 have hb:=Zwp hok
 unfold refBits
 rw [List.length_append]
 unfold formE at hf
 by_cases k1:h.1=1
 ·rw [if_pos k1] at hf ⊢
  have:=h1 k1 hf
  have:=Zrn (l:=now) (by omega) fun e he=>(hs1 k1).six he
  omega
 ·rw [if_neg k1] at hf ⊢
  by_cases k2:h.1=2
  ·rw [if_pos k2] at hf ⊢
   obtain ⟨n1,n2⟩:=h2 k2 hf
   obtain ⟨_,fn⟩:=hs2 k2
   have gl:(goneM was now).length≤was.length:=by unfold goneM; rw [List.length_map]; exact List.length_filter_le _ _
   have cc:=Zsm was now
   have g:=Z11q (l:=goneM was now) (by omega)
   have c:=Zrn (l:=comeM was now) (by omega) fun e he=>fn.six (List.mem_filter.1 he).1
   have d:=Z11j was (l:=chgsM was now) (by omega) fun d hd=>(hT d hd k2).six
   unfold deltaB
   simp only [List.length_append]
   omega
  ·rw [if_neg k2]
   simp
   omega
theorem Z176 {h:Head} {was now:List Ent} (hok:HeadOk h) (hL1:∀ e∈was,EntFit e) (hL2:∀ e∈now,EntFit e) (h1:h.1=1→formM 0 now=0→now.length≤720) (h2:h.1=2→diffE was now=0→was.length≤720∧now.length≤720) :
  sealE h was now=refE h was now∧(sealE h was now=0→sealB h was now=refB h was now):=by
 by_cases he:headE h=0
 rotate_left
 ·have e1:sealE h was now=headE h:=by unfold sealE; rw [if_pos he]
  have e2:refE h was now=headE h:=by unfold refE; rw [if_pos he]
  exact ⟨by rw [e1,e2],fun h=>absurd (e1.symm.trans h) he⟩
 have hb:=Zwp hok
 have hd:headM ([],0) h=(headB h,0):=by rw [Z16l hok he rfl (by simp; omega)]; rfl
 by_cases hf:formE h was now=0
 rotate_left
 ·have e2:refE h was now=formE h was now:=by unfold refE; rw [if_neg (by rw [he]; simp),if_pos hf]
  have ew:(sealW h was now).2=formE h was now:=by
   unfold sealW
   rw [hd]
   unfold formE at hf ⊢
   dsimp only
   by_cases k1:h.1=1
   ·rw [if_pos k1] at hf ⊢
    rw [if_pos k1]
    have:keepM 0 (formM 0 now)=formM 0 now:=rfl
    rw [this,if_neg hf]
   ·rw [if_neg k1] at hf ⊢
    rw [if_neg k1]
    by_cases k2:h.1=2
    ·rw [if_pos k2] at hf ⊢
     rw [if_pos k2,if_neg hf]
     rfl
    ·rw [if_neg k2] at hf ⊢
     rw [if_neg k2]
     split
     ·rfl
     ·rename_i hn
      exact absurd (if_neg hn) hf
  have e1:sealE h was now=formE h was now:=by unfold sealE; rw [if_neg (by rw [he]; simp),if_pos (by rw [ew]; exact hf),ew]
  exact ⟨by rw [e1,e2],fun h=>absurd (e1.symm.trans h) hf⟩
 have hs1:h.1=1→FormOk now:=fun k=>formOk.1 (by unfold formE at hf; rw [if_pos k] at hf; exact hf)
 have hs2:h.1=2→FormOk was∧FormOk now:=fun k=>by
  have:diffE was now=0:=by unfold formE at hf; rw [if_neg (by omega),if_pos k] at hf; exact hf
  refine ⟨formOk.1 ?_,Zpl this⟩
  unfold diffE at this
  split at this
  ·exact absurd this (by assumption)
  ·rename_i hn
   exact Classical.byContradiction hn
 have hT:∀ d∈chgsM was now,h.1=2→ChgTold was d:=fun d hd k=>Zyg (hs2 k).1 (hs2 k).2 hL1 hL2 d hd
 have hle:=Z13a hok h1 h2 hf hs1 hs2 hT
 have hW:sealW h was now=(refBits h was now,0):=by
  unfold refBits at hle ⊢
  rw [List.length_append] at hle
  unfold sealW
  rw [hd]
  unfold formE at hf
  dsimp only
  by_cases k1:h.1=1
  ·rw [if_pos k1] at hf hle ⊢
   rw [if_pos k1,hf]
   have:keepM 0 0=0:=rfl
   rw [this,if_pos rfl]
   exact Z11n (fun e he=>⟨(hs1 k1).mask he fun _ hc=>hc,(Z28.1 ((hs1 k1).list he)).1⟩) rfl (by dsimp only; omega)
  ·rw [if_neg k1] at hf hle ⊢
   rw [if_neg k1]
   by_cases k2:h.1=2
   ·rw [if_pos k2] at hf hle ⊢
    rw [if_pos k2,if_pos hf,hf]
    have:keepM 0 0=0:=rfl
    rw [this]
    unfold deltaB at hle ⊢
    simp only [List.length_append] at hle
    unfold deltaW
    obtain ⟨_,fn⟩:=hs2 k2
    rw [Z16j rfl (by dsimp only; omega)]
    rw [Z11n (fun e he=>by have hm:=(List.mem_filter.1 he).1; exact ⟨fn.mask hm fun _ hc=>hc,(Z28.1 (fn.list hm)).1⟩) rfl (by simp only [List.length_append]; omega)]
    rw [Z164 (fun d hd=>hT d hd k2) rfl (by simp only [List.length_append]; omega)]
    simp only [List.append_assoc]
   ·rw [if_neg k2] at hf hle ⊢
    rw [if_neg k2,if_neg (by intro hn; rw [if_pos hn] at hf; cases hf),List.append_nil]
 refine ⟨?_,fun _=>by unfold sealB refB; rw [hW]⟩
 have e1:sealE h was now=if 4096 < (packM (refBits h was now)).length then 3 else 0:=by unfold sealE; rw [if_neg (by rw [he]; simp),hW,if_neg (by simp)]
 have e2:refE h was now=if 4096 < (packM (refBits h was now)).length then 3 else 0:=by unfold refE; rw [if_neg (by rw [he]; simp),if_neg (by rw [hf]; simp)]
 rw [e1,e2]
end Go.Proofs.YtchhhjlpnecjkaaGreat
namespace Go.Proofs.YtchhhjlpnecjkaaGreat
open Go Go.RowKit Go.Proofs.YtchhhjlpnecjkaaGreat.Den
variable {R:Type} {Q:R→World→Prop} {w:World}
theorem Z129 {β:Type} {f:Int→List Bool→Option (β × List Bool)} {id:β→Int}:∀ (n:Nat) (last:Int) {L:List Bool} {l:List β} {r:List Bool},repD f id n last L=some (l,r)→∀ x∈l,∃ last' L' r',f last' L'=some (x,r')
 | 0,_,L,l,r,h,x,hx=>by
  rw [repD] at h
  cases h
  cases hx
 | n+1,last,L,l,r,h,x,hx=>by
  rw [repD] at h
  cases h1:f last L with
  | none=>rw [h1] at h; cases h
  | some p =>
   obtain ⟨b,L2⟩:=p
   rw [h1] at h
   dsimp only at h
   cases h2:repD f id n (id b) L2 with
   | none=>rw [h2] at h; cases h
   | some p =>
    obtain ⟨bs,L3⟩:=p
    rw [h2] at h
    cases h
    rcases List.mem_cons.1 hx with e | e
    ·exact ⟨last,L,L2,by rw [h1,e]⟩
    ·exact Z129 n _ h2 x e
theorem Z10r {was:List Ent} {last:Int} {L:List Bool} {d:Chg} {r:List Bool} (h:chgD was last L=some (d,r)):d.2.2.2.length≤9:=by
 unfold chgD at h
 cases h1:idDec last L with
 | none=>rw [h1] at h; cases h
 | some p =>
  obtain ⟨id,L1⟩:=p
  rw [h1] at h
  dsimp only at h
  cases h2:getN 5 L1 with
  | none=>rw [h2] at h; cases h
  | some p =>
   obtain ⟨lost,L2⟩:=p
   rw [h2] at h
   dsimp only at h
   cases h3:getN 5 L2 with
   | none=>rw [h3] at h; cases h
   | some p =>
    obtain ⟨fr,L3⟩:=p
    rw [h3] at h
    dsimp only at h
    cases h4:getN 5 L3 with
    | none=>rw [h4] at h; cases h
    | some p =>
     obtain ⟨st,L4⟩:=p
     rw [h4] at h
     dsimp only at h
     cases h5:compsD (kindsOf fr) L4 with
     | none=>rw [h5] at h; cases h
     | some p =>
      obtain ⟨ns,L5⟩:=p
      rw [h5] at h
      dsimp only at h
      cases h6:setsD was id (kindsOf st) L5 with
      | none=>rw [h6] at h; cases h
      | some p =>
       obtain ⟨ss,L6⟩:=p
       rw [h6] at h
       cases h
       obtain ⟨_,c2,_⟩:=Zhp _ _ _ h6
       have hl:ss.length=(kindsOf st).length:=by rw [← c2,List.length_map]
       have:=Zst (Zfh h4)
       show ss.length≤9
       omega
theorem Zyf {was:List Ent} {L:List Bool} {ds:List Chg} {r:List Bool} (h:chgsD was L=some (ds,r)):∀ d∈ds,d.2.2.2.length≤9:=fun d hd=>by
 unfold chgsD at h
 cases h1:getVar L with
 | none=>rw [h1] at h; cases h
 | some p =>
  rw [h1] at h
  obtain ⟨_,_,_,h2⟩:=Z129 _ _ h d hd
  exact Z10r h2
theorem Z156 {ok:Nat→Prop} {s:Sl} {l:List Int} (hS:SlT ok w u8T s l) (hb:BytesOk l) (hm:l.length≤140737488355000) {K:Res [.sc .sl,.sc (.int .i64)]→W R} (h0:frameErr l≠0→∀ w',Fr None w w'→K (⟨none,0,0⟩,frameErr l) Q w')
  (hk:frameErr l=0→∀ r w',Own (Up w.heap.size) w' 5 u8T r (l.take (l.length - 4))→Fr None w w'→K (r,0) Q w') :
  callW Tryz.prog Z1z [.slice s.a s.n s.c] [.sc .sl,.sc (.int .i64)] K Q w:=by
 refine Zr2 hS hb hm (fun w' f=>⟨fun h=>?_,fun h=>?_,fun h1 h2 h3=>?_⟩) fun h1 h2 h3 r w' o f=>hk ?_ r w' o f
 ·have e:frameErr l=2:=by unfold frameErr; rw [if_pos h]
  have:=h0 (by rw [e]; decide) w' f
  rwa [e] at this
 ·have e:frameErr l=3:=by unfold frameErr; rw [if_neg (by omega),if_pos h]
  have:=h0 (by rw [e]; decide) w' f
  rwa [e] at this
 ·have e:frameErr l=6:=by unfold frameErr; rw [if_neg (by omega),if_neg (by omega),if_pos h3]
  have:=h0 (by rw [e]; decide) w' f
  rwa [e] at this
 ·unfold frameErr; rw [if_neg (by omega),if_neg (by omega),if_neg (fun h=>h h3)]
theorem Z15g {ok:Nat→Prop} {s:Sl} {l:List Int} (hS:SlT ok w u8T s l) (hb:BytesOk l) (hm:l.length≤131072) {K:Addr→W R} (hk:∀ b w',w.heap.size≤b→Src w' b (bitsU l) false→Fr None w w'→K ⟨b,0,none⟩ Q w') :
  (callW Tryz.prog Z1y [.slice s.a s.n s.c] [.sc .sl] fun (x_4:Sl)=>newW 73 [.slice x_4.a x_4.n x_4.c,.bool false] K:W R) Q w:=by
 refine Zr1 hS hb (by omega) fun r w1 o1 f1=>newI fun w2 B f2 z2=>?_
 have z1:=f1.size
 refine hk _ w2 (by omega) ⟨⟨r,B,(o1.sl.mono fun k hk _=>hk).fr0 f2⟩,?_⟩ (f1.then0 f2)
 have:=Z8h l
 omega
theorem Zxd {ok:Nat→Prop} {s:Sl} {l:List Int} (hS:SlT ok w u8T s l) (hb:BytesOk l) (hm:l.length≤140737488355000) {K:Res [.agg headT,.sc (.int .i64)]→W R} (h0:frameErr l≠0→∀ w',Fr None w w'→K ((0,0,0,0,0),frameErr l) Q w')
  (h1:frameErr l=0→headD (bitsU (l.take (l.length - 4)))=none→∀ w',Fr None w w'→K ((0,0,0,0,0),4) Q w') (hk:frameErr l=0→∀ hd L',headD (bitsU (l.take (l.length - 4)))=some (hd,L')→HeadOk hd→∀ w',Fr None w w'→K (hd,0) Q w') :
  callW Tryz.prog Z7r [.slice s.a s.n s.c] [.agg headT,.sc (.int .i64)] K Q w:=by
 refine Zkr s K Q w ?_
 unfold Z7g
 refine newI fun w1 X f1 z1=>Z156 (hS.fr0 f1) hb hm (fun he w2 f2=>?_) fun he r w2 o2 f2=>?_
 ·refine condT (by simpa using he) (stoAll (X.fr f2 fun h=>h) rfl rfl fun w3 X3 f3 z3=>aggI X3 (x:=((0,0,0,0,0):Head)) rfl ?_)
  exact h0 he w3 ((f1.then0 f2).newer f3 fun k e=>by omega)
 obtain ⟨l1,l2,l3⟩:=Zpn he
 have tl:(l.take (l.length - 4)).length≤4096:=by rw [List.length_take]; omega
 refine condF rfl (Z15g o2.sl (fun x hx=>hb x (List.mem_of_mem_take hx)) (by omega) fun b w3 hb3 hs3 f3=>?_)
 have f12:=f2.then0 f3
 have f03:=f1.then0 f12
 have s12:=f2.size
 have X3:=X.fr f12 fun h=>h
 refine Zoq hs3 fun hd L' bad w4 hok hs4 f4 d=>?_
 have X4:=X3.fr f4 fun e=>by omega
 have f04:Fr None w w4:=f03.newer f4 fun k e=>by omega
 have s4:=f4.size
 have s3:=f3.size
 refine newI fun w5 H1 f5 z5=>stoAll H1 rfl rfl fun w6 H f6 z6=>?_
 have f46:Fr None w4 w6:=f5.newer f6 fun k e=>by omega
 have X6:=X4.fr f46 fun h=>h
 refine Zah (hs4.fr0 f46) (condI (fun hbad=>?_) fun hbad=>?_)
 ·refine stoAll X6 rfl rfl fun w7 X7 f7 z7=>aggI X7 (x:=((0,0,0,0,0):Head)) rfl ?_
  refine h1 he ?_ w7 ((f04.then0 f46).newer f7 fun k e=>by omega)
  rcases d.2 hbad with q | q
  ·cases q
  ·exact q
 ·refine aggI H (x:=hd) rfl (stoAll X6 rfl rfl fun w7 X7 f7 z7=>aggI X7 (x:=hd) rfl ?_)
  exact hk he hd L' (d.1 hbad).2 hok w7 ((f04.then0 f46).newer f7 fun k e=>by omega)
end Go.Proofs.YtchhhjlpnecjkaaGreat
namespace Go.Proofs.YtchhhjlpnecjkaaGreat
open Go Go.RowKit Go.Proofs.YtchhhjlpnecjkaaGreat.Den
variable {R:Type} {Q:R→World→Prop} {w:World}
theorem hT_le {k:Int} {L r:List Bool} {t:Nat} (h:hT k L=some (t,r)):r.length≤L.length:=by
 unfold hT at h
 split at h
 ·exact Zfg h
 ·cases h; exact Nat.le_refl _
theorem hB_le {k:Int} {t:Nat} {L r:List Bool} {x:Int} (h:hB k t L=some (x,r)):r.length≤L.length:=by
 unfold hB at h
 split at h
 ·cases hg:getVar L with
  | none=>rw [hg] at h; cases h
  | some p =>
   obtain ⟨v,L1⟩:=p
   rw [hg] at h
   dsimp only at h
   have:=Zdk 16 0 0 hg
   split at h
   ·cases h
   ·cases h; omega
 ·cases h; exact Nat.le_refl _
theorem Z14e {L r:List Bool} {hd:Head} (h:headD L=some (hd,r)):r.length≤L.length:=by
 rw [Z11s] at h
 cases h1:getIn 1 5 L with
 | none=>rw [h1] at h; cases h
 | some p =>
 obtain ⟨k,L1⟩:=p
 rw [h1] at h
 dsimp only at h
 have l1:=Zrr h1
 unfold hR0 at h
 cases h2:getN 4 L1 with
 | none=>rw [h2] at h; cases h
 | some p =>
 obtain ⟨c,L2⟩:=p
 rw [h2] at h
 dsimp only at h
 have l2:=Zfg h2
 unfold hR1 at h
 cases h3:getVar L2 with
 | none=>rw [h3] at h; cases h
 | some p =>
 obtain ⟨e,L3⟩:=p
 rw [h3] at h
 dsimp only at h
 have l3:=Zdk 16 0 0 h3
 unfold hR2 at h
 cases h4:hT k L3 with
 | none=>rw [h4] at h; cases h
 | some p =>
 obtain ⟨t,L4⟩:=p
 rw [h4] at h
 dsimp only at h
 have l4:=hT_le h4
 unfold hR3 at h
 cases h5:hB k t L4 with
 | none=>rw [h5] at h; cases h
 | some p =>
 obtain ⟨x,L5⟩:=p
 rw [h5] at h
 dsimp only at h
 have l5:=hB_le h5
 split at h
 ·cases h; omega
 ·cases h
theorem Zxc {ok okw:Nat→Prop} {s sw:Sl} {l:List Int} {raws:List (Int × Sl)} {was:List Ent} (hS:SlT ok w u8T s l) (hb:BytesOk l) (hm:l.length≤404) (hW:SlT okw w entT sw raws) (hE:EntsR okw w raws was) (hL:∀ e∈was,EntFit e) (hwl:was.length≤400) {K:Res [.agg headT,.sc .sl,.sc (.int .i64)]→W R} (h0:frameErr l≠0→∀ w',Fr None w w'→K ((0,0,0,0,0),⟨none,0,0⟩,frameErr l) Q w')
  (h1:frameErr l=0→(∀ hd now,¬ OpenR l was hd now)→∀ w',Fr None w w'→K ((0,0,0,0,0),⟨none,0,0⟩,4) Q w') (hk:frameErr l=0→∀ hd now,OpenR l was hd now→HeadOk hd→(∀ e∈now,EntFit e)→now.length≤720→∀ r raws' w',SlT (Up w.heap.size) w' entT r raws'→EntsR (Up w.heap.size) w' raws' now→Fr None w w'→K (hd,r,0) Q w') :
  callW Tryz.prog Z43 [.slice s.a s.n s.c,.slice sw.a sw.n sw.c] [.agg headT,.sc .sl,.sc (.int .i64)] K Q w:=by
 refine Zkq s sw K Q w ?_
 unfold Z7f
 have hWo:SlT (fun k=>k < w.heap.size) w entT sw raws:=hW.mono fun k hk _=>hk
 have hEo:EntsR (fun k=>k < w.heap.size) w raws was:=hE.mono fun k hk _=>hk
 refine newI fun w1 X f1 z1=>?_
 have bad:∀ {u:World} {e:Int},Fr None w u→Blk u w.heap.size 30 [.int .u8 0,.int .u8 0,.int .u32 0,.int .u32 0,.int .u32 0]→(∀ w',Fr None w w'→K ((0,0,0,0,0),⟨none,0,0⟩,e) Q w')→(stoL ⟨w.heap.size,0,none⟩ [.int .u8 0,.int .u8 0,.int .u32 0,.int .u32 0,.int .u32 0] 0 <|
   ld (.agg headT) ⟨w.heap.size,0,none⟩ fun (x:Head)=>(retW (x,(⟨none,0,0⟩:Sl),e):W (Head × Sl × Int))) (fun r w=>K r Q w) u:=by
  intro u e f B hh
  refine stoAll B rfl rfl fun w8 B8 f8 z8=>aggI B8 (x:=((0,0,0,0,0):Head)) rfl ?_
  exact hh w8 (f.newer f8 fun k e=>by omega)
 refine Zxd (hS.fr0 f1) hb (by omega) (fun he w2 f2=>?_) (fun he hn w2 f2=>?_) fun he hd L' hh hok w2 f2=>?_
 ·refine newI fun w3 H1 f3 z3=>stoAll H1 rfl rfl fun w4 H f4 z4=>condT (by simpa using he) ?_
  have g:Fr None w1 w4:=(f2.then0 f3).newer f4 fun k e=>by have:=f2.size; omega
  exact bad (f1.then0 g) (X.fr g fun h=>h) (h0 he)
 ·refine newI fun w3 H1 f3 z3=>stoAll H1 rfl rfl fun w4 H f4 z4=>condT rfl ?_
  have g:Fr None w1 w4:=(f2.then0 f3).newer f4 fun k e=>by have:=f2.size; omega
  exact bad (f1.then0 g) (X.fr g fun h=>h) (h1 he fun hd now ⟨L',h,_⟩=>by rw [hn] at h; cases h)
 have none4:(∀ now,¬ ((hd.1=2→FormOk was)∧RestR hd.1 was L' now))→∀ hd now,¬ OpenR l was hd now:=fun hno hd' now' ⟨L2,c1,c2,c3,_⟩=>by
  rw [hh] at c1
  cases c1
  exact hno now' ⟨c2,c3⟩
 refine newI fun w3 H1 f3 z3=>stoAll H1 rfl rfl fun w4 H f4 z4=>condF rfl ?_
 have s2:=f2.size
 have g14:Fr None w1 w4:=(f2.then0 f3).newer f4 fun k e=>by omega
 have f04:=f1.then0 g14
 have X4:=X.fr g14 fun h=>h
 refine Z156 (hS.fr0 f04) hb (by omega) (fun hn w5 f5=>absurd he hn) fun _ r5 w5 o5 f5=>?_
 obtain ⟨l1,l2,l3⟩:=Zpn he
 have tl:(l.take (l.length - 4)).length≤400:=by rw [List.length_take]; omega
 refine Z15g o5.sl (fun x hx=>hb x (List.mem_of_mem_take hx)) (by omega) fun b w6 hb6 hs6 f6=>?_
 have hb4:w4.heap.size≤b:=by have:=f5.size; omega
 have f46:=f5.then0 f6
 have f06:=f04.then0 f46
 have hbl:=hs6.lt
 refine Zoq hs6 fun hd2 L2 bad2 w7 hok2 hs7 f7 d=>?_
 have hb2:bad2=false:=by
  cases hq:bad2 with
  | false=>rfl
  | true =>
   rcases d.2 hq with q | q
   ·cases q
   ·rw [hh] at q; cases q
 subst hb2
 have hq:=(d.1 rfl).2
 rw [hh] at hq
 cases hq
 have hbits:L'.length≤3200:=by
  have e:=Z8h (l.take (l.length - 4))
  have:=Z14e hh
  omega
 have f07:Fr None w w7:=f06.newer f7 fun k e=>by have:=f04.size; omega
 have X7:=(X4.fr f46 fun h=>h).fr f7 fun e=>by omega
 have H7:=(H.fr f46 fun h=>h).fr f7 fun e=>by omega
 have s06:=f06.size
 have s7:=f7.size
 have hSw:SlT (fun k=>k < b) w7 entT sw raws:=(hWo.mono fun k _ e=>by omega).fr0 f07
 have hEw:EntsR (fun k=>k < b) w7 raws was:=(hEo.mono fun k _ e=>by omega).fr f07 fun _ _ h=>h
 refine fldI H7 (i:=0) (x:=hd.1) rfl ?_
 refine joinI (fun z u=>Fr None w u∧Blk u w.heap.size 30 [.int .u8 0,.int .u8 0,.int .u32 0,.int .u32 0,.int .u32 0]∧Blk u w2.heap.size 30 (headC hd)∧∃ (L5:List Bool) (bad':Bool),Src u b L5 bad'∧(bad'=true→∀ now,¬ ((hd.1=2→FormOk was)∧RestR hd.1 was L' now)) ∧
   (bad'=false→∃ now raws',(hd.1=2→FormOk was)∧RestR hd.1 was L' now∧(∀ e∈now,EntFit e)∧now.length≤720∧SlT (Up w2.heap.size) u entT z raws'∧EntsR (Up w2.heap.size) u raws' now)) ?_ ?_
 ·refine condE (fun k1=>?_) fun k1=>?_
  ·refine Zop hs7 fun r rs es L5 bad' u o E hs5 k5 d5=>?_
   refine ⟨f07.newer k5 fun k e=>by omega,X7.fr k5 fun e=>by omega,H7.fr k5 fun e=>by omega,L5,bad',hs5,fun hbt now ⟨_,hr⟩=>?_,fun hbf=>?_⟩
   ·rcases d5.2 hbt with q | q
    ·cases q
    ·rcases hr with ⟨_,L9,h9⟩ | ⟨k2,_⟩ | ⟨k2,_⟩
     ·rw [q] at h9; cases h9
     ·omega
     ·exact k2 k1
   ·have hes:=(d5.1 hbf).2
    obtain ⟨q1,q2⟩:=Zwl hes
    exact ⟨es,rs,fun h=>by omega,.inl ⟨k1,L5,hes⟩,fun e he=>(q1 e he).1,by omega,o.sl.mono fun k _ (e:w7.heap.size≤k)=>by show w2.heap.size≤k; omega,E.mono fun k _ e=>by show w2.heap.size≤k; have:=e.1; omega⟩
  ·refine joinI (fun z u=>Fr None w u∧Blk u w.heap.size 30 [.int .u8 0,.int .u8 0,.int .u32 0,.int .u32 0,.int .u32 0]∧Blk u w2.heap.size 30 (headC hd)∧∃ (L5:List Bool) (bad':Bool),Src u b L5 bad'∧(bad'=true→∀ now,¬ ((hd.1=2→FormOk was)∧RestR hd.1 was L' now)) ∧
    (bad'=false→∃ now raws',(hd.1=2→FormOk was)∧RestR hd.1 was L' now∧(∀ e∈now,EntFit e)∧now.length≤720∧SlT (Up w2.heap.size) u entT z raws'∧EntsR (Up w2.heap.size) u raws' now)) ?_ fun z u h=>h
   refine condE (fun k2=>?_) fun k2=>?_
   rotate_left
   ·exact ⟨f07,X7,H7,L',false,hs7,(fun h=>by cases h),fun _=>⟨[],[],fun h=>absurd h k2,.inr (.inr ⟨k1,k2,rfl⟩),(fun e h=>by cases h),by simp,SlT.nil _,EntsR.nil _ _⟩⟩
   refine Z8v hSw hEw (by omega) (fun e he=>⟨(hL e he).1,by have:=(hL e he).2.1; omega,(hL e he).2.2⟩) fun w8 f8=>?_
   rw [← Zej was 0 true fun _=>rfl]
   refine condN (fun hbad=>?_) fun hform=>?_
   ·exact bad (f07.then0 f8) (X7.fr f8 fun h=>h) (h1 he (none4 fun now ⟨hf,_⟩=>hbad (formOk.2 (hf k2))))
   have hform:FormOk was:=formOk.1 hform
   refine newI fun w9 D f9 z9=>?_
   have f79:=f8.then0 f9
   have s8:=f8.size
   have hs9:=hs7.fr0 f79
   have bw:=hs7.lt
   refine Z17d hs9 (db:=w8.heap.size) (s1:=⟨none,0,0⟩) (s2:=⟨none,0,0⟩) D (by omega) fun u1 t1 gone L3 bad3 o1 hs1 D1 k1' dg=>?_
   have y1:=k1'.size
   refine Zop hs1 fun t2 rs2 come L4 bad4 u2 o2 E2 hs2 k2' dc=>?_
   have y2:=k2'.size
   refine setA (D1.fr k2' fun e=>by omega) (by simp) rfl fun u3 D3 k3' y3=>?_
   have hs3:Src u3 b L4 bad4:=hs2.fr k3' fun k e e2=>by omega
   have ltS:∀ k,k < b→¬ (k=b∨k=w8.heap.size):=fun k h e=>by omega
   have k93:Fr (fun k=>k=b∨k=w8.heap.size) w9 u3:=(k1'.then (k2'.sub fun k e=>.inl e)).then (k3'.sub fun k e=>.inr e)
   refine Z17c hs3 D3 (by omega) ((hSw.fr0 f79).fr k93 ltS) ((hEw.fr f79 fun _ _ h=>h).fr k93 ltS) hL (by omega) hform fun u4 t4 rs4 chg L5 bad5 A4 hs4 D4 k4' dd1 dd2=>?_
   have y4:=k4'.size
   have k94:=k93.then k4'
   have f9n:Fr None w w9:=f07.then0 f79
   have f04':Fr None w u4:=f9n.newer k94 fun k e=>by omega
   have X4':=(X7.fr f79 fun h=>h).fr k94 fun e=>by omega
   have H4':=(H7.fr f79 fun h=>h).fr k94 fun e=>by omega
   refine Zah hs4 (condI (fun hbt=>?_) fun hbf=>?_)
   ·refine bad f04' X4' (h1 he (none4 fun now ⟨_,hr⟩=>?_))
    rcases hr with ⟨q,_⟩ | ⟨_,dl,L9,h9,hp⟩ | ⟨_,q,_⟩
    ·exact k1 q
    ·unfold deltaD at h9
     cases h3:bad3 with
     | true =>
      rcases dg.2 h3 with q | q
      ·cases q
      ·rw [q] at h9; cases h9
     | false =>
      rw [(dg.1 h3).2] at h9
      dsimp only at h9
      cases h4:bad4 with
      | true =>
       rcases dc.2 h4 with q | q
       ·rw [h3] at q; cases q
       ·rw [q] at h9; cases h9
      | false =>
       rw [(dc.1 h4).2] at h9
       dsimp only at h9
       rcases dd2 hbt with q | q
       ·rw [h4] at q; cases q
       ·cases hcs:chgsD was L4 with
        | none=>rw [hcs] at h9; cases h9
        | some p =>
         obtain ⟨ds,r9⟩:=p
         rw [hcs] at h9
         cases h9
         obtain ⟨dx,hdx,hnx⟩:=q _ _ hcs
         exact hnx (Z161 hp dx hdx)
    ·exact q k2
   ·obtain ⟨q4,p4⟩:=dd1 hbf
    obtain ⟨q3,p3⟩:=dc.1 q4
    obtain ⟨_,p2⟩:=dg.1 q3
    have hdl:deltaD was L'=some ((gone,come,chg),L5):=by
     unfold deltaD
     rw [p2]
     dsimp only
     rw [p3]
     dsimp only
     rw [p4]
    obtain ⟨m1,m2,m3,m4,m5⟩:=Zyl hL hdl
    dsimp only at m1 m2 m3 m4 m5
    obtain ⟨oA,eA⟩:=A4
    have nb:∀ {k:Nat},w9.heap.size≤k→¬ (k=b∨k=w8.heap.size):=fun h e=>by omega
    have hD:DltR (fun _=>True) u4 (t1,t2,t4) gone come chg:=by
     have k14:Fr (fun k=>k=b∨k=w8.heap.size) u1 u4:=((k2'.sub fun k e=>.inl e).then (k3'.sub fun k e=>.inr e)).then k4'
     have k24:Fr (fun k=>k=b∨k=w8.heap.size) u2 u4:=(k3'.sub fun k e=>.inr e).then k4'
     refine ⟨(o1.fr k14 fun k (e:w9.heap.size≤k)=>nb e).sl.mono fun _ _ _=>trivial,⟨rs2,(o2.fr k24 fun k (e:u1.heap.size≤k)=>nb (by omega)).sl.mono fun _ _ _=>trivial,(E2.fr k24 fun k e=>nb (by have:=e.1; omega)).mono fun _ _ _=>trivial⟩,⟨rs4,oA.sl.mono fun _ _ _=>trivial,eA.imp fun a c ⟨g1,g2,g3,g4⟩=>⟨g1,g2,g3.mono fun _ _ _=>trivial,g4.mono fun _ _ _=>trivial⟩⟩⟩
    have hSu:=((hSw.fr0 f79).fr k94 ltS)
    have hEu:=((hEw.fr f79 fun _ _ h=>h).fr k94 ltS)
    have sl2:=Zyf p4
    have z4:=f04'.size
    refine aggI D4 (x:=((t1,t2,t4):DRaw)) rfl ?_
    have fin:∀ {e:Int} {r:Sl} {u5:World},Fr None u4 u5→(e≠0→∀ now,¬ ((hd.1=2→FormOk was)∧RestR hd.1 was L' now))→(e=0→∃ now raws',(hd.1=2→FormOk was)∧RestR hd.1 was L' now∧(∀ e∈now,EntFit e)∧now.length≤720∧SlT (Up u4.heap.size) u5 entT r raws'∧EntsR (Up u4.heap.size) u5 raws' now) →
      ∀ {R':Type} {Q':R'→World→Prop},(stoL (Addr.add ⟨b,0,none⟩ 1) [.bool (e != 0)] 0 (fun _ u=>Fr None w u∧Blk u w.heap.size 30 [.int .u8 0,.int .u8 0,.int .u32 0,.int .u32 0,.int .u32 0]∧Blk u w2.heap.size 30 (headC hd)∧∃ (L5:List Bool) (bad':Bool),Src u b L5 bad'∧(bad'=true→∀ now,¬ ((hd.1=2→FormOk was)∧RestR hd.1 was L' now)) ∧
       (bad'=false→∃ now raws',(hd.1=2→FormOk was)∧RestR hd.1 was L' now∧(∀ e∈now,EntFit e)∧now.length≤720∧SlT (Up w2.heap.size) u entT r raws'∧EntsR (Up w2.heap.size) u raws' now):W R')) Q' u5:=by
     intro e r u5 f hne heq R' Q'
     refine Z4j (hs4.fr0 f) fun u6 hs6 f6 _=>⟨(f04'.then0 f).newer f6 fun k e=>by omega,(X4'.fr f fun h=>h).fr f6 fun e=>by omega,(H4'.fr f fun h=>h).fr f6 fun e=>by omega,L5,_,hs6,fun h=>hne (by simpa using h),fun h=>?_⟩
     obtain ⟨now,rr,c1,c2,c3,c4,c5,c6⟩:=heq (by simpa using h)
     exact ⟨now,rr,c1,c2,c3,c4,(c5.fr f6 fun k (e:u4.heap.size≤k) e2=>by omega).mono fun k _ (e:u4.heap.size≤k)=>by show w2.heap.size≤k; omega,(c6.fr f6 fun k (e:u4.heap.size≤k) e2=>by omega).mono fun k _ (e:u4.heap.size≤k)=>by show w2.heap.size≤k; omega⟩
    refine Zuo hSu hEu hform hL hD (by omega) (fun e he=>(m2 e he).1) (by omega) (fun x hx=>⟨m5 x hx,sl2 x hx⟩) (by omega) (fun hno u5 f5=>?_) fun now hp fit hlen r rr u5 o E f5=>?_
    ·refine fin (e:=4) f5 (fun _ now ⟨_,hr⟩=>?_) fun h=>by cases h
     rcases hr with ⟨q,_⟩ | ⟨_,dl,L9,h9,hp⟩ | ⟨_,q,_⟩
     ·exact k1 q
     ·rw [hdl] at h9; cases h9; exact hno now hp
     ·exact q k2
    ·refine fin (e:=0) f5 (fun h=>absurd rfl h) fun _=>⟨now,rr,fun _=>hform,.inr (.inl ⟨k2,_,_,hdl,hp⟩),fit,by omega,o.sl,E⟩
 rintro z u ⟨fu,Xu,Hu,L5,bad',hsu,hbt,hbf⟩
 refine Zah hsu (condI (fun hb'=>bad fu Xu (h1 he (none4 (hbt hb')))) fun hb'=>?_)
 obtain ⟨now,rr,hfm,hR,fit,hlen,Sz,Ez⟩:=hbf hb'
 have few1:hd.1=1→formM 0 now=0→now.length≤720:=fun _ _=>hlen
 have few2:hd.1=2→diffE was now=0→was.length≤720∧now.length≤720:=fun _ _=>⟨by omega,hlen⟩
 obtain ⟨sr1,sr2⟩:=Z176 hok hL fit few1 few2
 have no:sealE hd was now≠0∨sealB hd was now≠l→∀ hd' now',¬ OpenR l was hd' now':=by
  rintro hne hd' now' ⟨L2,c1,c2,c3,c4,c5⟩
  rw [hh] at c1
  cases c1
  have:=RestR.uniq c2 c3 hR
  subst this
  exact hne.elim (fun h=>h c4) fun h=>h c5
 refine aggI Hu (x:=hd) rfl (Zxe hok (hWo.fr0 fu) (hEo.fr fu fun _ _ h=>h) Sz Ez (by omega) (by omega) hL fit few1 few2 (fun hbad u2 g2=>?_) fun hgood p u2 o2 g2=>?_)
 ·refine joinI (fun q v=>q=true∧v=u2) (condT (by simpa using hbad) ⟨rfl,rfl⟩) ?_
  rintro q v ⟨rfl,rfl⟩
  exact condT rfl (bad (fu.then0 g2) (Xu.fr g2 fun h=>h) (h1 he (no (.inl (by rw [sr1]; exact hbad)))))
 ·have hse:sealE hd was now=0:=sr1.trans hgood
  have esb:=sr2 hse
  rw [← esb] at o2
  refine joinI (fun q v=>q=(!decide (sealB hd was now=l))∧Fr None u2 v) (condF rfl ?_) ?_
  ·exact Zhw o2.sl (hS.fr0 (fu.then0 g2)) (Zoh (Zwz _)) hb ⟨rfl,Fr.refl _ _⟩
  rintro q v ⟨rfl,gv⟩
  have g2v:=g2.then0 gv
  refine condI (fun hq=>bad (fu.then0 g2v) (Xu.fr g2v fun h=>h) (h1 he (no (.inr fun e=>by rw [decide_eq_true e] at hq; cases hq)))) fun hq=>?_
  have hq:sealB hd was now=l:=by simpa using hq
  refine aggI (Hu.fr g2v fun h=>h) (x:=hd) rfl (stoAll (Xu.fr g2v fun h=>h) rfl rfl fun v2 X2 k2 y2=>aggI X2 (x:=hd) rfl ?_)
  have k02:Fr None w v2:=(fu.then0 g2v).newer k2 fun k e=>by omega
  have szu:=fu.size
  refine hk he hd now ⟨L',hh,hfm,hR,hse,hq⟩ hok fit hlen z rr v2 ?_ ?_ k02
  ·exact ((Sz.fr0 g2v).fr k2 fun k (e:w2.heap.size≤k) e2=>by omega).mono fun k _ (e:w2.heap.size≤k)=>by show w.heap.size≤k; omega
  ·exact ((Ez.fr g2v fun _ _ h=>h).fr k2 fun k (e:w2.heap.size≤k) e2=>by omega).mono fun k _ (e:w2.heap.size≤k)=>by show w.heap.size≤k; omega
end Go.Proofs.YtchhhjlpnecjkaaGreat
namespace Go.Proofs.YtchhhjlpnecjkaaGreat
open Go Go.RowKit Go.ChangeShapes Go.WideShapes Go.ChangeAt Go.Proofs.YtchhhjlpnecjkaaGreat.Den
variable {R:Type} {Q:R→World→Prop} {w:World} {H:Type} {enc:TypeId × Value→H}
theorem Z145:∀ (L:List Ent) (n:Int),0≤n→n+((L.map fun e=>e.2.length).sum:Nat)≤1000000000→L.foldl (fun n e=>IntKind.wrap .i64 (n+(e.2.length:Int))) n=n+((L.map fun e=>e.2.length).sum:Nat)
 | [],n,_,_=>by simp
 | e :: r,n,h0,h=>by
  simp only [List.map_cons,List.sum_cons] at h ⊢
  rw [List.foldl_cons,w64 (by omega),Z145 r _ (by omega) (by omega)]
  omega
theorem Z199 {W:World} {raws:List (Int × Sl)} {L:List Ent} (hE:All2 (EntIn W) raws L) (hb:(raws.map fun r=>r.2.n+1).sum≤1048576) (hf:fewM L≤400):L.length≤400:=by
 have hs:∀ (raws:List (Int × Sl)) (L:List Ent),All2 (EntIn W) raws L→(L.map fun e=>e.2.length).sum+L.length=(raws.map fun r=>r.2.n+1).sum:=by
  intro raws
  induction raws with
  | nil =>
   intro L h
   have:=h.len
   have:L=[]:=List.length_eq_zero_iff.1 (by simpa using this.symm)
   subst this
   rfl
  | cons r raws ih =>
   intro L h
   obtain ⟨e,L0,rfl,he,h0⟩:=h.inv
   have:=ih L0 h0
   have hn:r.2.n=e.2.length:=he.sl.len
   simp only [List.map_cons,List.sum_cons,List.length_cons]
   omega
 have h1:=hs raws L hE
 unfold fewM at hf
 rw [Z145 L _ (by omega) (by omega)] at hf
 omega
end Go.Proofs.YtchhhjlpnecjkaaGreat
namespace Go.Proofs.YtchhhjlpnecjkaaGreat
open Go Go.RowKit Go.ChangeShapes Go.WideShapes Go.ChangeAt Go.Proofs.YtchhhjlpnecjkaaGreat.Den
variable {R:Type} {Q:R→World→Prop} {w:World} {H:Type} {enc:TypeId × Value→H}
def OpenAns (l:List Int) (was:List Ent) (hd:Head) (now:List Ent) (e:Int):Prop :=
 (frameErr l≠0∧hd=(0,0,0,0,0)∧now=[]∧e=frameErr l)∨(frameErr l=0∧(∀ hd now,¬ OpenR l was hd now)∧hd=(0,0,0,0,0)∧now=[]∧e=4)∨(frameErr l=0∧OpenR l was hd now∧e=0)
theorem OpenAns.uniq {l:List Int} {was:List Ent} {hd hd':Head} {now now':List Ent} {e e':Int} (h:OpenAns l was hd now e) (h':OpenAns l was hd' now' e'):hd'=hd∧now'=now∧e'=e:=by
 rcases h with ⟨a1,rfl,rfl,rfl⟩ | ⟨a1,a2,rfl,rfl,rfl⟩ | ⟨a1,a2,rfl⟩
 ·rcases h' with ⟨b1,rfl,rfl,rfl⟩ | ⟨b1,_⟩ | ⟨b1,_⟩
  ·exact ⟨rfl,rfl,rfl⟩
  ·exact absurd b1 a1
  ·exact absurd b1 a1
 ·rcases h' with ⟨b1,_⟩ | ⟨b1,b2,rfl,rfl,rfl⟩ | ⟨b1,b2,_⟩
  ·exact absurd a1 b1
  ·exact ⟨rfl,rfl,rfl⟩
  ·exact absurd b2 (a2 _ _)
 ·rcases h' with ⟨b1,_⟩ | ⟨b1,b2,_⟩ | ⟨b1,b2,rfl⟩
  ·exact absurd a1 b1
  ·exact absurd a2 (b2 _ _)
  ·obtain ⟨c1,c2⟩:=a2.uniq b2
   exact ⟨c1,c2,rfl⟩
theorem Zt0 {ok okw:Nat→Prop} {s sw:Sl} {l:List Int} {raws:List (Int × Sl)} {was:List Ent} (hS:SlT ok w u8T s l) (hb:BytesOk l) (hm:l.length≤404) (hW:SlT okw w entT sw raws) (hE:EntsR okw w raws was) (hL:∀ e∈was,EntFit e) (hwl:was.length≤400) {K:Res [.agg headT,.sc .sl,.sc (.int .i64)]→W R}
  (hk:∀ hd now e r raws' w',OpenAns l was hd now e→(∀ e∈now,EntFit e)→now.length≤1048576→SlT (Up w.heap.size) w' entT r raws'→EntsR (Up w.heap.size) w' raws' now→Fr None w w'→K (hd,r,e) Q w') :
  callW Tryz.prog Zb8 [.slice s.a s.n s.c,.slice sw.a sw.n sw.c] [.agg headT,.sc .sl,.sc (.int .i64)] K Q w :=
 Zrb hS hb (by omega) hW hE hL (by omega) (fun he w' f=>hk _ [] _ _ [] w' (.inl ⟨he,rfl,rfl,rfl⟩) (fun e h=>by cases h) (by simp) (SlT.nil _) (EntsR.nil _ _) f)
  (fun he hn w' f=>hk _ [] _ _ [] w' (.inr (.inl ⟨he,hn,rfl,rfl,rfl⟩)) (fun e h=>by cases h) (by simp) (SlT.nil _) (EntsR.nil _ _) f)
  fun he hd now hr _ fit hl r raws' w' S E f=>hk hd now 0 r raws' w' (.inr (.inr ⟨he,hr,rfl⟩)) fit hl S E f
theorem Zz7 {ok okw:Nat→Prop} {s sw:Sl} {l:List Int} {raws:List (Int × Sl)} {was:List Ent} (hS:SlT ok w u8T s l) (hb:BytesOk l) (hm:l.length≤404) (hW:SlT okw w entT sw raws) (hE:EntsR okw w raws was) (hL:∀ e∈was,EntFit e) (hwl:was.length≤400) {K:Res [.agg headT,.sc .sl,.sc (.int .i64)]→W R}
  (hk:∀ hd now e r raws' w',OpenAns l was hd now e→SlT (Up w.heap.size) w' entT r raws'→EntsR (Up w.heap.size) w' raws' now→Fr None w w'→K (hd,r,e) Q w') :
  callW Tryz.prog Z43 [.slice s.a s.n s.c,.slice sw.a sw.n sw.c] [.agg headT,.sc .sl,.sc (.int .i64)] K Q w :=
 Zxc hS hb hm hW hE hL hwl (fun he w' f=>hk _ [] _ _ [] w' (.inl ⟨he,rfl,rfl,rfl⟩) (SlT.nil _) (EntsR.nil _ _) f)
  (fun he hn w' f=>hk _ [] _ _ [] w' (.inr (.inl ⟨he,hn,rfl,rfl,rfl⟩)) (SlT.nil _) (EntsR.nil _ _) f)
  fun he hd now hr _ _ _ r raws' w' S E f=>hk hd now 0 r raws' w' (.inr (.inr ⟨he,hr,rfl⟩)) S E f
theorem Zr8 {W:World} {sb:Sl} {l:List Int} (hB:SlT (Old W) W u8T sb l) (hbo:∀ c∈l,0≤c∧c≤255) (_c0:sb.c≤maxLen) {sw:Sl} {raws:List (Int × Sl)} {was:List Ent} (hS:SlT (Old W) W entT sw raws) (hE:All2 (EntIn W) raws was) (_c1:sw.c≤maxLen) (hm1:(raws.map fun r=>r.2.n+1).sum≤1048576) :
  Calls Tryz.prog 3 #[.slice sb.a sb.n sb.c,.slice sw.a sw.n sw.c] W (fun e w'=>e=.returned (.bool true)∧Fr None W w'):=by
 refine Z15z (Zbe sb sw _ _ W ?_)
 unfold Z2k
 obtain ⟨n1,t1⟩:=EntIn.fit hE hm1
 have hbn:=hB.len
 refine Zun fun w1 f1=>condF rfl (Zzc (hS.fr0 f1) (EntIn.later hE f1) (by omega) fun w2 f2=>?_)
 have f02:=f1.then0 f2
 refine condI (fun _=>⟨rfl,f02⟩) fun hfew=>?_
 have hfew:fewM was≤400:=by simpa using hfew
 have hw4:=Z199 hE hm1 hfew
 obtain ⟨q,hq⟩:∃ q,q=min 300 l.length:=⟨_,rfl⟩
 refine (hB.fr0 f02).cutI (n:=q) (by rw [hbn]; split <;> omega) (by omega) fun s3 _ hs3=>?_
 have hb3:BytesOk (l.take q):=fun x hx=>hbo x (List.mem_of_mem_take hx)
 have hl3:(l.take q).length≤300:=by rw [List.length_take]; omega
 refine Zhx (hs3 _ _ (hB.fr0 f02)) hb3 (by omega) (fun h=>by omega) fun _ p w3 o3 f3=>condF rfl ?_
 have f03:=f02.then0 f3
 have hpb:BytesOk (sealF (l.take q)):=Zoh hb3
 have hpl:(sealF (l.take q)).length≤404:=by rw [Zza]; omega
 generalize sealF (l.take q)=pb at o3 hpb hpl
 refine Zk2 (hS.fr0 f03) (EntIn.later hE f03) n1 (fun e he=>(t1 e he).2.1) fun r4 raws4 w4 o4 E4 f4=>?_
 have f04:=f03.then0 f4
 refine Zt0 (o3.none f4).sl hpb hpl o4.sl E4 t1 hw4 fun hd now e r5 raws5 w5 hans fit hnl S5 E5 f5=>?_
 have f05:=f04.then0 f5
 have z5:=f5.size
 refine newI fun w6 B6 f6 z6=>stoAll B6 rfl rfl fun w7 B7 f7 z7=>?_
 have f57:Fr None w5 w7:=f6.newer f7 fun k e=>by omega
 have f07:=f05.then0 f57
 refine Zz7 (((o3.none f4).none f5).none f57).sl hpb hpl (hS.fr0 f07) (EntIn.later hE f07) t1 hw4 fun hd2 now2 e2 r8 raws8 w8 hans2 S8 E8 f8=>?_
 obtain ⟨e1,e3,e4⟩:=hans.uniq hans2
 subst e1
 subst e3
 subst e4
 refine newI fun w9 B9 f9 z9=>stoAll B9 rfl rfl fun w10 B10 f10 z10=>?_
 have f810:Fr None w8 w10:=f9.newer f10 fun k e=>by omega
 have f710:=f8.then0 f810
 have f010:=f07.then0 f710
 refine joinI (fun z v=>z=true∧Fr None W v) ?_ fun z v ⟨hz,hv⟩=>by subst hz; exact ⟨rfl,hv⟩
 refine aggI (B7.fr f710 fun h=>h) (x:=hd2) rfl (aggI B10 (x:=hd2) rfl (eqlI Z16b (Z16d hd2 hd2) (condT (by simp) (condT (by simp) ?_))))
 refine Zeu ((S5.fr0 f57).fr0 f710) ((E5.fr f57 fun _ _ h=>h).fr f710 fun _ _ h=>h) (S8.fr0 f810) (E8.fr f810 fun _ _ h=>h) hnl (fun e he=>(fit e he).2.1) fun v7 k7=>⟨by simp,f010.then0 k7⟩
set_option maxRecDepth 100000 in
theorem Zmj (os:Os) (started:os.Started) (H:Type) (enc:TypeId × Value→H) (F:Stop.Interp) :
  ReturnsInHanded {} Tryz.checked os 3 .any ((Rows.OpenSpec.upto Rows.packetBodiesSpec).pre6 enc Tryz.prog Tryz.f3 Rows.packetBodiesUptoRow.domain false) (((Rows.OpenSpec.upto Rows.packetBodiesSpec).at F).post enc Tryz.prog Tryz.f3 false true false false):=by
 refine returnsInHanded_of_cond (C:=Tryz.checked) (s:=Rows.OpenSpec.upto Rows.packetBodiesSpec) (k:=Rows.uptoSmall) rfl Z16z started (by kernel_rfl) Tryz.func3
  (OpenSpec.witness (enc:=enc) (C:=Tryz.checked) (s:=Rows.OpenSpec.upto Rows.packetBodiesSpec) (k:=Rows.uptoSmall) rfl false ⟨#[],#[.slice none 0 0,.slice none 0 0],[]⟩ 8 (by kernel_rfl) (by kernel_rfl) (by kernel_rfl)
   (x:=([.nil,.nil],[],[])) (by kernel_rfl) rfl (by kernel_rfl)) ?_
 intro W base args ds gs before hval0 hW _ hk _
 have hval:∀ (j:Nat) t v,Tryz.f3.params[j]?=some t→args[j]?=some v→Value.okWide Tryz.prog W .any base t v:=hval0
 have hW':=hW
 obtain ⟨p,q,hA0,hV,rfl,hfz,hnd⟩:=hW
 have hA:DataW.TrodAll enc Tryz.prog W 0 (fun _=>true) true Tryz.f3.params.toList args.toList ds p:=hA0
 rw [Tryz.params3] at hA hval
 obtain ⟨v0,v1,d0,d1,p0,p1,rfl,rfl,rfl,h0,h1⟩:=trodAll_two hA
 have hb:Rows.uptoBulkAll ([d0,d1] ++ gs)≤1048576:=of_decide_eq_true hk
 simp only [List.cons_append,Rows.uptoBulkAll] at hb
 obtain ⟨s0,l0,rfl,S0,c0,e0⟩:=Zyb Z13q (hval 0 _ v0 rfl rfl) h0
 obtain ⟨s1,l1,rfl,S1,c1,e1⟩:=Zyb Z16a (hval 1 _ v1 rfl rfl) h1
 obtain ⟨L1,O1⟩:=Z18d fun r hr=>e1 r hr
 have b1:=(Z143 h1 rfl S1)
 have b1k:Rows.uptoBulk d1≤1048576:=by omega
 refine (Zr8 S0 (fun c hc=>Z185 (e0 c hc)) c0 S1 O1 c1 (Nat.le_trans b1 b1k)).mono fun e W' ⟨he,hf⟩=>?_
 subst he
 exact ⟨_,rfl,Z16p (s:=Rows.packetBodiesSpec) Z11v Z15y (by kernel_rfl) (by rw [Tryz.params3]; decide +kernel) rfl ⟨rfl,rfl,rfl⟩ hW' hf⟩
set_option maxHeartbeats 4000000 in
theorem packetBodies_holds:Rows.PacketBodiesUptoSaid :=
 OpenClaim.holds_of_cond 3 Tryz.f3 rfl rfl rfl rfl rfl rfl rfl ⟨rfl,rfl,rfl,rfl,rfl⟩ rfl rfl rfl rfl rfl (by kernel_rfl) Tryz.func3
  (by unfold joinedFacts; repeat' (with_reducible refine band ?_ ?_)
      all_goals first | with_reducible exact Z11v | with_reducible exact Z134 | with_reducible exact Z14p | (as_aux_lemma=>kernel_rfl))
  (of_decide_eq_true (by kernel_rfl)) (by unfold Func.isWrapper; first | (rw [if_pos (by decide +kernel)]; kernel_rfl) | (rw [if_neg (by decide +kernel)]; exact ⟨rfl,rfl⟩))
  (fun os started H enc _ F=>Zmj os started H enc F)
end Go.Proofs.YtchhhjlpnecjkaaGreat
