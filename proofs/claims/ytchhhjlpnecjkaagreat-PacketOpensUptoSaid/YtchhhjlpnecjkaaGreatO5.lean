/-
  What the proof of packetOpens_holds leans on, laid together by a program of this session (wip/pack.py) out of its own texts; the last of these texts holds packetOpens_holds.
-/
import Derived.Test.YtchhhjlpnecjkaaGreatO4
set_option linter.unusedVariables false
namespace Go.Proofs.YtchhhjlpnecjkaaGreat
open Go Go.RowKit Go.Proofs.YtchhhjlpnecjkaaGreat.Den
variable {R:Type} {Q:R→World→Prop} {w:World}
theorem Ztl (c:Comp):∀ (b:Bool) (l:List Comp),(withG c b l).length≤l.length+1
 | true,l=>by
  induction l with
  | nil=>simp [withG]
  | cons x r ih=>rw [withG]; simp; split <;> simp <;> omega
 | false,[]=>by simp [withG]
 | false,x :: r=>by
  rw [withG]
  by_cases h:x.1 ≥ c.1
  ·rw [decide_eq_true h]
   have:(withG c (false || true) r).length≤r.length:=by
    clear h
    induction r with
    | nil=>simp [withG]
    | cons y r ih=>show (withG c true (y :: r)).length≤_; rw [withG]; simp at ih ⊢; split <;> simp <;> omega
   simp at this ⊢
   split <;> simp <;> omega
  ·rw [decide_eq_false h]
   have:=Ztl c false r
   simp at this ⊢
   split <;> simp <;> omega
theorem Zr2 (c:Comp):∀ (b:Bool) (l:List Comp),∀ x∈withG c b l,x=c∨x∈l
 | b,[],x,h=>by
  rw [withG] at h
  split at h
  ·cases h
  ·simp at h; exact .inl h
 | b,y :: r,x,h=>by
  rw [withG] at h
  rcases List.mem_append.1 h with h | h
  ·split at h
   ·simp at h; exact .inl h
   ·cases h
  ·rcases List.mem_append.1 h with h | h
   ·split at h
    ·simp at h; rw [h]; exact .inr List.mem_cons_self
    ·cases h
   ·rcases Zr2 c _ r x h with h | h
    ·exact .inl h
    ·exact .inr (List.mem_cons_of_mem _ h)
theorem succ8:∀ k:Fin 8,IntKind.wrap .u8 ((k.val:Int)+1)=((k.val+1:Nat):Int):=by decide +kernel
def CFit (m:Nat) (l:List Comp):Prop:=l.length≤m∧∀ c∈l,CompOk c
theorem CFit.withM {m:Nat} {l:List Comp} (h:CFit m l) {c:Comp} (hc:CompOk c):CFit (m+1) (withM l c) :=
 ⟨by have:=Ztl c false l; have:=h.1; show (withG c false l).length≤_; omega,fun x hx=>by
  rcases Zr2 c false l x hx with e | e
  ·rw [e]; exact hc
  ·exact h.2 x e⟩
def ChgFw (d:Chg):Prop:=ChgSm d∧d.2.2.2.length≤9
theorem Zxl {m k:Nat} {L:List Ent} {e:Ent} (h:LFit m k L) (he:(0≤e.1∧e.1≤4294967295)∧e.2.length≤k∧∀ c∈e.2,CompOk c):LFit (m+1) k (insG e false L) :=
 ⟨by have:=Zsw e false L; have:=h.1; omega,fun x hx=>by
  rcases Zsx e false L x hx with a | a
  ·rw [a]; exact he
  ·exact h.2 x a⟩
theorem Zzp {m k k':Nat} {L:List Ent} (h:LFit m k L) (hk:k≤k') {i:Nat} {e:Ent} (hi:L[i]?=some e) {l:List Comp} (hl:CFit k' l):LFit m k' (L.set i (e.1,l)) :=
 ⟨by rw [List.length_set]; exact h.1,fun x hx=>by
  rcases List.mem_or_eq_of_mem_set hx with a | a
  ·have:=h.2 x a; exact ⟨this.1,by omega,this.2.2⟩
  ·rw [a]; exact ⟨(h.2 e (List.mem_of_getElem? hi)).1,hl.1,hl.2⟩⟩
theorem Zz8 {m k:Nat} {L:List Ent} (h:LFit m k L) (i j:Nat) (hij:i≤j):LFit m k (L.take i ++ L.drop j) :=
 ⟨by have:=h.1; simp; omega,fun x hx=>by
  rcases List.mem_append.1 hx with a | a
  ·exact h.2 x (List.mem_of_mem_take a)
  ·exact h.2 x (List.mem_of_mem_drop a)⟩
theorem Zk3 {ok:Nat→Prop} {s:Sl} {l:List Comp} (hS:SlT ok w compT s l) (hm:Small l) {k:Int} {K:Res [.sc .sl]→W R}
  (hk:∀ r w',Own (Up w.heap.size) w' 92 compT r (l.filter fun c=>!(c.1 == k))→Fr None w w'→K r Q w'):callW Tryz.prog Z3o [.slice s.a s.n s.c,.int .u8 k] [.sc .sl] K Q w:=by
 refine Zbt _ _ K Q w ?_
 unfold Z62
 refine rangeC (t:=compT) (l:=l) (ok:=ok) (fun s:Sl × Int=>s.2) (fun j st w'=>st.2=(j:Int)∧Fr None w w'∧Own (Up w.heap.size) w' 92 compT st.1 ((l.take j).filter fun c=>!(c.1 == k))) rfl rfl rfl ⟨rfl,Fr.refl _ _,Own.nil _ _ _ _⟩ (fun j s w' h=>h.1) (fun j st w' hp=>hS.fr0 hp.2.1) ?_ ?_
 ·rintro j x ⟨out,_⟩ w1 w2 K' hx ⟨rfl,f1,ow⟩ - B2 f2 s2 hK
  have hjl:=(List.getElem?_eq_some_iff.1 hx).1
  have f02:=f1.then0 f2
  have hs1:=f02.size
  have hfl:((l.take j).filter fun c=>!(c.1 == k)).length≤(l.take j).length:=List.length_filter_le _ _
  rw [List.length_take] at hfl
  have o2:=ow.none f2
  refine fldI B2 (x:=x.1) rfl ?_
  refine joinI (fun (z:Sl) w'=>Fr None w w'∧Own (Up w.heap.size) w' 92 compT z ((l.take (j+1)).filter fun c=>!(c.1 == k))) ?_ ?_
  ·rw [Z8 hx,List.filter_append]
   refine condN (fun hne=>?_) fun heq=>?_
   ·rw [List.filter_cons_of_pos (by simp [hne])]
    refine aggI B2 (x:=x) rfl ?_
    have h9:((l.take j).filter fun c=>!(c.1 == k)).length≤1048576:=by omega
    exact appF Z26 (x:=x) rfl o2 hs1 (Nat.le_trans (Nat.mul_le_mul_right 16 (Nat.succ_le_succ h9)) (by decide)) (Nat.le_trans (Nat.succ_le_succ h9) (by decide)) fun r w3 o3 f3 _=>⟨(f02.up.thenOwn o2 f3).ofUp (Nat.le_refl _),o3⟩
   ·rw [List.filter_cons_of_neg (by simp [heq])]
    exact ⟨f02,by simpa using o2⟩
  ·rintro z w3 ⟨f3,o3⟩
   exact hK _ _ ⟨wsucc (N:=l.length) hjl (by omega),f3,o3⟩
 ·rintro ⟨out,_⟩ w1 ⟨-,f1,ow⟩
  rw [List.take_length] at ow
  exact hk out w1 ow f1
theorem Zm1 {ok:Nat→Prop} {s:Sl} {raws:List (Int × Sl)} {L:List Ent} (hS:SlT ok w entT s raws) (hE:EntsR ok w raws L) (hm:L.length≤1048576) (hL:∀ e∈L,Small e.2) {K:Res [.sc .sl]→W R}
  (hk:∀ r raws' w',Own (Up w.heap.size) w' 57 entT r raws'→EntsR (fun k=>w.heap.size≤k∧r.v.ownBlock≠some k) w' raws' L→Fr None w w'→K r Q w') :
  callW Tryz.prog Z0 [.slice s.a s.n s.c] [.sc .sl] K Q w:=by
 refine Z7a s K Q w ?_
 unfold Z4m
 have hlen:=hS.len
 have hel:=hE.len
 refine forI (N:=s.n) (fun s:Sl × Int=>s.2) (fun j st w'=>st.2=(j:Int)∧(∃ rs,rs.length=j∧Own (fun k=>w.heap.size≤k) w' 57 entT st.1 rs∧EntsR (fun k=>w.heap.size≤k∧st.1.v.ownBlock≠some k) w' rs (L.take j))∧Fr None w w') ⟨rfl,⟨[],rfl,Own.nil _ _ _ _,by rw [List.take_zero]; exact EntsR.nil _ _⟩,Fr.refl _ _⟩ (fun j s w' h=>h.1) ?_ ?_
 ·rintro j ⟨z,_⟩ w1 K' hj ⟨rfl,⟨rs,hrs,o1,E1⟩,f1⟩ - hK
  have hs1:=f1.size
  obtain ⟨e,he⟩:∃ e,L[j]?=some e:=⟨_,List.getElem?_eq_getElem (by omega)⟩
  obtain ⟨r1,hr1,ha1,ha2⟩:=hE.get he
  refine (hS.fr0 f1).get rfl rfl (by omega) fun y hy=>?_
  rw [hr1] at hy
  cases hy
  refine newI fun w2 B2 f2 s2=>stoAll B2 rfl rfl fun w3 B3 f3 s3=>?_
  have f13:Fr None w1 w3:=f2.newer f3 fun k e=>by omega
  have fd:Fr None w3 w3.drew:=(Fr.refl _ _).drew
  have f1d:=f13.then0 fd
  have Bd:=B3.fr fd fun h=>h
  have hs3:=f1d.size
  refine fldI Bd (i:=0) (x:=r1.1) rfl (fldI Bd (i:=1) (x:=r1.2) rfl ?_)
  refine Zd5 (ha2.fr0 (f1.then0 f1d)) (hL e (List.mem_of_getElem? he)) fun t w4 o4 f4=>?_
  refine andI ((Bd.fr f4 fun h=>h).rd (s:=.int .u32) (i:=0) (x:=r1.1) rfl) ?_
  have f14:=f1d.then0 f4
  have hs4:=f4.size
  have oz:Own (fun k=>w.heap.size≤k∧(z.v.ownBlock=some k∨w4.heap.size≤k)) w4 57 entT z rs:=⟨(o1.none f14).row,fun k e=>⟨o1.own k e,.inl e⟩⟩
  refine appP (x:=((r1.1,t):Int × Sl)) Z5m rfl oz (fun k e=>⟨by omega,.inr e⟩) (by omega) (by omega) fun r w5 o5 f5=>?_
  have hzl:∀ k,z.v.ownBlock=some k→k < w1.heap.size:=fun k e=>(o1.row.lt k e).2
  have E4:EntsR (fun k=>(w.heap.size≤k∧z.v.ownBlock≠some k)∧k < w1.heap.size) w5 rs (L.take j):=((E1.mono (ok':=fun k=>(w.heap.size≤k∧z.v.ownBlock≠some k)∧k < w1.heap.size) fun k hk e=>⟨e,hk⟩).fr f14 fun _ _ h=>h).fr f5 fun k e e2=>e.1.2 e2
  have t5:SlT (fun k=>w3.drew.heap.size≤k∧k < w4.heap.size) w5 compT t e.2:=(o4.mono (S':=fun k=>w3.drew.heap.size≤k∧k < w4.heap.size) fun k hk e=>⟨e,hk⟩).sl.fr f5 fun k e e2=>by have:=hzl k e2; omega
  refine hK _ _ ⟨wsucc hj (by omega),⟨rs ++ [(r1.1,t)],by simp [hrs],o5.mono fun k _ e=>e.1,?_⟩,(f1.then0 f14).newer f5 fun k e=>o1.own k e⟩
  have ro:∀ k,r.v.ownBlock=some k→z.v.ownBlock=some k∨w4.heap.size≤k:=fun k e=>(o5.own k e).2
  refine ⟨by simp [hrs]; omega,fun q rq eq h1 h2=>?_⟩
  rw [Z8 he] at h2
  rcases Nat.lt_or_ge q j with hq | hq
  ·rw [List.getElem?_append_left (by omega)] at h1
   rw [List.getElem?_append_left (by simp; omega)] at h2
   obtain ⟨x1,x2⟩:=E4.at_ q rq eq h1 h2
   refine ⟨x1,x2.mono fun k _ e=>⟨e.1.1,fun e2=>?_⟩⟩
   rcases ro k e2 with h | h
   ·exact e.1.2 h
   ·have:=e.2; omega
  ·have hlt:=(List.getElem?_eq_some_iff.1 h1).1
   have:q=j:=by simp [hrs] at hlt; omega
   subst this
   rw [List.getElem?_append_right (by omega)] at h1
   rw [List.getElem?_append_right (by simp; omega)] at h2
   simp [hrs] at h1
   have h2:eq=e:=by
    have:q - (L.take q).length=0:=by simp; omega
    rw [this] at h2
    simpa using h2.symm
   subst h1; subst h2
   refine ⟨ha1,t5.mono fun k _ e=>⟨by omega,fun e2=>?_⟩⟩
   rcases ro k e2 with h | h
   ·have:=hzl k h; omega
   ·omega
 ·rintro ⟨z,_⟩ w1 ⟨_,⟨rs,hrs,o1,E1⟩,f1⟩
  rw [List.take_of_length_le (by omega)] at E1
  exact hk z rs w1 o1 E1 f1
theorem Zmw {okw okd:Nat→Prop} {sw:Sl} {raws:List (Int × Sl)} {was:List Ent} (hS:SlT okw w entT sw raws) (hE:EntsR okw w raws was) (hf:FormOk was) (hL:∀ e∈was,EntFit e) {rD:DRaw} {gone:List Int} {come:List Ent} {chg:List Chg} (hD:DltR okd w rD gone come chg) (hg:gone.length≤1048576) (hC:∀ e∈come,EntFit e) (hd:chg.length≤50000) (hd2:∀ d∈chg,ChgFw d) (hm:was.length+come.length≤1048576) {K:Res [.sc .sl,.sc (.int .i64)]→W R}
  (h0:(∀ now,¬ PatchOk was gone come chg now)→∀ w',Fr None w w'→K (⟨none,0,0⟩,4) Q w') (hk:∀ now,PatchOk was gone come chg now→(∀ e∈now,EntFit e)→now.length≤was.length+come.length→∀ r raws' w',Own (Up w.heap.size) w' 57 entT r raws'→EntsR (Up w.heap.size) w' raws' now→Fr None w w'→K (r,0) Q w') :
  callW Tryz.prog Z4r [.slice sw.a sw.n sw.c,.agg ⟨[.slice rD.1.a rD.1.n rD.1.c,.slice rD.2.1.a rD.2.1.n rD.2.1.c,.slice rD.2.2.a rD.2.2.n rD.2.2.c]⟩] [.sc .sl,.sc (.int .i64)] K Q w:=by
 refine Zdz sw rD K Q w ?_
 unfold Z7l
 have hwl:=hS.len
 have hel:=hE.len
 refine newI fun w1 B1 f1 z1=>?_
 refine Z5x (hS.fr0 f1) (hE.fr f1 fun _ _ h=>h) (by omega) (fun e he=>⟨(hL e he).1,by have:=(hL e he).2.1; omega,(hL e he).2.2⟩) fun w2 f2=>?_
 rw [← Zap was 0 true fun _=>rfl,formOk.2 hf]
 refine condF rfl ?_
 have f02:=f1.then0 f2
 have B1:=B1.fr f2 fun h=>h
 have s2:=f2.size
 have hS':SlT (fun k=>k < w.heap.size) w2 entT sw raws:=(hS.mono fun k hk _=>hk).fr0 f02
 have hE':EntsR (fun k=>k < w.heap.size) w2 raws was:=(hE.mono fun k hk _=>hk).fr f02 fun _ _ h=>h
 have hD':DltR (fun k=>k < w.heap.size) w2 rD gone come chg:=DltR.st hD f02 fun k hk _=>⟨fun h=>h,hk⟩
 have six:∀ e∈was,e.2.length≤6:=fun e he=>hf.six he
 have lt:∀ k,k < w.heap.size→¬ Up w2.heap.size k:=fun k hk e=>by have e:w2.heap.size≤k:=e; omega
 have B1lt:=B1.lt
 refine Zm1 hS' hE' (by omega) (fun e he=>(hL e he).2.1) fun r3 raws3 w3 o3 e3 f3=>?_
 obtain ⟨dg,⟨rc,dc1,dc2⟩,⟨rd,dd1,dd2⟩⟩:=hD'
 have hgl:=dg.len
 have hcl:=dc1.len.trans dc2.len
 have hdl:=dd1.len.trans dd2.len
 have bad:∀ {u:World},Fr (Up w2.heap.size) w2 u→(∀ now,¬ PatchOk was gone come chg now)→(retW ((⟨none,0,0⟩:Sl),(4:Int)):W (Sl × Int)) (fun r w=>K r Q w) u:=fun f hn=>h0 hn _ (f02.thenUp f f02.size)
 have fit0:LFit was.length 6 was:=⟨Nat.le_refl _,fun e he=>⟨(hL e he).1,six e he,(hL e he).2.2⟩⟩
 obtain ⟨n,hn⟩:∃ n,n=w.heap.size:=⟨_,rfl⟩
 obtain ⟨n0,hn0⟩:∃ n0,n0=w2.heap.size:=⟨_,rfl⟩
 rw [← hn] at hS' hE' dg dc1 dc2 dd1 dd2 lt
 rw [← hn0] at lt o3 e3 bad
 have ns3:NowS n n0 w3 r3 was:=⟨raws3,o3,e3.mono fun k _ e=>⟨.inr e.1,e.2⟩⟩
 have s3:=f3.size
 have hn0n:n≤n0:=by omega
 have B3:=B1.fr f3 fun h=>h
 have b1n:w.heap.size < n0:=by omega
 refine fldI B3 (i:=0) (x:=rD.1) rfl ?_
 refine forI (N:=rD.1.n) (fun s:Sl × Int=>s.2) (fun j st u=>st.2=(j:Int)∧Fr None w3 u∧∃ L,NowS n n0 u st.1 L∧LFit was.length 6 L∧∀ now,PatchOk was gone come chg now→Holds (fun x:Ent=>x.1) L (goneP1 was gone j))
  ⟨rfl,Fr.refl _ _,was,ns3,fit0,fun now hp=>Zxf hf gone⟩ (fun j s w' h=>h.1) ?_ ?_
 ·rintro j ⟨z,_⟩ u K' hj ⟨rfl,fu,L,ns,lf,hL'⟩ - hK
  have f2u:=f3.then0 fu
  have su:=f2u.size
  obtain ⟨id,hid⟩:∃ id,gone[j]?=some id:=⟨_,List.getElem?_eq_getElem (by omega)⟩
  refine (dg.fr0 f2u).get rfl rfl (by omega) fun x hx=>?_
  rw [hid] at hx
  cases hx
  obtain ⟨rs,o,eR⟩:=ns
  have ll:=lf.1
  refine Z39 (ok:=fun _=>True) (o.sl.mono fun _ _ _=>trivial) (eR.mono fun _ _ _=>trivial) (by omega) fun u1 g1=>?_
  rcases Zao (L:=L) (id:=id) with ⟨ef,hno⟩ | ⟨i,e,ef,he,hei⟩
  ·rw [ef]
   refine condT rfl (bad (f2u.then0 g1).up fun now hp=>?_)
   obtain ⟨⟨x,hx,e⟩,_⟩:=Zlc hf hp hid (hL' now hp)
   exact Z4x.1 hno x hx e
  ·rw [ef]
   refine condF (decide_eq_false (by omega)) ?_
   have hi:=(List.getElem?_eq_some_iff.1 he).1
   have ns1:NowS n n0 u1 z L:=NowS.fr0 ⟨rs,o,eR⟩ g1
   refine Z10j ns1 (by have:=g1.size; omega) hi (by omega) fun r u2 ns2 g2=>hK _ _ ⟨wsucc hj (by omega),(fu.then0 g1).then0 g2,_,ns2,Zz8 lf i (i+1) (by omega),fun now hp=>(Zlc hf hp hid (hL' now hp)).2 i e he hei⟩
 rintro ⟨z,_⟩ u ⟨-,fu,L,ns,lf,hL'⟩
 rw [hgl] at hL'
 have f2u:=f3.then0 fu
 have su:=f2u.size
 refine fldI (B3.fr fu fun h=>h) (i:=2) (x:=rD.2.2) rfl ?_
 have zown:∀ k,z.v.ownBlock=some k→n0≤k:=fun k e=>by obtain ⟨rs,o,_⟩:=ns; exact o.own k e
 refine forI (N:=rD.2.2.n) (fun s:Int=>s) (fun j s v=>s=(j:Int)∧Fr (Up n0) w2 v∧∃ L,NowS n n0 v z L∧LFit was.length (6+18 * j) L∧∀ now,PatchOk was gone come chg now→Holds (fun x:Ent=>x.1) L (chgP was now gone chg j))
  ⟨rfl,f2u.up,L,ns,lf,fun now hp=>Z105 (Nat.le_refl _) now chg (hL' now hp)⟩ (fun j s w' h=>h.1) ?_ ?_
 ·clear ns lf hL'
  clear L
  rintro j s v K' hj ⟨rfl,fv,L,ns,lf,hL'⟩ - hK
  obtain ⟨c,hc⟩:∃ c,chg[j]?=some c:=⟨_,List.getElem?_eq_getElem (by omega)⟩
  obtain ⟨q,hq,hqr⟩:=dd2.get hc
  have sv:=fv.size
  refine (dd1.fr fv lt).get rfl rfl (List.getElem?_eq_some_iff.1 hq).1 fun q' hq'=>?_
  rw [hq] at hq'
  cases hq'
  refine newI fun v1 C1 g1 y1=>stoAll C1 rfl rfl fun v2 C g2 y2=>?_
  have g02:Fr None v v2:=g1.newer g2 fun k e=>by omega
  have fv2:=fv.then g02.up
  obtain ⟨cfw,cset⟩:=hd2 c (List.mem_of_getElem? hc)
  obtain ⟨cb,cn,cs,cno,cso⟩:=cfw
  obtain ⟨q1,q2,q3,q4⟩:chgR (fun k=>k < n) v2 q c:=St.fr (A:=fun F w=>chgR F w q c) (Z2o q c) hqr fv2 lt
  obtain ⟨rs,o,eR⟩:=ns.fr0 g02
  have ll:=lf.1
  refine fldI C (i:=0) (x:=q.1) rfl (Z39 (ok:=fun _=>True) (o.sl.mono fun _ _ _=>trivial) (eR.mono fun _ _ _=>trivial) (by omega) fun v3 g3=>?_)
  rw [q1]
  have g03:=g02.then0 g3
  have fv3:=fv2.then g3.up
  rcases Zao (L:=L) (id:=c.1) with ⟨ef,hno⟩ | ⟨i,e,ef,he,hei⟩
  ·rw [ef]
   refine condT rfl (bad fv3 fun now hp=>?_)
   obtain ⟨a,b,ha,hb,e1,ce,la,lb,hal,_⟩:=Zpu hf hp hc (hL' now hp)
   exact Z4x.1 hno a hal e1
  rw [ef]
  refine condF (decide_eq_false (by omega)) ?_
  have cnd:∀ now,PatchOk was gone come chg now→∃ b,c=changeM e b∧listE e.2=0∧listE b.2=0∧Holds (fun x:Ent=>x.1) (L.set i (e.1,b.2)) (chgP was now gone chg (j+1)):=fun now hp=>by
   obtain ⟨a,b,ha,hb,e1,ce,la,lb,hal,hset⟩:=Zpu hf hp hc (hL' now hp)
   obtain ⟨rfl,h2⟩:=hset i e he hei
   exact ⟨b,ce,la,lb,h2⟩
  clear hL'
  obtain ⟨re,hre,re1,re2⟩:=eR.get he
  have ef6:=lf.2 e (List.mem_of_getElem? he)
  have o3':=o.none g3
  have re3:=re2.fr0 g3
  have C3:=C.fr g3 fun h=>h
  refine o3'.sl.readK rfl rfl hre fun ad had=>(had _ o3'.sl).fld (i:=1) (s:=.sl) (y:=re.2) rfl ?_
  refine forI (N:=8) (fun s:Sl × Int=>s.2) (fun k st v'=>st.2=(k:Int)∧Fr None v3 v'∧∃ l,SlT (fun k=>(k < n∨n0≤k)∧z.v.ownBlock≠some k) v' compT st.1 l∧CFit (6+18 * j) l∧∀ now,PatchOk was gone come chg now→Holds (fun x:Comp=>x.1) l (lostP e c k))
   ⟨rfl,Fr.refl _ _,e.2,re3,⟨ef6.2.1,ef6.2.2⟩,fun now hp=>by obtain ⟨b,_,le,_⟩:=cnd now hp; exact Zzg le c⟩ (fun j s w' h=>h.1) ?_ ?_
  ·rintro k ⟨t,_⟩ v4 K2 hk8 ⟨rfl,f4,l,tl,lfit,hl⟩ - hK2
   have olt:∀ k,z.v.ownBlock=some k→k < v3.heap.size:=fun k e=>o3'.lt e
   refine joinI (fun t' v5=>Fr None v3 v5∧∃ l,SlT (fun k=>(k < n∨n0≤k)∧z.v.ownBlock≠some k) v5 compT t' l∧CFit (6+18 * j) l∧∀ now,PatchOk was gone come chg now→Holds (fun x:Comp=>x.1) l (lostP e c (k+1))) ?_ fun t' v5 ⟨f5,h5⟩=>hK2 _ _ ⟨succ8 ⟨k,hk8⟩,f5,h5⟩
   refine fldI (C3.fr f4 fun h=>h) (i:=1) (x:=q.2.1) rfl (chkI (Int.natCast_nonneg k) ?_)
   rw [q2]
   have hbit:=Zxo ⟨c.2.1.toNat,by omega⟩ ⟨k,hk8⟩
   have hcast:((c.2.1.toNat:Nat):Int)=c.2.1:=by omega
   dsimp only at hbit
   rw [hcast] at hbit
   rw [hbit]
   refine condI (fun hb=>?_) fun hb=>?_
   ·have hb:c.2.1.toNat.testBit k=false:=by simpa using hb
    exact ⟨f4,l,tl,lfit,fun now hp=>by obtain ⟨b,_,le,_⟩:=cnd now hp; exact Zxn le (hl now hp) hb⟩
   ·have hb:c.2.1.toNat.testBit k=true:=by simpa using hb
    have ly:∀ now,PatchOk was gone come chg now→(∃ x∈l,x.1=(k:Int))∧Holds (fun x:Comp=>x.1) (l.filter fun c=>!(c.1 == (k:Int))) (lostP e c (k+1)):=fun now hp=>by
     obtain ⟨b,ce,le,lb,_⟩:=cnd now hp
     have h1:=hl now hp
     rw [ce] at h1 hb ⊢
     exact Zvi le h1 hk8 hb
    refine Z49 tl (by have:=lfit.1; show _≤_; omega) fun v5 g5=>?_
    refine condD (fun hlt=>bad ((fv3.then f4.up).then g5.up) fun now hp=>Zl9 (ly now hp).1 hlt) fun _=>?_
    refine Zk3 (tl.fr0 g5) (by have:=lfit.1; show _≤_; omega) fun t' v6 o6 g6=>?_
    have g46:=g5.then0 g6
    have z5:=(f4.then0 g5).size
    have z3:=fv3.size
    exact ⟨f4.then0 g46,_,o6.sl.mono fun k _ (h:v5.heap.size≤k)=>⟨by omega,fun e=>by have:=olt k e; omega⟩,⟨Nat.le_trans (List.length_filter_le _ _) lfit.1,fun x hx=>lfit.2 x (List.mem_filter.1 hx).1⟩,fun now hp=>(ly now hp).2⟩
  rintro ⟨t,_⟩ v4 ⟨-,f4,l,tl,lfit,hl⟩
  have olt:∀ k,z.v.ownBlock=some k→k < v3.heap.size:=fun k e=>o3'.lt e
  refine fldI (C3.fr f4 fun h=>h) (i:=2) (x:=q.2.2.1) rfl ?_
  have n3:=q3.len
  have n4:=q4.len
  refine forI (N:=q.2.2.1.n) (fun s:Sl × Int=>s.2) (fun k st v'=>st.2=(k:Int)∧Fr None v3 v'∧∃ l,SlT (fun k=>(k < n∨n0≤k)∧z.v.ownBlock≠some k) v' compT st.1 l∧CFit (6+18 * j+k) l∧∀ now,PatchOk was gone come chg now→Holds (fun x:Comp=>x.1) l (newP e c k))
   ⟨rfl,f4,l,tl,lfit,fun now hp=>by obtain ⟨b,_,le,_⟩:=cnd now hp; exact Z10c le (hl now hp)⟩ (fun j s w' h=>h.1) ?_ ?_
  ·clear tl lfit hl f4
   clear l v4 t
   rintro k ⟨t,_⟩ v4 K2 hk3 ⟨rfl,f4,l,tl,lfit,hl⟩ - hK2
   obtain ⟨y,hy⟩:∃ y,c.2.2.1[k]?=some y:=⟨_,List.getElem?_eq_getElem (by omega)⟩
   refine (q3.fr0 (g3.then0 f4)).get rfl rfl (by omega) fun y' hy'=>?_
   rw [hy] at hy'
   cases hy'
   refine newI fun v5 E1 g5 y5=>stoAll E1 rfl rfl fun v6 E g6 y6=>?_
   have g46:Fr None v4 v6:=g5.newer g6 fun k e=>by omega
   have gd:Fr None v6 v6.drew:=(Fr.refl _ _).drew
   have g4d:=g46.then0 gd
   have f3d:=f4.then0 g4d
   have od:=(o3'.none f3d).sl
   refine od.readK rfl rfl hre fun ad had=>(had _ od).fld (i:=1) (s:=.sl) (y:=re.2) rfl (fldI (E.fr gd fun h=>h) (i:=0) (x:=y.1) rfl ?_)
   refine Z49 (re3.fr0 f3d) (by have:=ef6.2.1; show _≤_; omega) fun v7 g7=>?_
   have ns:∀ now,PatchOk was gone come chg now→(∀ x∈e.2,x.1≠y.1)∧Holds (fun x:Comp=>x.1) (withM l y) (newP e c (k+1)):=fun now hp=>by
    obtain ⟨b,ce,le,lb,_⟩:=cnd now hp
    have h1:=hl now hp
    rw [ce] at h1 hy ⊢
    exact Zvp lb hy h1
   have f37:=f3d.then0 g7
   refine condD (fun hge=>bad (fv3.then f37.up) fun now hp=>by have:=Zv4 (ns now hp).1; omega) fun _=>?_
   refine aggI ((E.fr gd fun h=>h).fr g7 fun h=>h) (x:=y) rfl ?_
   refine Zjt (tl.fr0 (g4d.then0 g7)) (by have:=lfit.1; show _≤_; omega) fun t' v8 o8 g8=>?_
   have z7:=f37.size
   have z3:=fv3.size
   exact hK2 _ _ ⟨wsucc hk3 (by omega),f37.then0 g8,_,o8.sl.mono fun k _ (h:v7.heap.size≤k)=>⟨by omega,fun e=>by have:=olt k e; omega⟩,lfit.withM (cno y (List.mem_of_getElem? hy)),fun now hp=>(ns now hp).2⟩
  clear tl lfit hl f4
  clear l v4 t
  rintro ⟨t,_⟩ v4 ⟨-,f4,l,tl,lfit,hl⟩
  refine fldI (C3.fr f4 fun h=>h) (i:=3) (x:=q.2.2.2) rfl ?_
  refine forI (N:=q.2.2.2.n) (fun s:Sl × Int=>s.2) (fun k st v'=>st.2=(k:Int)∧Fr None v3 v'∧∃ l,SlT (fun k=>(k < n∨n0≤k)∧z.v.ownBlock≠some k) v' compT st.1 l∧CFit (6+18 * j+9+k) l∧∀ now,PatchOk was gone come chg now→Holds (fun x:Comp=>x.1) l (setP e c k))
   ⟨rfl,f4,l,tl,⟨by have:=lfit.1; omega,lfit.2⟩,fun now hp=>Z10n (by omega) (hl now hp)⟩ (fun j s w' h=>h.1) ?_ ?_
  ·clear tl lfit hl f4
   clear l v4 t
   rintro k ⟨t,_⟩ v4 K2 hk3 ⟨rfl,f4,l,tl,lfit,hl⟩ - hK2
   obtain ⟨y,hy⟩:∃ y,c.2.2.2[k]?=some y:=⟨_,List.getElem?_eq_getElem (by omega)⟩
   refine (q4.fr0 (g3.then0 f4)).get rfl rfl (by omega) fun y' hy'=>?_
   rw [hy] at hy'
   cases hy'
   refine newI fun v5 E1 g5 y5=>stoAll E1 rfl rfl fun v6 E g6 y6=>?_
   have g46:Fr None v4 v6:=g5.newer g6 fun k e=>by omega
   refine fldI E (i:=0) (x:=y.1) rfl ?_
   refine Z49 (tl.fr0 g46) (by have:=lfit.1; show _≤_; omega) fun v7 g7=>?_
   have ns:∀ now,PatchOk was gone come chg now→(∃ x∈l,x.1=y.1)∧Holds (fun x:Comp=>x.1) (withM l y) (setP e c (k+1)):=fun now hp=>by
    obtain ⟨b,ce,le,lb,_⟩:=cnd now hp
    have h1:=hl now hp
    rw [ce] at h1 hy ⊢
    exact Zwd le lb hy h1
   have f37:=(f4.then0 g46).then0 g7
   refine condD (fun hlt=>bad (fv3.then f37.up) fun now hp=>Zl9 (ns now hp).1 hlt) fun _=>?_
   refine aggI (E.fr g7 fun h=>h) (x:=y) rfl ?_
   refine Zjt (tl.fr0 (g46.then0 g7)) (by have:=lfit.1; show _≤_; omega) fun t' v8 o8 g8=>?_
   have z7:=f37.size
   have z3:=fv3.size
   exact hK2 _ _ ⟨wsucc hk3 (by omega),f37.then0 g8,_,o8.sl.mono fun k _ (h:v7.heap.size≤k)=>⟨by omega,fun e=>by have:=olt k e; omega⟩,lfit.withM (cso y (List.mem_of_getElem? hy)),fun now hp=>(ns now hp).2⟩
  clear tl lfit hl f4
  clear l v4 t
  rintro ⟨t,_⟩ v4 ⟨-,f4,l,tl,lfit,hl⟩
  refine Z10l (NowS.fr0 (NowS.fr0 (w:=v2) ⟨rs,o,eR⟩ g3) f4) he tl fun v5 ns5 g5=>?_
  refine hK _ _ ⟨wsucc hj (by omega),(fv3.then f4.up).then g5,_,ns5,Zzp lf (by omega) he ⟨by have:=lfit.1; omega,lfit.2⟩,fun now hp=>?_⟩
  obtain ⟨b,ce,le,lb,h5⟩:=cnd now hp
  have h1:=hl now hp
  have h6:l=b.2:=by
   rw [ce] at h1 n4
   exact Zy7 le lb (by omega) h1
  rw [h6]
  exact h5
 clear ns lf hL'
 clear L
 rintro s v ⟨-,fv,L,ns,lf,hL'⟩
 rw [hdl] at hL' lf
 have sv:=fv.size
 have B1v:=B1.frUp fv b1n
 refine fldI B1v (i:=1) (x:=rD.2.1) rfl ?_
 refine forI (N:=rD.2.1.n) (fun s:Sl × Int=>s.2) (fun j st u=>st.2=(j:Int)∧Fr None v u∧∃ L,NowS n n0 u st.1 L∧LFit (was.length+j) 1048576 L∧∀ now,PatchOk was gone come chg now→Holds (fun x:Ent=>x.1) L (comeP was now come j))
  ⟨rfl,Fr.refl _ _,L,ns,⟨by have:=lf.1; omega,fun e he=>by have:=lf.2 e he; exact ⟨this.1,by omega,this.2.2⟩⟩,fun now hp=>Zz5 hf hp (Nat.le_refl _) (hL' now hp)⟩ (fun j s w' h=>h.1) ?_ ?_
 ·clear ns lf hL'
  clear L
  rintro j ⟨y,_⟩ u1 K' hj ⟨rfl,g1,L,ns,lf,hL'⟩ - hK
  obtain ⟨e,he⟩:∃ e,come[j]?=some e:=⟨_,List.getElem?_eq_getElem (by omega)⟩
  obtain ⟨r,hr,r1,r2⟩:=dc2.get he
  have fu1:=fv.then g1.up
  refine (dc1.fr fu1 lt).get rfl rfl (List.getElem?_eq_some_iff.1 hr).1 fun r' hr'=>?_
  rw [hr] at hr'
  cases hr'
  refine newI fun u2 C1 g2 y2=>stoAll C1 rfl rfl fun u3 C g3 y3=>?_
  have g13:Fr None u1 u3:=g2.newer g3 fun k e=>by omega
  have fu3:=fu1.then g13.up
  refine fldI C (i:=0) (x:=r.1) rfl (Z39 (hS'.fr fu3 lt) (hE'.fr fu3 lt) (by omega) fun u4 g4=>?_)
  rw [r1]
  have fu4:=fu3.then g4.up
  have st:∀ now,PatchOk was gone come chg now→(∀ x∈was,x.1≠e.1)∧Holds (fun x:Ent=>x.1) (insG e false L) (comeP was now come (j+1)):=fun now hp=>Ztu hp he (hL' now hp)
  rcases Zao (L:=was) (id:=e.1) with ⟨ef,hno⟩ | ⟨i,a,ef,ha,hid⟩
  ·rw [ef]
   refine condF rfl ?_
   have s4:=fu4.size
   have ll:=lf.1
   refine Z10k ((ns.fr0 g13).fr0 g4) (by omega) (by omega) (C.fr g4 fun h=>h) r1 (r2.fr fu4 lt) hn0n fun z' u5 ns5 g5=>?_
   have:=hC e (List.mem_of_getElem? he)
   exact hK _ _ ⟨wsucc hj (by omega),((g1.then0 g13).then0 g4).then0 g5,_,ns5,Zxl lf ⟨this.1,this.2.1,this.2.2⟩,fun now hp=>(st now hp).2⟩
  ·rw [ef]
   refine condT (decide_eq_true (Int.natCast_nonneg i)) (bad fu4 fun now hp=>(st now hp).1 a (List.mem_of_getElem? ha) hid)
 clear ns lf hL'
 clear L
 rintro ⟨y,_⟩ u1 ⟨-,g1,L,⟨rs,o,eR⟩,lf,hL'⟩
 rw [hcl] at hL' lf
 have fu1:=fv.then g1.up
 have uniq:∀ now,PatchOk was gone come chg now→L=now:=fun now hp=>Zur hp (Nat.le_refl _) (hL' now hp)
 have lfit:∀ e∈L,EntFit e:=fun e he=>lf.2 e he
 have llen:=lf.1
 have f03:Fr None w u1:=f02.thenUp fu1 (by omega)
 refine Zhq (ok2:=fun _=>True) (hS'.fr fu1 lt) (hE'.fr fu1 lt) (o.sl.mono fun _ _ _=>trivial) (eR.mono fun _ _ _=>trivial) (by omega) (by omega) hL lfit (fun hbad u4 g4=>?_) fun hgood rr u4 dr g4=>?_
 ·refine newI fun u5 B5 g5 y5=>stoAll B5 rfl rfl fun u6 B6 g6 y6=>?_
  have f06:=(f03.then0 g4).then0 (g5.newer g6 fun k e=>by omega)
  refine joinI (fun z v=>z=true∧v=u6) (condT (by simpa using hbad) ⟨rfl,rfl⟩) ?_
  rintro z v ⟨rfl,rfl⟩
  refine condT rfl (h0 (fun now hp2=>?_) _ f06)
  have:=uniq now hp2
  subst this
  refine hbad ?_
  unfold diffE
  rw [if_neg (by rw [formOk.2 hf]; simp)]
  exact formOk.2 hp2.form
 ·refine newI fun u5 B5 g5 y5=>stoAll B5 rfl rfl fun u6 B6 g6 y6=>?_
  have g46:Fr None u4 u6:=g5.newer g6 fun k e=>by omega
  have g36:=g4.then0 g46
  have f06:=f03.then0 g36
  have B16:=(B1v.fr g1 fun h=>h).fr g36 fun h=>h
  refine joinI (fun z v=>(z=!decide (goneM was L=gone∧comeM was L=come∧chgsM was L=chg))∧Fr None u6 v) (condF rfl ?_) ?_
  ·refine aggI B6 (x:=rr) rfl (aggI B16 (x:=rD) rfl ?_)
   have fl:∀ e∈comeM was L,Small e.2:=fun e he=>(lfit e (List.mem_filter.1 he).1).2.1
   have cl:(comeM was L).length≤L.length:=List.length_filter_le _ _
   have gl:(goneM was L).length≤was.length:=by unfold goneM; rw [List.length_map]; exact List.length_filter_le _ _
   have dl:(chgsM was L).length≤L.length:=Z6z _ _
   have ds:∀ d∈chgsM was L,Small d.2.2.1∧Small d.2.2.2:=fun d hd=>by
    obtain ⟨b,hb,h2⟩:=List.mem_filterMap.1 hd
    obtain ⟨_,a,ha,_,h3,_⟩:=Z5k h2
    have hb2:=(lfit b hb).2.1
    rw [h3]
    exact ⟨Nat.le_trans (Zin _ _) hb2,Nat.le_trans (Znc _ _) hb2⟩
   refine Zp3 (ok2:=fun k=>k < n) (DltR.st.fr0 dr g46) (DltR.st.fr0 (DltR.st (show DltR (fun k=>k < n) w2 rD gone come chg from ⟨dg,⟨rc,dc1,dc2⟩,⟨rd,dd1,dd2⟩⟩) fu1 fun k _ e=>⟨lt k e,e⟩) g36) ⟨by show _≤_; omega,by omega,by omega⟩ fl ds fun u7 g7=>⟨rfl,g7⟩
  rintro _ u7 ⟨rfl,g7⟩
  have f07:=f06.then0 g7
  have hdl:=Zic hgood
  refine condI (fun hb=>?_) fun hb=>?_
  ·have hb:¬ (goneM was L=gone∧comeM was L=come∧chgsM was L=chg):=of_decide_eq_false (by rw [Bool.not_eq_true'] at hb; exact hb)
   refine h0 (fun now hp2=>?_) _ f07
   have:=uniq now hp2
   subst this
   exact hb ⟨hp2.gone,hp2.come,hp2.chg⟩
  ·have hb:goneM was L=gone∧comeM was L=come∧chgsM was L=chg:=of_decide_eq_true (by rw [Bool.not_eq_false'] at hb; exact hb)
   have g37:=g36.then0 g7
   refine Zad (ok:=fun _=>True) ((o.none g37).sl.mono fun _ _ _=>trivial) ((eR.fr g37 fun _ _ h=>h).mono fun _ _ _=>trivial) (by omega) (fun e he=>(lfit e he).2.1) fun r8 raws8 u8 o8 e8 g8=>?_
   have s7:=f07.size
   exact hk L ⟨hdl,hb.1,hb.2.1,hb.2.2⟩ lfit llen r8 raws8 u8 (o8.mono fun k _ (e:u7.heap.size≤k)=>by show w.heap.size≤k; omega) (e8.mono fun k _ (e:u7.heap.size≤k)=>by show w.heap.size≤k; omega) (f07.then0 g8)
end Go.Proofs.YtchhhjlpnecjkaaGreat
namespace Go.Proofs.YtchhhjlpnecjkaaGreat
open Go Go.RowKit Go.Proofs.YtchhhjlpnecjkaaGreat.Den
variable {R:Type} {Q:R→World→Prop} {w:World}
theorem Zsg (v:Nat):∀ n,bitsOf (v % 2 ^ n) n=bitsOf v n:=by
 intro n
 have:∀ k,k≤n→bitsOf (v % 2 ^ n) k=bitsOf v k:=by
  intro k
  induction k with
  | zero=>intro _; rfl
  | succ k ih =>
   intro hk
   rw [bitsOf,bitsOf,ih (by omega),Nat.testBit_mod_two_pow]
   simp [show k < n by omega]
 exact this n (Nat.le_refl _)
theorem freshL {ok:Nat→Prop} {s:Sl} {l:List Bool} (hS:SlT ok w boolT s l) (hm:l.length≤1048576) {K:Sl→W R} (hk:∀ r w',Own (Up w.heap.size) w' 4 boolT r l→Fr None w w'→K r Q w') :
  newW 4 [] (fun x=>rawW Tryz.prog (Builtin.append_ #[70,70] 70 #[.slice (some x) 0 0,.slice s.a s.n s.c]) [.sc .sl] K) Q w:=by
 refine newI fun w1 B1 f1 s1=>?_
 have own:=Own.mk' (S:=Up w.heap.size) (w:=w1) (E:=4) (t:=boolT) (l:=[]) (g:=w.heap.size) (c:=0) (cur:=⟨[]⟩) (Nat.le_refl _) B1 (Nat.le_refl _) (Nat.zero_le _) (by simp) (by simp)
 refine appI (s:=⟨some ⟨w.heap.size,0,none⟩,0,0⟩) (s2:=s) (S':=Up w.heap.size) Z6g own (hS.fr0 f1) (by simp; omega) (by rw [Zm]; simp; omega) (fun _ h=>h) (by show _≤_; omega) fun r w2 o2 f2 s2=>hk r w2 (by simpa using o2) (f1.newer f2 (fun x e=>own.own x e))
theorem Zyl (v i:Nat):(Int.tmod ((v / 2 ^ i:Nat):Int) 2 == 1)=v.testBit i:=by
 rw [Nat.testBit_eq_decide_div_mod_eq]
 generalize v / 2 ^ i=q
 rw [Int.tmod_eq_emod_of_nonneg (by omega),Bool.eq_iff_iff]
 simp only [decide_eq_true_eq,beq_iff_eq]
 omega
theorem Zv8 {v i:Nat} (hv:v < 18446744073709551616):IntKind.wrap .u64 (Int.tdiv ((v / 2 ^ i:Nat):Int) 2)=((v / 2 ^ (i+1):Nat):Int):=by
 have h:v / 2 ^ i≤18446744073709551615:=Nat.le_trans (Nat.div_le_self _ _) (by omega)
 rw [Nat.pow_succ,← Nat.div_div_eq_div_mul]
 generalize v / 2 ^ i=q at h
 rw [Int.tdiv_eq_ediv_of_nonneg (by omega),wU64 (by omega)]
 omega
theorem Z5b {ok:Nat→Prop} {s:Sl} {l:List Bool} (hS:SlT ok w boolT s l) {v:Nat} {n:Nat} (hn:n≤64) (hv:v < 2 ^ n) (hm:l.length+n≤1048576) {K:Res [.sc .sl,.sc (.int .i64)]→W R} (hk:∀ r w',Own (Up w.heap.size) w' 4 boolT r (l ++ bitsOf v n)→Fr None w w'→K (r,0) Q w') :
  callW Tryz.prog Zh [.slice s.a s.n s.c,.int .u64 (v:Int),.int .i64 (n:Int)] [.sc .sl,.sc (.int .i64)] K Q w:=by
 refine Zgg s _ _ K Q w ?_
 unfold Z9f
 have hv64:v < 18446744073709551616:=Nat.lt_of_lt_of_le hv (Nat.le_trans (Nat.pow_le_pow_right (by decide) hn) (by decide))
 refine joinI (fun z u=>z=false∧w=u) ?_ ?_
 ·exact condF (decide_eq_false (by omega)) ⟨decide_eq_false (by omega),rfl⟩
 rintro z u ⟨rfl,rfl⟩
 refine condF rfl (freshL hS (by omega) fun x w1 o1 f1=>?_)
 refine forI (N:=n) (fun s:Int × Sl × Int=>s.2.2) (fun j st u=>st.2.2=(j:Int)∧st.1=((v / 2 ^ j:Nat):Int)∧Own (Up w.heap.size) u 4 boolT st.2.1 (l ++ bitsOf v j)∧Fr None w u) ⟨rfl,by simp,by simpa [bitsOf] using o1,f1⟩ (fun j s w' h=>h.1) ?_ ?_
 ·rintro j ⟨a,z,_⟩ u K' hj ⟨rfl,rfl,o,fu⟩ - hK
  have hz:=fu.size
  have hl:=Z4 v j
  refine appP (x:=(Int.tmod ((v / 2 ^ j:Nat):Int) 2 == 1)) Z6g rfl o (fun k e=>by show w.heap.size≤k; omega) (by simp only [List.length_append,hl]; omega) (by simp only [List.length_append,hl]; omega) fun r u2 o2 f2=>?_
  refine hK _ _ ⟨wsucc hj (by omega),Zv8 hv64,?_,fu.newer f2 fun k e=>o.own k e⟩
  rw [Zyl,List.append_assoc] at o2
  exact o2
 ·rintro ⟨a,z,_⟩ u ⟨_,rfl,o,fu⟩
  have hl:=Z4 v n
  have hzn:=o.len
  rw [List.length_append,hl] at hzn
  refine condN (fun hne=>?_) fun _=>?_
  ·have:v / 2 ^ n=0:=Nat.div_eq_of_lt hv
   have hne:((v / 2 ^ n:Nat):Int)≠0:=hne
   omega
  ·refine condF (decide_eq_false ?_) (hk z u o fu)
   show ¬ (z.n:Int) > 1048576
   have hzn:z.n=l.length+n:=hzn
   omega
theorem Zm2 {n:Int} (hn:-4611686018427387904≤n∧n≤4611686018427387903) {K:Res [.sc (.int .u64)]→W R} (hk:K (zigM n) Q w):callW Tryz.prog Z3u [.int .i64 n] [.sc (.int .u64)] K Q w:=by
 refine Zgj _ K Q w ?_
 unfold Z9i
 unfold zigM at hk
 refine condD (fun h=>?_) fun h=>?_
 ·rw [if_neg (by omega)] at hk
  rw [w64 (x:=-1 - n) (by omega),wU64 (x:=-1 - n) (by omega),wU64 (x:=2 * (-1 - n)) (by omega),wU64 (by omega)]
  have:2 * (-1 - n)+1=-2 * n - 1:=by omega
  rw [this]
  exact hk
 ·rw [if_pos (by omega)] at hk
  rw [wU64 (x:=n) (by omega),wU64 (by omega)]
  exact hk
theorem Zht {lo hi:Int} (h1:-9223372036854775808≤lo∧lo≤9223372036854775807) (h2:-9223372036854775808≤hi∧hi≤9223372036854775807) {K:Res [.sc (.int .i64)]→W R} (hk:K (widthM lo hi:Int) Q w):callW Tryz.prog Z2k [.int .i64 lo,.int .i64 hi] [.sc (.int .i64)] K Q w:=by
 refine Zdv _ _ K Q w ?_
 unfold Z7h
 refine joinI (fun z u=>z=(widthM lo hi:Int)∧w=u) ?_ fun z u ⟨hz,hu⟩=>by subst hz; subst hu; exact hk
 refine condD (fun h=>?_) fun h=>?_
 ·have h:lo≤hi:=h
  rw [Zd7 h1.1 h h2.2]
  have hw:widthM lo hi=Lib.bitLen (hi - lo).toNat:=by unfold widthM; rw [if_neg (by omega)]
  rw [hw]
  obtain ⟨D,hD⟩:∃ D,D=(hi - lo).toNat:=⟨_,rfl⟩
  have hD2:D < 18446744073709551616:=by omega
  have e:hi - lo=(D:Int):=by omega
  rw [e,Int.toNat_natCast]
  have hb:Lib.bitLen D≤64:=Lib.bitLen_le D 64 (by omega) (by omega)
  refine loopI (fun (st:Int × Int) u=>w=u∧∃ k d:Nat,st=((k:Int),(d:Int))∧d≤D∧k+Lib.bitLen d=Lib.bitLen D) (fun st _=>st.2.toNat) ⟨rfl,0,D,rfl,Nat.le_refl _,by omega⟩ ?_
  rintro st u ⟨rfl,k,d,rfl,hd,hkd⟩
  dsimp only
  refine condD (fun hp=>?_) fun hp=>?_
  ·have hp:(d:Int) > 0:=hp
   have h2:=Lib.bitLen_half d (by omega) (by omega)
   rw [Int.tdiv_eq_ediv_of_nonneg (by omega),wU64 (x:=(d:Int) / 2) (by omega),w64 (by omega)]
   refine ⟨⟨rfl,k+1,d / 2,by congr 1,by omega,by omega⟩,by omega⟩
  ·have hp:¬ (d:Int) > 0:=hp
   have:d=0:=by omega
   subst this
   have h0:Lib.bitLen 0=0:=by decide +kernel
   exact ⟨by rw [h0] at hkd; omega,rfl⟩
 ·unfold widthM
  rw [if_pos (by have h:¬ hi ≥ lo:=h; omega)]
  exact ⟨rfl,rfl⟩
theorem Zdj {n lo hi:Int} (h1:-9223372036854775808≤lo) (h2:lo≤n) (h3:n≤hi) (h4:hi≤9223372036854775807) {K:Res [.sc .sl,.sc (.int .i64)]→W R} (hk:∀ r w',Own (Up w.heap.size) w' 4 boolT r (inB n lo hi)→Fr None w w'→K (r,0) Q w') :
  callW Tryz.prog Z20 [.int .i64 n,.int .i64 lo,.int .i64 hi] [.sc .sl,.sc (.int .i64)] K Q w:=by
 refine Zi3 _ _ _ K Q w ?_
 unfold Zak
 refine condF (decide_eq_false (by omega)) ?_
 refine joinI (fun z u=>z=false∧w=u) ?_ ?_
 ·exact condF (decide_eq_false (by omega)) ⟨decide_eq_false (by omega),rfl⟩
 rintro z u ⟨rfl,rfl⟩
 refine condF rfl (Zht (by omega) (by omega) ?_)
 rw [Zd7 h1 h2 (by omega)]
 have hw:=Zpd h2 h3 (by omega)
 have hl:=Z3b (lo:=lo) (hi:=hi) (by omega)
 have e:n - lo=(((n - lo).toNat:Nat):Int):=by omega
 rw [e]
 exact Z5b (s:=⟨none,0,0⟩) (l:=[]) (ok:=None) (SlT.nil _) hl (by simpa using hw) (by simp; omega) fun r w' o f=>hk r w' (by simpa [inB] using o) f
theorem Zfo {v j:Nat} (hv:v < 18446744073709551616):j+1 < groupsM v↔0 < v / 2 ^ (4 * (j+1)):=by
 unfold groupsM
 rcases Nat.eq_zero_or_pos v with rfl | hp
 ·have h0:Lib.bitLen 0=0:=by decide +kernel
  rw [h0]
  simp
 ·obtain ⟨h1,h2,h3⟩:=Lib.bitLenAux_bounds 64 v hv (by omega)
  have h1:1≤Lib.bitLen v:=h1
  have h2:2 ^ (Lib.bitLen v - 1)≤v:=h2
  have h3:v < 2 ^ Lib.bitLen v:=h3
  constructor
  ·intro h
   refine Nat.div_pos (Nat.le_trans (Nat.pow_le_pow_right (by decide) (by omega)) h2) (Nat.two_pow_pos _)
  ·intro h
   refine Classical.byContradiction fun hc=>?_
   have:v < 2 ^ (4 * (j+1)):=Nat.lt_of_lt_of_le h3 (Nat.pow_le_pow_right (by decide) (by omega))
   rw [Nat.div_eq_of_lt this] at h
   omega
theorem Zxh {v j:Nat} (hv:v < 18446744073709551616):bitsOf (grpV v (groupsM v) j) 5=bitsOf (v / 2 ^ (4 * j)) 4 ++ [decide (0 < v / 2 ^ (4 * (j+1)))]:=by
 have h5:∀ x:Nat,bitsOf x 5=bitsOf x 4 ++ [x.testBit 4]:=fun x=>rfl
 rw [h5]
 have hq:grpV v (groupsM v) j % 2 ^ 4=v / 2 ^ (4 * j) % 2 ^ 4:=by
  unfold grpV
  show _ % 16=_ % 16
  split <;> omega
 congr 1
 ·rw [← Zsg _ 4,hq,Zsg]
 ·rw [Nat.testBit_eq_decide_div_mod_eq]
  congr 1
  rw [decide_eq_decide,← Zfo hv]
  unfold grpV
  show _ / 16 % 2=1↔_
  split <;> omega
theorem Z5c {v:Nat} (hv:v < 18446744073709551616) {K:Res [.sc .sl]→W R} (hk:∀ r w',Own (Up w.heap.size) w' 4 boolT r (varB v)→Fr None w w'→K r Q w') :
  callW Tryz.prog Zi [.int .u64 (v:Int)] [.sc .sl] K Q w:=by
 refine Zgh _ K Q w ?_
 unfold Z9g
 have hg:=Z67 (v:=(v:Int)) (by omega) (by omega)
 rw [Int.toNat_natCast] at hg
 refine loopI (fun (st:Int × Sl) u=>∃ j:Nat,j < groupsM v∧st.1=((v / 2 ^ (4 * j):Nat):Int)∧Own (Up w.heap.size) u 4 boolT st.2 (varL v (groupsM v) j)∧Fr None w u) (fun st _=>st.1.toNat) ⟨0,by omega,by simp,Own.nil _ _ _ _,Fr.refl _ _⟩ ?_
 rintro ⟨a,s⟩ u ⟨j,hj,rfl,o,fu⟩
 dsimp only at o ⊢
 have hl:=Zkk v (groupsM v) j
 have hvj:v / 2 ^ (4 * j) < 18446744073709551616:=Nat.lt_of_le_of_lt (Nat.div_le_self _ _) hv
 refine forI (N:=4) (fun s:Int × Sl × Int=>s.2.2) (fun i st u=>st.2.2=(i:Int)∧st.1=((v / 2 ^ (4 * j) / 2 ^ i:Nat):Int)∧Own (Up w.heap.size) u 4 boolT st.2.1 (varL v (groupsM v) j ++ bitsOf (v / 2 ^ (4 * j)) i)∧Fr None w u) ⟨rfl,by simp,by simpa [bitsOf] using o,fu⟩ (fun j s w' h=>h.1) ?_ ?_
 ·rintro i ⟨a,z,_⟩ u K' hi ⟨rfl,rfl,o,fu⟩ - hK
  have hz:=fu.size
  have hli:=Z4 (v / 2 ^ (4 * j)) i
  refine appP (x:=(Int.tmod ((v / 2 ^ (4 * j) / 2 ^ i:Nat):Int) 2 == 1)) Z6g rfl o (fun k e=>by show w.heap.size≤k; omega) (by simp only [List.length_append,hli,hl]; omega) (by simp only [List.length_append,hli,hl]; omega) fun r u2 o2 f2=>?_
  refine hK _ _ ⟨wsucc hi (by omega),Zv8 hvj,?_,fu.newer f2 fun k e=>o.own k e⟩
  rw [Zyl,List.append_assoc] at o2
  exact o2
 ·rintro ⟨a,z,_⟩ u ⟨_,rfl,o,fu⟩
  have hz:=fu.size
  have e16:v / 2 ^ (4 * j) / 2 ^ 4=v / 2 ^ (4 * (j+1)):=by rw [Nat.div_div_eq_div_mul,← Nat.pow_add]; rfl
  dsimp only
  rw [e16]
  have hli:=Z4 (v / 2 ^ (4 * j)) 4
  have eb:decide (((v / 2 ^ (4 * (j+1)):Nat):Int) > 0)=decide (0 < v / 2 ^ (4 * (j+1))):=decide_eq_decide.2 (by omega)
  rw [eb]
  refine appP (x:=decide (0 < v / 2 ^ (4 * (j+1)))) Z6g rfl o (fun k e=>by show w.heap.size≤k; omega) (by simp only [List.length_append,hli,hl]; omega) (by simp only [List.length_append,hli,hl]; omega) fun r u2 o2 f2=>?_
  rw [List.append_assoc,← Zxh hv] at o2
  have o2:Own (Up w.heap.size) u2 4 boolT r (varL v (groupsM v) (j+1)):=o2
  have f2':=fu.newer f2 fun k e=>o.own k e
  refine condE (fun h0=>?_) fun h0=>?_
  ·have hn:=Zfo (j:=j) hv
   have:j+1=groupsM v:=by
    have h0:v / 2 ^ (4 * (j+1))=0:=by exact_mod_cast h0
    have:=fun h=>Nat.not_lt_zero 0 (h0 ▸ hn.1 h)
    omega
   rw [this] at o2
   exact hk r u2 o2 f2'
  ·have hn:=Zfo (j:=j) hv
   have hpos:0 < v / 2 ^ (4 * (j+1)):=Nat.pos_of_ne_zero fun h=>h0 (by rw [h]; rfl)
   refine ⟨⟨j+1,hn.2 hpos,rfl,o2,f2'⟩,?_⟩
   simp only [Int.toNat_natCast]
   rw [← e16]
   have:0 < v / 2 ^ (4 * j):=by rw [← e16] at hpos; exact Nat.lt_of_lt_of_le hpos (Nat.div_le_self _ _)
   exact Nat.div_lt_self this (by decide)
end Go.Proofs.YtchhhjlpnecjkaaGreat
namespace Go.Proofs.YtchhhjlpnecjkaaGreat
open Go Go.RowKit Go.Proofs.YtchhhjlpnecjkaaGreat.Den
variable {R:Type} {Q:R→World→Prop} {w:World}
theorem appB {n:Nat} {ok:Nat→Prop} {s s2:Sl} {l l2:List Bool} (h:Own (Up n) w 4 boolT s l) (hn:n≤w.heap.size) (h2:SlT ok w boolT s2 l2) (hm:l.length+l2.length≤140737488355328) {K:Sl→W R} (hk:∀ r w',Own (Up n) w' 4 boolT r (l ++ l2)→Fr (Up n) w w'→K r Q w') :
  rawW Tryz.prog (Builtin.append_ #[70,70] 70 #[.slice s.a s.n s.c,.slice s2.a s2.n s2.c]) [.sc .sl] K Q w :=
 appI Z6g (S':=Up n) h h2 (by omega) (by rw [Zm]; omega) (fun _ h=>h) (by show n≤_; exact hn) fun r w' o f _=>hk r w' o (f.sub fun k e=>h.own k e)
theorem Zif (n lo hi:Int):(inB n lo hi).length=widthM lo hi:=Z4 _ _
theorem Z74 (p:Part):(partB p).length=p.2.toNat:=Z4 _ _
theorem Zb6 {α β:Type} (f:α→List β) (m:Nat):∀ l:List α,(∀ a∈l,(f a).length≤m)→(l.flatMap f).length≤m * l.length
 | [],_=>by simp
 | a :: r,h=>by
  have h1:=h a List.mem_cons_self
  have h2:=Zb6 f m r fun x hx=>h x (List.mem_cons_of_mem _ hx)
  rw [List.flatMap_cons,List.length_append,List.length_cons,Nat.mul_succ]
  omega
theorem Zsd {c:Comp} (h:checkM c=0) (hc:CompOk c) {K:Res [.sc .sl,.sc (.int .i64)]→W R} (hk:∀ r w',Own (Up w.heap.size) w' 4 boolT r (compB c)→Fr None w w'→K (r,0) Q w') :
  callW Tryz.prog Z5q [.agg ⟨compC c⟩] [.sc .sl,.sc (.int .i64)] K Q w:=by
 refine Zgm c K Q w ?_
 unfold Z9l
 have hcn:=Z45 c.1
 refine newI fun w1 B1 f1 z1=>aggI B1 (x:=c) rfl (Z5y hc.1.1 fun w2 f2=>?_)
 rw [h]
 have f02:=f1.then0 f2
 refine condF rfl (fldI (B1.fr f2 fun h=>h) (i:=0) (x:=c.1) rfl (Z3a hc.1.1 fun w3 f3=>?_))
 have f03:=f02.then0 f3
 have B3:=(B1.fr f2 fun h=>h).fr f3 fun h=>h
 have hz3:=f03.size
 refine forI (N:=cntM c.1) (fun s:Sl × Int=>s.2) (fun j st u=>st.2=(j:Int)∧Own (Up w3.heap.size) u 4 boolT st.1 ((List.range j).flatMap fun i=>partB (fieldP c i))∧Fr None w3 u) ⟨rfl,Own.nil _ _ _ _,Fr.refl _ _⟩ (fun j s w' h=>h.1) ?_ ?_
 ·rintro j ⟨a,_⟩ u K' hj ⟨rfl,o,fu⟩ - hK
  have Bu:=B3.fr fu fun h=>h
  obtain ⟨h1,h2⟩:=Zoa h hj
  obtain ⟨r1,r2⟩:=Z19 c.1 (j:Int)
  refine fldI Bu (i:=0) (x:=c.1) rfl (Z5z hc.1.1 fun u2 g2=>?_)
  refine fIdx rfl (by omega) (fld0 (Bu.fr g2 fun h=>h) (x:=fl c j) (Z1u c (by omega)) ?_)
  have hfl:=flI hc j
  rw [w64 (x:=fl c j) (by omega),w64 (x:=(rangeM c.1 (j:Int)).1) (by omega),w64 (x:=(rangeM c.1 (j:Int)).2.1) (by omega)]
  refine Zdj (by omega) h1 h2 (by omega) fun r u3 o3 g3=>?_
  have g23:=g2.then0 g3
  have hzu:=fu.size
  have hz2:=g2.size
  have hz3':=g3.size
  have hl:((List.range j).flatMap fun i=>partB (fieldP c i)).length≤64 * (List.range j).length:=Zb6 _ 64 _ fun i hi=>by
   obtain ⟨q1,q2⟩:=Z19 c.1 (i:Int)
   have:=Z3b (lo:=(rangeM c.1 (i:Int)).1) (hi:=(rangeM c.1 (i:Int)).2.1) (by omega)
   rw [Z74]
   unfold fieldP
   rw [Int.toNat_natCast]
   exact this
  rw [List.length_range] at hl
  have hw:=Z3b (lo:=(rangeM c.1 (j:Int)).1) (hi:=(rangeM c.1 (j:Int)).2.1) (by omega)
  have hil:=Zif (fl c j) (rangeM c.1 (j:Int)).1 (rangeM c.1 (j:Int)).2.1
  refine appB (o.none g23) (by omega) o3.sl (by omega) fun r2 u4 o4 g4=>?_
  refine hK _ _ ⟨wsucc hj (by omega),?_,(fu.then0 g23).newer g4 fun k e=>e⟩
  rw [List.range_succ,List.flatMap_append,List.flatMap_cons,List.flatMap_nil,List.append_nil,fieldB h1 h2]
  exact o4
 ·rintro ⟨a,_⟩ u ⟨_,o,fu⟩
  refine hk a u ?_ (f03.then0 fu)
  rw [Zsl]
  exact o.up hz3
theorem Zqv {was c:Comp} (h:pairM was c=0) (hw:CompOk was) (hc:CompOk c) {K:Res [.sc .sl,.sc (.int .i64)]→W R} (hk:∀ r w',Own (Up w.heap.size) w' 4 boolT r (stepB2 was c)→Fr None w w'→K (r,0) Q w') :
  callW Tryz.prog Z33 [.agg ⟨compC was⟩,.agg ⟨compC c⟩] [.sc .sl,.sc (.int .i64)] K Q w:=by
 refine Zf7 was c K Q w ?_
 unfold Z8l
 have hcw:checkM was=0:=by unfold pairM at h; split at h <;> omega
 obtain ⟨hk1,hcc⟩:=Zvz h
 have hcn:=Z45 c.1
 refine newI fun w1 B1 f1 z1=>newI fun w2 B2 f2 z2=>?_
 have B1:=B1.fr f2 fun h=>h
 refine aggI B1 (x:=was) rfl (Z5y hw.1.1 fun w3 f3=>?_)
 rw [hcw]
 have B1:=B1.fr f3 fun h=>h
 have B2:=B2.fr f3 fun h=>h
 refine condF rfl (aggI B2 (x:=c) rfl (Z5y hc.1.1 fun w4 f4=>?_))
 rw [hcc]
 have B1:=B1.fr f4 fun h=>h
 have B2:=B2.fr f4 fun h=>h
 refine condF rfl (fldI B1 (i:=0) (x:=was.1) rfl (fldI B2 (i:=0) (x:=c.1) rfl ?_))
 refine condF (by simp [hk1]) (fldI B2 (i:=0) (x:=c.1) rfl (Z3a hc.1.1 fun w5 f5=>?_))
 have B1:=B1.fr f5 fun h=>h
 have B2:=B2.fr f5 fun h=>h
 have f05:=(((f1.then0 f2).then0 f3).then0 f4).then0 f5
 have hz5:=f05.size
 refine forI (N:=cntM c.1) (fun s:Sl × Int=>s.2) (fun j st u=>st.2=(j:Int)∧Own (Up w5.heap.size) u 4 boolT st.1 ((List.range j).flatMap fun i=>(oneP was c i).flatMap partB)∧Fr None w5 u) ⟨rfl,Own.nil _ _ _ _,Fr.refl _ _⟩ (fun j s w' h=>h.1) ?_ ?_
 ·rintro j ⟨a,_⟩ u K' hj ⟨rfl,o,fu⟩ - hK
  have fd:Fr None u u.drew:=(Fr.refl _ _).drew
  have fud:=fu.then0 fd
  have o:=o.none fd
  have B1u:=B1.fr fud fun h=>h
  have B2u:=B2.fr fud fun h=>h
  have hzu:w5.heap.size≤u.drew.heap.size:=fud.size
  obtain ⟨h1,h2⟩:=Zoa hcc hj
  obtain ⟨r1,r2⟩:=Z19 c.1 (j:Int)
  have hflc:=flI hc j
  have hflw:=flI hw j
  have hzn:=Zzw (fl c j - fl was j)
  have hwd:=Z3b (lo:=(rangeM c.1 (j:Int)).1) (hi:=(rangeM c.1 (j:Int)).2.1) (by omega)
  have hl:((List.range j).flatMap fun i=>(oneP was c i).flatMap partB).length≤1000 * (List.range j).length:=Zb6 _ 1000 _ fun i hi=>by
   obtain ⟨q1,q2⟩:=Z19 c.1 (i:Int)
   have:=Z3b (lo:=(rangeM c.1 (i:Int)).1) (hi:=(rangeM c.1 (i:Int)).2.1) (by omega)
   unfold oneP
   split
   ·simp [Z74]
   ·split
    ·simp [Z74]
    ·simp only [List.flatMap_cons,List.flatMap_nil,List.length_append,Z74,List.length_nil]
     unfold fieldP
     rw [Int.toNat_natCast]
     show 1+(1+(widthM (rangeM c.1 (i:Int)).1 (rangeM c.1 (i:Int)).2.1+0))≤1000
     omega
  rw [List.length_range] at hl
  refine joinI (fun z v=>Own (Up w5.heap.size) v 4 boolT z ((List.range (j+1)).flatMap fun i=>(oneP was c i).flatMap partB)∧Fr None w5 v) ?_ ?_
  ·refine fIdx rfl (by omega) (fld0 B2u (x:=fl c j) (Z1u c (by omega)) ?_)
   refine fIdx rfl (by omega) (fld0 B1u (x:=fl was j) (Z1u was (by omega)) ?_)
   rw [w64 (x:=fl c j) (by omega),w64 (x:=fl was j) (by omega),w64 (x:=fl c j - fl was j) (by omega)]
   refine Zm2 (by omega) ?_
   rw [List.range_succ,List.flatMap_append,List.flatMap_cons,List.flatMap_nil,List.append_nil]
   have p1:∀ b:Bool,partB ((if b then 1 else 0:Int),1)=[b]:=fun b=>by cases b <;> rfl
   refine appP (x:=decide (zigM (fl c j - fl was j) > 0)) Z6g rfl o (fun k e=>by show w5.heap.size≤k; omega) (by omega) (by omega) fun r u2 o2 g2=>?_
   have fu2:=fud.newer g2 fun k e=>o.own k e
   refine condE (fun hz=>?_) fun hz=>?_
   ·refine ⟨?_,fu2⟩
    unfold oneP
    rw [if_pos hz]
    rw [show decide (zigM (fl c j - fl was j) > 0)=false from decide_eq_false (by omega)] at o2
    exact o2
   ·have e1:decide (zigM (fl c j - fl was j) > 0)=true:=decide_eq_true (by omega)
    rw [e1] at o2
    have hzu2:=g2.size
    have hlen2:((List.range j).flatMap fun i=>(oneP was c i).flatMap partB).length+1≤4000:=by omega
    refine appP (x:=decide (zigM (fl c j - fl was j)≤16)) Z6g rfl o2 (fun k e=>by show w5.heap.size≤k; omega) (by simp only [List.length_append,List.length_singleton]; omega) (by simp only [List.length_append,List.length_singleton]; omega) fun r3 u3 o3 g3=>?_
    have fu3:=fu2.newer g3 fun k e=>o2.own k e
    have hzu3:=g3.size
    refine condD (fun hn=>?_) fun hn=>?_
    ·have e4:IntKind.wrap .u64 (zigM (fl c j - fl was j) - 1)=(((zigM (fl c j - fl was j) - 1).toNat:Nat):Int):=by rw [wU64 (by omega)]; omega
     rw [e4]
     refine Z5b (n:=4) o3.sl (by omega) (by show _ < 16; omega) (by simp only [List.length_append,List.length_singleton]; omega) fun r4 u4 o4 g4=>⟨?_,fu3.then0 g4⟩
     have o4:=o4.up (m:=w5.heap.size) (by omega)
     unfold oneP
     rw [if_neg hz,if_pos hn]
     rw [show decide (zigM (fl c j - fl was j)≤16)=true from decide_eq_true hn] at o4
     simp only [List.append_assoc] at o4
     exact o4
    ·refine fldI (B2.fr fu3 fun h=>h) (i:=0) (x:=c.1) rfl (Z5z hc.1.1 fun u4 g4=>?_)
     refine fIdx rfl (by omega) (fld0 ((B2.fr fu3 fun h=>h).fr g4 fun h=>h) (x:=fl c j) (Z1u c (by omega)) ?_)
     rw [w64 (x:=fl c j) (by omega),w64 (x:=(rangeM c.1 (j:Int)).1) (by omega),w64 (x:=(rangeM c.1 (j:Int)).2.1) (by omega)]
     refine Zdj (by omega) h1 h2 (by omega) fun r5 u5 o5 g5=>?_
     have g45:=g4.then0 g5
     have hzu4:=g4.size
     have hzu5:=g5.size
     have hil:=Zif (fl c j) (rangeM c.1 (j:Int)).1 (rangeM c.1 (j:Int)).2.1
     refine appB (o3.none g45) (by omega) o5.sl (by simp only [List.length_append,List.length_singleton]; omega) fun r6 u6 o6 g6=>⟨?_,(fu3.then0 g45).newer g6 fun k e=>e⟩
     unfold oneP
     rw [if_neg hz,if_neg hn]
     rw [show decide (zigM (fl c j - fl was j)≤16)=false from decide_eq_false hn] at o6
     rw [← fieldB h1 h2] at o6
     simp only [List.append_assoc] at o6
     simp only [List.flatMap_cons,List.flatMap_nil,List.append_nil]
     exact o6
  ·rintro z v ⟨o2,f2⟩
   exact hK _ _ ⟨wsucc hj (by omega),o2,f2⟩
 ·rintro ⟨a,_⟩ u ⟨_,o,fu⟩
  refine hk a u ?_ (f05.then0 fu)
  have e:stepB2 was c=(List.range (cntM c.1)).flatMap fun i=>(oneP was c i).flatMap partB:=by
   unfold stepB2 partsB stepP
   rw [List.flatMap_assoc]
   rfl
  rw [e]
  exact o.up hz5
end Go.Proofs.YtchhhjlpnecjkaaGreat
namespace Go.Proofs.YtchhhjlpnecjkaaGreat
open Go Go.RowKit Go.Proofs.YtchhhjlpnecjkaaGreat.Den
variable {R:Type} {Q:R→World→Prop} {w:World}
theorem Zer {h:Head} (hok:HeadOk h) {K:Res [.sc (.int .i64)]→W R} (hk:∀ w',Fr None w w'→K (headE h) Q w') :
  callW Tryz.prog Z2l [.agg ⟨[.int .u8 h.1,.int .u8 h.2.1,.int .u32 h.2.2.1,.int .u32 h.2.2.2.1,.int .u32 h.2.2.2.2]⟩] [.sc (.int .i64)] K Q w:=by
 refine Ze0 h K Q w ?_
 unfold Z7m
 obtain ⟨⟨k0,k1⟩,⟨c0,c1⟩,⟨e0,e1⟩,⟨t0,t1⟩,⟨b0,b1⟩⟩:=hok
 unfold headE at hk
 refine newI fun w1 B f1 s1=>?_
 have r0:∀ {σ:Type} {K:Int→W σ} {Q:σ→World→Prop},K h.1 Q w1→ld (.sc (.int .u8)) (Addr.add ⟨w.heap.size,0,none⟩ 0) K Q w1:=fun hk=>fldI B (i:=0) (x:=h.1) rfl hk
 have r1:∀ {σ:Type} {K:Int→W σ} {Q:σ→World→Prop},K h.2.1 Q w1→ld (.sc (.int .u8)) (Addr.add ⟨w.heap.size,0,none⟩ 1) K Q w1:=fun hk=>fldI B (i:=1) (x:=h.2.1) rfl hk
 have r2:∀ {σ:Type} {K:Int→W σ} {Q:σ→World→Prop},K h.2.2.1 Q w1→ld (.sc (.int .u32)) (Addr.add ⟨w.heap.size,0,none⟩ 2) K Q w1:=fun hk=>fldI B (i:=2) (x:=h.2.2.1) rfl hk
 have r3:∀ {σ:Type} {K:Int→W σ} {Q:σ→World→Prop},K h.2.2.2.1 Q w1→ld (.sc (.int .u32)) (Addr.add ⟨w.heap.size,0,none⟩ 3) K Q w1:=fun hk=>fldI B (i:=3) (x:=h.2.2.2.1) rfl hk
 have r4:∀ {σ:Type} {K:Int→W σ} {Q:σ→World→Prop},K h.2.2.2.2 Q w1→ld (.sc (.int .u32)) (Addr.add ⟨w.heap.size,0,none⟩ 4) K Q w1:=fun hk=>fldI B (i:=4) (x:=h.2.2.2.2) rfl hk
 refine joinI (fun z w'=>z=decide (h.1 < 1∨5 < h.1∨16≤h.2.1)∧w1=w') ?_ ?_
 ·refine r0 (condD (fun a=>⟨(decide_eq_true (.inl a)).symm,rfl⟩) fun a=>r0 (condD (fun b=>⟨(decide_eq_true (.inr (.inl b))).symm,rfl⟩) fun b=>r1 ⟨decide_eq_decide.2 (by omega),rfl⟩))
 rintro z w2 ⟨rfl,rfl⟩
 refine condD (fun a=>?_) fun a=>?_
 ·rw [if_pos a] at hk
  exact hk _ f1
 rw [if_neg a] at hk
 refine joinI (fun z w'=>z=decide (h.2.2.1=0∨(3 < h.1∧h.2.2.2.1≠0)∨(h.1≠2∧h.2.2.2.2≠0)∨(h.1=2∧h.2.2.2.1≤h.2.2.2.2))∧w1=w') ?_ ?_
 ·have last:∀ (_:h.2.2.1≠0) (_:¬ (3 < h.1∧h.2.2.2.1≠0)),ld (.sc (.int .u8)) (Addr.add ⟨w.heap.size,0,none⟩ 0) (fun x_19=>cond (x_19 != 2)
    (ld (.sc (.int .u32)) (Addr.add ⟨w.heap.size,0,none⟩ 4) fun (x_20:Int)=>cond (decide (x_20 > 0)) (fun (_:Int→World→Prop) w'=>true=decide (h.2.2.1=0∨(3 < h.1∧h.2.2.2.1≠0)∨(h.1≠2∧h.2.2.2.2≠0)∨(h.1=2∧h.2.2.2.1≤h.2.2.2.2))∧w1=w')
     (ld (.sc (.int .u8)) (Addr.add ⟨w.heap.size,0,none⟩ 0) fun (x_21:Int)=>cond (x_21 == 2)
      (ld (.sc (.int .u32)) (Addr.add ⟨w.heap.size,0,none⟩ 4) fun (x_22:Int)=>ld (.sc (.int .u32)) (Addr.add ⟨w.heap.size,0,none⟩ 3) fun (x_23:Int)=>fun (_:Int→World→Prop) w'=>decide (x_22 ≥ x_23)=decide (h.2.2.1=0∨(3 < h.1∧h.2.2.2.1≠0)∨(h.1≠2∧h.2.2.2.2≠0)∨(h.1=2∧h.2.2.2.1≤h.2.2.2.2))∧w1=w')
      (fun (_:Int→World→Prop) w'=>false=decide (h.2.2.1=0∨(3 < h.1∧h.2.2.2.1≠0)∨(h.1≠2∧h.2.2.2.2≠0)∨(h.1=2∧h.2.2.2.1≤h.2.2.2.2))∧w1=w')))
    (ld (.sc (.int .u8)) (Addr.add ⟨w.heap.size,0,none⟩ 0) fun (x_24:Int)=>cond (x_24 == 2)
      (ld (.sc (.int .u32)) (Addr.add ⟨w.heap.size,0,none⟩ 4) fun (x_25:Int)=>ld (.sc (.int .u32)) (Addr.add ⟨w.heap.size,0,none⟩ 3) fun (x_26:Int)=>fun (_:Int→World→Prop) w'=>decide (x_25 ≥ x_26)=decide (h.2.2.1=0∨(3 < h.1∧h.2.2.2.1≠0)∨(h.1≠2∧h.2.2.2.2≠0)∨(h.1=2∧h.2.2.2.1≤h.2.2.2.2))∧w1=w')
      (fun (_:Int→World→Prop) w'=>false=decide (h.2.2.1=0∨(3 < h.1∧h.2.2.2.1≠0)∨(h.1≠2∧h.2.2.2.2≠0)∨(h.1=2∧h.2.2.2.1≤h.2.2.2.2))∧w1=w'))) (fun r w=>K r Q w) w1:=by
   intro q1 q2
   refine r0 (condN (fun a2=>r4 (condD (fun a3=>⟨(decide_eq_true (by omega)).symm,rfl⟩) fun a3=>r0 (condE (fun a4=>absurd a4 a2) fun a4=>⟨(decide_eq_false (by omega)).symm,rfl⟩))) fun a2=>?_)
   exact r0 (condE (fun a4=>r4 (r3 ⟨decide_eq_decide.2 (by omega),rfl⟩)) fun a4=>absurd a2 a4)
  refine r2 (condE (fun q=>⟨(decide_eq_true (.inl q)).symm,rfl⟩) fun q1=>r0 (condD (fun q2=>r3 (condD (fun q3=>⟨(decide_eq_true (by omega)).symm,rfl⟩) fun q3=>?_)) fun q2=>?_))
  ·exact last q1 (by omega)
  ·exact last q1 (by omega)
 rintro z w2 ⟨rfl,rfl⟩
 refine condD (fun a=>?_) fun a=>?_
 ·rw [if_pos a] at hk
  exact hk _ f1
 ·rw [if_neg a] at hk
  exact hk _ f1
theorem Zp5 {h:Head} (hok:HeadOk h) (he:headE h=0) {K:Res [.sc .sl]→W R} (hk:∀ r w',Own (Up w.heap.size) w' 4 boolT r (headB h)→Fr None w w'→K r Q w') :
  callW Tryz.prog Z57 [.agg ⟨[.int .u8 h.1,.int .u8 h.2.1,.int .u32 h.2.2.1,.int .u32 h.2.2.2.1,.int .u32 h.2.2.2.2]⟩] [.sc .sl] K Q w:=by
 refine Zfd h K Q w ?_
 unfold Z8r
 obtain ⟨⟨k0,k1⟩,⟨c0,c1⟩,⟨e0,e1⟩,⟨t0,t1⟩,⟨b0,b1⟩⟩:=hok
 unfold headE at he
 split at he
 ·cases he
 rename_i g1
 refine newI fun w1 B f1 s1=>fldI B (i:=0) (x:=h.1) rfl ?_
 rw [w64 (x:=h.1) (by omega)]
 refine Zdj (by decide) (by omega) (by omega) (by decide) fun a w2 o2 f2=>?_
 have B2:=B.fr f2 fun h=>h
 refine fldI B2 (i:=1) (x:=h.2.1) rfl ?_
 rw [w64 (x:=h.2.1) (by omega)]
 refine Zdj (by decide) (by omega) (by omega) (by decide) fun b w3 o3 f3=>?_
 have fd:Fr None w3 w3.drew:=(Fr.refl _ _).drew
 have f3d:=f3.then0 fd
 have B3:=B2.fr f3d fun h=>h
 have z1:=f1.size
 have z2:=f2.size
 have z3:w2.heap.size≤w3.drew.heap.size:=f3d.size
 have l1:=Zif h.1 1 5
 have l2:=Zif h.2.1 0 15
 have lw1:widthM 1 5≤64:=Z3b (by decide)
 have lw2:widthM 0 15≤64:=Z3b (by decide)
 have hup:∀ {k:Nat},w1.heap.size≤k→w.heap.size≤k:=fun h=>by omega
 refine fldI B3 (i:=2) (x:=h.2.2.1) rfl (appB (n:=w1.heap.size) (o2.none f3d) (by omega) (o3.none fd).sl (by omega) fun c w4 o4 f4=>?_)
 have B4:=B3.fr f4 fun e=>by have e:w1.heap.size≤w.heap.size:=e; omega
 refine andI (B4.rd (s:=.int .u32) (i:=2) (x:=h.2.2.1) rfl) ?_
 have ev:IntKind.wrap .u64 h.2.2.1=((h.2.2.1.toNat:Nat):Int):=by rw [wU64 (by omega)]; omega
 rw [ev]
 have z4:=f4.size
 refine Z5c (by omega) fun d w5 o5 f5=>?_
 have z5:=f5.size
 have lv:=Za1 h.2.2.1.toNat
 have lg:=Z67 (v:=h.2.2.1) (by omega) (by omega)
 refine appB (n:=w1.heap.size) (o4.none f5) (by omega) o5.sl (by simp only [List.length_append]; omega) fun e w6 o6 f6=>?_
 have z6:=f6.size
 have n1:∀ {u v:World},Fr (Up w1.heap.size) u v→¬ Up w1.heap.size w.heap.size:=fun _ e=>by have e:w1.heap.size≤w.heap.size:=e; omega
 have B6:=(B4.fr f5 fun h=>h).fr f6 (n1 f6)
 have F6:Fr None w w6:=((((f1.then0 f2).then0 f3d).newer f4 fun k e=>hup e).then0 f5).newer f6 fun k e=>hup e
 refine fldI B6 (i:=0) (x:=h.1) rfl ?_
 refine joinI (fun z v=>Own (Up w1.heap.size) v 4 boolT z (inB h.1 1 5 ++ inB h.2.1 0 15 ++ varB h.2.2.1.toNat ++ (if h.1≤3 then bitsOf h.2.2.2.1.toNat 32 else []))∧Fr None w v∧Blk v w.heap.size 30 [.int .u8 h.1,.int .u8 h.2.1,.int .u32 h.2.2.1,.int .u32 h.2.2.2.1,.int .u32 h.2.2.2.2]) ?_ ?_
 ·refine condD (fun h3=>?_) fun h3=>?_
  ·rw [if_pos h3]
   refine fldI B6 (i:=3) (x:=h.2.2.2.1) rfl ?_
   have et:IntKind.wrap .u64 h.2.2.2.1=((h.2.2.2.1.toNat:Nat):Int):=by rw [wU64 (by omega)]; omega
   rw [et]
   exact Z5b (n:=32) o6.sl (by decide) (by omega) (by simp only [List.length_append]; omega) fun r w7 o7 f7=>⟨o7.up (by omega),F6.then0 f7,B6.fr f7 fun h=>h⟩
  ·rw [if_neg h3,List.append_nil]
   exact ⟨o6,F6,B6⟩
 rintro z w7 ⟨o7,F7,B7⟩
 have z7:=F7.size
 have zb:=B7.lt
 refine fldI B7 (i:=0) (x:=h.1) rfl ?_
 refine joinI (fun z v=>Own (Up w1.heap.size) v 4 boolT z (headB h)∧Fr None w v) ?_ ?_
 ·unfold headB
  refine condE (fun h2=>?_) fun h2=>?_
  ·rw [if_pos h2]
   refine fldI B7 (i:=3) (x:=h.2.2.2.1) rfl (fldI B7 (i:=4) (x:=h.2.2.2.2) rfl ?_)
   have e:IntKind.wrap .u64 (IntKind.wrap .u32 (IntKind.wrap .u32 (h.2.2.2.1 - h.2.2.2.2) - 1))=((idD h.2.2.2.2 h.2.2.2.1:Nat):Int):=by
    have a:∀ x:Int,IntKind.wrap .u32 x=x % 4294967296:=fun x=>by rw [IntKind.wrap_u32]
    rw [a,a,wU64 (by omega)]
    unfold idD
    omega
   rw [e]
   have hi:idD h.2.2.2.2 h.2.2.2.1 < 4294967296:=by unfold idD; omega
   refine Z5c (by omega) fun d w8 o8 f8=>?_
   have lv2:=Za1 (idD h.2.2.2.2 h.2.2.2.1)
   have lg2:=Z67 (v:=(idD h.2.2.2.2 h.2.2.2.1:Int)) (by omega) (by omega)
   rw [Int.toNat_natCast] at lg2
   have lt32:(if h.1≤3 then bitsOf h.2.2.2.1.toNat 32 else []).length≤32:=by split <;> simp [Z4]
   refine appB (n:=w1.heap.size) (o7.none f8) (by have:=f8.size; omega) o8.sl (by simp only [List.length_append]; omega) fun r w9 o9 f9=>⟨?_,(F7.then0 f8).newer f9 fun k e=>hup e⟩
   simp only [List.append_assoc] at o9
   exact o9
  ·rw [if_neg h2,List.append_nil]
   simp only [List.append_assoc] at o7
   exact ⟨o7,F7⟩
 rintro z v ⟨o,f⟩
 exact hk z v (o.up z1) f
theorem appS {S ok:Nat→Prop} {s s2:Sl} {l l2:List Bool} (h:Own S w 4 boolT s l) (hn:∀ k,w.heap.size≤k→S k) (h2:SlT ok w boolT s2 l2) (hm:l.length+l2.length≤140737488355328) {K:Sl→W R} (hk:∀ r w',Own S w' 4 boolT r (l ++ l2)→Fr S w w'→K r Q w') :
  rawW Tryz.prog (Builtin.append_ #[70,70] 70 #[.slice s.a s.n s.c,.slice s2.a s2.n s2.c]) [.sc .sl] K Q w :=
 appI Z6g (S':=S) h h2 (by omega) (by rw [Zm]; omega) (fun _ h=>h) (hn _ (Nat.le_refl _)) fun r w' o f _=>hk r w' o (f.sub fun k e=>h.own k e)
theorem Zg6 {S:Nat→Prop} {s:Sl} {l:List Bool} {last id:Int} (o:Own S w 4 boolT s l) (hn:∀ k,w.heap.size≤k→S k) (hl:l.length≤1048576) {K:Res [.sc .sl]→W R} (hk:∀ r w',Own S w' 4 boolT r (l ++ idBits last id)→Fr S w w'→K r Q w') :
  callW Tryz.prog Z2p [.slice s.a s.n s.c,.int .u32 last,.int .u32 id] [.sc .sl] K Q w:=by
 refine Zi4 s _ _ K Q w ?_
 unfold Zal
 have e:IntKind.wrap .u64 (IntKind.wrap .u32 (IntKind.wrap .u32 (id - last) - 1))=((idD last id:Nat):Int):=by
  have a:∀ x:Int,IntKind.wrap .u32 x=x % 4294967296:=fun x=>by rw [IntKind.wrap_u32]
  rw [a,a,wU64 (by omega)]
  unfold idD
  omega
 rw [e]
 have hi:idD last id < 4294967296:=by unfold idD; omega
 refine Z5c (by omega) fun d w2 o2 f2=>?_
 have z2:=f2.size
 have lv2:=Za1 (idD last id)
 have lg2:=Z67 (v:=(idD last id:Int)) (by omega) (by omega)
 rw [Int.toNat_natCast] at lg2
 exact appS (o.none f2) (fun k e=>hn k (by omega)) o2.sl (by omega) fun r w3 o3 f3=>hk r w3 o3 (f2.any.then f3)
theorem Zhb (last id:Int):(idBits last id).length≤80:=by
 have hi:idD last id < 4294967296:=by unfold idD; omega
 have lg2:=Z67 (v:=(idD last id:Int)) (by omega) (by omega)
 rw [Int.toNat_natCast] at lg2
 unfold idBits
 rw [Za1]
 omega
theorem Zk8 {c:Comp}:(compB c).length≤192:=by
 rw [Zsl]
 have h3:=Z45 c.1
 have:=Zb6 (fun i=>partB (fieldP c i)) 64 (List.range (cntM c.1)) fun i _=>by
  obtain ⟨q1,q2⟩:=Z19 c.1 (i:Int)
  have:=Z3b (lo:=(rangeM c.1 (i:Int)).1) (hi:=(rangeM c.1 (i:Int)).2.1) (by omega)
  show (partB (fieldP c i)).length≤64
  rw [Z74]
  unfold fieldP
  rw [Int.toNat_natCast]
  exact this
 rw [List.length_range] at this
 omega
theorem Zes {S ok:Nat→Prop} {s s2:Sl} {l:List Bool} {cs:List Comp} (o:Own S w 4 boolT s l) (hn:∀ k,w.heap.size≤k→S k) (hl:l.length+192 * cs.length≤1048576) (hS:SlT ok w compT s2 cs) (hd:∀ k,k < w.heap.size→ok k→¬ S k) (hc:∀ c∈cs,checkM c=0∧CompOk c) {K:Res [.sc .sl]→W R}
  (hk:∀ r w',Own S w' 4 boolT r (l ++ compsB cs)→Fr S w w'→K r Q w') :
  callW Tryz.prog Z2m [.slice s.a s.n s.c,.slice s2.a s2.n s2.c] [.sc .sl] K Q w:=by
 refine Ze1 s s2 K Q w ?_
 unfold Z7n
 have hlen:=hS.len
 have hS:=hS.mono (ok':=fun k=>ok k∧k < w.heap.size) fun k hk e=>⟨e,hk⟩
 have nd:∀ k,ok k∧k < w.heap.size→¬ S k:=fun k e e2=>hd k e.2 e.1 e2
 refine forI (N:=s2.n) (fun s:Sl × Int=>s.2) (fun j st u=>st.2=(j:Int)∧Own S u 4 boolT st.1 (l ++ compsB (cs.take j))∧Fr S w u) ⟨rfl,by simpa [compsB] using o,Fr.refl _ _⟩ (fun j s w' h=>h.1) ?_ ?_
 ·rintro j ⟨a,_⟩ u K' hj ⟨rfl,o,fu⟩ - hK
  have zu:=fu.size
  refine (hS.fr fu nd).get rfl rfl (by omega) fun c hcj=>?_
  obtain ⟨h1,h2⟩:=hc c (List.mem_of_getElem? hcj)
  refine newI fun u1 B1 f1 z1=>stoAll B1 rfl rfl fun u2 B2 f2 z2=>aggI B2 (x:=c) rfl ?_
  have f12:Fr None u u2:=f1.newer f2 fun k e=>by omega
  refine Zsd h1 h2 fun r u3 o3 f3=>?_
  have f13:=f12.then0 f3
  have z3:=f13.size
  have l1:(compsB (cs.take j)).length≤192 * (cs.take j).length:=Zb6 _ 192 _ fun c _=>Zk8
  have l2:=Zk8 (c:=c)
  have l3:(cs.take j).length≤cs.length:=by rw [List.length_take]; omega
  refine appS (o.none f13) (fun k e=>hn k (by omega)) o3.sl (by simp only [List.length_append]; omega) fun r2 u4 o4 f4=>?_
  refine hK _ _ ⟨wsucc hj (by omega),?_,(fu.then0 f13).then f4⟩
  have e:compsB (cs.take (j+1))=compsB (cs.take j) ++ compB c:=by unfold compsB; rw [Z8 hcj,List.flatMap_append]; simp
  rw [e,← List.append_assoc]
  exact o4
 ·rintro ⟨a,_⟩ u ⟨_,o,fu⟩
  rw [List.take_of_length_le (by omega)] at o
  exact hk a u o fu
end Go.Proofs.YtchhhjlpnecjkaaGreat
namespace Go.Proofs.YtchhhjlpnecjkaaGreat
open Go Go.RowKit Go.Proofs.YtchhhjlpnecjkaaGreat.Den
variable {R:Type} {Q:R→World→Prop} {w:World}
def lastF {α:Type} (id:α→Int) (last:Int) (l:List α):Int:=l.foldl (fun _ a=>id a) last
theorem Zil {α:Type} (id:α→Int) (last:Int) (l:List α) (a:α):lastF id last (l ++ [a])=id a:=by unfold lastF; rw [List.foldl_append]; rfl
theorem Zod {α:Type} (enc:Int→α→List Bool) (id:α→Int):∀ (l k:List α) (last:Int),encs enc id last (l ++ k)=encs enc id last l ++ encs enc id (lastF id last l) k
 | [],_,_=>rfl
 | a :: r,k,last=>by
  rw [List.cons_append,encs,encs,Zod enc id r k (id a),List.append_assoc]
  rfl
theorem Zh9 {α:Type} (enc:Int→α→List Bool) (id:α→Int) (l:List α) (a:α) (last:Int):encs enc id last (l ++ [a])=encs enc id last l ++ enc (lastF id last l) a:=by
 rw [Zod]
 simp [encs]
theorem Zl8 {α:Type} (enc:Int→α→List Bool) (id:α→Int) (l:List α) (last:Int) (j:Nat):(encs enc id last (l.take j)).length≤(encs enc id last l).length:=by
 have:=Zod enc id (l.take j) (l.drop j) last
 rw [List.take_append_drop] at this
 rw [this,List.length_append]
 omega
def EntTold (e:Ent):Prop:=EntFit e∧(∀ c∈e.2,checkM c=0)∧maskN e.2 < 32∧e.2.length≤6
theorem Zz9 {last:Int} {e:Ent} (h:e.2.length≤6):(entB last e).length≤1300:=by
 have h1:=Zhb last e.1
 have h2:(compsB e.2).length≤192 * e.2.length:=Zb6 _ 192 _ fun c _=>Zk8
 unfold entB
 rw [List.length_append,List.length_append,Z4]
 omega
theorem Zsn {α:Type} {enc:Int→α→List Bool} {id:α→Int} (h:∀ last a,1≤(enc last a).length):∀ (l:List α) (last:Int),l.length≤(encs enc id last l).length
 | [],_=>by simp
 | a :: r,last=>by
  have h1:=Zsn (id:=id) h r (id a)
  have h2:=h last a
  rw [encs,List.length_append,List.length_cons]
  omega
theorem Zyi (v:Nat):1≤(varB v).length:=by
 rw [Za1]
 unfold groupsM
 omega
theorem Zhs {S ok:Nat→Prop} {s s2:Sl} {raws:List (Int × Sl)} {l:List Bool} {L:List Ent} (o:Own S w 4 boolT s l) (hn:∀ k,w.heap.size≤k→S k) (hS:SlT ok w entT s2 raws) (hE:EntsR ok w raws L) (hd:∀ k,k < w.heap.size→ok k→¬ S k) (hL:∀ e∈L,EntTold e) (hl:l.length+(entsB L).length≤1000000) {K:Res [.sc .sl]→W R}
  (hk:∀ r w',Own S w' 4 boolT r (l ++ entsB L)→Fr S w w'→K r Q w') :
  callW Tryz.prog Z36 [.slice s.a s.n s.c,.slice s2.a s2.n s2.c] [.sc .sl] K Q w:=by
 refine Zfh s s2 K Q w ?_
 unfold Z8v
 have hlen:=hS.len.trans hE.len
 have hS:=hS.mono (ok':=fun k=>ok k∧k < w.heap.size) fun k hk e=>⟨e,hk⟩
 have hE:=hE.mono (ok':=fun k=>ok k∧k < w.heap.size) fun k hk e=>⟨e,hk⟩
 have nd:∀ k,ok k∧k < w.heap.size→¬ S k:=fun k e e2=>hd k e.2 e.1 e2
 have heb:(entsB L).length=(varB L.length).length+(encs entB (fun e:Ent=>e.1) 0 L).length:=by unfold entsB; rw [List.length_append]
 have hLl:=Zsn (enc:=entB) (id:=fun e:Ent=>e.1) (fun last a=>by unfold entB; rw [List.length_append]; have:=Zyi (idD last a.1); unfold idBits; omega) L 0
 have ew:IntKind.wrap .u64 (s2.n:Int)=((L.length:Nat):Int):=by rw [wU64 (by omega)]; omega
 rw [ew]
 refine Z5c (by omega) fun d w2 o2 f2=>?_
 have z2:=f2.size
 refine appS (o.none f2) (fun k e=>hn k (by omega)) o2.sl (by omega) fun r w3 o3 f3=>?_
 have f03:Fr S w w3:=f2.any.then f3
 refine forI (N:=s2.n) (fun s:Sl × Int × Int=>s.2.2) (fun j st u=>st.2.2=(j:Int)∧st.2.1=lastF (fun e:Ent=>e.1) 0 (L.take j)∧Own S u 4 boolT st.1 (l ++ varB L.length ++ encs entB (fun e:Ent=>e.1) 0 (L.take j))∧Fr S w u) ⟨rfl,rfl,by simpa [encs] using o3,f03⟩ (fun j s w' h=>h.1) ?_ ?_
 ·rintro j ⟨a,la,_⟩ u K' hj ⟨rfl,rfl,o,fu⟩ - hK
  have zu:=fu.size
  obtain ⟨e,he⟩:∃ e,L[j]?=some e:=⟨_,List.getElem?_eq_getElem (by omega)⟩
  obtain ⟨r1,hr1,ha1,ha2⟩:=hE.get he
  obtain ⟨⟨⟨i0,i1⟩,hsm,hco⟩,hck,hmk,h6⟩:=hL e (List.mem_of_getElem? he)
  refine (hS.fr fu nd).get rfl rfl (by have:=hE.len; omega) fun y hy=>?_
  rw [hr1] at hy
  cases hy
  refine newI fun u1 B1 f1 z1=>stoAll B1 rfl rfl fun u2 B2 f2' z2'=>?_
  have f12:Fr None u u2:=f1.newer f2' fun k e=>by omega
  have fu2:=fu.then0 f12
  have htk:=Zl8 entB (fun e:Ent=>e.1) L 0 j
  have o2:Own (fun k=>S k∧k≠u.heap.size) u2 4 boolT a (l ++ varB L.length ++ encs entB (fun e:Ent=>e.1) 0 (L.take j)):=(o.mono (S':=fun k=>S k∧k≠u.heap.size) fun k hk e=>⟨e,by omega⟩).none f12
  have hn2:∀ {v:World},u2.heap.size≤v.heap.size→∀ k,v.heap.size≤k→S k∧k≠u.heap.size:=fun hv k e=>⟨hn k (by omega),by omega⟩
  refine fldI B2 (i:=0) (x:=r1.1) rfl ?_
  rw [ha1]
  refine Zg6 o2 (hn2 (Nat.le_refl _)) (by simp only [List.length_append]; omega) fun r3 u3 o3 f3'=>?_
  have z3:=f3'.size
  have B3:=B2.fr f3' fun e=>e.2 rfl
  have fu3:=fu2.then (f3'.sub fun k e=>e.1)
  have li:=Zhb (lastF (fun e:Ent=>e.1) 0 (L.take j)) e.1
  refine fldI B3 (i:=0) (x:=r1.1) rfl (fldI B3 (i:=1) (x:=r1.2) rfl ?_)
  refine Zd3 (ha2.fr fu3 nd) hsm fun u4 f4=>?_
  have em:IntKind.wrap .u64 ((maskN e.2:Nat):Int)=((maskN e.2:Nat):Int):=by rw [wU64 (by omega)]
  rw [em]
  have z4:=f4.size
  refine Z5b (n:=5) (o3.none f4).sl (by decide) (by omega) (by simp only [List.length_append]; omega) fun r5 u5 o5 f5=>?_
  have z5:=f5.size
  have f45:=f4.then0 f5
  have B5:=B3.fr f45 fun h=>h
  have fu5:=fu3.then0 f45
  have o5:Own (fun k=>S k∧k≠u.heap.size) u5 4 boolT r5 _:=o5.mono fun k _ e=>by have e:u4.heap.size≤k:=e; exact ⟨hn k (by omega),by omega⟩
  refine fldI B5 (i:=1) (x:=r1.2) rfl ?_
  refine Zes o5 (hn2 (by omega)) (by simp only [List.length_append,Z4]; omega) (ha2.fr fu5 nd) (fun k _ e e2=>nd k e e2.1) (fun c hc=>⟨hck c hc,hco c hc⟩) fun r6 u6 o6 f6=>?_
  refine hK _ _ ⟨wsucc hj (by omega),?_,?_,fu5.then (f6.sub fun k e=>e.1)⟩
  ·rw [Z8 he,Zil,← ha1]
  ·rw [Z8 he,Zh9]
   unfold entB
   have o7:=o6.mono (S':=S) fun k _ e=>e.1
   simp only [List.append_assoc] at o7 ⊢
   exact o7
 ·rintro ⟨a,la,_⟩ u ⟨_,_,o,fu⟩
  rw [List.take_of_length_le (by omega),List.append_assoc] at o
  exact hk a u o fu
end Go.Proofs.YtchhhjlpnecjkaaGreat
namespace Go.Proofs.YtchhhjlpnecjkaaGreat
open Go Go.RowKit Go.Proofs.YtchhhjlpnecjkaaGreat.Den
variable {R:Type} {Q:R→World→Prop} {w:World}
def padB (L:List Bool) (n:Nat):List Int:=(List.range n).map fun j=>(byteAt L j:Int)
theorem Zxy (n:Nat):padB [] n=List.replicate n (0:Int):=by
 unfold padB
 have:∀ j,((byteAt [] j:Nat):Int)=0:=fun j=>rfl
 simp only [this]
 rw [List.map_const',List.length_range]
theorem Zvy (L:List Bool) (b:Bool) {n:Nat} (h:L.length / 8 < n):padB (L ++ [b]) n=(padB L n).set (L.length / 8) ((byteAt L (L.length / 8)+bitN b * 2 ^ (L.length % 8):Nat):Int):=by
 refine List.ext_getElem? fun i=>?_
 rw [List.getElem?_set]
 unfold padB
 simp only [List.length_map,List.length_range,List.getElem?_map]
 split
 ·rename_i h
  subst h
  rw [List.getElem?_range (by omega)]
  simp only [Option.map_some]
  rw [Z90.1]
 ·rename_i h
  rcases Nat.lt_or_ge i n with hi | hi
  ·rw [List.getElem?_range hi]
   simp only [Option.map_some]
   rw [Zjf (fun h2=>h h2.symm)]
  ·rw [List.getElem?_eq_none (by simpa using hi)]
   rfl
theorem Zvx (L:List Bool) {n j:Nat} (h:j < n):(padB L n)[j]?=some (byteAt L j:Int):=by
 unfold padB
 rw [List.getElem?_map,List.getElem?_range h]
 rfl
theorem Zwt:∀ r:Fin 8,∀ x:Fin 128,x.val < 2 ^ r.val→IntKind.wrap .u8 (((x.val:Nat):Int)+shL .u8 1 ((r.val:Nat):Int))=((x.val+2 ^ r.val:Nat):Int):=by decide +kernel
theorem updI {S:Nat→Prop} {s:Sl} {l:List Int} (o:Own S w 5 u8T s l) {i:Nat} {x:Int} (hx:l[i]?=some x) {i1 i2:Int} (h1:i1=(i:Int)) (h2:i2=(i:Int)) {c:Prop} (hc:c) {f:Int→Int} {K:W R} (hk:∀ w',Own S w' 5 u8T s (l.set i (f x))→Fr (fun k=>s.v.ownBlock=some k) w w'→w'.heap.size=w.heap.size→K Q w') :
  idxW s.a s.n 1 i1 (fun a=>ld (.sc (.int .u8)) a fun b=>chkW c <| idxW s.a s.n 1 i2 fun y=>stoL y [.int .u8 (f b)] 0 K) Q w:=by
 subst h1; subst h2
 have hi:=(List.getElem?_eq_some_iff.1 hx).1
 refine o.idx rfl (by omega) (by omega) fun g y hg hy hr=>?_
 rw [Int.toNat_natCast] at hy hr ⊢
 rw [hx] at hy
 cases hy
 refine ldI x hr (chkI hc ?_)
 refine o.idx rfl (by omega) (by omega) fun g2 x2 hg2 hx2 hr2=>?_
 rw [hg] at hg2
 cases hg2
 rw [Int.toNat_natCast]
 exact o.set rfl hi hg (f x) hk
theorem Zp4 {ok:Nat→Prop} {s:Sl} {L:List Bool} (hS:SlT ok w boolT s L) (hm:L.length≤140737488355000) {K:Res [.sc .sl]→W R} (hk:∀ r w',Own (Up w.heap.size) w' 5 u8T r (packM L)→Fr None w w'→K r Q w') :
  callW Tryz.prog Z4q [.slice s.a s.n s.c] [.sc .sl] K Q w:=by
 refine Zdt s K Q w ?_
 unfold Z7f
 have hlen:=hS.len
 obtain ⟨n,hn⟩:∃ n,n=(L.length+7) / 8:=⟨_,rfl⟩
 have hnI:IntKind.wrap .i64 (Int.tdiv (IntKind.wrap .i64 ((s.n:Int)+7)) 8)=(n:Int):=by
  rw [w64 (x:=(s.n:Int)+7) (by omega),Int.tdiv_eq_ediv_of_nonneg (by omega),w64 (by omega)]
  omega
 refine makeI Z3r (z:=(0:Int)) (zv:=.int .u8 0) (by kernel_rfl) rfl (n:=n) hnI (by omega) (by omega) fun w1 o1 f1 s1=>?_
 refine forI (N:=s.n) (fun s:Int=>s) (fun j i v=>i=(j:Int)∧Own (fun k=>k=w.heap.size) v 5 u8T ⟨some ⟨w.heap.size,0,none⟩,n,n⟩ (padB (L.take j) n)∧Fr None w v) ⟨rfl,by rw [List.take_zero,Zxy]; exact o1,f1⟩ (fun j s w' h=>h.1) ?_ ?_
 ·rintro j i v K' hj ⟨rfl,o,fv⟩ - hK
  refine (hS.fr0 fv).get rfl rfl (by omega) fun b hb=>?_
  have htl:(L.take j).length=j:=by rw [List.length_take]; omega
  have hq:j / 8 < n:=by omega
  have e:=Zvy (L.take j) b (n:=n) (by rw [htl]; exact hq)
  rw [← Z8 hb,htl] at e
  have hlt:=(Z90 (L:=L.take j) (b:=b)).2
  rw [htl] at hlt
  have hr8:j % 8 < 8:=Nat.mod_lt _ (by decide)
  have hp:2 ^ (j % 8)≤128:=Nat.le_trans (Nat.pow_le_pow_right (by decide) (show j % 8≤7 by omega)) (by decide)
  refine joinI (fun (_:Unit) v'=>Own (fun k=>k=w.heap.size) v' 5 u8T ⟨some ⟨w.heap.size,0,none⟩,n,n⟩ (padB (L.take (j+1)) n)∧Fr None w v') ?_ fun _ v' ⟨h1,h2⟩=>hK _ _ ⟨wsucc hj (by omega),h1,h2⟩
  have ei:IntKind.wrap .i64 (Int.tdiv (j:Int) 8)=((j / 8:Nat):Int):=by
   rw [Int.tdiv_eq_ediv_of_nonneg (by omega),w64 (by omega)]
   omega
  have em:IntKind.wrap .u64 (Int.tmod (j:Int) 8)=((j % 8:Nat):Int):=by
   rw [Int.tmod_eq_emod_of_nonneg (by omega),wU64 (by omega)]
   omega
  cases b with
  | true =>
   refine condT rfl ?_
   rw [em]
   refine updI o (i:=j / 8) (Zvx _ hq) ei ei (c:=0≤((j % 8:Nat):Int)) (by omega) (f:=fun x=>IntKind.wrap .u8 (x+shL .u8 1 ((j % 8:Nat):Int))) fun v' o' f' _=>⟨?_,fv.newer f' fun k e=>by simp only [Sl.v,Value.ownBlock,Option.some.injEq] at e; omega⟩
   have:=Zwt ⟨j % 8,hr8⟩ ⟨byteAt (L.take j) (j / 8),by omega⟩ hlt
   dsimp only at this o'
   rw [this] at o'
   rw [e]
   have eb:bitN true * 2 ^ (j % 8)=2 ^ (j % 8):=by rw [show bitN true=1 from rfl,Nat.one_mul]
   rw [eb]
   exact o'
  | false =>
   refine condF rfl ⟨?_,fv⟩
   rw [e]
   have eb:bitN false * 2 ^ (j % 8)=0:=by rw [show bitN false=0 from rfl,Nat.zero_mul]
   rw [eb,Nat.add_zero]
   have:(padB (L.take j) n).set (j / 8) ((byteAt (L.take j) (j / 8):Nat):Int)=padB (L.take j) n:=by
    have hg:=Zvx (L.take j) hq
    obtain ⟨hl,hg⟩:=List.getElem?_eq_some_iff.1 hg
    rw [← hg]
    exact List.set_getElem_self hl
   rw [this]
   exact o
 ·rintro i v ⟨_,o,fv⟩
  rw [List.take_of_length_le (by omega)] at o
  refine hk _ v ?_ fv
  have:padB L n=packM L:=by unfold padB packM; rw [hn]
  rw [this] at o
  exact o.mono fun k _ e=>by show w.heap.size≤k; omega
end Go.Proofs.YtchhhjlpnecjkaaGreat
namespace Go.Proofs.YtchhhjlpnecjkaaGreat
open Go Go.RowKit Go.Proofs.YtchhhjlpnecjkaaGreat.Den
variable {R:Type} {Q:R→World→Prop} {w:World}
def RD (b:Nat) (L:List Bool):OB:=fun F w=>F b∧∃ (s:Sl) (body:List Int) (n:Nat),Blk w b 173 [.slice s.a s.n s.c,.int .i64 (n:Int)]∧SlT (fun k=>F k∧k≠b) w u8T s body∧BytesOk body∧body.length≤1048576∧n≤8 * body.length∧L=(bitsU body).drop n
theorem RD.st {b:Nat} {L:List Bool}:St (RD b L):=fun {F F' S w w'} h f hs=>by
 obtain ⟨hb,s,body,n,B,hS,h1,h2,h3,h4⟩:=h
 have hb':=hs b B.lt hb
 exact ⟨hb'.2,s,body,n,B.fr f hb'.1,SlT.st hS f fun k hk e=>⟨(hs k hk e.1).1,(hs k hk e.1).2,e.2⟩,h1,h2,h3,h4⟩
theorem Zxe:∀ x:Fin 256,∀ r:Fin 8,IntKind.wrap .u64 (bAnd .u8 (shR .u8 ((x.val:Nat):Int) ((r.val:Nat):Int)) 1)=((bitN (x.val.testBit r.val):Nat):Int):=by decide +kernel
theorem Zxv {v i:Nat} (hi:i < 64) (hv:v < 2 ^ i) (b:Bool):bOr .u64 (v:Int) (shL .u64 ((bitN b:Nat):Int) (i:Int))=((v+bitN b * 2 ^ i:Nat):Int):=by
 have hb:=Z3n b
 have h2:2 ^ i * 2≤2 ^ 64:=by rw [← Nat.pow_succ]; exact Nat.pow_le_pow_right (by decide) hi
 have hm:bitN b * 2 ^ i≤2 ^ i:=by rcases (show bitN b=0∨bitN b=1 by omega) with e | e <;> rw [e] <;> omega
 have e1:shL .u64 ((bitN b:Nat):Int) (i:Int)=((bitN b * 2 ^ i:Nat):Int):=by
  unfold shL
  have hmin:min (i:Int).toNat (IntKind.bits .u64)=i:=by
   show min (i:Int).toNat 64=i
   omega
  have hM:(2:Int) ^ i=((2 ^ i:Nat):Int):=by rw [Int.natCast_pow]; rfl
  rw [hmin,hM,← Int.natCast_mul,wU64 (by omega)]
 rw [e1]
 unfold bOr
 have o1:∀ m:Nat,m < 18446744073709551616→(BitVec.ofInt 64 (m:Int)).toNat=m:=fun m hm=>by
  rw [BitVec.toNat_ofInt]
  omega
 have hor:v ||| bitN b * 2 ^ i=v+bitN b * 2 ^ i:=by
  have:=Nat.two_pow_add_eq_or_of_lt (a:=bitN b) hv
  rw [Nat.or_comm,Nat.mul_comm,← this,Nat.add_comm]
 show IntKind.wrap .u64 (((BitVec.ofInt 64 (v:Int) ||| BitVec.ofInt 64 ((bitN b * 2 ^ i:Nat):Int)).toNat:Nat):Int)=_
 rw [BitVec.toNat_or,o1 v (by omega),o1 _ (by omega),hor,wU64 (by omega)]
theorem Zr1:∀ (l:List Bool) (b:Bool),valB (l ++ [b])=valB l+bitN b * 2 ^ l.length
 | [],b=>by simp [valB]
 | a :: r,b=>by
  rw [List.cons_append,valB,Zr1 r b,valB,List.length_cons,Nat.pow_succ,Nat.mul_add]
  have:2 * (bitN b * 2 ^ r.length)=bitN b * (2 ^ r.length * 2):=by rw [Nat.mul_comm (2 ^ r.length) 2,← Nat.mul_assoc,Nat.mul_comm 2,Nat.mul_assoc]
  omega
theorem Zdk (l:List Bool):valB l < 2 ^ l.length:=by
 induction l with
 | nil=>simp [valB]
 | cons b r ih =>
  have:=Z3n b
  rw [valB,List.length_cons,Nat.pow_succ]
  omega
theorem Zmo {ok:Nat→Prop} {s:Sl} {l:List Int} (hS:SlT ok w u8T s l) (hb:BytesOk l) (hm:l.length≤1048576) {K:Res [.sc .ptr]→W R} (hk:∀ b w',RD b (bitsU l) (Up w.heap.size) w'→Fr None w w'→K (some ⟨b,0,none⟩) Q w') :
  callW Tryz.prog Zfp [.slice s.a s.n s.c] [.sc .ptr] K Q w:=by
 refine Zr4 s K Q w ?_
 unfold Zko
 refine Z4z hS (by omega) fun r w1 o1 f1=>newI fun w2 B2 f2 z2=>?_
 have z1:=f1.size
 refine hk _ w2 ⟨z1,r,l,0,B2,?_,hb,hm,by omega,rfl⟩ (f1.then0 f2)
 exact SlT.st o1.sl f2 fun k hk e=>⟨fun h=>h,e,by omega⟩
theorem Zqs {b:Nat} {L:List Bool} {F:Nat→Prop} (h:RD b L F w) {K:Res [.sc (.int .i64)]→W R} (hk:∀ w',Fr None w w'→K (L.length:Int) Q w'):callW Tryz.prog Z5n [.pointer (some ⟨b,0,none⟩)] [.sc (.int .i64)] K Q w:=by
 refine Zga _ K Q w ?_
 unfold Z9b
 obtain ⟨hb,s,body,n,B,hS,h1,h2,h3,rfl⟩:=h
 have fd:Fr None w w.drew:=(Fr.refl _ _).drew
 have Bd:=B.fr fd fun h=>h
 have hl:=hS.len
 refine condF rfl (ptrI (fldI Bd (i:=0) (x:=s) rfl (ptrI (fldI Bd (i:=1) (x:=(n:Int)) rfl ?_))))
 have:=hk w.drew fd
 rw [List.length_drop,Z5j] at this
 rw [w64 (x:=8 * (s.n:Int)) (by omega),w64 (by omega),show 8 * (s.n:Int) - (n:Int)=((8 * body.length - n:Nat):Int) by omega]
 exact this
theorem Z6b {b:Nat} {L:List Bool} {F:Nat→Prop} (h:RD b L F w) {n:Nat} (hn:n≤64) {K:Res [.sc (.int .u64),.sc (.int .i64)]→W R} (h0:L.length < n→∀ w',RD b L F w'→Fr None w w'→K (0,2) Q w') (hk:n≤L.length→∀ w',RD b (L.drop n) F w'→Fr (fun k=>k=b) w w'→K ((valB (L.take n):Nat),0) Q w') :
  callW Tryz.prog Zv [.pointer (some ⟨b,0,none⟩),.int .i64 (n:Int)] [.sc (.int .u64),.sc (.int .i64)] K Q w:=by
 refine Zhz _ _ K Q w ?_
 unfold Zag
 refine condF rfl (joinI (fun z v=>z=false∧v=w) (condF (decide_eq_false (by omega)) ⟨decide_eq_false (by omega),rfl⟩) ?_)
 rintro z v ⟨rfl,rfl⟩
 refine condF rfl (Zqs h fun w1 f1=>condD (fun hlt=>h0 (by omega) w1 (RD.st.fr0 h f1) f1) fun hge=>?_)
 have hge:n≤L.length:=by omega
 have hbl:∀ {F:Nat→Prop} {u:World},RD b L F u→F b:=fun h=>h.1
 refine forI (N:=n) (fun s:Int × Int=>s.2) (fun j st u=>st.2=(j:Int)∧st.1=((valB (L.take j):Nat):Int)∧RD b (L.drop j) F u∧Fr (fun k=>k=b) v u) ⟨rfl,by simp [valB],RD.st.fr0 h f1,f1.any⟩ (fun j s w' h=>h.1) ?_ ?_
 ·rintro j ⟨x,_⟩ u K' hj ⟨rfl,rfl,hr,fu⟩ - hK
  obtain ⟨hb,s,body,m,B,hS,b1,b2,b3,b4⟩:=hr
  have fd:Fr None u u.drew:=(Fr.refl _ _).drew
  have Bd:=B.fr fd fun h=>h
  have hSd:=hS.fr0 fd
  have hll:(L.drop j).length=8 * body.length - m:=by rw [b4,List.length_drop,Z5j]
  rw [List.length_drop] at hll
  have hmlt:m < 8 * body.length:=by omega
  have hq:m / 8 < body.length:=by omega
  have hx:=List.getElem?_eq_getElem hq
  have hxb:=b1 _ (List.getElem_mem hq)
  refine ptrI (fldI Bd (i:=0) (x:=s) rfl (ptrI (fldI Bd (i:=1) (x:=(m:Int)) rfl ?_)))
  have ed:IntKind.wrap .i64 (Int.tdiv (m:Int) 8)=((m / 8:Nat):Int):=by
   rw [Int.tdiv_eq_ediv_of_nonneg (by omega),w64 (by omega)]
   omega
  have em:Int.tmod (m:Int) 8=((m % 8:Nat):Int):=by
   rw [Int.tmod_eq_emod_of_nonneg (by omega)]
   omega
  rw [ed]
  refine hSd.get rfl rfl hq fun y hy=>?_
  rw [hx] at hy
  cases hy
  refine ptrI (fldI Bd (i:=1) (x:=(m:Int)) rfl ?_)
  rw [em]
  refine chkI (by omega) (chkI (by omega) (ptrI (fldI Bd (i:=1) (x:=(m:Int)) rfl (ptrI ?_))))
  rw [add_lit]
  refine setI (i:=1) Bd (by simp) rfl fun u2 B2 f2 z2=>?_
  obtain ⟨bit,hbit⟩:∃ bit,bit=(body[m / 8]).toNat.testBit (m % 8):=⟨_,rfl⟩
  have hLj:L[j]?=some bit:=by
   have e1:(L.drop j)[0]?=some bit:=by
    rw [b4,List.getElem?_drop,Nat.add_zero]
    have:=Zl5 body (m / 8) (m % 8) _ hx (Nat.mod_lt _ (by decide))
    rw [show 8 * (m / 8)+m % 8=m by omega,← hbit] at this
    unfold bitAt at this
    have hml:m < (bitsU body).length:=by rw [Z5j]; exact hmlt
    rw [List.getElem?_eq_getElem hml,Option.getD_some] at this
    rw [List.getElem?_eq_getElem hml,this]
   rw [List.getElem?_drop,Nat.add_zero] at e1
   exact e1
  have hv:=Zdk (L.take j)
  have htl:(L.take j).length=j:=by rw [List.length_take]; omega
  rw [htl] at hv
  refine hK _ _ ⟨wsucc hj (by omega),?_,⟨hb,s,body,m+1,?_,hSd.fr f2 fun k e=>e.2,b1,b2,by omega,?_⟩,(fu.then0 fd).then f2⟩
  ·have hg:=Zxe ⟨(body[m / 8]).toNat,by omega⟩ ⟨m % 8,Nat.mod_lt _ (by decide)⟩
   dsimp only at hg
   rw [show ((body[m / 8]).toNat:Int)=body[m / 8] by omega,← hbit] at hg
   show bOr .u64 _ (shL .u64 (IntKind.wrap .u64 (bAnd .u8 (shR .u8 body[m / 8] ((m % 8:Nat):Int)) 1)) (j:Int))=_
   rw [hg,Zxv (by omega) hv,Z8 hLj,Zr1,htl]
  ·have e:IntKind.wrap .i64 ((m:Int)+1)=((m+1:Nat):Int):=by rw [w64 (by omega)]; omega
   rw [e] at B2
   exact B2
  ·have:L.drop (j+1)=(L.drop j).drop 1:=by rw [List.drop_drop]
   rw [this,b4,List.drop_drop]
 ·rintro ⟨x,_⟩ u ⟨_,rfl,hr,fu⟩
  exact hk hge u hr fu
end Go.Proofs.YtchhhjlpnecjkaaGreat
namespace Go.Proofs.YtchhhjlpnecjkaaGreat
open Go Go.RowKit Go.Proofs.YtchhhjlpnecjkaaGreat.Den
variable {R:Type} {Q:R→World→Prop} {w:World}
theorem Zzj {v y s:Nat} (hs:s < 64) (hv:v < 2 ^ s) (hy:y * 2 ^ s+2 ^ s≤2 ^ 64):bOr .u64 (v:Int) (shL .u64 (y:Int) (s:Int))=((v+y * 2 ^ s:Nat):Int):=by
 have e1:shL .u64 (y:Int) (s:Int)=((y * 2 ^ s:Nat):Int):=by
  unfold shL
  have hmin:min (s:Int).toNat (IntKind.bits .u64)=s:=by
   show min (s:Int).toNat 64=s
   omega
  have hM:(2:Int) ^ s=((2 ^ s:Nat):Int):=by rw [Int.natCast_pow]; rfl
  rw [hmin,hM,← Int.natCast_mul,wU64 (by omega)]
 rw [e1]
 unfold bOr
 have o1:∀ m:Nat,m < 18446744073709551616→(BitVec.ofInt 64 (m:Int)).toNat=m:=fun m hm=>by
  rw [BitVec.toNat_ofInt]
  omega
 have hor:v ||| y * 2 ^ s=v+y * 2 ^ s:=by
  have:=Nat.two_pow_add_eq_or_of_lt (a:=y) hv
  rw [Nat.or_comm,Nat.mul_comm,← this,Nat.add_comm]
 show IntKind.wrap .u64 (((BitVec.ofInt 64 (v:Int) ||| BitVec.ofInt 64 ((y * 2 ^ s:Nat):Int)).toNat:Nat):Int)=_
 rw [BitVec.toNat_or,o1 v (by omega),o1 _ (by omega),hor,wU64 (by omega)]
theorem low4:∀ x:Fin 32,bAnd .u64 ((x.val:Nat):Int) 15=((x.val % 16:Nat):Int)∧shR .u64 ((x.val:Nat):Int) 4=((x.val / 16:Nat):Int):=by decide +kernel
theorem Zmn {b:Nat} {L:List Bool} {F:Nat→Prop} (h:RD b L F w) {K:Res [.sc (.int .u64),.sc (.int .i64)]→W R} (h0:getVar L=none→∀ x e L' w',e≠0→RD b L' F w'→Fr (fun k=>k=b) w w'→K (x,e) Q w') (hk:∀ v L',getVar L=some (v,L')→v < 18446744073709551616→∀ w',RD b L' F w'→Fr (fun k=>k=b) w w'→K ((v:Int),0) Q w') :
  callW Tryz.prog Zbe [.pointer (some ⟨b,0,none⟩)] [.sc (.int .u64),.sc (.int .i64)] K Q w:=by
 refine Zo0 _ K Q w ?_
 unfold Zgz
 refine forI (N:=16) (fun s:Int × Int=>s.2) (fun j st u=>st.2=(j:Int)∧(∃ (v:Nat) (L':List Bool),st.1=(v:Int)∧v < 2 ^ (4 * j)∧RD b L' F u∧getVar L=varD (16 - j) j v L')∧Fr (fun k=>k=b) w u) ⟨rfl,⟨0,L,rfl,by decide,h,rfl⟩,Fr.refl _ _⟩ (fun j s w' h=>h.1) ?_ ?_
 ·rintro j ⟨_,_⟩ u K' hj ⟨rfl,⟨v,L',rfl,hv,hr,hg⟩,fu⟩ - hK
  obtain ⟨q,hq⟩:∃ q,16 - j=q+1:=⟨15 - j,by omega⟩
  rw [hq,varD] at hg
  refine Z6b hr (n:=5) (by decide) (fun hlt u2 hr2 f2=>?_) fun hge u2 hr2 f2=>?_
  ·rw [getN,if_neg (by omega)] at hg
   exact condT rfl (h0 hg _ _ _ u2 (by decide) hr2 (fu.then f2.any))
  ·rw [getN,if_pos hge] at hg
   dsimp only at hg
   have hx:=Zdk (L'.take 5)
   rw [List.length_take,Nat.min_eq_left hge] at hx
   obtain ⟨x,hxe⟩:∃ x,x=valB (L'.take 5):=⟨_,rfl⟩
   rw [← hxe] at hg hx ⊢
   obtain ⟨a1,a2⟩:=low4 ⟨x,hx⟩
   dsimp only at a1 a2
   have fu2:=fu.then f2
   have e4:IntKind.wrap .i64 (4 * (j:Int))=((4 * j:Nat):Int):=by rw [w64 (by omega)]; omega
   have hp2:2 ^ (4 * j) * 16≤2 ^ 64:=by
    rw [show (16:Nat)=2 ^ 4 from rfl,← Nat.pow_add]
    exact Nat.pow_le_pow_right (by decide) (by omega)
   have hm:x % 16 * 2 ^ (4 * j)+2 ^ (4 * j)≤2 ^ (4 * j) * 16:=by
    have:x % 16+1≤16:=by omega
    calc x % 16 * 2 ^ (4 * j)+2 ^ (4 * j)=(x % 16+1) * 2 ^ (4 * j):=by rw [Nat.add_mul,Nat.one_mul]
     _≤16 * 2 ^ (4 * j):=Nat.mul_le_mul_right _ this
     _=2 ^ (4 * j) * 16:=Nat.mul_comm _ _
   have eo:bOr .u64 (v:Int) (shL .u64 (bAnd .u64 (x:Int) 15) (IntKind.wrap .i64 (4 * (j:Int))))=((v+x % 16 * 2 ^ (4 * j):Nat):Int):=by
    rw [a1,e4]
    exact Zzj (by omega) hv (Nat.le_trans hm hp2)
   have hnv:v+x % 16 * 2 ^ (4 * j) < 2 ^ (4 * (j+1)):=by
    rw [Nat.mul_add,Nat.pow_add]
    show _ < 2 ^ (4 * j) * 16
    omega
   have hn64:v+x % 16 * 2 ^ (4 * j) < 18446744073709551616:=by omega
   obtain ⟨v2,hv2⟩:∃ v2,v2=v+x % 16 * 2 ^ (4 * j):=⟨_,rfl⟩
   rw [← hv2] at eo hnv hn64 hg
   refine condF rfl (chkI (by rw [e4]; omega) ?_)
   dsimp only
   rw [eo,a2]
   refine condE (fun hz=>?_) fun hz=>?_
   ·rw [if_pos (by omega)] at hg
    refine Zbr (by omega) (by omega) ?_
    rw [Int.toNat_natCast]
    have ej:IntKind.wrap .i64 ((j:Int)+1)=((j+1:Nat):Int):=wsucc (N:=16) hj (by decide)
    rw [ej]
    refine condN (fun hne=>?_) fun heq=>?_
    ·rw [if_neg (by omega)] at hg
     exact h0 hg _ _ _ u2 (by decide) hr2 fu2
    ·rw [if_pos (by omega)] at hg
     exact hk _ _ hg hn64 u2 hr2 fu2
   ·rw [if_neg (by omega)] at hg
    refine hK _ _ ⟨wsucc hj (by decide),⟨v2,_,rfl,hnv,hr2,?_⟩,fu2⟩
    rw [hg,show 16 - (j+1)=q by omega]
 ·rintro ⟨_,_⟩ u ⟨_,⟨v,L',rfl,hv,hr,hg⟩,fu⟩
  exact h0 hg _ _ _ u (by decide) hr fu
theorem RD.back {b:Nat} {L:List Bool} {F:Nat→Prop} (h:RD b L F w):∃ (s:Sl) (n:Int),Blk w b 173 [.slice s.a s.n s.c,.int .i64 n]∧∀ w',Fr (fun k=>k=b) w w'→Blk w' b 173 [.slice s.a s.n s.c,.int .i64 n]→RD b L F w':=by
 obtain ⟨hb,s,body,n,B,hS,h1,h2,h3,h4⟩:=h
 exact ⟨s,n,B,fun w' f B'=>⟨hb,s,body,n,B',hS.fr f fun k e=>e.2,h1,h2,h3,h4⟩⟩
theorem RD.blk {b:Nat} {L:List Bool} {F:Nat→Prop} (h:RD b L F w):∃ cs,Blk w b 173 cs∧cs.length=2:=by
 obtain ⟨hb,s,body,n,B,_⟩:=h
 exact ⟨_,B,rfl⟩
theorem Zmm {b:Nat} {L:List Bool} {F:Nat→Prop} (h:RD b L F w) {K:Res [.sc (.int .u64),.sc (.int .i64)]→W R} (h0:getVar L=none→∀ e w',e≠0→RD b L F w'→Fr (fun k=>k=b) w w'→K (0,e) Q w') (hk:∀ v L',getVar L=some (v,L')→v < 18446744073709551616→∀ w',RD b L' F w'→Fr (fun k=>k=b) w w'→K ((v:Int),0) Q w') :
  callW Tryz.prog Zbd [.pointer (some ⟨b,0,none⟩)] [.sc (.int .u64),.sc (.int .i64)] K Q w:=by
 refine Znx _ K Q w ?_
 unfold Zgw
 refine Z6p _ _ _ _ ?_
 unfold Z2u
 obtain ⟨s,n,B,hback⟩:=h.back
 have hb:=B.lt
 refine condF rfl (ptrI (aggI B (x:=((s,n):Sl × Int)) rfl (newI fun w1 B1 f1 z1=>stoAll B1 rfl rfl fun w2 B2 f2 z2=>?_)))
 have f02:Fr None w w2:=f1.newer f2 fun k e=>by omega
 refine Zmn (RD.st.fr0 h f02) (fun hg x e L' w3 he hr f3=>?_) fun v L' hg hv w3 hr f3=>?_
 ·refine condT (by simpa using he) ?_
  obtain ⟨cs,B3,hl⟩:=hr.blk
  refine aggI (B2.fr f3 fun e=>by omega) (x:=((s,n):Sl × Int)) rfl (ptrI (stoAll B3 hl.symm rfl fun w4 B4 f4 z4=>?_))
  have f04:=(f02.any.then f3).then f4
  exact h0 hg e w4 he (hback w4 f04 B4) f04
 ·exact condF rfl (hk v L' hg hv w3 hr (f02.any.then f3))
theorem Z17 {b:Nat} {L:List Bool} {F:Nat→Prop} (h:RD b L F w) {lo hi:Int} (h1:-4611686018427387904≤lo) (h2:lo≤hi) (h3:hi≤4611686018427387904) {K:Res [.sc (.int .i64),.sc (.int .i64)]→W R} (h0:getIn lo hi L=none→∀ e w',e≠0→RD b L F w'→Fr (fun k=>k=b) w w'→K (0,e) Q w') (hk:∀ v L',getIn lo hi L=some (v,L')→lo≤v∧v≤hi→∀ w',RD b L' F w'→Fr (fun k=>k=b) w w'→K (v,0) Q w') :
  callW Tryz.prog Zw [.pointer (some ⟨b,0,none⟩),.int .i64 lo,.int .i64 hi] [.sc (.int .i64),.sc (.int .i64)] K Q w:=by
 refine Zpn _ _ _ K Q w ?_
 unfold Zj9
 refine newI fun w1 B1 f1 z1=>newI fun w2 B2 f2 z2=>?_
 have Blo:=B1.fr f2 fun h=>h
 have f02:=f1.then0 f2
 obtain ⟨s,n,B,hback⟩:=h.back
 have hb:=B.lt
 refine joinI (fun z v=>z=false∧v=w2) ?_ ?_
 ·refine fld0 B2 (i:=0) (x:=hi) rfl (fld0 Blo (i:=0) (x:=lo) rfl (condF (decide_eq_false (by omega)) ⟨rfl,rfl⟩))
 rintro z v ⟨rfl,rfl⟩
 refine condF rfl ?_
 refine Z66 _ _ _ _ _ _ ?_
 unfold Z2n
 refine condF rfl (ptrI (aggI (B.fr f02 fun h=>h) (x:=((s,n):Sl × Int)) rfl (newI fun w3 B3 f3 z3=>stoAll B3 rfl rfl fun w4 B4 f4 z4=>?_)))
 have f24:Fr None v w4:=f3.newer f4 fun k e=>by omega
 have f04:=f02.then0 f24
 have Blo:=Blo.fr f24 fun h=>h
 have Bhi:=B2.fr f24 fun h=>h
 have hr4:=RD.st.fr0 h f04
 have hw:widthM lo hi≤64:=Z3b (by omega)
 refine Zkn _ _ _ _ _ _ ?_
 unfold Zcb
 refine ptrI (fld0 Blo (i:=0) (x:=lo) rfl (ptrI (fld0 Bhi (i:=0) (x:=hi) rfl ?_)))
 refine Z96 (by omega) (by omega) ?_
 have bad:getIn lo hi L=none→∀ x e L' w5,e≠0→RD b L' F w5→Fr (fun k=>k=b) w4 w5 →
   cond (e != 0)
    (ld (.agg [.sl,.int .i64]) ⟨v.heap.size,0,none⟩ fun (x_5:(Sl × Int))=>ptrW (some ⟨b,0,none⟩) fun x_6 =>
    stoL x_6 [.slice x_5.1.a x_5.1.n x_5.1.c,.int .i64 x_5.2] 0 <|
    K (0,e))
    (K (x,0)) Q w5:=by
  intro hg x e L' w5 he hr f5
  refine condT (by simpa using he) ?_
  obtain ⟨cs,B5,hl⟩:=hr.blk
  refine aggI (B4.fr f5 fun e=>by omega) (x:=((s,n):Sl × Int)) rfl (ptrI (stoAll B5 hl.symm rfl fun w6 B6 f6 z6=>?_))
  have f06:=(f04.any.then f5).then f6
  exact h0 hg e w6 he (hback w6 f06 B6) f06
 refine Z6b hr4 hw (fun hlt w5 hr5 f5=>?_) fun hge w5 hr5 f5=>?_
 ·refine condT rfl ?_
  exact bad (by unfold getIn; rw [getN,if_neg (by omega)]) 0 2 L w5 (by decide) hr5 f5.any
 ·refine condF rfl ?_
  have Blo5:=Blo.fr f5 fun e=>by omega
  have Bhi5:=Bhi.fr f5 fun e=>by omega
  have hg:getIn lo hi L=if ((valB (L.take (widthM lo hi)):Nat):Int)≤hi - lo then some (lo+((valB (L.take (widthM lo hi)):Nat):Int),L.drop (widthM lo hi)) else none:=by
   unfold getIn
   rw [getN,if_pos hge]
  have hx:=Zdk (L.take (widthM lo hi))
  rw [List.length_take,Nat.min_eq_left hge] at hx
  have hx64:2 ^ widthM lo hi≤2 ^ 64:=Nat.pow_le_pow_right (by decide) hw
  generalize valB (L.take (widthM lo hi))=x at hx hg
  refine ptrI (fld0 Bhi5 (i:=0) (x:=hi) rfl (ptrI (fld0 Blo5 (i:=0) (x:=lo) rfl ?_)))
  have ed:IntKind.wrap .u64 (IntKind.wrap .u64 hi - IntKind.wrap .u64 lo)=hi - lo:=by
   rw [IntKind.wrap_u64,IntKind.wrap_u64,IntKind.wrap_u64]
   omega
  rw [ed]
  refine condD (fun hgt=>?_) fun hle=>?_
  ·have hgt:(x:Int) > hi - lo:=hgt
   rw [if_neg (by omega)] at hg
   exact bad hg 0 5 _ w5 (by decide) hr5 f5
  ·have hle:¬ (x:Int) > hi - lo:=hle
   rw [if_pos (by omega)] at hg
   refine ptrI (fld0 Blo5 (i:=0) (x:=lo) rfl ?_)
   have es:IntKind.wrap .i64 (IntKind.wrap .u64 (IntKind.wrap .u64 lo+(x:Int)))=lo+(x:Int):=by
    have e1:IntKind.wrap .u64 (IntKind.wrap .u64 lo+(x:Int))=(lo+(x:Int)) % 18446744073709551616:=by
     rw [IntKind.wrap_u64,IntKind.wrap_u64]
     omega
    rw [e1,IntKind.wrap_i64]
    omega
   show K (IntKind.wrap .i64 (IntKind.wrap .u64 (IntKind.wrap .u64 lo+(x:Int))),0) Q w5
   rw [es]
   exact hk _ _ hg (by omega) w5 hr5 (f04.any.then f5)
end Go.Proofs.YtchhhjlpnecjkaaGreat
namespace Go.Proofs.YtchhhjlpnecjkaaGreat
open Go Go.RowKit Go.Proofs.YtchhhjlpnecjkaaGreat.Den
variable {R:Type} {Q:R→World→Prop} {w:World}
abbrev giveUp:List PanicEntry:=[{ v:=.iface 171 (.agg ⟨[]⟩),recovered:=false }]
section
variable [Pan R]
theorem Z50 {v e:Int} {K:Res [.sc (.int .u64)]→W R} (h0:e≠0→Pan.pan Q giveUp w) (hk:e=0→K v Q w):callP Tryz.prog Z2i [.int .u64 v,.int .i64 e] [.sc (.int .u64)] K Q w:=by
 refine Zdm v e K Q w ?_
 unfold Z4j
 refine joinI (fun _ w'=>e=0∧w'=w) (condN (fun h=>h0 h) fun h=>⟨h,rfl⟩) ?_
 rintro _ w' ⟨h,rfl⟩
 exact hk h
theorem Z5 {v e:Int} {K:Res [.sc (.int .i64)]→W R} (h0:e≠0→Pan.pan Q giveUp w) (hk:e=0→K v Q w):callP Tryz.prog Z6 [.int .i64 v,.int .i64 e] [.sc (.int .i64)] K Q w:=by
 refine Zev v e K Q w ?_
 unfold Z51
 refine joinI (fun _ w'=>e=0∧w'=w) (condN (fun h=>h0 h) fun h=>⟨h,rfl⟩) ?_
 rintro _ w' ⟨h,rfl⟩
 exact hk h
theorem Z60 {b:Nat} {L:List Bool} {F:Nat→Prop} (h:RD b L F w) {n:Nat} (hn:n≤64) {K:Res [.sc (.int .u64)]→W R} (h0:getN n L=none→∀ w',Fr (fun k=>k=b) w w'→Pan.pan Q giveUp w') (hk:∀ v L',getN n L=some (v,L')→v < 2 ^ n→∀ w',RD b L' F w'→Fr (fun k=>k=b) w w'→K (v:Int) Q w') :
  callP Tryz.prog Zk [.agg ⟨[.pointer (some ⟨b,0,none⟩)]⟩,.int .i64 (n:Int)] [.sc (.int .u64)] K Q w:=by
 refine Zbz _ _ K Q w ?_
 unfold Z41
 refine newI fun w1 B1 f1 z1=>fldI B1 (i:=0) (x:=some ⟨b,0,none⟩) rfl ?_
 refine Z6b (RD.st.fr0 h f1) hn (fun hlt w2 hr f2=>?_) fun hge w2 hr f2=>?_
 ·exact Z50 (fun _=>h0 (by rw [getN,if_neg (by omega)]) w2 (f1.then0 f2).any) fun h=>absurd h (by decide)
 ·refine Z50 (fun h=>absurd rfl h) fun _=>?_
  have hx:=Zdk (L.take n)
  rw [List.length_take,Nat.min_eq_left hge] at hx
  exact hk _ _ (by rw [getN,if_pos hge]) hx w2 hr (f1.any.then f2)
theorem Z4d {b:Nat} {L:List Bool} {F:Nat→Prop} (h:RD b L F w) {K:Res [.sc (.int .u64)]→W R} (h0:getVar L=none→∀ w',Fr (fun k=>k=b) w w'→Pan.pan Q giveUp w') (hk:∀ v L',getVar L=some (v,L')→v < 18446744073709551616→∀ w',RD b L' F w'→Fr (fun k=>k=b) w w'→K (v:Int) Q w') :
  callP Tryz.prog Ze [.agg ⟨[.pointer (some ⟨b,0,none⟩)]⟩] [.sc (.int .u64)] K Q w:=by
 refine Zbx _ K Q w ?_
 unfold Z3z
 refine newI fun w1 B1 f1 z1=>fldI B1 (i:=0) (x:=some ⟨b,0,none⟩) rfl ?_
 refine Zmm (RD.st.fr0 h f1) (fun hg e w2 he hr f2=>?_) fun v L' hg hv w2 hr f2=>?_
 ·exact Z50 (fun _=>h0 hg w2 (f1.any.then f2)) fun h=>absurd h he
 ·exact Z50 (fun h=>absurd rfl h) fun _=>hk v L' hg hv w2 hr (f1.any.then f2)
theorem Zix {b bl:Nat} {L:List Bool} {F:Nat→Prop} {T:TypeId} {last:Int} (h:RD b L F w) (B:Blk w bl T [.int .u32 last]) (hbl:¬ F bl) {K:Res [.sc (.int .u32)]→W R} (h0:idDec last L=none→∀ w',Fr (fun k=>k=b∨k=bl) w w'→Pan.pan Q giveUp w')
  (hk:∀ id L',idDec last L=some (id,L')→IdOk id→∀ w',RD b L' F w'→Blk w' bl T [.int .u32 id]→Fr (fun k=>k=b∨k=bl) w w'→K id Q w') :
  callP Tryz.prog Z2d [.agg ⟨[.pointer (some ⟨b,0,none⟩)]⟩,.pointer (some ⟨bl,0,none⟩)] [.sc (.int .u32)] K Q w:=by
 refine Zgd _ _ K Q w ?_
 unfold Z5h
 have hbb:b≠bl:=fun e=>hbl (e ▸ h.1)
 refine newI fun w1 B1 f1 z1=>aggI B1 (x:=some ⟨b,0,none⟩) rfl ?_
 have or1:∀ {u v:World},Fr (fun k=>k=b) u v→Fr (fun k=>k=b∨k=bl) u v:=fun f=>f.sub fun k e=>.inl e
 refine Z4d (RD.st.fr0 h f1) (fun hg w2 f2=>?_) fun v L' hg hv w2 hr f2=>?_
 ·exact h0 (by unfold idDec; rw [hg]) w2 (or1 (f1.any.then f2))
 have f02:=or1 (f1.any.then f2)
 have hid:idDec last L=if 4294967296≤v then none else some ((last+(v:Int)+1) % 4294967296,L'):=by unfold idDec; rw [hg]
 refine joinI (fun _ w'=>v < 4294967296∧w'=w2) ?_ ?_
 ·refine condD (fun hge=>?_) fun hlt=>⟨by omega,rfl⟩
  exact h0 (by rw [hid,if_pos (by omega)]) w2 f02
 rintro _ w3 ⟨hlt,rfl⟩
 rw [if_neg (by omega)] at hid
 have Bl:=(B.fr f1 fun h=>h).fr f2 fun e=>hbb e.symm
 refine ptrI (fld0 Bl (i:=0) (x:=last) rfl (ptrI ?_))
 have e:IntKind.wrap .u32 (last+IntKind.wrap .u32 (IntKind.wrap .u32 (v:Int)+1))=(last+(v:Int)+1) % 4294967296:=by
  have a:∀ x:Int,IntKind.wrap .u32 x=x % 4294967296:=fun x=>by rw [IntKind.wrap_u32]
  rw [a,a,a]
  omega
 rw [e]
 refine stoAll Bl rfl rfl fun w4 B4 f4 z4=>ptrI (fld0 B4 (i:=0) (x:=(last+(v:Int)+1) % 4294967296) rfl ?_)
 refine hk _ L' hid ⟨by omega,by omega⟩ w4 (RD.st.fr hr f4 fun k e e2=>hbl (e2 ▸ e)) B4 (f02.then (f4.sub fun k e=>.inr e))
end
end Go.Proofs.YtchhhjlpnecjkaaGreat
namespace Go.Proofs.YtchhhjlpnecjkaaGreat
open Go Go.RowKit Go.Proofs.YtchhhjlpnecjkaaGreat.Den
variable {R:Type} {Q:R→World→Prop} {w:World}
theorem Zjp {b:Nat} {L:List Bool} {F:Nat→Prop} (h:RD b L F w) {k i:Int} (hr:(rangeM k i).1≤(rangeM k i).2.1) {K:Res [.sc (.int .i32),.sc (.int .i64)]→W R} (h0:getIn (rangeM k i).1 (rangeM k i).2.1 L=none→∀ e w',e≠0→RD b L F w'→Fr (fun k=>k=b) w w'→K (0,e) Q w') (hk:∀ v L',getIn (rangeM k i).1 (rangeM k i).2.1 L=some (v,L')→(rangeM k i).1≤v∧v≤(rangeM k i).2.1→∀ w',RD b L' F w'→Fr (fun k=>k=b) w w'→K (v,0) Q w') :
  callW Tryz.prog Zhd [.pointer (some ⟨b,0,none⟩),.int .u8 k,.int .i64 i] [.sc (.int .i32),.sc (.int .i64)] K Q w:=by
 refine Zue _ _ _ K Q w ?_
 unfold Zpr
 refine Z6f fun w1 f1=>?_
 obtain ⟨r1,r2⟩:=Z19 k i
 rw [w64 (x:=(rangeM k i).1) (by omega),w64 (x:=(rangeM k i).2.1) (by omega)]
 refine Z17 (RD.st.fr0 h f1) (by omega) hr (by omega) (fun hg e w2 he hr2 f2=>?_) fun v L' hg hv w2 hr2 f2=>?_
 ·exact h0 hg e w2 he hr2 (f1.any.then f2)
 ·have ew:IntKind.wrap .i32 v=v:=by rw [IntKind.wrap_i32]; omega
  show K (IntKind.wrap .i32 v,0) Q w2
  rw [ew]
  exact hk v L' hg hv w2 hr2 (f1.any.then f2)
theorem Zcs (k:Int):∀ (is js:List Nat) (L:List Bool),readF k (is ++ js) L=match readF k is L with
  | none=>none
  | some (vs,L2)=>match readF k js L2 with
   | none=>none
   | some (vs2,L3)=>some (vs ++ vs2,L3)
 | [],js,L=>by
  rw [List.nil_append,readF]
  dsimp only
  cases readF k js L with
  | none=>rfl
  | some p=>rfl
 | i :: r,js,L=>by
  rw [List.cons_append,readF,readF]
  cases getIn (rangeM k (i:Int)).1 (rangeM k (i:Int)).2.1 L with
  | none=>rfl
  | some p =>
   obtain ⟨v,L2⟩:=p
   dsimp only
   rw [Zcs k r js L2]
   cases readF k r L2 with
   | none=>rfl
   | some q =>
    obtain ⟨vs,L3⟩:=q
    dsimp only
    cases readF k js L3 with
    | none=>rfl
    | some t=>rfl
theorem Zt4 {k:Int} {vs:List Int} {v:Int} (h:vs.length < 3):(compC (mkC k vs)).set (1+vs.length) (.int .i32 v)=compC (mkC k (vs ++ [v])):=by
 rcases vs with _ | ⟨a,_ | ⟨b,_ | ⟨c,r⟩⟩⟩
 ·rfl
 ·rfl
 ·rfl
 ·simp at h; omega
theorem Zkg (k:Int) {i:Nat} (h:i < cntM k):(rangeM k (i:Int)).1≤(rangeM k (i:Int)).2.1:=by
 have h3:=Z45 k
 rcases Zb4 k with rfl | rfl | rfl | rfl | rfl | rfl | hk
 ·rcases (show i=0∨i=1∨i=2 by omega) with rfl | rfl | rfl <;> first | decide +kernel | exact absurd h (by decide +kernel)
 ·rcases (show i=0∨i=1∨i=2 by omega) with rfl | rfl | rfl <;> first | decide +kernel | exact absurd h (by decide +kernel)
 ·rcases (show i=0∨i=1∨i=2 by omega) with rfl | rfl | rfl <;> first | decide +kernel | exact absurd h (by decide +kernel)
 ·rcases (show i=0∨i=1∨i=2 by omega) with rfl | rfl | rfl <;> first | decide +kernel | exact absurd h (by decide +kernel)
 ·rcases (show i=0∨i=1∨i=2 by omega) with rfl | rfl | rfl <;> first | decide +kernel | exact absurd h (by decide +kernel)
 ·rcases (show i=0∨i=1∨i=2 by omega) with rfl | rfl | rfl <;> first | decide +kernel | exact absurd h (by decide +kernel)
 ·have:cntM k=0:=by unfold cntM fieldsM; simp [hk]
  omega
theorem Zp0 {b:Nat} {L:List Bool} {F:Nat→Prop} (h:RD b L F w) (hF:∀ k,F k→k < w.heap.size) {k:Int} {K:Res [.agg [.int .u8,.int .i32,.int .i32,.int .i32],.sc (.int .i64)]→W R} (h0:compD k L=none→∀ e w',e≠0→RD b L F w'→Fr (fun k=>k=b) w w'→K ((0,0,0,0),e) Q w') (hk:∀ c L',compD k L=some (c,L')→∀ w',RD b L' F w'→Fr (fun k=>k=b) w w'→K (c,0) Q w') :
  callW Tryz.prog Zih [.pointer (some ⟨b,0,none⟩),.int .u8 k] [.agg [.int .u8,.int .i32,.int .i32,.int .i32],.sc (.int .i64)] K Q w:=by
 refine Ztn _ _ K Q w ?_
 unfold Zn5
 have hbb:=hF b h.1
 have hcn:=Z45 k
 refine newI fun w1 Br f1 z1=>newI fun w2 Bk f2 z2=>newI fun w3 Bx f3 z3=>?_
 have Br:=(Br.fr f2 fun h=>h).fr f3 fun h=>h
 have Bk:=Bk.fr f3 fun h=>h
 have f03:=(f1.then0 f2).then0 f3
 refine fld0 Br (i:=0) (x:=some ⟨b,0,none⟩) rfl (condF rfl (fld0 Bk (i:=0) (x:=k) rfl (Z2s fun w4 f4=>?_)))
 have f04:=f03.then0 f4
 have Br:=Br.fr f4 fun h=>h
 have Bk:=Bk.fr f4 fun h=>h
 have Bx:=Bx.fr f4 fun h=>h
 have s4:=f4.size
 refine condE (fun hz=>?_) fun hz=>?_
 ·refine stoAll Bx rfl rfl fun w5 B5 f5 z5=>aggI B5 (x:=((0,0,0,0):Comp)) rfl ?_
  exact h0 (by unfold compD; rw [if_pos (by omega)]) 1 w5 (by decide) (RD.st.fr (RD.st.fr0 h f04) f5 fun k e e2=>by have:=hF k e; omega) (f04.newer f5 fun k e=>by omega).any
 have hD:compD k L=match readF k (List.range (cntM k)) L with
   | none=>none
   | some (vs,r)=>some (mkC k vs,r):=by unfold compD; rw [if_neg (by omega)] <;> rfl
 refine fld0 Br (i:=0) (x:=some ⟨b,0,none⟩) rfl (fld0 Bk (i:=0) (x:=k) rfl ?_)
 refine Zae (some ⟨b,0,none⟩) (k,0,0,0) _ _ _ _ _ ?_
 unfold Z5d
 have hr4:=RD.st.fr0 h f04
 obtain ⟨s,n,B,hback⟩:=hr4.back
 refine newI fun w5 Bc f5 z5=>newI fun w6 By f6 z6=>?_
 have Bc:=Bc.fr f6 fun h=>h
 have f46:=f5.then0 f6
 refine ptrI (aggI (B.fr f46 fun h=>h) (x:=((s,n):Sl × Int)) rfl (newI fun w7 Bw f7 z7=>stoAll Bw rfl rfl fun w8 Bw f8 z8=>?_))
 have f68:Fr None w6 w8:=f7.newer f8 fun k e=>by omega
 have f48:=f46.then0 f68
 have Bc:=Bc.fr f68 fun h=>h
 have By:=By.fr f68 fun h=>h
 refine fldI Bc (i:=0) (x:=k) rfl (Z2s fun w9 f9=>?_)
 have f49:=f48.then0 f9
 have s9:=f49.size
 have hw4:w.heap.size≤w4.heap.size:=f04.size
 have hFn:∀ {x:Nat},w.heap.size≤x→∀ k,F k→¬ k=x:=fun hx k e e2=>by have:=hF k e; omega
 refine forI (N:=cntM k) (fun s:Int=>s) (fun j i u=>i=(j:Int)∧(∃ vs L',vs.length=j∧readF k (List.range j) L=some (vs,L')∧Blk u w4.heap.size 92 (compC (mkC k vs))∧RD b L' F u)∧Fr (fun k=>k=b) w4 u∧Blk u w5.heap.size 92 (compC (0,0,0,0))∧Blk u w6.heap.size 173 [.slice s.a s.n s.c,.int .i64 n]∧Blk u w.heap.size 60 [.pointer (some ⟨b,0,none⟩)]∧Blk u w1.heap.size 5 [.int .u8 k]∧Blk u w2.heap.size 92 (compC (0,0,0,0)))
  ⟨rfl,⟨[],L,rfl,rfl,Bc.fr f9 fun h=>h,RD.st.fr0 hr4 f49⟩,f49.any,By.fr f9 fun h=>h,Bw.fr f9 fun h=>h,Br.fr f49 fun h=>h,Bk.fr f49 fun h=>h,Bx.fr f49 fun h=>h⟩ (fun j s w' h=>h.1) ?_ ?_
 ·rintro j i u K' hj ⟨rfl,⟨vs,L',hvl,hrd,Bc,hr⟩,fu,By,Bw,Br,Bk,Bx⟩ - hK
  refine Znv _ _ _ _ _ _ ?_
  unfold Zgu
  have nb:∀ {x:Nat},w.heap.size≤x→¬ x=b:=fun hx e=>by omega
  have f0u:Fr (fun k=>k=b) w u:=f04.any.then fu
  refine ptrI (fld0 Br (i:=0) (x:=some ⟨b,0,none⟩) rfl (ptrI (fld0 Bk (i:=0) (x:=k) rfl ?_)))
  refine Zjp hr (Zkg k hj) (fun hg e u2 he hr2 f2=>?_) fun v L2 hg hv u2 hr2 f2=>?_
  ·have hnone:compD k L=none:=by
    rw [hD]
    have e1:List.range (cntM k)=List.range j ++ (j :: List.range' (j+1) (cntM k - j - 1)):=by
     have:cntM k=j+((cntM k - j - 1)+1):=by omega
     rw [this,List.range_eq_range',List.range_eq_range',← List.range'_append_1,Nat.zero_add,List.range'_succ]
     congr 4
     omega
    rw [e1,Zcs,hrd]
    dsimp only
    rw [readF,hg]
   refine condT (by simpa using he) ?_
   obtain ⟨cs,B2,hl⟩:=hr2.blk
   refine aggI (Bw.fr f2 (nb (by omega))) (x:=((s,n):Sl × Int)) rfl (ptrI (stoAll B2 hl.symm rfl fun u3 B3 f3 y3=>?_))
   have By3:=(By.fr f2 (nb (by omega))).fr f3 (nb (by omega))
   have f43:Fr (fun k=>k=b) w4 u3:=(fu.then f2).then f3
   have hr3:=hback u3 f43 B3
   have s3:=f43.size
   refine stoAll By3 rfl rfl fun u4 B4 f4 y4=>aggI B4 (x:=((0,0,0,0):Comp)) rfl ?_
   have Bx4:=(((Bx.fr f2 (nb (by omega))).fr f3 (nb (by omega))).fr f4 fun e=>by omega)
   refine stoAll Bx4 rfl rfl fun u5 B5 f5 y5=>aggI B5 (x:=((0,0,0,0):Comp)) rfl ?_
   exact h0 hnone e u5 he (RD.st.fr (RD.st.fr hr3 f4 (hFn (by omega))) f5 (hFn (by omega))) (((f04.any.then f43).thenNew f4 fun k e=>by omega).thenNew f5 fun k e=>by omega)
  ·show idxW (some (Addr.add ⟨w4.heap.size,0,none⟩ 1)) 3 1 (j:Int) (fun x=>stoL x [.int .i32 v] 0 (K' (IntKind.wrap .i64 ((j:Int)+1)))) _ _
   refine fIdx rfl (by omega) ?_
   refine setI (i:=1+j) (Bc.fr f2 (nb (by omega))) (by simp; omega) rfl fun u3 B3 f3 y3=>?_
   subst hvl
   rw [Zt4 (by omega)] at B3
   have ne:∀ {x:Nat},x≠w4.heap.size→¬ x=w4.heap.size:=fun h=>h
   refine hK _ _ ⟨wsucc hj (by omega),⟨vs ++ [v],L2,by simp,?_,B3,RD.st.fr hr2 f3 (hFn (by omega))⟩,(fu.then f2).thenNew f3 fun k e=>by omega,(By.fr f2 (nb (by omega))).fr f3 (ne (by omega)),(Bw.fr f2 (nb (by omega))).fr f3 (ne (by omega)),(Br.fr f2 (nb (by omega))).fr f3 (ne (by omega)),(Bk.fr f2 (nb (by omega))).fr f3 (ne (by omega)),(Bx.fr f2 (nb (by omega))).fr f3 (ne (by omega))⟩
   rw [List.range_succ,Zcs,hrd]
   dsimp only
   rw [readF,hg]
   rfl
 ·rintro i u ⟨_,⟨vs,L',hvl,hrd,Bc,hr⟩,fu,By,Bw,Br,Bk,Bx⟩
  rw [hrd] at hD
  dsimp only at hD
  refine aggI Bc (x:=mkC k vs) rfl (stoAll By rfl rfl fun u2 B2 f2 y2=>aggI B2 (x:=mkC k vs) rfl ?_)
  have Bx2:=Bx.fr f2 fun e=>by omega
  refine stoAll Bx2 rfl rfl fun u3 B3 f3 y3=>aggI B3 (x:=mkC k vs) rfl ?_
  exact hk _ L' hD u3 (RD.st.fr (RD.st.fr hr f2 (hFn (by omega))) f3 (hFn (by omega))) (((f04.any.then fu).thenNew f2 fun k e=>by omega).thenNew f3 fun k e=>by omega)
end Go.Proofs.YtchhhjlpnecjkaaGreat
namespace Go.Proofs.YtchhhjlpnecjkaaGreat
open Go Go.RowKit Go.Proofs.YtchhhjlpnecjkaaGreat.Den
variable {R:Type} {Q:R→World→Prop} {w:World}
theorem Zxq:∀ m:Fin 32,∀ j:Fin 5,(bAnd .u64 (shR .u64 ((m.val:Nat):Int) ((j.val:Nat):Int)) 1 == 1)=m.val.testBit j.val:=by decide +kernel
def kindsB (m j:Nat):List Int:=((List.range j).filter (Nat.testBit m)).map fun (k:Nat)=>(k:Int)
theorem Z5a (m j:Nat):kindsB m (j+1)=kindsB m j ++ if m.testBit j=true then [(j:Int)] else []:=by
 unfold kindsB
 rw [List.range_succ,List.filter_append,List.map_append]
 congr 1
 by_cases h:m.testBit j=true
 ·simp [List.filter,h]
 ·simp [List.filter,h]
theorem Z4c {m:Nat} (h:m < 32):kindsB m 5=kindsOf m:=by
 have e:kindsOf m=kindsB m 6:=rfl
 have h5:m.testBit 5=false:=by
  rw [Nat.testBit_eq_decide_div_mod_eq]
  simp
  omega
 rw [e,show (6:Nat)=5+1 from rfl,Z5a m 5,h5]
 simp
theorem Zhf (m j:Nat):(kindsB m j).length≤j:=by
 unfold kindsB
 rw [List.length_map]
 exact Nat.le_trans (List.length_filter_le _ _) (by simp)
theorem Zb0 {m:Nat} (hm:m < 32) {K:Res [.sc .sl]→W R} (hk:∀ r w',Own (Up w.heap.size) w' 5 u8T r (kindsOf m)→Fr None w w'→K r Q w') :
  callW Tryz.prog Z6j [.int .u64 (m:Int)] [.sc .sl] K Q w:=by
 refine Zmf _ K Q w ?_
 unfold Zef
 refine forI (N:=5) (fun s:Sl × Int=>s.2) (fun j st u=>st.2=(j:Int)∧Own (Up w.heap.size) u 5 u8T st.1 (kindsB m j)∧Fr None w u) ⟨rfl,Own.nil _ _ _ _,Fr.refl _ _⟩ (fun j s w' h=>h.1) ?_ ?_
 ·rintro j ⟨z,_⟩ u K' hj ⟨rfl,o,fu⟩ - hK
  have zu:=fu.size
  have lb:=Zhf m j
  refine chkI (by omega) ?_
  have hb:=Zxq ⟨m,hm⟩ ⟨j,hj⟩
  dsimp only at hb ⊢
  rw [hb]
  refine joinI (fun z u'=>Own (Up w.heap.size) u' 5 u8T z (kindsB m (j+1))∧Fr None w u') ?_ fun z u' ⟨h1,h2⟩=>hK _ _ ⟨by rw [wu8 (by omega)]; rfl,h1,h2⟩
  rw [Z5a]
  refine condI (fun h=>?_) fun h=>?_
  ·rw [if_pos h]
   exact appP (x:=(j:Int)) Z3r rfl o (fun k e=>by show w.heap.size≤k; omega) (by omega) (by omega) fun r u2 o2 f2=>⟨o2,fu.newer f2 fun k e=>o.own k e⟩
  ·rw [if_neg (by rw [h]; decide),List.append_nil]
   exact ⟨o,fu⟩
 ·rintro ⟨z,_⟩ u ⟨_,o,fu⟩
  rw [Z4c hm] at o
  exact hk z u o fu
theorem Z6m [Pan R] {v:Comp} {e:Int} {K:Res [.agg [.int .u8,.int .i32,.int .i32,.int .i32]]→W R} (h0:e≠0→∀ w',Fr None w w'→Pan.pan Q giveUp w') (hk:e=0→∀ w',Fr None w w'→K v Q w'):callP Tryz.prog Z3s [.agg ⟨[.int .u8 v.1,.int .i32 v.2.1,.int .i32 v.2.2.1,.int .i32 v.2.2.2]⟩,.int .i64 e] [.agg [.int .u8,.int .i32,.int .i32,.int .i32]] K Q w:=by
 refine Zgc v e K Q w ?_
 unfold Z5g
 refine newI fun w1 B1 f1 z1=>newI fun w2 B2 f2 z2=>?_
 have f02:=f1.then0 f2
 refine joinI (fun _ w'=>e=0∧w'=w2) (condN (fun h=>h0 h w2 f02) fun h=>⟨h,rfl⟩) ?_
 rintro _ w' ⟨h,rfl⟩
 refine aggI (B1.fr f2 fun h=>h) (x:=v) rfl (stoAll B2 rfl rfl fun w3 B3 f3 z3=>aggI B3 (x:=v) rfl ?_)
 exact hk h w3 (f02.newer f3 fun k e=>by omega)
theorem Zhu [Pan R] {b:Nat} {L:List Bool} {F:Nat→Prop} (h:RD b L F w) (hF:∀ k,F k→k < w.heap.size) {m:Nat} (hm:m < 32) {K:Res [.sc .sl]→W R} (h0:compsD (kindsOf m) L=none→∀ w',Fr (fun k=>k=b) w w'→Pan.pan Q giveUp w') (hk:∀ cs L',compsD (kindsOf m) L=some (cs,L')→∀ r w',Own (Up w.heap.size) w' 92 compT r cs→RD b L' F w'→Fr (fun k=>k=b) w w'→K r Q w') :
  callP Tryz.prog Z2c [.agg ⟨[.pointer (some ⟨b,0,none⟩)]⟩,.int .u64 (m:Int)] [.sc .sl] K Q w:=by
 refine Zbw _ _ K Q w ?_
 unfold Z3y
 have hbb:=hF b h.1
 refine newI fun w1 B1 f1 z1=>Zb0 hm fun r w2 o2 f2=>?_
 have f02:=f1.then0 f2
 have z2:=f02.size
 have B2:=B1.fr f2 fun h=>h
 have hlen:=o2.len
 have hkl:(kindsOf m).length≤5:=by rw [← Z4c hm]; exact Zhf m 5
 have app:∀ (is js:List Int) (L:List Bool) cs L2,compsD is L=some (cs,L2)→compsD (is ++ js) L=match compsD js L2 with
   | none=>none
   | some (cs2,L3)=>some (cs ++ cs2,L3):=by
  intro is
  induction is with
  | nil =>
   intro js L cs L2 e
   rw [compsD] at e
   cases e
   rw [List.nil_append]
   cases compsD js L with
   | none=>rfl
   | some p=>rfl
  | cons i is ih =>
   intro js L cs L2 e
   rw [compsD] at e
   rw [List.cons_append,compsD]
   cases hi:compD i L with
   | none=>rw [hi] at e; cases e
   | some p =>
    obtain ⟨c,L1⟩:=p
    rw [hi] at e
    dsimp only at e ⊢
    cases hj:compsD is L1 with
    | none=>rw [hj] at e; cases e
    | some q =>
     obtain ⟨cs1,L3⟩:=q
     rw [hj] at e
     dsimp only at e
     cases e
     rw [ih js L1 _ _ hj]
     cases compsD js _ with
     | none=>rfl
     | some t=>rfl
 refine forI (N:=r.n) (fun s:Sl × Int=>s.2) (fun j st u=>st.2=(j:Int)∧(∃ cs L',compsD ((kindsOf m).take j) L=some (cs,L')∧cs.length=j∧Own (fun k=>w2.heap.size≤k) u 92 compT st.1 cs∧RD b L' F u)∧Fr (fun k=>k=b) w2 u) ⟨rfl,⟨[],L,rfl,rfl,Own.nil _ _ _ _,RD.st.fr0 h f02⟩,Fr.refl _ _⟩ (fun j s w' h=>h.1) ?_ ?_
 ·rintro j ⟨z,_⟩ u K' hj ⟨rfl,⟨cs,L',e,hl,o,hr⟩,fu⟩ - hK
  have zu:=fu.size
  have nbo:∀ k,Up w1.heap.size k→¬ k=b:=fun k e e2=>by have e:w1.heap.size≤k:=e; omega
  refine (o2.sl.fr fu nbo).get rfl rfl (by omega) fun k hkj=>?_
  have e1:=app _ [k] L cs L' e
  rw [← Z8 hkj] at e1
  refine fldI (B2.fr fu fun e=>by omega) (i:=0) (x:=some ⟨b,0,none⟩) rfl ?_
  refine Zp0 hr (fun k e=>by have:=hF k e; omega) (fun hg e' u2 he hr2 f2'=>?_) fun c L2 hg u2 hr2 f2'=>?_
  ·refine Z6m (v:=(0,0,0,0)) (fun _ w' f'=>h0 ?_ w' (((f02.any.then fu).then f2').then f'.any)) fun h=>absurd h he
   have:kindsOf m=(kindsOf m).take (j+1) ++ (kindsOf m).drop (j+1):=(List.take_append_drop _ _).symm
   rw [compsD,hg] at e1
   have none_app:∀ (is js:List Int) (L:List Bool),compsD is L=none→compsD (is ++ js) L=none:=by
    intro is
    induction is with
    | nil=>intro js L e; rw [compsD] at e; cases e
    | cons i is ih =>
     intro js L e
     rw [compsD] at e
     rw [List.cons_append,compsD]
     cases hi:compD i L with
     | none=>rfl
     | some p =>
      obtain ⟨c,L1⟩:=p
      rw [hi] at e
      dsimp only at e ⊢
      cases hj:compsD is L1 with
      | none=>rw [ih js L1 hj]
      | some q=>rw [hj] at e; cases e
   rw [this]
   exact none_app _ _ _ e1
  ·simp only [compsD,hg] at e1
   refine Z6m (v:=c) (fun h=>absurd rfl h) fun _ u3 f3=>?_
   have s2:=f2'.size
   have s3:=f3.size
   have o3:Own (fun k=>w2.heap.size≤k) u3 92 compT z cs:=(o.fr f2' fun k e e2=>by omega).none f3
   refine appP (x:=c) Z26 rfl o3 (fun k e=>by show w2.heap.size≤k; omega) (by omega) (by omega) fun r2 u4 o4 f4=>?_
   exact hK _ _ ⟨wsucc hj (by omega),⟨cs ++ [c],L2,e1,by simp [hl],o4,RD.st.fr (RD.st.fr0 hr2 f3) f4 fun k e e2=>by have:=o3.own k e2; have:=hF k e; omega⟩,((fu.then f2').then f3.any).thenNew f4 fun k e=>by have:=o3.own k e; omega⟩
 ·rintro ⟨z,_⟩ u ⟨_,⟨cs,L',e,hl,o,hr⟩,fu⟩
  rw [List.take_of_length_le (by omega)] at e
  exact hk cs L' e z u (o.mono fun k _ e=>by show w.heap.size≤k; omega) hr (f02.any.then fu)
end Go.Proofs.YtchhhjlpnecjkaaGreat
namespace Go.Proofs.YtchhhjlpnecjkaaGreat
open Go Go.RowKit Go.Proofs.YtchhhjlpnecjkaaGreat.Den
variable {R:Type} {Q:R→World→Prop} {w:World}
theorem Zws:∀ z:Fin 17,bXor .i64 (IntKind.wrap .i64 (shR .u64 ((z.val:Nat):Int) 1)) (IntKind.wrap .i64 (0 - IntKind.wrap .i64 (bAnd .u64 ((z.val:Nat):Int) 1)))=zagM ((z.val:Nat):Int):=by decide +kernel
theorem Zp2 {z:Nat} (hz:z≤16) {K:Res [.sc (.int .i64)]→W R} (hk:K (zagM (z:Int)) Q w):callW Tryz.prog Zij [.int .u64 (z:Int)] [.sc (.int .i64)] K Q w:=by
 refine Ztq _ K Q w ?_
 unfold Zn8
 have:=Zws ⟨z,by omega⟩
 dsimp only at this
 rw [this]
 exact hk
theorem Zlu {b:Nat} {L:List Bool} {F:Nat→Prop} (h:RD b L F w) (hF:∀ k,F k→k < w.heap.size) {was:Comp} (hc:CompOk was) {i:Nat} (hi:i < 3) (hr:(rangeM was.1 (i:Int)).1≤(rangeM was.1 (i:Int)).2.1) {K:Res [.sc (.int .i32),.sc (.int .i64)]→W R}
  (h0:movedD was i L=none→∀ v e L' w',e≠0→RD b L' F w'→Fr (fun k=>k=b) w w'→K (v,e) Q w') (hk:∀ v L',movedD was i L=some (v,L')→∀ w',RD b L' F w'→Fr (fun k=>k=b) w w'→K (v,0) Q w') :
  callW Tryz.prog Zcf [.pointer (some ⟨b,0,none⟩),.agg ⟨compC was⟩,.int .i64 (i:Int)] [.sc (.int .i32),.sc (.int .i64)] K Q w:=by
 refine Zpg _ was _ K Q w ?_
 unfold Zj2
 have hbb:=hF b h.1
 have hfl:=flI hc i
 refine newI fun w1 B1 f1 z1=>?_
 have nb:∀ {x:Nat},w.heap.size≤x→¬ x=b:=fun hx e=>by omega
 have hm:movedD was i L=match getN 1 L with
   | none=>none
   | some (b,L1)=>if b=0 then some (fl was i,L1) else match getN 1 L1 with
    | none=>none
    | some (b2,L2)=>if b2=0 then (match getIn (rangeM was.1 (i:Int)).1 (rangeM was.1 (i:Int)).2.1 L2 with
      | none=>none
      | some (n,L3)=>if zigM (n - fl was i)≤16 then none else some (n,L3))
     else match getN 4 L2 with
      | none=>none
      | some (z,L3)=>if fl was i+zagM ((z:Int)+1) < (rangeM was.1 (i:Int)).1∨(rangeM was.1 (i:Int)).2.1 < fl was i+zagM ((z:Int)+1) then none else some (fl was i+zagM ((z:Int)+1),L3):=rfl
 refine Z6b (RD.st.fr0 h f1) (n:=1) (by decide) (fun hlt w2 hr2 f2=>?_) fun hge w2 hr2 f2=>?_
 ·refine joinI (fun z v=>z=true∧v=w2) (condT rfl ⟨rfl,rfl⟩) ?_
  rintro z v ⟨rfl,rfl⟩
  refine condT rfl (fIdx (j:=i) rfl hi (fld0 (B1.fr f2 fun h=>h) (x:=fl was i) (Z1u was hi) ?_))
  exact h0 (by rw [hm,getN,if_neg (by omega)]) _ 2 L v (by decide) hr2 (f1.then0 f2).any
 have e1:getN 1 L=some (valB (L.take 1),L.drop 1):=by rw [getN,if_pos hge]
 rw [e1] at hm
 dsimp only at hm
 have f02:Fr (fun k=>k=b) w w2:=f1.any.then f2
 have B2:=B1.fr f2 (nb (Nat.le_refl _))
 refine joinI (fun z v=>z=decide (valB (L.take 1)=0)∧v=w2) (condF rfl ⟨?_,rfl⟩) ?_
 ·by_cases c:valB (L.take 1)=0
  ·rw [c]; rfl
  ·rw [decide_eq_false c]; simpa using c
 rintro z v ⟨rfl,rfl⟩
 refine condD (fun c=>?_) fun c=>?_
 ·rw [if_pos c] at hm
  refine fIdx (j:=i) rfl hi (fld0 B2 (x:=fl was i) (Z1u was hi) ?_)
  exact hk _ _ hm v hr2 f02
 rw [if_neg c] at hm
 refine Z6b hr2 (n:=1) (by decide) (fun hlt w3 hr3 f3=>?_) fun hge2 w3 hr3 f3=>?_
 ·exact condT rfl (h0 (by rw [hm,getN,if_neg (by omega)]) _ 2 _ w3 (by decide) hr3 (f02.then f3.any))
 have e2:getN 1 (L.drop 1)=some (valB ((L.drop 1).take 1),(L.drop 1).drop 1):=by rw [getN,if_pos hge2]
 rw [e2] at hm
 dsimp only at hm
 have f03:=f02.then f3
 have B3:=B2.fr f3 (nb (Nat.le_refl _))
 refine condF rfl (condE (fun c2=>?_) fun c2=>?_)
 ·rw [if_pos (by omega)] at hm
  refine fld0 B3 (i:=0) (x:=was.1) rfl (Zjp hr3 hr (fun hg e w4 he hr4 f4=>?_) fun v L3 hg hv w4 hr4 f4=>?_)
  ·have he':(e == 0)=false:=by simpa using he
   refine joinI (fun z v=>z=false∧v=w4) (condF he' ⟨rfl,rfl⟩) ?_
   rintro z v ⟨rfl,rfl⟩
   refine condF rfl (h0 (by rw [hm,hg]) _ e _ v he hr4 (f03.then f4))
  ·rw [hg] at hm
   dsimp only at hm
   obtain ⟨r1,r2⟩:=Z19 was.1 (i:Int)
   refine joinI (fun z u=>z=decide (zigM (v - fl was i)≤16)∧u=w4) (condT rfl ?_) ?_
   ·refine fIdx (j:=i) rfl hi (fld0 (B3.fr f4 (nb (Nat.le_refl _))) (x:=fl was i) (Z1u was hi) ?_)
    rw [w64 (x:=v) (by omega),w64 (x:=fl was i) (by omega),w64 (x:=v - fl was i) (by omega)]
    exact Zhp (by omega) ⟨rfl,rfl⟩
   rintro z u ⟨rfl,rfl⟩
   refine condD (fun c3=>?_) fun c3=>?_
   ·exact h0 (by rw [hm,if_pos c3]) _ 4 _ u (by decide) hr4 (f03.then f4)
   ·rw [if_neg c3] at hm
    exact hk _ _ hm u hr4 (f03.then f4)
 ·rw [if_neg (by omega)] at hm
  refine Z6b hr3 (n:=4) (by decide) (fun hlt w4 hr4 f4=>?_) fun hge3 w4 hr4 f4=>?_
  ·exact condT rfl (h0 (by rw [hm,getN,if_neg (by omega)]) _ 2 _ w4 (by decide) hr4 (f03.then f4.any))
  have hz:=Zdk (((L.drop 1).drop 1).take 4)
  rw [List.length_take,Nat.min_eq_left hge3] at hz
  have e3:getN 4 ((L.drop 1).drop 1)=some (valB (((L.drop 1).drop 1).take 4),((L.drop 1).drop 1).drop 4):=by rw [getN,if_pos hge3]
  rw [e3] at hm
  dsimp only at hm
  generalize valB (((L.drop 1).drop 1).take 4)=z at hz hm
  have hz:z < 16:=hz
  have fd:Fr None w4 w4.drew:=(Fr.refl _ _).drew
  have f0d:=(f03.then f4).then fd.any
  have B4:=(B3.fr f4 (nb (Nat.le_refl _))).fr fd fun h=>h
  refine condF rfl (fIdx (j:=i) rfl hi (fld0 B4 (x:=fl was i) (Z1u was hi) ?_))
  have ew:IntKind.wrap .u64 ((z:Int)+1)=((z+1:Nat):Int):=by rw [wU64 (by omega)]; omega
  rw [ew]
  refine Zp2 (by omega) (andI ((B4.cell (1+i)).trans (Z1u was hi)) (fld0 B4 (i:=0) (x:=was.1) rfl (Z6f fun w5 f5=>?_)))
  obtain ⟨r1,r2⟩:=Z19 was.1 (i:Int)
  rw [show ((z:Int)+1)=((z+1:Nat):Int) by omega] at hm
  have hzag:-16≤zagM ((z+1:Nat):Int)∧zagM ((z+1:Nat):Int)≤16:=by unfold zagM; split <;> omega
  generalize zagM ((z+1:Nat):Int)=g at hm hzag
  rw [w64 (x:=fl was i) (by omega),w64 (x:=fl was i+g) (by omega),w64 (x:=(rangeM was.1 (i:Int)).1) (by omega),w64 (x:=(rangeM was.1 (i:Int)).2.1) (by omega)]
  have hr5:=RD.st.fr0 (RD.st.fr0 hr4 fd) f5
  have f05:=f0d.then f5.any
  refine joinI (fun x u=>x=decide (fl was i+g < (rangeM was.1 (i:Int)).1∨(rangeM was.1 (i:Int)).2.1 < fl was i+g)∧u=w5) ?_ ?_
  ·refine condD (fun c4=>⟨(decide_eq_true (.inl c4)).symm,rfl⟩) fun c4=>⟨?_,rfl⟩
   by_cases c5:(rangeM was.1 (i:Int)).2.1 < fl was i+g
   ·rw [decide_eq_true (p:=_∨_) (.inr c5)]; exact decide_eq_true c5
   ·rw [decide_eq_false (p:=_∨_) (fun h=>h.elim c4 c5)]; exact decide_eq_false c5
  rintro x u ⟨rfl,rfl⟩
  refine condD (fun c4=>?_) fun c4=>?_
  ·exact h0 (by rw [hm,if_pos c4]) _ 5 _ u (by decide) hr5 f05
  ·rw [if_neg c4] at hm
   rw [show IntKind.wrap .i32 (fl was i+g)=fl was i+g by rw [IntKind.wrap_i32]; omega]
   exact hk _ _ hm u hr5 f05
theorem Zct (was:Comp):∀ (is js:List Nat) (L:List Bool),readS was (is ++ js) L=match readS was is L with
  | none=>none
  | some (vs,L2)=>match readS was js L2 with
   | none=>none
   | some (vs2,L3)=>some (vs ++ vs2,L3)
 | [],js,L=>by
  rw [List.nil_append,readS]
  dsimp only
  cases readS was js L with
  | none=>rfl
  | some p=>rfl
 | i :: r,js,L=>by
  rw [List.cons_append,readS,readS]
  cases movedD was i L with
  | none=>rfl
  | some p =>
   obtain ⟨v,L2⟩:=p
   dsimp only
   rw [Zct was r js L2]
   cases readS was r L2 with
   | none=>rfl
   | some q =>
    obtain ⟨vs,L3⟩:=q
    dsimp only
    cases readS was js L3 with
    | none=>rfl
    | some t=>rfl
def ovC (c:Comp) (vs:List Int):Comp:=(c.1,vs.getD 0 c.2.1,vs.getD 1 c.2.2.1,vs.getD 2 c.2.2.2)
theorem Zt9 {c:Comp} {vs:List Int} {v:Int} (h:vs.length < 3):(compC (ovC c vs)).set (1+vs.length) (.int .i32 v)=compC (ovC c (vs ++ [v])):=by
 rcases vs with _ | ⟨a,_ | ⟨b,_ | ⟨d,r⟩⟩⟩
 ·rfl
 ·rfl
 ·rfl
 ·simp at h; omega
theorem Zvu {c:Comp} (h:checkM c=0) {vs:List Int} (hl:vs.length=cntM c.1):ovC c vs=mkC c.1 vs:=by
 have z:=fun i hi hc=>Zzd (i:=i) h hi hc
 rcases vs with _ | ⟨a,_ | ⟨b,_ | ⟨d,r⟩⟩⟩
 ·have a0:=z 0 (by decide) (by simp at hl; omega)
  have a1:=z 1 (by decide) (by simp at hl; omega)
  have a2:=z 2 (by decide) (by simp at hl; omega)
  show (c.1,c.2.1,c.2.2.1,c.2.2.2)=(c.1,(0:Int),(0:Int),(0:Int))
  rw [show c.2.1=0 from a0,show c.2.2.1=0 from a1,show c.2.2.2=0 from a2]
 ·have a1:=z 1 (by decide) (by simp at hl; omega)
  have a2:=z 2 (by decide) (by simp at hl; omega)
  show (c.1,a,c.2.2.1,c.2.2.2)=(c.1,a,(0:Int),(0:Int))
  rw [show c.2.2.1=0 from a1,show c.2.2.2=0 from a2]
 ·have a2:=z 2 (by decide) (by simp at hl; omega)
  show (c.1,a,b,c.2.2.2)=(c.1,a,b,(0:Int))
  rw [show c.2.2.2=0 from a2]
 ·rfl
theorem Ziq {b:Nat} {L:List Bool} {F:Nat→Prop} (h:RD b L F w) (hF:∀ k,F k→k < w.heap.size) {was:Comp} (hco:CompOk was) {K:Res [.agg [.int .u8,.int .i32,.int .i32,.int .i32],.sc (.int .i64)]→W R} (h0:stepDec was L=none→∀ e w',e≠0→RD b L F w'→Fr (fun k=>k=b) w w'→K ((0,0,0,0),e) Q w') (hk:∀ c L',stepDec was L=some (c,L')→∀ w',RD b L' F w'→Fr (fun k=>k=b) w w'→K (c,0) Q w') :
  callW Tryz.prog Za5 [.pointer (some ⟨b,0,none⟩),.agg ⟨compC was⟩] [.agg [.int .u8,.int .i32,.int .i32,.int .i32],.sc (.int .i64)] K Q w:=by
 refine Zm8 _ was K Q w ?_
 unfold Ze8
 have hbb:=hF b h.1
 have hcn:=Z45 was.1
 refine newI fun w1 Br f1 z1=>newI fun w2 Bk f2 z2=>newI fun w3 Bx f3 z3=>?_
 have Br:=(Br.fr f2 fun h=>h).fr f3 fun h=>h
 have Bk:=Bk.fr f3 fun h=>h
 have f03:=(f1.then0 f2).then0 f3
 refine fld0 Br (i:=0) (x:=some ⟨b,0,none⟩) rfl (condF rfl (aggI Bk (x:=was) rfl (Z2r fun w4 f4=>?_)))
 have f04:=f03.then0 f4
 have Br:=Br.fr f4 fun h=>h
 have Bk:=Bk.fr f4 fun h=>h
 have Bx:=Bx.fr f4 fun h=>h
 have s4:=f4.size
 refine condN (fun hz=>?_) fun hz=>?_
 ·refine stoAll Bx rfl rfl fun w5 B5 f5 z5=>aggI B5 (x:=((0,0,0,0):Comp)) rfl ?_
  exact h0 (by unfold stepDec; rw [if_pos hz]) _ w5 hz (RD.st.fr (RD.st.fr0 h f04) f5 fun k e e2=>by have:=hF k e; omega) (f04.newer f5 fun k e=>by omega).any
 have hD:stepDec was L=match readS was (List.range (cntM was.1)) L with
   | none=>none
   | some (vs,r)=>some (mkC was.1 vs,r):=by unfold stepDec; rw [if_neg fun h=>h hz] <;> rfl
 refine fld0 Br (i:=0) (x:=some ⟨b,0,none⟩) rfl (aggI Bk (x:=was) rfl ?_)
 refine Z7s (some ⟨b,0,none⟩) was _ _ _ _ _ ?_
 unfold Z3q
 have hr4:=RD.st.fr0 h f04
 obtain ⟨s,n,B,hback⟩:=hr4.back
 refine newI fun w5 Bc f5 z5=>newI fun w6 By f6 z6=>?_
 have Bc:=Bc.fr f6 fun h=>h
 have f46:=f5.then0 f6
 refine ptrI (aggI (B.fr f46 fun h=>h) (x:=((s,n):Sl × Int)) rfl (newI fun w7 Bw f7 z7=>stoAll Bw rfl rfl fun w8 Bw f8 z8=>?_))
 have f68:Fr None w6 w8:=f7.newer f8 fun k e=>by omega
 have f48:=f46.then0 f68
 have Bc:=Bc.fr f68 fun h=>h
 have By:=By.fr f68 fun h=>h
 refine fldI Bc (i:=0) (x:=was.1) rfl (Z2s fun w9 f9=>?_)
 have f49:=f48.then0 f9
 have s9:=f49.size
 have hw4:w.heap.size≤w4.heap.size:=f04.size
 have hFn:∀ {x:Nat},w.heap.size≤x→∀ k,F k→¬ k=x:=fun hx k e e2=>by have:=hF k e; omega
 refine forI (N:=cntM was.1) (fun s:Int=>s) (fun j i u=>i=(j:Int)∧(∃ vs L',vs.length=j∧readS was (List.range j) L=some (vs,L')∧Blk u w4.heap.size 92 (compC (ovC was vs))∧RD b L' F u)∧Fr (fun k=>k=b) w4 u∧Blk u w5.heap.size 92 (compC (0,0,0,0))∧Blk u w6.heap.size 173 [.slice s.a s.n s.c,.int .i64 n]∧Blk u w.heap.size 60 [.pointer (some ⟨b,0,none⟩)]∧Blk u w1.heap.size 92 (compC was)∧Blk u w2.heap.size 92 (compC (0,0,0,0)))
  ⟨rfl,⟨[],L,rfl,rfl,Bc.fr f9 fun h=>h,RD.st.fr0 hr4 f49⟩,f49.any,By.fr f9 fun h=>h,Bw.fr f9 fun h=>h,Br.fr f49 fun h=>h,Bk.fr f49 fun h=>h,Bx.fr f49 fun h=>h⟩ (fun j s w' h=>h.1) ?_ ?_
 ·rintro j i u K' hj ⟨rfl,⟨vs,L',hvl,hrd,Bc,hr⟩,fu,By,Bw,Br,Bk,Bx⟩ - hK
  refine Zi2 _ _ _ _ _ _ ?_
  unfold Zaj
  have nb:∀ {x:Nat},w.heap.size≤x→¬ x=b:=fun hx e=>by omega
  have su:=fu.size
  refine ptrI (fld0 Br (i:=0) (x:=some ⟨b,0,none⟩) rfl (ptrI (aggI Bk (x:=was) rfl ?_)))
  refine Zlu hr (fun k e=>by have:=hF k e; omega) hco (by omega) (Zkg was.1 hj) (fun hg v e L2 u2 he hr2 f2=>?_) fun v L2 hg u2 hr2 f2=>?_
  ·have hnone:stepDec was L=none:=by
    rw [hD]
    have e1:List.range (cntM was.1)=List.range j ++ (j :: List.range' (j+1) (cntM was.1 - j - 1)):=by
     have:cntM was.1=j+((cntM was.1 - j - 1)+1):=by omega
     rw [this,List.range_eq_range',List.range_eq_range',← List.range'_append_1,Nat.zero_add,List.range'_succ]
     congr 4
     omega
    rw [e1,Zct,hrd]
    dsimp only
    rw [readS,hg]
   refine condT (by simpa using he) ?_
   obtain ⟨cs,B2,hl⟩:=hr2.blk
   refine aggI (Bw.fr f2 (nb (by omega))) (x:=((s,n):Sl × Int)) rfl (ptrI (stoAll B2 hl.symm rfl fun u3 B3 f3 y3=>?_))
   have By3:=(By.fr f2 (nb (by omega))).fr f3 (nb (by omega))
   have f43:Fr (fun k=>k=b) w4 u3:=(fu.then f2).then f3
   have hr3:=hback u3 f43 B3
   have s3:=f43.size
   refine stoAll By3 rfl rfl fun u4 B4 f4 y4=>aggI B4 (x:=((0,0,0,0):Comp)) rfl ?_
   have Bx4:=(((Bx.fr f2 (nb (by omega))).fr f3 (nb (by omega))).fr f4 fun e=>by omega)
   refine stoAll Bx4 rfl rfl fun u5 B5 f5 y5=>aggI B5 (x:=((0,0,0,0):Comp)) rfl ?_
   exact h0 hnone e u5 he (RD.st.fr (RD.st.fr hr3 f4 (hFn (by omega))) f5 (hFn (by omega))) (((f04.any.then f43).thenNew f4 fun k e=>by omega).thenNew f5 fun k e=>by omega)
  ·show idxW (some (Addr.add ⟨w4.heap.size,0,none⟩ 1)) 3 1 (j:Int) (fun x=>stoL x [.int .i32 v] 0 (K' (IntKind.wrap .i64 ((j:Int)+1)))) _ _
   refine fIdx rfl (by omega) ?_
   refine setI (i:=1+j) (Bc.fr f2 (nb (by omega))) (by simp; omega) rfl fun u3 B3 f3 y3=>?_
   subst hvl
   rw [Zt9 (by omega)] at B3
   have ne:∀ {x:Nat},x≠w4.heap.size→¬ x=w4.heap.size:=fun h=>h
   refine hK _ _ ⟨wsucc hj (by omega),⟨vs ++ [v],L2,by simp,?_,B3,RD.st.fr hr2 f3 (hFn (by omega))⟩,(fu.then f2).thenNew f3 fun k e=>by omega,(By.fr f2 (nb (by omega))).fr f3 (ne (by omega)),(Bw.fr f2 (nb (by omega))).fr f3 (ne (by omega)),(Br.fr f2 (nb (by omega))).fr f3 (ne (by omega)),(Bk.fr f2 (nb (by omega))).fr f3 (ne (by omega)),(Bx.fr f2 (nb (by omega))).fr f3 (ne (by omega))⟩
   rw [List.range_succ,Zct,hrd]
   dsimp only
   rw [readS,hg]
   rfl
 ·rintro i u ⟨_,⟨vs,L',hvl,hrd,Bc,hr⟩,fu,By,Bw,Br,Bk,Bx⟩
  rw [hrd] at hD
  dsimp only at hD
  rw [Zvu hz hvl] at Bc
  refine aggI Bc (x:=mkC was.1 vs) rfl (stoAll By rfl rfl fun u2 B2 f2 y2=>aggI B2 (x:=mkC was.1 vs) rfl ?_)
  have Bx2:=Bx.fr f2 fun e=>by omega
  refine stoAll Bx2 rfl rfl fun u3 B3 f3 y3=>aggI B3 (x:=mkC was.1 vs) rfl ?_
  exact hk _ L' hD u3 (RD.st.fr (RD.st.fr hr f2 (hFn (by omega))) f3 (hFn (by omega))) (((f04.any.then fu).thenNew f2 fun k e=>by omega).thenNew f3 fun k e=>by omega)
end Go.Proofs.YtchhhjlpnecjkaaGreat
namespace Go.Proofs.YtchhhjlpnecjkaaGreat
open Go Go.RowKit Go.Proofs.YtchhhjlpnecjkaaGreat.Den
variable {R:Type} {Q:R→World→Prop} {w:World}
theorem Z7u {n:Nat} {L:List Bool} {v:Nat} {r:List Bool} (h:getN n L=some (v,r)):r.length+n=L.length:=by
 unfold getN at h
 split at h
 ·cases h
  rw [List.length_drop]
  omega
 ·cases h
theorem Za2:∀ (k i v:Nat) {L:List Bool} {x:Nat} {r:List Bool},varD k i v L=some (x,r)→r.length+5≤L.length
 | 0,_,_,_,_,_,h=>by cases h
 | k+1,i,v,L,x,r,h=>by
  rw [varD] at h
  cases hg:getN 5 L with
  | none=>rw [hg] at h; cases h
  | some p =>
   obtain ⟨y,r1⟩:=p
   rw [hg] at h
   have hl:=Z7u hg
   dsimp only at h
   split at h
   ·split at h
    ·cases h; omega
    ·cases h
   ·have:=Za2 k _ _ h
    omega
theorem Zce {last:Int} {L:List Bool} {id:Int} {r:List Bool} (h:idDec last L=some (id,r)):r.length+5≤L.length:=by
 unfold idDec at h
 cases hg:getVar L with
 | none=>rw [hg] at h; cases h
 | some p =>
  obtain ⟨v,r1⟩:=p
  rw [hg] at h
  dsimp only at h
  split at h
  ·cases h
  ·cases h
   exact Za2 _ _ _ hg
theorem Zxj {last:Int} {L:List Bool} {id:Int} {r:List Bool} (h:idDec last L=some (id,r)):IdOk id:=by
 unfold idDec at h
 cases hg:getVar L with
 | none=>rw [hg] at h; cases h
 | some p =>
  obtain ⟨v,r1⟩:=p
  rw [hg] at h
  dsimp only at h
  split at h
  ·cases h
  ·cases h
   exact ⟨by omega,by omega⟩
theorem RD.len {b:Nat} {L:List Bool} {F:Nat→Prop} (h:RD b L F w):L.length≤8388608:=by
 obtain ⟨_,s,body,n,_,_,_,h2,_,rfl⟩:=h
 rw [List.length_drop,Z5j]
 omega
theorem Zla {lo hi:Int} {L:List Bool} {v:Int} {r:List Bool} (h:getIn lo hi L=some (v,r)):r.length≤L.length∧lo≤v∧v≤hi:=by
 unfold getIn at h
 cases hg:getN (widthM lo hi) L with
 | none=>rw [hg] at h; cases h
 | some p =>
  obtain ⟨x,r1⟩:=p
  rw [hg] at h
  have:=Z7u hg
  dsimp only at h
  split at h
  ·cases h
   exact ⟨by omega,by omega,by omega⟩
  ·cases h
theorem Zlq (k:Int):∀ (is:List Nat) {L:List Bool} {vs:List Int} {r:List Bool},readF k is L=some (vs,r)→r.length≤L.length∧vs.length=is.length∧∀ (j i:Nat) (v:Int),is[j]?=some i→vs[j]?=some v→(rangeM k (i:Int)).1≤v∧v≤(rangeM k (i:Int)).2.1
 | [],L,vs,r,h=>by
  rw [readF] at h
  cases h
  exact ⟨Nat.le_refl _,rfl,fun j i v hj=>by simp at hj⟩
 | i :: is,L,vs,r,h=>by
  rw [readF] at h
  cases hg:getIn (rangeM k (i:Int)).1 (rangeM k (i:Int)).2.1 L with
  | none=>rw [hg] at h; cases h
  | some p =>
   obtain ⟨v,L2⟩:=p
   rw [hg] at h
   dsimp only at h
   cases hr:readF k is L2 with
   | none=>rw [hr] at h; cases h
   | some q =>
    obtain ⟨vs2,L3⟩:=q
    rw [hr] at h
    dsimp only at h
    cases h
    obtain ⟨a1,a2,a3⟩:=Zlq k is hr
    obtain ⟨b1,b2⟩:=Zla hg
    refine ⟨by omega,by simp [a2],fun j i' v' hj hv=>?_⟩
    rcases j with _ | j
    ·simp at hj hv
     subst hj; subst hv
     exact b2
    ·exact a3 j i' v' (by simpa using hj) (by simpa using hv)
theorem Zus {k:Int} {L:List Bool} {c:Comp} {r:List Bool} (h:compD k L=some (c,r)):r.length≤L.length∧c.1=k:=by
 unfold compD at h
 split at h
 ·cases h
 ·cases hr:readF k (List.range (cntM k)) L with
  | none=>rw [hr] at h; cases h
  | some q =>
   obtain ⟨vs2,L3⟩:=q
   rw [hr] at h
   cases h
   exact ⟨(Zlq k _ hr).1,rfl⟩
theorem Zdc:∀ (ks:List Int) {L:List Bool} {cs:List Comp} {r:List Bool},compsD ks L=some (cs,r)→r.length≤L.length∧cs.map (·.1)=ks∧∀ c∈cs,∃ L1 L2,compD c.1 L1=some (c,L2)
 | [],L,cs,r,h=>by
  rw [compsD] at h
  cases h
  exact ⟨Nat.le_refl _,rfl,fun c hc=>by cases hc⟩
 | k :: ks,L,cs,r,h=>by
  rw [compsD] at h
  cases hg:compD k L with
  | none=>rw [hg] at h; cases h
  | some p =>
   obtain ⟨v,L2⟩:=p
   rw [hg] at h
   dsimp only at h
   cases hr:compsD ks L2 with
   | none=>rw [hr] at h; cases h
   | some q =>
    obtain ⟨vs2,L3⟩:=q
    rw [hr] at h
    dsimp only at h
    cases h
    obtain ⟨a1,a2,a3⟩:=Zdc ks hr
    obtain ⟨b1,b2⟩:=Zus hg
    refine ⟨by omega,by rw [List.map_cons,a2,b2],fun c hc=>?_⟩
    rcases List.mem_cons.1 hc with rfl | hc
    ·exact ⟨L,L2,by rw [b2]; exact hg⟩
    ·exact a3 c hc
theorem Zof {last:Int} {L:List Bool} {e:Ent} {r:List Bool} (h:entD last L=some (e,r)):r.length+10≤L.length:=by
 unfold entD at h
 cases h1:idDec last L with
 | none=>rw [h1] at h; cases h
 | some p =>
  obtain ⟨id,L1⟩:=p
  rw [h1] at h
  dsimp only at h
  cases h2:getN 5 L1 with
  | none=>rw [h2] at h; cases h
  | some p =>
   obtain ⟨m,L2⟩:=p
   rw [h2] at h
   dsimp only at h
   cases h3:compsD (kindsOf m) L2 with
   | none=>rw [h3] at h; cases h
   | some p =>
    obtain ⟨cs,L3⟩:=p
    rw [h3] at h
    cases h
    have a1:=Zce h1
    have a2:=Z7u h2
    have a3:=(Zdc _ h3).1
    omega
theorem Zkh {β:Type} {f:Int→List Bool→Option (β × List Bool)} {id:β→Int} {q:Nat} (hf:∀ last L b r,f last L=some (b,r)→r.length+q≤L.length):∀ (n:Nat) (last:Int) {L:List Bool} {l:List β} {r:List Bool},repD f id n last L=some (l,r)→l.length=n∧r.length+q * n≤L.length∧∀ b∈l,∃ last L1 L2,f last L1=some (b,L2)
 | 0,last,L,l,r,h=>by
  rw [repD] at h
  cases h
  exact ⟨rfl,by omega,fun b hb=>by cases hb⟩
 | n+1,last,L,l,r,h=>by
  rw [repD] at h
  cases h1:f last L with
  | none=>rw [h1] at h; cases h
  | some p =>
   obtain ⟨b,r1⟩:=p
   rw [h1] at h
   dsimp only at h
   cases h2:repD f id n (id b) r1 with
   | none=>rw [h2] at h; cases h
   | some p =>
    obtain ⟨bs,r2⟩:=p
    rw [h2] at h
    cases h
    obtain ⟨a1,a2,a3⟩:=Zkh hf n (id b) h2
    have a4:=hf _ _ _ _ h1
    refine ⟨by simp [a1],by rw [Nat.mul_succ]; omega,fun x hx=>?_⟩
    rcases List.mem_cons.1 hx with rfl | hx
    ·exact ⟨last,L,r1,h1⟩
    ·exact a3 x hx
section
variable [Pan R]
def moreD {β:Type} (done:List β):Option (List β × List Bool)→Option (List β × List Bool)
 | none=>none
 | some (bs,r)=>some (done ++ bs,r)
theorem Z94 {β:Type} {f:Int→List Bool→Option (β × List Bool)} {id:β→Int} {m:Nat} {last:Int} {L L2:List Bool} {b:β} {done:List β} (h:f last L=some (b,L2)):moreD done (repD f id (m+1) last L)=moreD (done ++ [b]) (repD f id m (id b) L2):=by
 rw [repD,h]
 dsimp only
 cases repD f id m (id b) L2 with
 | none=>rfl
 | some p =>
  obtain ⟨bs,r⟩:=p
  show some (done ++ b :: bs,r)=some (done ++ [b] ++ bs,r)
  rw [List.append_assoc]
  rfl
theorem Zju {b:Nat} {L:List Bool} {F:Nat→Prop} (h:RD b L F w) (hF:∀ k,F k→k < w.heap.size) {K:Res [.sc .sl]→W R} (h0:entsD L=none→∀ w',Fr (fun k=>k=b) w w'→Pan.pan Q giveUp w')
  (hk:∀ l L',entsD L=some (l,L')→∀ r raws (lab:Nat→Nat) w',Own (fun k=>lab k=2) w' 57 entT r raws→EntsR (fun k=>lab k=3) w' raws l→(∀ k,lab k≠0→w.heap.size≤k∧k < w'.heap.size)→RD b L' F w'→Fr (fun k=>k=b) w w'→K r Q w') :
  callP Tryz.prog Z4n [.agg ⟨[.pointer (some ⟨b,0,none⟩)]⟩] [.sc .sl] K Q w:=by
 refine Zdn _ K Q w ?_
 unfold Z4k
 have hbb:=hF b h.1
 refine newI fun w1 Br f1 z1=>newI fun w2 Bl f2 z2=>stoAll Bl rfl rfl fun w3 Bl f3 z3=>?_
 have f02:=f1.then0 f2
 have f03:Fr None w w3:=f02.newer f3 fun k e=>by omega
 have Br:=(Br.fr f2 fun h=>h).fr f3 fun e=>by omega
 refine aggI Br (x:=some ⟨b,0,none⟩) rfl (Z4d (RD.st.fr0 h f03) (fun hg w4 f4=>?_) fun n L1 hg hn w4 hr4 f4=>?_)
 ·exact h0 (by unfold entsD; rw [hg]) w4 (f03.any.then f4)
 have f04:=f03.any.then f4
 have nb:∀ {x:Nat},w.heap.size≤x→¬ x=b:=fun hx e=>by omega
 have z4:=f4.size
 have hD:entsD L=moreD [] (repD entD (fun e:Ent=>e.1) n 0 L1):=by
  unfold entsD
  rw [hg]
  dsimp only
  cases repD entD (fun e:Ent=>e.1) n 0 L1 with
  | none=>rfl
  | some p=>rfl
 refine loopI (fun (st:Sl × Int) u=>∃ (lab:Nat→Nat) (raws:List (Int × Sl)) (done:List Ent) (L':List Bool) (last:Int) (m:Nat),st.2=((m:Nat):Int)∧m < 18446744073709551616∧Own (fun k=>lab k=2) u 57 entT st.1 raws∧EntsR (fun k=>lab k=3) u raws done∧(∀ k,lab k≠0→w.heap.size≤k∧k < u.heap.size)∧lab w.heap.size=0∧lab w1.heap.size=0 ∧
   Blk u w.heap.size 62 [.pointer (some ⟨b,0,none⟩)]∧Blk u w1.heap.size 54 [.int .u32 last]∧RD b L' F u∧Fr (fun k=>k=b) w u∧entsD L=moreD done (repD entD (fun e:Ent=>e.1) m last L')∧done.length+L'.length≤8388608)
  (fun st _=>st.2.toNat) ⟨fun _=>0,[],[],L1,0,n,rfl,hn,Own.nil _ _ _ _,EntsR.nil _ _,fun k e=>absurd rfl e,rfl,rfl,Br.fr f4 (nb (Nat.le_refl _)),Bl.fr f4 (nb (by omega)),hr4,f04,hD,by simpa using hr4.len⟩ ?_
 rintro ⟨z,c⟩ u ⟨lab,raws,done,L',last,m,hcm,hm,ho,hE,up,l1,l2,Bru,Blu,hru,fu,hI,hlen⟩
 dsimp only at hcm
 subst hcm
 have su:=fu.size
 refine condD (fun hpos=>?_) fun hpos=>?_
 ·have hpos:(m:Int) > 0:=hpos
  obtain ⟨m,rfl⟩:∃ q,m=q+1:=⟨m - 1,by omega⟩
  have hbl:¬ F w1.heap.size:=fun e=>by have:=hF _ e; omega
  refine aggI Bru (x:=some ⟨b,0,none⟩) rfl (Zix hru Blu hbl (fun hg v f=>?_) fun id L2 hg hid v1 hr1 Bl1 g1=>?_)
  ·exact h0 (by rw [hI,repD,entD,hg]; rfl) v (fu.trans f (fun _ h=>h) fun x hx e=>e.elim (fun e=>e) fun e=>by omega)
  have b1:=Blu.lt
  have b0:=Bru.lt
  have g01:Fr (fun k=>k=b) w v1:=fu.trans g1 (fun _ h=>h) fun x hx e=>e.elim (fun e=>e) fun e=>by omega
  have s1:=g1.size
  refine newI fun v2 Be g2 y2=>stoAll Be rfl rfl fun v3 Be g3 y3=>?_
  have gd:Fr None v3 v3.drew:=(Fr.refl _ _).drew
  have g13:Fr (fun k=>k=v1.heap.size) v1 v3.drew:=(g2.any.then g3).then0 gd
  have nb2:∀ {x:Nat},x < v1.heap.size→¬ x=v1.heap.size:=fun hx e=>by omega
  have Br3:=(Bru.fr g1 fun e=>e.elim (nb (Nat.le_refl _)) fun e=>by omega).fr g13 (nb2 (by omega))
  have Bl3:=Bl1.fr g13 (nb2 (by omega))
  have Be:=Be.fr gd fun h=>h
  have hFv:∀ k,F k→¬ k=v1.heap.size:=fun k e e2=>by have:=hF k e; omega
  have hr3:=RD.st.fr hr1 g13 hFv
  have g03:Fr (fun k=>k=b) w v3.drew:=g01.thenNew g13 fun k e=>by omega
  have y3d:v3.drew.heap.size=v1.heap.size+1:=by show v3.heap.size=_; omega
  refine aggI Br3 (x:=some ⟨b,0,none⟩) rfl (aggI Br3 (x:=some ⟨b,0,none⟩) rfl (Z60 hr3 (n:=5) (by decide) (fun hg2 v f=>?_) fun mk L3 hg2 hmk v4 hr4 g4=>?_))
  ·exact h0 (by rw [hI,repD,entD,hg]; dsimp only; rw [hg2]; rfl) v (g03.then f)
  have s4:=g4.size
  have Br4:=Br3.fr g4 (nb (Nat.le_refl _))
  have Bl4:=Bl3.fr g4 (nb (by omega))
  have Be4:=Be.fr g4 (nb (by omega))
  refine andI (fun j u hj=>(Br4.cells 0 [.pointer (some ⟨b,0,none⟩)] (fun j u hj=>by simpa using hj)) j u hj) ?_
  refine Zhu hr4 (fun k e=>by have:=hF k e; omega) hmk (fun hg3 v f=>?_) fun cs L4 hg3 r v5 o5 hr5 g5=>?_
  ·exact h0 (by rw [hI,repD,entD,hg]; dsimp only; rw [hg2]; dsimp only; rw [hg3]; rfl) v ((g03.then g4).then f)
  have s5:=g5.size
  have hent:entD last L'=some ((id,cs),L4):=by
   unfold entD
   rw [hg]
   dsimp only
   rw [hg2]
   dsimp only
   rw [hg3]
  have Be5:=Be4.fr g5 (nb (by omega))
  rw [add_lit]
  refine setI (i:=1) Be5 (by simp) rfl fun v6 Be6 g6 y6=>aggI Be6 (x:=((id,r):Int × Sl)) rfl ?_
  obtain ⟨lab1,hlab1⟩:∃ lab1,lab1=relab lab (v1.heap.size+1) v5.heap.size 3:=⟨_,rfl⟩
  have old:∀ k,k < u.heap.size→lab1 k=lab k:=fun k hk=>by rw [hlab1,Z16 (by omega)]
  have gu6:Fr (fun k=>k=b∨k=w1.heap.size) u v6:=((((g1.thenNew g13 fun k e=>by omega).then (g4.sub fun k e=>.inl e)).then (g5.sub fun k e=>.inl e)).thenNew g6 fun k e=>by omega)
  have ndis:∀ k,lab k≠0→¬ (k=b∨k=w1.heap.size):=fun k e=>by
   rintro (rfl | rfl)
   ·have:=up _ e; omega
   ·exact e l2
  have o6:Own (fun k=>lab1 k=2) v6 57 entT z raws:=Own.st ho gu6 fun k hk e=>⟨ndis k (by omega),by rw [old k hk]; exact e⟩
  have E6:EntsR (fun k=>lab1 k=3) v6 raws done:=⟨hE.len,fun i a b' ha hb'=>⟨(hE.at_ i a b' ha hb').1,SlT.st (hE.at_ i a b' ha hb').2 gu6 fun k hk e=>⟨ndis k (by omega),by rw [old k hk]; exact e⟩⟩⟩
  have S6:SlT (fun k=>lab1 k=3) v6 compT r cs:=SlT.st o5.sl g6 fun k hk e=>by
   have e:v4.heap.size≤k:=e
   exact ⟨by omega,by rw [hlab1,Z5w (by omega) hk]⟩
  have hEl:=hE.len
  have hdl:raws.length≤8388608:=by omega
  refine appLab (x:=((id,r):Int × Sl)) Z5m rfl o6 (by omega) (by omega) fun z2 v7 o7 g7=>?_
  have s7:=g7.size
  have up1:∀ k,lab1 k≠0→w.heap.size≤k∧k < v6.heap.size:=fun k e=>by
   rw [hlab1] at e
   rcases Z82 e with e | e
   ·have:=up k e.1; omega
   ·omega
  have n2:∀ {x:Nat},lab1 x=0→¬ lab1 x=2:=fun e e2=>by omega
  have l11:lab1 w.heap.size=0:=by rw [old _ b0]; exact l1
  have l12:lab1 w1.heap.size=0:=by rw [old _ b1]; exact l2
  refine ⟨⟨relab lab1 v6.heap.size v7.heap.size 2,raws ++ [(id,r)],done ++ [(id,cs)],L4,id,m,by dsimp only; rw [wU64 (by omega)]; omega,by omega,o7,?_,?_,?_,?_,?_,?_,?_,?_,?_,?_⟩,?_⟩
  ·refine EntsR.snoc ⟨E6.len,fun i a b' ha hb'=>⟨(E6.at_ i a b' ha hb').1,St.other (A:=fun F w=>SlT F w compT a.2 b'.2) (c:=2) SlT.st (E6.at_ i a b' ha hb').2 g7 (by decide)⟩⟩ rfl ?_
   exact St.other (A:=fun F w=>SlT F w compT r cs) (c:=2) SlT.st S6 g7 (by decide)
  ·intro k e
   rcases Z82 e with e | e
   ·have:=up1 k e.1; omega
   ·omega
  ·rw [Z16 (by omega)]; exact l11
  ·rw [Z16 (by omega)]; exact l12
  ·exact ((Br4.fr g5 (nb (Nat.le_refl _))).fr g6 (nb2 (by omega))).fr g7 (n2 l11)
  ·exact ((Bl4.fr g5 (nb (by omega))).fr g6 (nb2 (by omega))).fr g7 (n2 l12)
  ·refine RD.st.fr (RD.st.fr hr5 g6 hFv) g7 fun k e e2=>?_
   have:=up1 k (by omega)
   have:=hF k e
   omega
  ·exact (((g03.then g4).then g5).thenNew g6 fun k e=>by omega).thenNew g7 fun k e=>(up1 k (by omega)).1
  ·rw [hI]; exact Z94 hent
  ·have:=Zof hent
   simp only [List.length_append,List.length_singleton]
   omega
  ·show (IntKind.wrap .u64 (((m+1:Nat):Int) - 1)).toNat < ((m+1:Nat):Int).toNat
   rw [wU64 (by omega)]
   omega
 ·have hz:m=0:=by
   have:¬ ((m:Nat):Int) > 0:=hpos
   omega
  subst hz
  have hI:entsD L=some (done,L'):=by rw [hI]; show some (done ++ [],L')=_; rw [List.append_nil]
  exact hk done L' hI z raws lab u ho hE up hru fu
end
end Go.Proofs.YtchhhjlpnecjkaaGreat
namespace Go.Proofs.YtchhhjlpnecjkaaGreat
open Go Go.RowKit Go.Proofs.YtchhhjlpnecjkaaGreat.Den
variable {R:Type} {Q:R→World→Prop} {w:World}
section
variable {n bx:Nat} {lab:Nat→Nat} {r:DRaw} {rc:List (Int × Sl)} {rd:List ChgRaw} {gone:List Int} {come:List Ent} {chg:List Chg}
theorem DltI.step (h:DltI n bx lab r rc rd gone come chg w) (hn:n≤w.heap.size) {S:Nat→Prop} {w':World} (f:Fr S w w') (hs:∀ k,lab k≠0→¬ S k) {n1:Nat} (hn1:w.heap.size≤n1) (c:Nat):DltI n bx (relab lab n1 w'.heap.size c) r rc rd gone come chg w':=by
 have hsz:=f.size
 have k1:∀ {A:OB} (_:St A) {i:Nat},i≠0→A (fun k=>lab k=i) w→A (fun k=>relab lab n1 w'.heap.size c k=i) w':=fun hA i hi a=>hA a f fun k hk e=>⟨hs k (by omega),by show relab _ _ _ _ _=_; rw [Z16 (by omega)]; exact e⟩
 have hb:=h.blk.lt
 refine ⟨h.blk.fr f (hs bx (by rw [h.lb]; decide)),by rw [Z16 (by omega)]; exact h.lb,k1 (A:=fun F w=>Own F w 54 idT r.1 gone) Own.st (by decide) h.og,k1 (A:=fun F w=>Own F w 57 entT r.2.1 rc) Own.st (by decide) h.oc,
  ⟨h.ec.len,fun i a b ha hb=>⟨(h.ec.at_ i a b ha hb).1,k1 (A:=fun F w=>SlT F w compT a.2 b.2) SlT.st (by decide) (h.ec.at_ i a b ha hb).2⟩⟩,k1 (A:=fun F w=>Own F w 86 chgT r.2.2 rd) Own.st (by decide) h.od,
  h.ed.imp fun a b hab=>k1 (A:=fun F w=>chgR F w a b) (Z2o a b) (by decide) hab,fun k e=>?_⟩
 rcases Z82 e with e | e
 ·have:=h.up k e.1; omega
 ·omega
theorem DltI.keep (h:DltI n bx lab r rc rd gone come chg w) (hn:n≤w.heap.size) {S:Nat→Prop} {w':World} (f:Fr S w w') (hs:∀ k,lab k≠0→¬ S k):DltI n bx lab r rc rd gone come chg w':=by
 have:=h.step hn f hs (Nat.le_refl _) 0
 have e:relab lab w.heap.size w'.heap.size 0=lab:=funext fun k=>by
  unfold relab
  split
  ·rfl
  ·have:lab k=0:=Classical.byContradiction fun hk=>by have:=h.up k hk; omega
   rw [this]
   split <;> rfl
 rwa [e] at this
end
theorem Zse {was c:Comp} {L r:List Bool} (h:stepDec was L=some (c,r)):r.length≤L.length∧c.1=was.1:=by
 have mv:∀ {i:Nat} {L:List Bool} {v:Int} {r:List Bool},movedD was i L=some (v,r)→r.length≤L.length:=by
  intro i L v r h
  unfold movedD at h
  cases h1:getN 1 L with
  | none=>rw [h1] at h; cases h
  | some p =>
   obtain ⟨b,L1⟩:=p
   rw [h1] at h
   have a1:=Z7u h1
   dsimp only at h
   split at h
   ·cases h; omega
   ·cases h2:getN 1 L1 with
    | none=>rw [h2] at h; cases h
    | some p =>
     obtain ⟨b2,L2⟩:=p
     rw [h2] at h
     have a2:=Z7u h2
     dsimp only at h
     split at h
     ·cases h3:getIn (rangeM was.1 (i:Int)).1 (rangeM was.1 (i:Int)).2.1 L2 with
      | none=>rw [h3] at h; cases h
      | some p =>
       obtain ⟨n,L3⟩:=p
       rw [h3] at h
       have a3:=(Zla h3).1
       dsimp only at h
       split at h
       ·cases h
       ·cases h; omega
     ·cases h3:getN 4 L2 with
      | none=>rw [h3] at h; cases h
      | some p =>
       obtain ⟨n,L3⟩:=p
       rw [h3] at h
       have a3:=Z7u h3
       dsimp only at h
       split at h
       ·cases h
       ·cases h; omega
 have rs:∀ (is:List Nat) {L:List Bool} {vs:List Int} {r:List Bool},readS was is L=some (vs,r)→r.length≤L.length:=by
  intro is
  induction is with
  | nil=>intro L vs r h; rw [readS] at h; cases h; omega
  | cons i is ih =>
   intro L vs r h
   rw [readS] at h
   cases h1:movedD was i L with
   | none=>rw [h1] at h; cases h
   | some p =>
    obtain ⟨v,L2⟩:=p
    rw [h1] at h
    dsimp only at h
    cases h2:readS was is L2 with
    | none=>rw [h2] at h; cases h
    | some q =>
     obtain ⟨vs2,L3⟩:=q
     rw [h2] at h
     cases h
     have:=mv h1
     have:=ih h2
     omega
 unfold stepDec at h
 split at h
 ·cases h
 ·cases hr:readS was (List.range (cntM was.1)) L with
  | none=>rw [hr] at h; cases h
  | some q =>
   obtain ⟨vs2,L3⟩:=q
   rw [hr] at h
   cases h
   exact ⟨rs _ hr,rfl⟩
theorem Zcw (was:List Ent) (id:Int):∀ (ks:List Int) {L:List Bool} {cs:List Comp} {r:List Bool},setsD was id ks L=some (cs,r)→r.length≤L.length∧cs.map (·.1)=ks∧∀ c∈cs,∃ L1 L2,stepDec (oldM was id c.1) L1=some (c,L2)
 | [],L,cs,r,h=>by
  rw [setsD] at h
  cases h
  exact ⟨Nat.le_refl _,rfl,fun c hc=>by cases hc⟩
 | k :: ks,L,cs,r,h=>by
  rw [setsD] at h
  split at h
  ·cases h
  ·rename_i hk
   have hk:(oldM was id k).1=k:=Classical.byContradiction hk
   cases hg:stepDec (oldM was id k) L with
   | none=>rw [hg] at h; cases h
   | some p =>
    obtain ⟨v,L2⟩:=p
    rw [hg] at h
    dsimp only at h
    cases hr:setsD was id ks L2 with
    | none=>rw [hr] at h; cases h
    | some q =>
     obtain ⟨vs2,L3⟩:=q
     rw [hr] at h
     dsimp only at h
     cases h
     obtain ⟨a1,a2,a3⟩:=Zcw was id ks hr
     obtain ⟨b1,b2⟩:=Zse hg
     refine ⟨by omega,by rw [List.map_cons,a2,b2,hk],fun c hc=>?_⟩
     rcases List.mem_cons.1 hc with rfl | hc
     ·exact ⟨L,L2,by rw [b2,hk]; exact hg⟩
     ·exact a3 c hc
theorem Zob {was:List Ent} {last:Int} {L:List Bool} {d:Chg} {r:List Bool} (h:chgD was last L=some (d,r)):r.length+20≤L.length:=by
 unfold chgD at h
 cases h1:idDec last L with
 | none=>rw [h1] at h; cases h
 | some p =>
  obtain ⟨id,L1⟩:=p
  rw [h1] at h
  dsimp only at h
  cases h2:getN 5 L1 with
  | none=>rw [h2] at h; cases h
  | some p =>
   obtain ⟨lost,L2⟩:=p
   rw [h2] at h
   dsimp only at h
   cases h3:getN 5 L2 with
   | none=>rw [h3] at h; cases h
   | some p =>
    obtain ⟨fr,L3⟩:=p
    rw [h3] at h
    dsimp only at h
    cases h4:getN 5 L3 with
    | none=>rw [h4] at h; cases h
    | some p =>
     obtain ⟨st,L4⟩:=p
     rw [h4] at h
     dsimp only at h
     cases h5:compsD (kindsOf fr) L4 with
     | none=>rw [h5] at h; cases h
     | some p =>
      obtain ⟨ns,L5⟩:=p
      rw [h5] at h
      dsimp only at h
      cases h6:setsD was id (kindsOf st) L5 with
      | none=>rw [h6] at h; cases h
      | some p =>
       obtain ⟨ss,L6⟩:=p
       rw [h6] at h
       cases h
       have a1:=Zce h1
       have a2:=Z7u h2
       have a3:=Z7u h3
       have a4:=Z7u h4
       have a5:=(Zdc _ h5).1
       have a6:=(Zcw _ _ _ h6).1
       omega
theorem Zp9 [Pan R] {b:Nat} {L:List Bool} {F:Nat→Prop} (h:RD b L F w) (hF:∀ k,F k→k < w.heap.size) {okw:Nat→Prop} {sw:Sl} {raws:List (Int × Sl)} {was:List Ent} (hS:SlT okw w entT sw raws) (hE:EntsR okw w raws was) (hr:was.Pairwise fun a b=>a.1 < b.1) (hm:was.length≤1048576) (hL:∀ e∈was,EntFit e) (hd:∀ k,okw k→k≠b) {K:Res [.agg [.sl,.sl,.sl]]→W R}
  (h0:deltaD was L=none→∀ w',Fr (fun k=>k=b) w w'→Pan.pan Q giveUp w') (hk:∀ d L',deltaD was L=some (d,L')→∀ r w',DltR (Up w.heap.size) w' r d.1 d.2.1 d.2.2→RD b L' F w'→Fr (fun k=>k=b) w w'→K r Q w') :
  callP Tryz.prog Z73 [.agg ⟨[.pointer (some ⟨b,0,none⟩)]⟩,.slice sw.a sw.n sw.c] [.agg [.sl,.sl,.sl]] K Q w:=by
 refine Zby _ sw K Q w ?_
 unfold Z40
 have hbb:=hF b h.1
 have nb:∀ {x:Nat},w.heap.size≤x→¬ x=b:=fun hx e=>by omega
 refine newI fun w1 Br f1 z1=>newI fun w2 Bo f2 z2=>newI fun w3 Bx f3 z3=>newI fun w4 Bl f4 z4=>stoAll Bl rfl rfl fun w5 Bl f5 z5=>?_
 have g14:Fr None w1 w5:=((f2.then0 f3).then0 f4).newer f5 fun k e=>by omega
 have g24:Fr None w2 w5:=(f3.then0 f4).newer f5 fun k e=>by omega
 have g34:Fr None w3 w5:=f4.newer f5 fun k e=>by omega
 have g05:=f1.then0 g14
 have Br:=Br.fr g14 fun h=>h
 have Bo:=Bo.fr g24 fun h=>h
 have Bx:=Bx.fr g34 fun h=>h
 have hn0:goneD L=none→deltaD was L=none:=fun e=>by unfold deltaD; rw [e]
 refine aggI Br (x:=some ⟨b,0,none⟩) rfl (Z4d (RD.st.fr0 h g05) (fun hg w6 f6=>?_) fun n1 L1 hg hn1 w6 hr6 f6=>?_)
 ·exact h0 (hn0 (by unfold goneD; rw [hg])) w6 (g05.any.then f6)
 have hG:goneD L=moreD [] (repD idDec (fun i:Int=>i) n1 0 L1):=by
  unfold goneD
  rw [hg]
  dsimp only
  cases repD idDec (fun i:Int=>i) n1 0 L1 with
  | none=>rfl
  | some p=>rfl
 have f06:=g05.any.then f6
 have s6:=f6.size
 refine loopI (fun (st:Int) u=>∃ (lab:Nat→Nat) (r:DRaw) (gone:List Int) (L':List Bool) (last:Int) (m:Nat),st=((m:Nat):Int)∧m < 18446744073709551616∧DltI w2.heap.size w2.heap.size lab r [] [] gone [] [] u∧lab w3.heap.size=0 ∧
   Blk u w.heap.size 62 [.pointer (some ⟨b,0,none⟩)]∧Blk u w1.heap.size 80 [.slice none 0 0,.slice none 0 0,.slice none 0 0]∧Blk u w3.heap.size 54 [.int .u32 last]∧RD b L' F u∧Fr (fun k=>k=b) w u∧goneD L=moreD gone (repD idDec (fun i:Int=>i) m last L')∧5 * gone.length+L'.length≤8388608)
  (fun st _=>st.toNat) ⟨fun k=>if k=w2.heap.size then 6 else 0,(⟨none,0,0⟩,⟨none,0,0⟩,⟨none,0,0⟩),[],L1,0,n1,rfl,hn1,⟨Bx.fr f6 (nb (by omega)),by simp,Own.nil _ _ _ _,Own.nil _ _ _ _,EntsR.nil _ _,Own.nil _ _ _ _,All2.nil _,fun k e=>by
   by_cases hkb:k=w2.heap.size
   ·omega
   ·exact absurd (if_neg hkb) e⟩,if_neg (by omega),Br.fr f6 (nb (Nat.le_refl _)),Bo.fr f6 (nb (by omega)),Bl.fr f6 (nb (by omega)),hr6,f06,hG,by simpa using hr6.len⟩ ?_
 rintro st u ⟨lab,r,gone,L',last,m,rfl,hmm,D,l3,Bru,Bou,Blu,hru,fu,hI,hlen⟩
 have su:=fu.size
 have blu:=Blu.lt
 have bxu:=D.blk.lt
 have hbl:¬ F w3.heap.size:=fun e=>by have:=hF _ e; omega
 have ndis:∀ k,lab k≠0→¬ (k=b∨k=w3.heap.size):=fun k e=>by
  rintro (rfl | rfl)
  ·have:=D.up _ e; omega
  ·exact e l3
 refine condD (fun hpos=>?_) fun hpos=>?_
 ·have hpos:(m:Int) > 0:=hpos
  obtain ⟨m,rfl⟩:∃ q,m=q+1:=⟨m - 1,by omega⟩
  have fd:Fr None u u.drew:=(Fr.refl _ _).drew
  have sd:u.drew.heap.size=u.heap.size:=rfl
  refine fldI (D.blk.fr fd fun h=>h) (i:=0) (x:=r.1) rfl (aggI (Bru.fr fd fun h=>h) (x:=some ⟨b,0,none⟩) rfl (Zix (RD.st.fr0 hru fd) (Blu.fr fd fun h=>h) hbl (fun hg v f=>?_) fun id L2 hg hid v1 hr1 Bl1 g1=>?_))
  ·exact h0 (hn0 (by rw [hI,repD,hg]; rfl)) v ((fu.then0 fd).trans f (fun _ h=>h) fun x hx e=>e.elim (fun e=>e) fun e=>by omega)
  have g1':Fr (fun k=>k=b∨k=w3.heap.size) u v1:=fd.any.then g1
  have D1:=D.keep (by omega) g1' ndis
  have s1:=g1'.size
  refine andI (D1.blk.rd (s:=.sl) (i:=0) (x:=r.1) rfl) (D1.addGone (by omega) (by omega) fun lab' r' v2 D2 g2 hl=>?_)
  have s2:=g2.size
  have bru:=Bru.lt
  have bou:=Bou.lt
  have nl:∀ {x:Nat},x < w2.heap.size→¬ lab x≠0:=fun hx e=>by have:=D.up _ e; omega
  refine ⟨⟨lab',r',gone ++ [id],L2,id,m,by rw [wU64 (by omega)]; omega,by omega,D2,by rw [hl.1 _ (by omega)]; exact l3,(Bru.fr g1' fun e=>e.elim (nb (Nat.le_refl _)) fun e=>by omega).fr hl.2 (nl (by omega)),(Bou.fr g1' fun e=>e.elim (nb (by omega)) fun e=>by omega).fr hl.2 (nl (by omega)),
   Bl1.fr hl.2 fun e=>e l3,RD.st.fr hr1 g2 fun k e (e2:w2.heap.size≤k)=>by have:=hF k e; omega,(fu.trans g1' (fun _ h=>h) fun x hx e=>e.elim (fun e=>e) fun e=>by omega).thenNew g2 fun k (e:w2.heap.size≤k)=>by omega,?_,?_⟩,?_⟩
  ·rw [hI]; exact Z94 hg
  ·have:=Zce hg
   simp only [List.length_append,List.length_singleton]
   omega
  ·show (IntKind.wrap .u64 (((m+1:Nat):Int) - 1)).toNat < ((m+1:Nat):Int).toNat
   rw [wU64 (by omega)]
   omega
 have hz:m=0:=by
  have:¬ ((m:Nat):Int) > 0:=hpos
  omega
 subst hz
 have hI:goneD L=some (gone,L'):=by rw [hI]; show some (gone ++ [],L')=_; rw [List.append_nil]
 have hD2:deltaD was L=match entsD L' with
   | none=>none
   | some (c,L)=>match chgsD was L with
    | none=>none
    | some (d,L)=>some ((gone,c,d),L):=by unfold deltaD; rw [hI] <;> rfl
 refine aggI Bru (x:=some ⟨b,0,none⟩) rfl (Zju hru (fun k e=>by have:=hF k e; omega) (fun hg v f=>h0 (by rw [hD2,hg]) v (fu.then f)) fun come L2 hg rc' rcs labc u1 oc ec upc hr1 g1=>?_)
 rw [hg] at hD2
 dsimp only at hD2
 have s1:=g1.size
 obtain ⟨lab2,hlab2⟩:∃ lab2:Nat→Nat,lab2=fun k=>if k < u.heap.size then lab k else labc k:=⟨_,rfl⟩
 have lo:∀ k,k < u.heap.size→lab2 k=lab k:=fun k hk=>by rw [hlab2]; exact if_pos hk
 have hi:∀ k,labc k≠0→lab2 k=labc k:=fun k e=>by rw [hlab2]; exact if_neg (by have:=upc k e; omega)
 have up2:∀ k,lab2 k≠0→w2.heap.size≤k∧k < u1.heap.size:=fun k e=>by
  by_cases hk:k < u.heap.size
  ·rw [lo k hk] at e
   have:=D.up k e
   omega
  ·rw [hlab2] at e
   have:=upc k (by simpa [hk] using e)
   omega
 have nb1:∀ k,lab k≠0→¬ k=b:=fun k e e2=>ndis k e (.inl e2)
 rw [add_lit]
 refine setI (i:=1) (D.blk.fr g1 (nb (by omega))) (by simp) rfl fun u2 Bx2 f2' y2=>?_
 have D2:DltI w2.heap.size w2.heap.size lab2 (r.1,rc',r.2.2) rcs [] gone come [] u2:=DltI.turned (w:=u1) (Own.st D.og g1 fun k hk e=>⟨nb1 k (by omega),by rw [lo k hk]; exact e⟩) (oc.mono fun k _ e=>by show lab2 k=2; rw [hi k (by omega)]; exact e) (ec.mono fun k _ e=>by show lab2 k=3; rw [hi k (by omega)]; exact e)
  (Own.st D.od g1 fun k hk e=>⟨nb1 k (by omega),by rw [lo k hk]; exact e⟩) (All2.nil _) (by rw [lo _ bxu]; exact D.lb) up2 Bx2 f2'
 have l23:lab2 w3.heap.size=0:=by rw [lo _ blu]; exact l3
 have bru:=Bru.lt
 have bou:=Bou.lt
 have nbx:∀ {x:Nat},x≠w2.heap.size→¬ x=w2.heap.size:=fun h=>h
 have Bl2:=(Blu.fr g1 (nb (by omega))).fr f2' (nbx (by omega))
 refine stoAll Bl2 rfl rfl fun u3 Bl3 f3' y3=>?_
 have hFn:∀ {x:Nat},w.heap.size≤x→∀ k,F k→¬ k=x:=fun hx k e e2=>by have:=hF k e; omega
 have hr3:=RD.st.fr (RD.st.fr hr1 f2' (hFn (by omega))) f3' (hFn (by omega))
 have D3:=D2.keep (by omega) f3' fun k e e2=>e (e2 ▸ l23)
 have fu3:Fr (fun k=>k=b) w u3:=((fu.then g1).thenNew f2' fun k e=>by omega).thenNew f3' fun k e=>by omega
 have nb3:∀ {x:Nat},x≠w3.heap.size→¬ x=w3.heap.size:=fun h=>h
 have Br3:=((Bru.fr g1 (nb (Nat.le_refl _))).fr f2' (nbx (by omega))).fr f3' (nb3 (by omega))
 have Bo3:=((Bou.fr g1 (nb (by omega))).fr f2' (nbx (by omega))).fr f3' (nb3 (by omega))
 clear Bl2
 refine aggI Br3 (x:=some ⟨b,0,none⟩) rfl (Z4d hr3 (fun hg v f=>h0 (by rw [hD2,chgsD,hg]) v (fu3.then f)) fun n3 L3 hg3 hn3 u4 hr4 g4=>?_)
 have hC:chgsD was L2=moreD [] (repD (chgD was) (fun d:Chg=>d.1) n3 0 L3):=by
  unfold chgsD
  rw [hg3]
  dsimp only
  cases repD (chgD was) (fun d:Chg=>d.1) n3 0 L3 with
  | none=>rfl
  | some p=>rfl
 have hn2:chgsD was L2=none→deltaD was L=none:=fun e=>by rw [hD2,e]
 have s4:=g4.size
 refine loopI (fun (st:Int) u=>∃ (lab:Nat→Nat) (r:DRaw) (rd:List ChgRaw) (chg:List Chg) (L':List Bool) (last:Int) (m:Nat),st=((m:Nat):Int)∧m < 18446744073709551616∧DltI w2.heap.size w2.heap.size lab r rcs rd gone come chg u∧lab w3.heap.size=0 ∧
   Blk u w.heap.size 62 [.pointer (some ⟨b,0,none⟩)]∧Blk u w1.heap.size 80 [.slice none 0 0,.slice none 0 0,.slice none 0 0]∧Blk u w3.heap.size 54 [.int .u32 last]∧RD b L' F u∧Fr (fun k=>k=b) w u∧chgsD was L2=moreD chg (repD (chgD was) (fun d:Chg=>d.1) m last L')∧20 * chg.length+L'.length≤8388608)
  (fun st _=>st.toNat) ⟨lab2,_,[],[],L3,0,n3,rfl,hn3,D3.keep (by omega) g4 (fun k e e2=>by have:=up2 k e; omega),l23,Br3.fr g4 (nb (Nat.le_refl _)),Bo3.fr g4 (nb (by omega)),Bl3.fr g4 (nb (by omega)),hr4,fu3.then g4,hC,by simpa using hr4.len⟩ ?_
 clear hr4 g4 hC hr3 D3 D2 Br3 Bo3 Bl3 hr1 ec oc g1 f2' f3' y2 y3 upc hlab2 up2 lo hi nb1 hpos D ndis hru Bru Bou Blu fu3 fu bru bou blu bxu su hlen hI s1
 rintro st u ⟨lab,r,rd,chg,L',last,m,rfl,hmm,D,l3,Bru,Bou,Blu,hru,fu,hI,hlen⟩
 have su:=fu.size
 have blu:=Blu.lt
 have bxu:=D.blk.lt
 have bru:=Bru.lt
 have bou:=Bou.lt
 have ndis:∀ k,lab k≠0→¬ (k=b∨k=w3.heap.size):=fun k e=>by
  rintro (rfl | rfl)
  ·have:=D.up _ e; omega
  ·exact e l3
 refine condD (fun hpos=>?_) fun hpos=>?_
 rotate_left
 ·have hz:m=0:=by
   have:¬ ((m:Nat):Int) > 0:=hpos
   omega
  subst hz
  have hI:chgsD was L2=some (chg,L'):=by rw [hI]; show some (chg ++ [],L')=_; rw [List.append_nil]
  rw [hI] at hD2
  refine aggI D.blk (x:=r) rfl (stoAll Bou rfl rfl fun u1 C1 e1 m1=>aggI C1 (x:=r) rfl ?_)
  have nbr:∀ {i:Nat},i≠0→∀ k,k < u.heap.size→lab k=i→¬ k=w1.heap.size∧w.heap.size≤k:=fun hi k hk e=>by have:=D.up k (by omega); omega
  exact hk _ _ hD2 r u1 ⟨SlT.st D.og.sl e1 (nbr (by decide)),⟨rcs,SlT.st D.oc.sl e1 (nbr (by decide)),D.ec.len,fun i a b ha hb=>⟨(D.ec.at_ i a b ha hb).1,SlT.st (D.ec.at_ i a b ha hb).2 e1 (nbr (by decide))⟩⟩,
   ⟨rd,SlT.st D.od.sl e1 (nbr (by decide)),D.ed.imp fun a b hab=>Z2o a b hab e1 (nbr (by decide))⟩⟩ (RD.st.fr hru e1 (hFn (by omega))) (fu.thenNew e1 fun k e=>by omega)
 have hpos:(m:Int) > 0:=hpos
 obtain ⟨m,rfl⟩:∃ q,m=q+1:=⟨m - 1,by omega⟩
 have bad:chgD was last L'=none→deltaD was L=none:=fun e=>hn2 (by rw [hI,repD,e]; rfl)
 refine aggI Bru (x:=some ⟨b,0,none⟩) rfl (Zix hru Blu hbl (fun hg v f=>h0 (bad (by unfold chgD; rw [hg])) v (fu.trans f (fun _ h=>h) fun x hx e=>e.elim (fun e=>e) fun e=>by omega)) fun id M1 hg1 hid v1 hr1 Bl1 g1=>?_)
 have s1:=g1.size
 have t1:Fr (fun k=>k=b) w v1:=fu.trans g1 (fun _ h=>h) fun x hx e=>e.elim (fun e=>e) fun e=>by omega
 have D1:=D.keep (by omega) g1 ndis
 have Br1:=Bru.fr g1 fun e=>e.elim (nb (Nat.le_refl _)) fun e=>by omega
 have Bo1:=Bou.fr g1 fun e=>e.elim (nb (by omega)) fun e=>by omega
 refine newI fun v2 Bc g2 y2=>stoAll Bc rfl rfl fun v3 Bc g3 y3=>?_
 have g13:Fr (fun k=>k=v1.heap.size) v1 v3:=g2.any.then g3
 have nc:∀ {x:Nat},x < v1.heap.size→¬ x=v1.heap.size:=fun hx e=>by omega
 have Br3:=Br1.fr g13 (nc (by omega))
 have hr3:=RD.st.fr hr1 g13 (hFn (by omega))
 have t3:=t1.thenNew g13 fun k e=>by omega
 refine aggI Br3 (x:=some ⟨b,0,none⟩) rfl (Z60 hr3 (n:=5) (by decide) (fun hg v f=>h0 (bad (by unfold chgD; rw [hg1]; dsimp only; rw [hg])) v (t3.then f)) fun lost M2 hg2 hlo v4 hr4 g4=>?_)
 have s4:=g4.size
 have Bc4:=Bc.fr g4 (nb (by omega))
 rw [add_lit]
 refine setI (i:=1) Bc4 (by simp) rfl fun v5 Bc5 g5 y5=>?_
 have hlo:lost < 32:=hlo
 rw [wu8 (by omega)] at Bc5
 have gd:Fr None v5 v5.drew:=(Fr.refl _ _).drew
 have g35:Fr (fun k=>k=b∨k=v1.heap.size) v3 v5.drew:=((g4.sub fun k e=>.inl e).then (g5.sub fun k e=>.inr e)).then0 gd
 have nbc:∀ {x:Nat},w.heap.size≤x→x < v1.heap.size→¬ (x=b∨x=v1.heap.size):=fun h1 h2 e=>by omega
 have Br5:=Br3.fr g35 (nbc (Nat.le_refl _) (by omega))
 have Bc5:=Bc5.fr gd fun h=>h
 have hr5:=RD.st.fr0 (RD.st.fr hr4 g5 (hFn (by omega))) gd
 have t5:Fr (fun k=>k=b) w v5.drew:=((t3.then g4).thenNew g5 fun k e=>by omega).then0 gd
 refine aggI Br5 (x:=some ⟨b,0,none⟩) rfl (aggI Br5 (x:=some ⟨b,0,none⟩) rfl (Z60 hr5 (n:=5) (by decide) (fun hg v f=>h0 (bad (by unfold chgD; rw [hg1]; dsimp only; rw [hg2]; dsimp only; rw [hg])) v (t5.then f)) fun fresh M3 hg3 hfr v6 hr6 g6=>?_))
 have y5d:v5.drew.heap.size=v5.heap.size:=rfl
 have s6:=g6.size
 have Br6:=Br5.fr g6 (nb (Nat.le_refl _))
 have Bc6:=Bc5.fr g6 (nb (by omega))
 refine andI (fun j x hj=>(Br6.cells 0 [.pointer (some ⟨b,0,none⟩)] (fun j x hj=>by simpa using hj)) j x hj) ?_
 refine Z60 hr6 (n:=5) (by decide) (fun hg v f=>h0 (bad (by unfold chgD; rw [hg1]; dsimp only; rw [hg2]; dsimp only; rw [hg3]; dsimp only; rw [hg])) v ((t5.then g6).then f)) fun set M4 hg4 hse v7 hr7 g7=>?_
 have s7:=g7.size
 have Br7:=Br6.fr g7 (nb (Nat.le_refl _))
 have Bc7:=Bc6.fr g7 (nb (by omega))
 have t7:=(t5.then g6).then g7
 refine aggI Br7 (x:=some ⟨b,0,none⟩) rfl (Zhu hr7 (fun k e=>by have:=hF k e; omega) hfr (fun hg v f=>h0 (bad (by unfold chgD; rw [hg1]; dsimp only; rw [hg2]; dsimp only; rw [hg3]; dsimp only; rw [hg4]; dsimp only; rw [hg])) v (t7.then f)) fun ns M5 hg5 rn v8 o8 hr8 g8=>?_)
 have hD3:chgD was last L'=match setsD was id (kindsOf set) M5 with
   | none=>none
   | some (ss,L)=>some ((id,(lost:Int),ns,ss),L):=by
  unfold chgD
  rw [hg1]; dsimp only; rw [hg2]; dsimp only; rw [hg3]; dsimp only; rw [hg4]; dsimp only; rw [hg5] <;> rfl
 have s8:=g8.size
 have Bc8:=Bc7.fr g8 (nb (by omega))
 rw [add_lit]
 refine setI (i:=2) Bc8 (by simp) rfl fun v9 Bc9 g9 y9=>?_
 have Br9:=(Br7.fr g8 (nb (Nat.le_refl _))).fr g9 (nc (by omega))
 have hr9:=RD.st.fr hr8 g9 (hFn (by omega))
 have t9:=(t7.then g8).thenNew g9 fun k e=>by omega
 have o9:SlT (fun k=>v7.heap.size≤k) v9 compT rn ns:=o8.sl.fr g9 fun k (e:v7.heap.size≤k) e2=>by omega
 refine Zb0 hse fun rk v10 ok10 g10=>?_
 have s10:=g10.size
 have Br10:=Br9.fr g10 fun h=>h
 have Bc10:Blk v10 v1.heap.size 86 [.int .u32 id,.int .u8 (lost:Int),.slice rn.a rn.n rn.c,.slice none 0 0]:=Bc9.fr g10 fun h=>h
 have hr10:=RD.st.fr0 hr9 g10
 have t10:=t9.then0 g10
 have o10:=o9.fr0 g10
 have hkl:=ok10.len
 have hk6:(kindsOf set).length≤5:=by rw [← Z4c hse]; exact Zhf set 5
 refine forI (N:=rk.n) (fun s:Int=>s) (fun j i z=>i=(j:Int)∧(∃ (ss:List Comp) (rs:Sl) (M:List Bool),ss.length=j∧Blk z v1.heap.size 86 [.int .u32 id,.int .u8 (lost:Int),.slice rn.a rn.n rn.c,.slice rs.a rs.n rs.c]∧Own (fun k=>v10.heap.size≤k) z 92 compT rs ss∧RD b M F z∧setsD was id (kindsOf set) M5=moreD ss (setsD was id ((kindsOf set).drop j) M))∧Fr (fun k=>k=b∨k=v1.heap.size) v10 z)
  ⟨rfl,⟨[],⟨none,0,0⟩,M5,rfl,Bc10,Own.nil _ _ _ _,hr10,by rw [List.drop_zero]; cases setsD was id (kindsOf set) M5 with | none=>rfl | some p=>rfl⟩,Fr.refl _ _⟩ (fun j s w' h=>h.1) ?_ ?_
 ·rintro j i z K' hj ⟨rfl,⟨ss,rs,M,hsl,Bc,os,hrz,hI2⟩,gz⟩ - hK
  have sz:=gz.size
  have tz:Fr (fun k=>k=b) w z:=t10.trans gz (fun _ h=>h) fun x hx e=>e.elim (fun e=>e) fun e=>by omega
  have Brz:=Br10.fr gz (nbc (Nat.le_refl _) (by omega))
  refine (ok10.sl.fr gz fun k (e:v9.heap.size≤k) e2=>by omega).get rfl rfl (by omega) fun k hkj=>?_
  rw [Zru hkj,setsD] at hI2
  refine fldI Bc (i:=0) (x:=id) rfl (Zd2 (hS.fr tz hd) (hE.fr tz hd) hr (by omega) (fun e he=>by have:=(hL e he).2.1; omega) fun z1 e1=>?_)
  obtain ⟨oc,hoc⟩:∃ oc,oc=oldM was id k:=⟨_,rfl⟩
  rw [← hoc] at hI2 ⊢
  have tz1:=tz.then0 e1
  have bcz:=Bc.lt
  refine newI fun z2 Bx e2 x2=>stoAll Bx rfl rfl fun z3 Bx e3 x3=>fldI Bx (i:=0) (x:=oc.1) rfl ?_
  have e13:Fr None z1 z3:=e2.newer e3 fun k e=>by omega
  have e03:=e1.then0 e13
  have tz3:=tz.then0 e03
  refine joinI (fun (_:Unit) v=>oc.1=k∧v=z3) (condN (fun hne=>?_) fun heq=>⟨heq,rfl⟩) ?_
  ·exact h0 (bad (by rw [hD3,hI2,if_pos hne]; rfl)) z3 tz3
  rintro _ v ⟨hkk,rfl⟩
  rw [if_neg (fun h=>h hkk)] at hI2
  have ed:Fr None v v.drew:=(Fr.refl _ _).drew
  have e0d:=e03.then0 ed
  have Bcd:=Bc.fr e0d fun h=>h
  have Bxd:=Bx.fr ed fun h=>h
  have hrd:=RD.st.fr0 hrz e0d
  have osd:=os.none e0d
  have zs:=e0d.size
  have tzd:=tz3.then0 ed
  refine fldI Bcd (i:=3) (x:=rs) rfl (fldI (Brz.fr e0d fun h=>h) (i:=0) (x:=some ⟨b,0,none⟩) rfl (aggI Bxd (x:=oc) rfl ?_))
  refine Ziq hrd (fun k e=>by have:=hF k e; omega) (hoc ▸ Zs1 hL id k) (fun hg e' p1 he hrp q1=>?_) fun c M6 hg p1 hrp q1=>?_
  ·refine andI ((Bcd.fr q1 (nb (by omega))).rd (s:=.sl) (i:=3) (x:=rs) rfl) (Z6m (v:=(0,0,0,0)) (fun _ p2 q2=>h0 (bad ?_) p2 ((tzd.then q1).then q2.any)) fun h=>absurd h he)
   rw [hD3,hI2,hg]
   rfl
  rw [hg] at hI2
  dsimp only at hI2
  have Bc1:=Bcd.fr q1 (nb (by omega))
  refine andI (Bc1.rd (s:=.sl) (i:=3) (x:=rs) rfl) (Z6m (v:=c) (fun h=>absurd rfl h) fun _ p2 q2=>?_)
  have Bc2:=Bc1.fr q2 fun h=>h
  refine andI (Bc2.rd (s:=.sl) (i:=3) (x:=rs) rfl) ?_
  have q12:=q1.then0 q2
  have sq:=q12.size
  have osp:Own (fun k=>v10.heap.size≤k) p2 92 compT rs ss:=(osd.fr q1 fun k e e2=>by omega).none q2
  refine appP (x:=c) Z26 rfl osp (fun k e=>by show v10.heap.size≤k; omega) (by omega) (by omega) fun rs2 p3 os3 q3=>?_
  have s3:=q3.size
  have nown:∀ k,k < v10.heap.size→¬ rs.v.ownBlock=some k:=fun k hk e=>by have:=osp.own k e; omega
  rw [add_lit]
  refine setI (i:=3) (Bc2.fr q3 (nown _ (by omega))) (by simp) rfl fun p4 Bc4 q4 x4=>?_
  refine hK _ _ ⟨wsucc hj (by omega),⟨ss ++ [c],rs2,M6,by simp [hsl],Bc4,os3.fr q4 fun k e e2=>by omega,RD.st.fr (RD.st.fr (RD.st.fr0 hrp q2) q3 fun k e=>nown k (by have:=hF k e; omega)) q4 (hFn (by omega)),?_⟩,?_⟩
  ·rw [hI2]
   cases setsD was id ((kindsOf set).drop (j+1)) M6 with
   | none=>rfl
   | some p =>
    obtain ⟨bs,rr⟩:=p
    show some (ss ++ c :: bs,rr)=some (ss ++ [c] ++ bs,rr)
    rw [List.append_assoc]
    rfl
  ·exact (((gz.then0 e0d).then (q12.sub fun k e=>.inl e)).thenNew q3 fun k e=>osp.own k e).then (q4.sub fun k e=>.inr e)
 ·rintro i z ⟨_,⟨ss,rs,M,hsl,Bc,os,hrz,hI2⟩,gz⟩
  rw [List.drop_of_length_le (by omega)] at hI2
  have hI2:setsD was id (kindsOf set) M5=some (ss,M):=by rw [hI2]; show some (ss ++ [],M)=_; rw [List.append_nil]
  rw [hI2] at hD3
  dsimp only at hD3
  have sz:=gz.size
  have tz:Fr (fun k=>k=b) w z:=t10.trans gz (fun _ h=>h) fun x hx e=>e.elim (fun e=>e) fun e=>by omega
  have g1z:Fr (fun k=>k=b∨k=v1.heap.size) v1 z:=((((((g13.sub fun k e=>.inr e).then g35).then (g6.sub fun k e=>.inl e)).then (g7.sub fun k e=>.inl e)).then (g8.sub fun k e=>.inl e)).then (g9.sub fun k e=>.inr e)).then0 g10 |>.then gz
  have Dz:=D1.step (by omega) g1z (fun k e e2=>by have:=D1.up k e; rcases e2 with rfl | rfl <;> omega) (n1:=v1.heap.size+1) (by omega) 5
  obtain ⟨labz,hlz⟩:∃ labz,labz=relab lab (v1.heap.size+1) z.heap.size 5:=⟨_,rfl⟩
  rw [← hlz] at Dz
  have new5:∀ k,v1.heap.size < k→k < z.heap.size→labz k=5:=fun k h1 h2=>by rw [hlz,Z5w (by omega) h2]
  have oldz:∀ k,k≤v1.heap.size→labz k=lab k:=fun k h1=>by rw [hlz,Z16 (by omega)]
  refine fldI Dz.blk (i:=2) (x:=r.2.2) rfl (aggI Bc (x:=((id,(lost:Int),rn,rs):ChgRaw)) rfl ?_)
  have Rz:chgR (fun k=>labz k=5) z (id,(lost:Int),rn,rs) (id,(lost:Int),ns,ss):=⟨rfl,rfl,SlT.st o10 gz fun k hk (e:v7.heap.size≤k)=>⟨fun e2=>by omega,new5 k (by omega) (by omega)⟩,os.sl.mono fun k hk e=>new5 k (by omega) hk⟩
  refine Dz.addChg (by omega) (by omega) (d:=(id,(lost:Int),ns,ss)) Rz fun lab' r' z2 D2 e2 hl=>?_
  have s2:=e2.size
  have nl:∀ {x:Nat},x < u.heap.size→lab x=0→¬ labz x≠0:=fun hx e e2=>by rw [oldz _ (by omega)] at e2; exact e2 e
  have lz:∀ {x:Nat},x < w2.heap.size→lab x=0:=fun hx=>Classical.byContradiction fun e=>by have:=D.up _ e; omega
  refine ⟨⟨lab',r',rd ++ [(id,(lost:Int),rn,rs)],chg ++ [(id,(lost:Int),ns,ss)],M,id,m,by rw [wU64 (by omega)]; omega,by omega,D2,by rw [hl.1 _ (by omega),oldz _ (by omega)]; exact l3,?_,?_,?_,?_,?_,?_,?_⟩,?_⟩
  ·exact (Br10.fr gz (nbc (Nat.le_refl _) (by omega))).fr hl.2 (nl (by omega) (lz (by omega)))
  ·exact (Bo1.fr g1z (nbc (by omega) (by omega))).fr hl.2 (nl (by omega) (lz (by omega)))
  ·exact (Bl1.fr g1z (nbc (by omega) (by omega))).fr hl.2 (nl (by omega) l3)
  ·exact RD.st.fr hrz e2 fun k e (e2:w2.heap.size≤k)=>by have:=hF k e; omega
  ·exact tz.thenNew e2 fun k (e:w2.heap.size≤k)=>by omega
  ·rw [hI]; exact Z94 hD3
  ·have:=Zob hD3
   simp only [List.length_append,List.length_singleton]
   omega
  ·show (IntKind.wrap .u64 (((m+1:Nat):Int) - 1)).toNat < ((m+1:Nat):Int).toNat
   rw [wU64 (by omega)]
   omega
end Go.Proofs.YtchhhjlpnecjkaaGreat
namespace Go.Proofs.YtchhhjlpnecjkaaGreat
open Go Go.RowKit Go.Proofs.YtchhhjlpnecjkaaGreat.Den
variable {R:Type} {Q:R→World→Prop} {w:World}
theorem downI {σ:Type} {step:(σ→W R)→σ→W R} {done:σ→W R} {s0:σ} {N:Nat} (idx:σ→Int) (P:Nat→σ→World→Prop)
  (h0:P 0 s0 w) (hi:∀ j s w',P j s w'→idx s=(N:Int) - 1 - j)
  (hs:∀ j s w' (K:σ→W R),j < N→P j s w'→idx s=(N:Int) - 1 - j→(∀ s' w'',P (j+1) s' w''→K s' Q w'')→step K s Q w') (hd:∀ s w',P N s w'→done s Q w') :
  loopW (fun K s=>cond (decide (idx s ≥ 0)) (step K s) (done s)) s0 Q w:=by
 refine loopI (fun s w'=>∃ j,j≤N∧P j s w') (fun s _=>(idx s+1).toNat) ⟨0,Nat.zero_le _,h0⟩ ?_
 rintro s w' ⟨j,hj,hp⟩
 have e:=hi j s w' hp
 rcases Nat.lt_or_ge j N with hlt | hge
 ·refine condT (by simp [e]; omega) ?_
  refine hs j s w' _ hlt hp e ?_
  intro s' w'' hp'
  refine ⟨⟨j+1,hlt,hp'⟩,?_⟩
  rw [hi _ _ _ hp',e]
  omega
 ·have:j=N:=by omega
  subst this
  exact condF (decide_eq_false (by rw [e]; omega)) (hd s w' hp)
theorem Zpc:∀ L:List Bool,valB L < 2 ^ L.length
 | []=>by simp [valB]
 | b :: r=>by
  have:=Zpc r
  rw [valB,List.length_cons,Nat.pow_succ]
  have hb:bitN b≤1:=by cases b <;> decide
  omega
theorem Zwo {L:List Bool} {i:Nat} {b:Bool} (h:L[i]?=some b):valB (L.drop i)=bitN b+2 * valB (L.drop (i+1)):=by
 obtain ⟨hh,hg⟩:=List.getElem?_eq_some_iff.1 h
 rw [List.drop_eq_getElem_cons hh,hg,valB]
theorem wrapU {n:Nat} (h:n < 18446744073709551616):IntKind.wrap .u64 (n:Int)=(n:Int):=wU64 (by omega)
theorem Z6e {ok:Nat→Prop} {s:Sl} {L:List Bool} (hS:SlT ok w boolT s L) (hm:L.length≤1048576) {n:Nat} (hn:n≤64) {K:Res [.sc (.int .u64),.sc .sl,.sc (.int .i64)]→W R} (h0:getN n L=none→K (0,s,2) Q w)
  (hk:∀ v L' r w',getN n L=some (v,L')→SlT ok w' boolT r L'→Fr None w w'→K ((v:Int),r,0) Q w'):callW Tryz.prog Zs [.slice s.a s.n s.c,.int .i64 (n:Int)] [.sc (.int .u64),.sc .sl,.sc (.int .i64)] K Q w:=by
 refine Zgf s (n:Int) K Q w ?_
 unfold Z9e
 have hl:=hS.len
 refine joinI (fun z u=>z=false∧w=u) ?_ ?_
 ·exact condF (decide_eq_false (by omega)) ⟨decide_eq_false (by omega),rfl⟩
 rintro z u ⟨rfl,rfl⟩
 refine condF rfl (condD (fun hgt=>h0 ?_) fun hle=>?_)
 ·unfold getN
  rw [if_neg (by omega)]
 have hnl:n≤L.length:=by omega
 have hg:getN n L=some (valB (L.take n),L.drop n):=if_pos hnl
 have hlen:(L.take n).length=n:=by simp; omega
 have hvl:∀ j,valB ((L.take n).drop j) < 18446744073709551616:=fun j=>by
  have:=Zpc ((L.take n).drop j)
  refine Nat.lt_of_lt_of_le this ?_
  have:2 ^ ((L.take n).drop j).length≤2 ^ 64:=Nat.pow_le_pow_right (by decide) (by rw [List.length_drop]; omega)
  exact this
 refine downI (N:=n) (fun s:Int × Int=>s.2) (fun j st u=>st.2=(n:Int) - 1 - j∧Fr None w u∧st.1=((valB ((L.take n).drop (n - j)):Nat):Int)) ⟨by show IntKind.wrap .i64 ((n:Int) - 1)=_; rw [w64 (by omega)]; omega,Fr.refl _ _,by rw [Nat.sub_zero,List.drop_of_length_le (by omega)]; rfl⟩ (fun j s w' h=>h.1) ?_ ?_
 ·rintro j ⟨v,i⟩ u K' hj ⟨hi,fu,hv⟩ - hK
  have hi:i=(n:Int) - 1 - j:=hi
  have hv:v=((valB ((L.take n).drop (n - j)):Nat):Int):=hv
  have hie:i=((n - (j+1):Nat):Int):=by omega
  obtain ⟨b,hb⟩:∃ b,L[n - (j+1)]?=some b:=⟨_,List.getElem?_eq_getElem (by omega)⟩
  refine (hS.fr0 fu).get rfl hie (by omega) fun x hx=>?_
  rw [hb] at hx
  cases hx
  have hb2:(L.take n)[n - (j+1)]?=some b:=by rw [List.getElem?_take,if_pos (by omega)]; exact hb
  have hst:=Zwo hb2
  rw [show n - (j+1)+1=n - j by omega] at hst
  have h2:=hvl (n - (j+1))
  rw [hst] at h2
  have e2:IntKind.wrap .u64 (v * 2)=((2 * valB ((L.take n).drop (n - j)):Nat):Int):=by
   rw [hv,← wrapU (n:=2 * valB ((L.take n).drop (n - j))) (by omega)]
   congr 1
   omega
  refine joinI (fun z u'=>z=((valB ((L.take n).drop (n - (j+1))):Nat):Int)∧u'=u) (condI (fun hb=>⟨?_,rfl⟩) fun hb=>⟨?_,rfl⟩) ?_
  ·subst hb
   rw [e2,hst]
   have h2:1+2 * valB ((L.take n).drop (n - j)) < 18446744073709551616:=h2
   show IntKind.wrap .u64 (_+1)=(((1+2 * valB ((L.take n).drop (n - j)):Nat):Nat):Int)
   rw [← wrapU h2]
   congr 1
   omega
  ·subst hb
   rw [e2,hst]
   show _=(((0+2 * valB ((L.take n).drop (n - j)):Nat):Nat):Int)
   rw [Nat.zero_add]
  rintro z u' ⟨rfl,rfl⟩
  exact hK _ _ ⟨by show IntKind.wrap .i64 (i - 1)=_; rw [w64 (by omega)]; omega,fu,rfl⟩
 ·rintro ⟨v,i⟩ u ⟨-,fu,hv⟩
  have hv:v=((valB ((L.take n).drop (n - n)):Nat):Int):=hv
  rw [Nat.sub_self,List.drop_zero] at hv
  have fd:Fr None u u.drew:=(Fr.refl _ _).drew
  refine (hS.fr0 (fu.then0 fd)).from rfl rfl hnl fun r hr _=>?_
  rw [hv]
  exact hk _ _ r _ hg hr (fu.then0 fd)
theorem Zbk {ok:Nat→Prop} {s:Sl} {L:List Bool} (hS:SlT ok w boolT s L) (hm:L.length≤1048576) {lo hi:Int} (h1:-2147483648≤lo) (h2:lo≤hi) (h3:hi≤2147483647) {K:Res [.sc (.int .i64),.sc .sl,.sc (.int .i64)]→W R} (h0:getIn lo hi L=none→∀ e w',e≠0→Fr None w w'→K (0,s,e) Q w')
  (hk:∀ v L' r w',getIn lo hi L=some (v,L')→lo≤v→v≤hi→SlT ok w' boolT r L'→Fr None w w'→K (v,r,0) Q w'):callW Tryz.prog Z18 [.slice s.a s.n s.c,.int .i64 lo,.int .i64 hi] [.sc (.int .i64),.sc .sl,.sc (.int .i64)] K Q w:=by
 refine Zdu s lo hi K Q w ?_
 unfold Z7g
 refine condF (decide_eq_false (by omega)) (Zht (by omega) (by omega) ?_)
 have hwl:=Z3b (lo:=lo) (hi:=hi) (by omega)
 refine Z6e hS hm hwl (fun hn=>condT rfl (h0 (by unfold getIn; rw [hn]) 2 w (by decide) (Fr.refl _ _))) fun v L' r w1 hg hr f1=>condF rfl ?_
 have hd:IntKind.wrap .u64 (IntKind.wrap .u64 hi - IntKind.wrap .u64 lo)=hi - lo:=Zd7 (by omega) h2 (by omega)
 rw [hd]
 refine condD (fun hgt=>h0 (by unfold getIn; rw [hg]; simp only; rw [if_neg (by omega)]) 5 w1 (by decide) f1) fun hle=>?_
 have hv:IntKind.wrap .i64 (IntKind.wrap .u64 (IntKind.wrap .u64 lo+(v:Int)))=lo+(v:Int):=by
  rw [IntKind.wrap_u64,IntKind.wrap_u64,IntKind.wrap_i64]; omega
 rw [hv]
 exact hk _ L' r w1 (by unfold getIn; rw [hg]; simp only; rw [if_pos (by omega)]) (by omega) (by omega) hr f1
theorem Zsa {v:Int} (h0:0≤v) (h1:v≤1000) {K:Res [.sc (.int .i64)]→W R} (hk:K (zagM v) Q w):callW Tryz.prog Z3t [.int .u64 v] [.sc (.int .i64)] K Q w:=by
 refine Zgi v K Q w ?_
 unfold Z9h
 have e1:Int.tmod v 2=v % 2:=Int.tmod_eq_emod_of_nonneg h0
 have e2:Int.tdiv v 2=v / 2:=Int.tdiv_eq_ediv_of_nonneg h0
 rw [e1,e2,wU64 (by omega),w64 (x:=v / 2) (by omega),w64 (x:=-1 - v / 2) (by omega)]
 unfold zagM at hk
 refine condE (fun h=>?_) fun h=>?_
 ·rw [if_pos h] at hk; exact hk
 ·rw [if_neg h] at hk; exact hk
def grpAt (L:List Bool) (i:Nat):Nat:=valB ((L.drop (5 * i)).take 4)
def accV (L:List Bool):Nat→Nat
 | 0=>0
 | i+1=>accV L i+grpAt L i * 2 ^ (4 * i)
theorem Zsu (L:List Bool) (i:Nat):grpAt L i < 16:=by
 have:=Zpc ((L.drop (5 * i)).take 4)
 refine Nat.lt_of_lt_of_le this ?_
 have:2 ^ ((L.drop (5 * i)).take 4).length≤2 ^ 4:=Nat.pow_le_pow_right (by decide) (by rw [List.length_take]; omega)
 exact this
theorem Zuf (L:List Bool):∀ n,accV L n < 2 ^ (4 * n)
 | 0=>by simp [accV]
 | n+1=>by
  have:=Zuf L n
  have g:=Zsu L n
  rw [accV,show 4 * (n+1)=4 * n+4 by omega,Nat.pow_add]
  have:grpAt L n * 2 ^ (4 * n)≤15 * 2 ^ (4 * n):=Nat.mul_le_mul_right _ (by omega)
  have e:(2:Nat) ^ 4=16:=rfl
  rw [e]
  omega
theorem Zzv {L:List Bool} {i k:Nat}:varD (k+1) i (accV L i) (L.drop (5 * i))=if L.length < 5 * i+5 then none else match L[5 * i+4]? with
  | some false=>if groupsM (accV L (i+1))=i+1 then some (accV L (i+1),L.drop (5 * (i+1))) else none
  | _=>varD k (i+1) (accV L (i+1)) (L.drop (5 * (i+1))):=by
 rw [varD]
 by_cases h:L.length < 5 * i+5
 ·have:getN 5 (L.drop (5 * i))=none:=if_neg (by rw [List.length_drop]; omega)
  rw [this,if_pos h]
 ·rw [if_neg h]
  have hg:getN 5 (L.drop (5 * i))=some (valB ((L.drop (5 * i)).take 5),(L.drop (5 * i)).drop 5):=if_pos (by rw [List.length_drop]; omega)
  rw [hg,List.drop_drop,show 5 * i+5=5 * (i+1) by omega]
  obtain ⟨b,hb⟩:∃ b,L[5 * i+4]?=some b:=⟨_,List.getElem?_eq_getElem (by omega)⟩
  have hb2:(L.drop (5 * i))[4]?=some b:=by rw [List.getElem?_drop]; exact hb
  have ev:valB ((L.drop (5 * i)).take 5)=grpAt L i+16 * bitN b:=by
   unfold grpAt
   generalize L.drop (5 * i)=M at hb2
   match M,hb2 with
   | a1 :: a2 :: a3 :: a4 :: a5 :: r,hb2 =>
    have:a5=b:=by simpa using hb2
    subst this
    simp only [List.take_succ_cons,List.take_zero,valB]
    omega
  have hlt:=Zsu L i
  have e1:(grpAt L i+16 * bitN b) % 16=grpAt L i:=by omega
  have e2:(grpAt L i+16 * bitN b) / 16=bitN b:=by omega
  simp only [ev,e1,e2,hb]
  cases b
  ·rw [if_pos (show bitN false=0 from rfl)]
   rfl
  ·rw [if_neg (show ¬ bitN true=0 by decide)]
   rfl
theorem Zmx {ok:Nat→Prop} {s:Sl} {L:List Bool} (hS:SlT ok w boolT s L) (hm:L.length≤1048576) {K:Res [.sc (.int .u64),.sc .sl,.sc (.int .i64)]→W R} (h0:getVar L=none→∀ e w',e≠0→Fr None w w'→K (0,s,e) Q w')
  (hk:∀ v L' r w',getVar L=some (v,L')→v < 18446744073709551616→SlT ok w' boolT r L'→Fr None w w'→K ((v:Int),r,0) Q w'):callW Tryz.prog Z46 [.slice s.a s.n s.c] [.sc (.int .u64),.sc .sl,.sc (.int .i64)] K Q w:=by
 refine Zc4 s K Q w ?_
 unfold Z6u
 have hl:=hS.len
 refine loopI (fun n u=>∃ j:Nat,n=(j:Int)∧j < 16∧Fr None w u∧getVar L=varD (16 - j) j (accV L j) (L.drop (5 * j))) (fun n _=>16 - n.toNat) ⟨0,rfl,by decide,Fr.refl _ _,rfl⟩ ?_
 rintro n u ⟨j,rfl,hj,fu,hv⟩
 rw [show 16 - j=(15 - j)+1 by omega,Zzv] at hv
 have w1:IntKind.wrap .i64 (IntKind.wrap .i64 (5 * (j:Int))+5)=((5 * j+5:Nat):Int):=by rw [w64 (x:=5 * (j:Int)) (by omega),w64 (by omega)]; omega
 have w2:IntKind.wrap .i64 ((j:Int)+1)=((j+1:Nat):Int):=by rw [w64 (by omega)]; rfl
 have w3:IntKind.wrap .i64 (IntKind.wrap .i64 (5 * ((j+1:Nat):Int)) - 1)=((5 * j+4:Nat):Int):=by rw [w64 (x:=5 * ((j+1:Nat):Int)) (by omega),w64 (by omega)]; omega
 have w4:IntKind.wrap .i64 (5 * ((j+1:Nat):Int))=((5 * (j+1):Nat):Int):=by rw [w64 (by omega)]; omega
 rw [w1,w2,w3,w4]
 refine condD (fun hlt=>h0 (by rw [hv,if_pos (by omega)]) 2 u (by decide) fu) fun hge=>?_
 have hge:¬ L.length < 5 * j+5:=by omega
 rw [if_neg hge] at hv
 obtain ⟨b,hb⟩:∃ b,L[5 * j+4]?=some b:=⟨_,List.getElem?_eq_getElem (by omega)⟩
 rw [hb] at hv
 refine joinI (fun z v=>v=u∧(z=true↔(j+1=16∨b=false))) ?_ ?_
 ·refine condI (fun h=>⟨rfl,?_⟩) fun h=>?_
  ·have h2:((j+1:Nat):Int)=16:=by simpa using h
   have:j+1=16:=by omega
   simp [this]
  ·have:¬ j+1=16:=fun e=>by rw [e] at h; simp at h
   refine (hS.fr0 fu).get rfl rfl (by omega) fun x hx=>⟨rfl,?_⟩
   rw [hb] at hx
   cases hx
   simp [this]
 rintro z _ ⟨rfl,hz⟩
 refine condI (fun ht=>?_) fun hf=>?_
 ·refine (hS.fr0 fu).get rfl rfl (by omega) fun x hx=>?_
  rw [hb] at hx
  cases hx
  refine condI (fun hbt=>h0 ?_ 4 _ (by decide) fu) fun hbf=>?_
  ·subst hbt
   have:j=15:=by have:=hz.1 ht; simp at this; omega
   subst this
   rw [hv]; rfl
  subst hbf
  simp only at hv
  have alt:=Zuf L (j+1)
  have a64:accV L (j+1) < 18446744073709551616:=Nat.lt_of_lt_of_le alt (by
   have:2 ^ (4 * (j+1))≤2 ^ 64:=Nat.pow_le_pow_right (by decide) (by omega)
   exact this)
  refine downI (N:=j+1) (fun s:Int × Int=>s.2) (fun i st v=>st.2=((j+1:Nat):Int) - 1 - i∧i≤j+1∧Fr None w v∧∃ x:Nat,st.1=(x:Int)∧accV L (j+1)=accV L (j+1 - i)+x * 2 ^ (4 * (j+1 - i))) ⟨by show IntKind.wrap .i64 (((j+1:Nat):Int) - 1)=_; rw [w64 (by omega)]; omega,Nat.zero_le _,fu,0,rfl,by simp⟩ (fun j s w' h=>h.1) ?_ ?_
  ·rintro i ⟨x,q⟩ v K' hi ⟨hq,hij,fv,y,hy,hacc⟩ - hK
   have hq:q=((j+1:Nat):Int) - 1 - i:=hq
   have hy:x=(y:Int):=hy
   subst hy
   have hqn:q=((j - i:Nat):Int):=by omega
   subst hqn
   have w5:IntKind.wrap .i64 (5 * ((j - i:Nat):Int))=((5 * (j - i):Nat):Int):=by rw [w64 (by omega)]; omega
   rw [w5]
   refine (hS.fr0 fv).from rfl rfl (by omega) fun r hr _=>?_
   have hgn:getN 4 (L.drop (5 * (j - i)))=some (grpAt L (j - i),(L.drop (5 * (j - i))).drop 4):=if_pos (by rw [List.length_drop]; omega)
   refine Z6e hr (by rw [List.length_drop]; omega) (n:=4) (by decide) (fun hn=>by rw [hgn] at hn; cases hn) fun g L2 r2 v2 hg _ g2=>?_
   rw [hgn] at hg
   cases hg
   have hacc2:accV L (j+1)=accV L (j - i)+(grpAt L (j - i)+16 * y) * 2 ^ (4 * (j - i)):=by
    rw [hacc,show j+1 - i=(j - i)+1 by omega,accV,show 4 * (j - i+1)=4 * (j - i)+4 by omega,Nat.pow_add,show (2:Nat) ^ 4=16 from rfl]
    rw [Nat.add_mul,Nat.add_assoc]
    congr 2
    rw [Nat.mul_comm 16 y,Nat.mul_assoc,Nat.mul_comm 16]
   have hb64:grpAt L (j - i)+16 * y < 18446744073709551616:=by
    have:(grpAt L (j - i)+16 * y) * 1≤(grpAt L (j - i)+16 * y) * 2 ^ (4 * (j - i)):=Nat.mul_le_mul_left _ (Nat.two_pow_pos _)
    omega
   refine hK _ _ ⟨by show IntKind.wrap .i64 (((j - i:Nat):Int) - 1)=_; rw [w64 (by omega)]; omega,by omega,fv.then0 g2,grpAt L (j - i)+16 * y,?_,by rw [show j+1 - (i+1)=j - i by omega]; exact hacc2⟩
   show IntKind.wrap .u64 (IntKind.wrap .u64 (16 * (y:Int))+(grpAt L (j - i):Int))=_
   rw [wU64 (x:=16 * (y:Int)) (by omega),wU64 (by omega)]
   omega
  ·rintro ⟨x,q⟩ v ⟨-, -,fv,y,hy,hacc⟩
   have hy:x=(y:Int):=hy
   subst hy
   rw [Nat.sub_self] at hacc
   have hay:y=accV L (j+1):=by rw [hacc]; simp [accV]
   subst hay
   refine Z5c a64 fun r v2 o2 g2=>?_
   have hrn:=o2.len
   rw [Za1] at hrn
   have f2:=fv.then0 g2
   refine condN (fun hne=>h0 ?_ 4 v2 (by decide) f2) fun he=>?_
   ·rw [hv,if_neg fun e=>hne (by rw [hrn,e])]
   ·have he:groupsM (accV L (j+1))=j+1:=by
     have he:(r.n:Int)=((5 * (j+1):Nat):Int):=he
     omega
    rw [if_pos he] at hv
    have fd:Fr None v2 v2.drew:=(Fr.refl _ _).drew
    exact (hS.fr0 (f2.then0 fd)).from rfl rfl (by omega) fun r2 hr2 _=>hk _ _ r2 _ hv a64 hr2 (f2.then0 fd)
 ·have hn:¬ (j+1=16∨b=false):=fun e=>by rw [hz.2 e] at hf; cases hf
  have hbt:b=true:=by cases b with
   | true=>rfl
   | false=>exact absurd (.inr rfl) hn
  subst hbt
  refine ⟨⟨j+1,rfl,by omega,fu,?_⟩,by omega⟩
  rw [hv]
  show varD (15 - j) _ _ _=_
  rw [show 16 - (j+1)=15 - j by omega]
end Go.Proofs.YtchhhjlpnecjkaaGreat
namespace Go.Proofs.YtchhhjlpnecjkaaGreat
open Go Go.RowKit Go.Proofs.YtchhhjlpnecjkaaGreat.Den
theorem Zyr {k:Int} (hk:0≤k∧k≤255) {vs:List Int} (h:∀ v∈vs, -2147483648≤v∧v≤2147483647):CompOk (mkC k vs):=by
 have g:∀ i:Nat,i32 (vs.getD i 0):=fun i=>by
  rw [List.getD_eq_getElem?_getD]
  cases hi:vs[i]? with
  | none=>exact ⟨by decide,by decide⟩
  | some v=>exact h v (List.mem_of_getElem? hi)
 exact ⟨hk,g 0,g 1,g 2⟩
theorem Zsm {k:Int} (hk:0≤k∧k≤255) {L:List Bool} {c:Comp} {r:List Bool} (h:compD k L=some (c,r)):CompOk c:=by
 unfold compD at h
 split at h
 ·cases h
 ·cases hr:readF k (List.range (cntM k)) L with
  | none=>rw [hr] at h; cases h
  | some q =>
   obtain ⟨vs,L3⟩:=q
   rw [hr] at h
   cases h
   refine Zyr hk fun v hv=>?_
   obtain ⟨_,a2,a3⟩:=Zlq k _ hr
   obtain ⟨j,hj⟩:=List.mem_iff_getElem?.1 hv
   have hjl:=(List.getElem?_eq_some_iff.1 hj).1
   have hj2:(List.range (cntM k))[j]?=some j:=by
    rw [List.getElem?_range]
    rw [List.length_range] at a2
    omega
   have:=a3 j j v hj2 hj
   obtain ⟨r1,r2⟩:=Z19 k (j:Int)
   omega
theorem Zqd {was:Comp} (hw:CompOk was) {i:Nat} {L:List Bool} {v:Int} {r:List Bool} (h:movedD was i L=some (v,r)):-2147483648≤v∧v≤2147483647:=by
 obtain ⟨r1,r2⟩:=Z19 was.1 (i:Int)
 have hf:=flI hw i
 unfold movedD at h
 cases h1:getN 1 L with
 | none=>rw [h1] at h; cases h
 | some p =>
  obtain ⟨b,L1⟩:=p
  rw [h1] at h
  dsimp only at h
  split at h
  ·cases h; exact hf
  ·cases h2:getN 1 L1 with
   | none=>rw [h2] at h; cases h
   | some p =>
    obtain ⟨b2,L2⟩:=p
    rw [h2] at h
    dsimp only at h
    split at h
    ·cases h3:getIn (rangeM was.1 (i:Int)).1 (rangeM was.1 (i:Int)).2.1 L2 with
     | none=>rw [h3] at h; cases h
     | some p =>
      obtain ⟨n,L3⟩:=p
      rw [h3] at h
      have a3:=(Zla h3).2
      dsimp only at h
      split at h
      ·cases h
      ·cases h; omega
    ·cases h3:getN 4 L2 with
     | none=>rw [h3] at h; cases h
     | some p =>
      obtain ⟨n,L3⟩:=p
      rw [h3] at h
      dsimp only at h
      split at h
      ·cases h
      ·cases h; omega
theorem Ziz {was c:Comp} (hw:CompOk was) {L r:List Bool} (h:stepDec was L=some (c,r)):CompOk c:=by
 have rs:∀ (is:List Nat) {L:List Bool} {vs:List Int} {r:List Bool},readS was is L=some (vs,r)→∀ v∈vs, -2147483648≤v∧v≤2147483647:=by
  intro is
  induction is with
  | nil=>intro L vs r h v hv; rw [readS] at h; cases h; cases hv
  | cons i is ih =>
   intro L vs r h v hv
   rw [readS] at h
   cases h1:movedD was i L with
   | none=>rw [h1] at h; cases h
   | some p =>
    obtain ⟨x,L2⟩:=p
    rw [h1] at h
    dsimp only at h
    cases h2:readS was is L2 with
    | none=>rw [h2] at h; cases h
    | some q =>
     obtain ⟨vs2,L3⟩:=q
     rw [h2] at h
     cases h
     rcases List.mem_cons.1 hv with rfl | hv
     ·exact Zqd hw h1
     ·exact ih h2 v hv
 unfold stepDec at h
 split at h
 ·cases h
 ·cases hr:readS was (List.range (cntM was.1)) L with
  | none=>rw [hr] at h; cases h
  | some q =>
   obtain ⟨vs2,L3⟩:=q
   rw [hr] at h
   cases h
   exact Zyr hw.1 (rs _ hr)
theorem Zty {m:Nat} {k:Int} (h:k∈kindsOf m):0≤k∧k≤255:=by
 have e:kindsOf m=kindsB m 6:=rfl
 rw [e] at h
 obtain ⟨j,hj,rfl⟩:=List.mem_map.1 h
 have:=List.mem_range.1 (List.mem_filter.1 hj).1
 omega
theorem Zld {m:Nat} (hm:m < 32):(kindsOf m).length≤5:=by rw [← Z4c hm]; exact Zhf m 5
theorem Zb8 {n:Nat} {L:List Bool} {v:Nat} {r:List Bool} (h:getN n L=some (v,r)):v < 2 ^ n:=by
 unfold getN at h
 split at h
 ·rename_i hn
  cases h
  have:=Zdk (L.take n)
  rw [List.length_take,Nat.min_eq_left hn] at this
  exact this
 ·cases h
theorem Zq0 {m:Nat} (hm:m < 32) {L:List Bool} {cs:List Comp} {r:List Bool} (h:compsD (kindsOf m) L=some (cs,r)):cs.length≤5∧∀ c∈cs,CompOk c:=by
 obtain ⟨_,h2,h3⟩:=Zdc _ h
 have hl:cs.length=(kindsOf m).length:=by rw [← h2,List.length_map]
 refine ⟨by have:=Zld hm; omega,fun c hc=>?_⟩
 obtain ⟨L1,L2,h4⟩:=h3 c hc
 exact Zsm (Zty (h2 ▸ List.mem_map_of_mem hc)) h4
theorem Zx5 {last:Int} {L:List Bool} {e:Ent} {r:List Bool} (h:entD last L=some (e,r)):EntFit e∧e.2.length≤5:=by
 unfold entD at h
 cases h1:idDec last L with
 | none=>rw [h1] at h; cases h
 | some p =>
  obtain ⟨id,L1⟩:=p
  rw [h1] at h
  dsimp only at h
  cases h2:getN 5 L1 with
  | none=>rw [h2] at h; cases h
  | some p =>
   obtain ⟨m,L2⟩:=p
   rw [h2] at h
   dsimp only at h
   cases h3:compsD (kindsOf m) L2 with
   | none=>rw [h3] at h; cases h
   | some p =>
    obtain ⟨cs,L3⟩:=p
    rw [h3] at h
    cases h
    obtain ⟨a1,a2⟩:=Zq0 (Zb8 h2) h3
    exact ⟨⟨Zxj h1,by show cs.length≤_; omega,a2⟩,a1⟩
theorem Zog {L:List Bool} {l:List Ent} {r:List Bool} (h:entsD L=some (l,r)):(∀ e∈l,EntFit e∧e.2.length≤5)∧r.length+10 * l.length≤L.length:=by
 unfold entsD at h
 cases h1:getVar L with
 | none=>rw [h1] at h; cases h
 | some p =>
  obtain ⟨n,L1⟩:=p
  rw [h1] at h
  obtain ⟨a1,a2,a3⟩:=Zkh (fun _ _ _ _ h=>Zof h) _ _ h
  have:=Za2 _ _ _ h1
  refine ⟨fun e he=>?_,by rw [a1]; omega⟩
  obtain ⟨last,L2,L3,h4⟩:=a3 e he
  exact Zx5 h4
theorem Zwz {was:List Ent} (hL:∀ e∈was,EntFit e) {last:Int} {L:List Bool} {d:Chg} {r:List Bool} (h:chgD was last L=some (d,r)):ChgSm d:=by
 unfold chgD at h
 cases h1:idDec last L with
 | none=>rw [h1] at h; cases h
 | some p =>
  obtain ⟨id,L1⟩:=p
  rw [h1] at h
  dsimp only at h
  cases h2:getN 5 L1 with
  | none=>rw [h2] at h; cases h
  | some p =>
   obtain ⟨lost,L2⟩:=p
   rw [h2] at h
   dsimp only at h
   cases h3:getN 5 L2 with
   | none=>rw [h3] at h; cases h
   | some p =>
    obtain ⟨fr,L3⟩:=p
    rw [h3] at h
    dsimp only at h
    cases h4:getN 5 L3 with
    | none=>rw [h4] at h; cases h
    | some p =>
     obtain ⟨st,L4⟩:=p
     rw [h4] at h
     dsimp only at h
     cases h5:compsD (kindsOf fr) L4 with
     | none=>rw [h5] at h; cases h
     | some p =>
      obtain ⟨ns,L5⟩:=p
      rw [h5] at h
      dsimp only at h
      cases h6:setsD was id (kindsOf st) L5 with
      | none=>rw [h6] at h; cases h
      | some p =>
       obtain ⟨ss,L6⟩:=p
       rw [h6] at h
       cases h
       have b1:lost < 32:=Zb8 h2
       obtain ⟨a1,a2⟩:=Zq0 (Zb8 h3) h5
       obtain ⟨_,c2,c3⟩:=Zcw _ _ _ h6
       have hl:ss.length=(kindsOf st).length:=by rw [← c2,List.length_map]
       have:=Zld (Zb8 h4)
       refine ⟨⟨by show (0:Int)≤(lost:Int); omega,by show (lost:Int)≤255; omega⟩,by show ns.length≤9; omega,by show ss.length≤_; omega,a2,fun c hc=>?_⟩
       obtain ⟨M1,M2,hs⟩:=c3 c hc
       exact Ziz (Zs1 hL _ _) hs
theorem Zq2 {was:List Ent} (hL:∀ e∈was,EntFit e) {L:List Bool} {d:Delta} {r:List Bool} (h:deltaD was L=some (d,r)):d.1.length≤L.length∧(∀ e∈d.2.1,EntFit e∧e.2.length≤5)∧10 * d.2.1.length≤L.length∧d.2.2.length≤L.length∧∀ x∈d.2.2,ChgSm x:=by
 unfold deltaD at h
 cases h1:goneD L with
 | none=>rw [h1] at h; cases h
 | some p =>
  obtain ⟨g,L1⟩:=p
  rw [h1] at h
  dsimp only at h
  cases h2:entsD L1 with
  | none=>rw [h2] at h; cases h
  | some p =>
   obtain ⟨c,L2⟩:=p
   rw [h2] at h
   dsimp only at h
   cases h3:chgsD was L2 with
   | none=>rw [h3] at h; cases h
   | some p =>
    obtain ⟨ds,L3⟩:=p
    rw [h3] at h
    cases h
    have a1:L1.length+5 * g.length≤L.length:=by
     unfold goneD at h1
     cases hv:getVar L with
     | none=>rw [hv] at h1; cases h1
     | some p =>
      obtain ⟨n,M⟩:=p
      rw [hv] at h1
      obtain ⟨b1,b2,_⟩:=Zkh (fun _ _ _ _ h=>Zce h) _ _ h1
      have:=Za2 _ _ _ hv
      rw [b1]
      omega
    obtain ⟨a2,a3⟩:=Zog h2
    unfold chgsD at h3
    cases hv:getVar L2 with
    | none=>rw [hv] at h3; cases h3
    | some p =>
     obtain ⟨n,M⟩:=p
     rw [hv] at h3
     obtain ⟨b1,b2,b3⟩:=Zkh (fun _ _ _ _ h=>Zob h) _ _ h3
     have:=Za2 _ _ _ hv
     refine ⟨by show g.length≤_; omega,a2,by show 10 * c.length≤_; omega,by show ds.length≤_; rw [b1]; omega,fun x hx=>?_⟩
     obtain ⟨last,M1,M2,hx⟩:=b3 x hx
     exact Zwz hL hx
end Go.Proofs.YtchhhjlpnecjkaaGreat
namespace Go.Proofs.YtchhhjlpnecjkaaGreat
open Go Go.RowKit Go.Proofs.YtchhhjlpnecjkaaGreat.Den
variable {R:Type} {Q:R→World→Prop} {w:World}
theorem Zb7 {n:Nat} {L r:List Bool} {v:Nat} (h:getN n L=some (v,r)):r.length≤L.length:=by
 unfold getN at h
 split at h
 ·cases h; rw [List.length_drop]; omega
 ·cases h
theorem Zke {lo hi:Int} {L r:List Bool} {v:Int} (h:getIn lo hi L=some (v,r)):r.length≤L.length:=by
 unfold getIn at h
 cases hg:getN (widthM lo hi) L with
 | none=>rw [hg] at h; cases h
 | some p =>
  rw [hg] at h
  dsimp only at h
  split at h
  ·cases h; exact Zb7 hg
  ·cases h
theorem Zlp {n j:Nat} (hj:j < n):List.range n=List.range j ++ (j :: List.range' (j+1) (n - j - 1)):=by
 have:n=j+((n - j - 1)+1):=by omega
 rw [this,List.range_eq_range',List.range_eq_range',← List.range'_append_1,Nat.zero_add,List.range'_succ]
 congr 4
 omega
theorem Zsc {ok:Nat→Prop} {s:Sl} {L:List Bool} (hS:SlT ok w boolT s L) (hm:L.length≤1048576) {k:Int} (hk0:0≤k) {K:Res [.agg [.int .u8,.int .i32,.int .i32,.int .i32],.sc .sl,.sc (.int .i64)]→W R} (h0:compD k L=none→∀ e w',e≠0→Fr None w w'→K ((0,0,0,0),s,e) Q w')
  (hk:∀ c L' r w',compD k L=some (c,L')→L'.length≤L.length→SlT ok w' boolT r L'→Fr None w w'→K (c,r,0) Q w'):callW Tryz.prog Z5p [.slice s.a s.n s.c,.int .u8 k] [.agg [.int .u8,.int .i32,.int .i32,.int .i32],.sc .sl,.sc (.int .i64)] K Q w:=by
 refine Zgl s k K Q w ?_
 unfold Z9k
 have hcn:=Z45 k
 have hS2:SlT (fun k=>ok k∧k < w.heap.size) w boolT s L:=hS.mono fun k hk h=>⟨h,hk⟩
 refine newI fun w1 Bx f1 z1=>Z3a hk0 fun w2 f2=>?_
 have Bx:=Bx.fr f2 fun h=>h
 have f02:=f1.then0 f2
 have s2:=f2.size
 refine condE (fun hz=>?_) fun hz=>?_
 ·refine stoAll Bx rfl rfl fun w3 B3 f3 y3=>aggI B3 (x:=((0,0,0,0):Comp)) rfl ?_
  exact h0 (by unfold compD; rw [if_pos (by omega)]) 1 w3 (by decide) (f02.newer f3 fun k e=>by omega)
 have hD:compD k L=match readF k (List.range (cntM k)) L with
   | none=>none
   | some (vs,r)=>some (mkC k vs,r):=by unfold compD; rw [if_neg (by omega)] <;> rfl
 refine newI fun w3 C1 f3 y3=>stoAll C1 rfl rfl fun w4 C f4 y4=>?_
 have f24:Fr None w2 w4:=f3.newer f4 fun k e=>by omega
 refine Z3a hk0 fun w5 f5=>?_
 have f25:=f24.then0 f5
 have f05:=f02.then0 f25
 refine forI (N:=cntM k) (fun s:Sl × Int=>s.2) (fun j st u=>st.2=(j:Int)∧(∃ vs L',vs.length=j∧readF k (List.range j) L=some (vs,L')∧Blk u w2.heap.size 92 (compC (mkC k vs))∧SlT (fun k=>ok k∧k < w.heap.size) u boolT st.1 L'∧L'.length≤L.length)∧Fr None w u∧Blk u w.heap.size 92 (compC (0,0,0,0)))
  ⟨rfl,⟨[],L,rfl,rfl,C.fr f5 fun h=>h,hS2.fr0 f05,Nat.le_refl _⟩,f05,Bx.fr f25 fun h=>h⟩ (fun j s w' h=>h.1) ?_ ?_
 ·rintro j ⟨t,_⟩ u K' hj ⟨rfl,⟨vs,L',hvl,hrd,Cu,tS,hle⟩,fu,Bu⟩ - hK
  obtain ⟨r1,r2⟩:=Z19 k (j:Int)
  refine Z5z hk0 fun u2 g2=>?_
  rw [w64 (x:=(rangeM k (j:Int)).1) (by omega),w64 (x:=(rangeM k (j:Int)).2.1) (by omega)]
  refine Zbk (tS.fr0 g2) (by omega) (by omega) (Zkg k hj) (by omega) (fun hn e u3 he g3=>?_) fun v L2 r u3 hg v1 v2 hr g3=>?_
  ·have hnone:compD k L=none:=by
    rw [hD,Zlp hj,Zcs,hrd]
    dsimp only
    rw [readF,hn]
   have g23:=g2.then0 g3
   refine condT (by simpa using he) (stoAll (Bu.fr g23 fun h=>h) rfl rfl fun u4 B4 g4 y4=>aggI B4 (x:=((0,0,0,0):Comp)) rfl ?_)
   exact h0 hnone e u4 he ((fu.then0 g23).newer g4 fun k e=>by omega)
  ·have g23:=g2.then0 g3
   refine condF rfl (fIdx rfl (by omega) ?_)
   rw [w32 (x:=v) (by omega)]
   refine setI (i:=1+j) (Cu.fr g23 fun h=>h) (by simp; omega) rfl fun u4 B4 g4 y4=>?_
   subst hvl
   rw [Zt4 (by omega)] at B4
   have s02:=f02.size
   have fu3:=fu.then0 g23
   have f4':Fr None w u4:=fu3.newer g4 fun k e=>by omega
   refine hK _ _ ⟨wsucc hj (by omega),⟨vs ++ [v],L2,by simp,?_,B4,hr.fr g4 fun k e (e2:k=w2.heap.size)=>by omega,by have:=Zke hg; omega⟩,f4',(Bu.fr g23 fun h=>h).fr g4 fun e=>by omega⟩
   rw [List.range_succ,Zcs,hrd]
   dsimp only
   rw [readF,hg]
   rfl
 ·rintro ⟨t,_⟩ u ⟨-,⟨vs,L',hvl,hrd,Cu,tS,hle⟩,fu,Bu⟩
  rw [hrd] at hD
  refine aggI Cu (x:=mkC k vs) rfl (stoAll Bu rfl rfl fun u2 B2 g2 y2=>aggI B2 (x:=mkC k vs) rfl ?_)
  have f2':Fr None w u2:=fu.newer g2 fun k e=>by omega
  exact hk _ L' t u2 hD hle ((tS.fr g2 fun k e (e2:k=w.heap.size)=>by omega).mono fun k _ h=>h.1) f2'
theorem Zvo {was:Comp} {i:Nat} {L r:List Bool} {v:Int} (h:movedD was i L=some (v,r)):r.length≤L.length:=by
 unfold movedD at h
 cases h1:getN 1 L with
 | none=>rw [h1] at h; cases h
 | some p =>
  obtain ⟨b,L1⟩:=p
  rw [h1] at h
  dsimp only at h
  have l1:=Zb7 h1
  split at h
  ·cases h; exact l1
  ·cases h2:getN 1 L1 with
   | none=>rw [h2] at h; cases h
   | some p =>
    obtain ⟨b2,L2⟩:=p
    rw [h2] at h
    dsimp only at h
    have l2:=Zb7 h2
    split at h
    ·cases h3:getIn (rangeM was.1 (i:Int)).1 (rangeM was.1 (i:Int)).2.1 L2 with
     | none=>rw [h3] at h; cases h
     | some p =>
      obtain ⟨n,L3⟩:=p
      rw [h3] at h
      dsimp only at h
      have l3:=Zke h3
      split at h
      ·cases h
      ·cases h; omega
    ·cases h3:getN 4 L2 with
     | none=>rw [h3] at h; cases h
     | some p =>
      obtain ⟨z,L3⟩:=p
      rw [h3] at h
      dsimp only at h
      have l3:=Zb7 h3
      split at h
      ·cases h
      ·cases h; omega
theorem Zd6 {ok:Nat→Prop} {s:Sl} {L:List Bool} (hS:SlT ok w boolT s L) (hm:L.length≤1048576) {was:Comp} (hco:CompOk was) {K:Res [.agg [.int .u8,.int .i32,.int .i32,.int .i32],.sc .sl,.sc (.int .i64)]→W R} (h0:stepDec was L=none→∀ e w',e≠0→Fr None w w'→K ((0,0,0,0),s,e) Q w')
  (hk:∀ c L' r w',stepDec was L=some (c,L')→L'.length≤L.length→SlT ok w' boolT r L'→Fr None w w'→K (c,r,0) Q w'):callW Tryz.prog Zb [.slice s.a s.n s.c,.agg ⟨compC was⟩] [.agg [.int .u8,.int .i32,.int .i32,.int .i32],.sc .sl,.sc (.int .i64)] K Q w:=by
 refine Zbu s was K Q w ?_
 unfold Z63
 have hcn:=Z45 was.1
 have hS2:SlT (fun k=>ok k∧k < w.heap.size) w boolT s L:=hS.mono fun k hk h=>⟨h,hk⟩
 refine newI fun w1 B1 f1 z1=>newI fun w2 B2 f2 z2=>aggI (B1.fr f2 fun h=>h) (x:=was) rfl (Z5y hco.1.1 fun w3 f3=>?_)
 have f03:=(f1.then0 f2).then0 f3
 have B1:=(B1.fr f2 fun h=>h).fr f3 fun h=>h
 have B2:=B2.fr f3 fun h=>h
 have s3:=f3.size
 refine condN (fun hz=>?_) fun hz=>?_
 ·refine stoAll B2 rfl rfl fun w4 B4 f4 y4=>aggI B4 (x:=((0,0,0,0):Comp)) rfl ?_
  exact h0 (by unfold stepDec; rw [if_pos hz]) _ w4 hz (f03.newer f4 fun k e=>by omega)
 have hD:stepDec was L=match readS was (List.range (cntM was.1)) L with
   | none=>none
   | some (vs,r)=>some (mkC was.1 vs,r):=by unfold stepDec; rw [if_neg fun h=>h hz] <;> rfl
 refine aggI B1 (x:=was) rfl (newI fun w4 C1 f4 y4=>stoAll C1 rfl rfl fun w5 C f5 y5=>?_)
 have f35:Fr None w3 w5:=f4.newer f5 fun k e=>by omega
 refine fldI (B1.fr f35 fun h=>h) (i:=0) (x:=was.1) rfl (Z3a hco.1.1 fun w6 f6=>?_)
 have f36:=f35.then0 f6
 have f06:=f03.then0 f36
 have s03:=f03.size
 refine forI (N:=cntM was.1) (fun s:Sl × Int=>s.2) (fun j st u=>st.2=(j:Int)∧(∃ vs L',vs.length=j∧readS was (List.range j) L=some (vs,L')∧Blk u w3.heap.size 92 (compC (ovC was vs))∧SlT (fun k=>ok k∧k < w.heap.size) u boolT st.1 L'∧L'.length≤L.length)∧Fr None w u∧Blk u w.heap.size 92 (compC was)∧Blk u w1.heap.size 92 (compC (0,0,0,0)))
  ⟨rfl,⟨[],L,rfl,rfl,C.fr f6 fun h=>h,hS2.fr0 f06,Nat.le_refl _⟩,f06,B1.fr f36 fun h=>h,B2.fr f36 fun h=>h⟩ (fun j s w' h=>h.1) ?_ ?_
 ·rintro j ⟨t,_⟩ u K' hj ⟨rfl,⟨vs,L',hvl,hrd,Cu,tS,hle⟩,fu,Bu,Xu⟩ - hK
  obtain ⟨r1,r2⟩:=Z19 was.1 (j:Int)
  have hflw:=flI hco j
  have fail:∀ {u':World} (e:Int) ,Fr None u u'→e≠0→movedD was j L'=none→(stoL ⟨w1.heap.size,0,none⟩ [.int .u8 0,.int .i32 0,.int .i32 0,.int .i32 0] 0 <|
    ld (.agg [.int .u8,.int .i32,.int .i32,.int .i32]) ⟨w1.heap.size,0,none⟩ fun (x:(Int × Int × Int × Int))=>(retW (x,s,e):W ((Int × Int × Int × Int) × Sl × Int))) (fun r w=>K r Q w) u':=by
   intro u' e f he hn
   have hnone:stepDec was L=none:=by
    rw [hD,Zlp hj,Zct,hrd]
    dsimp only
    rw [readS,hn]
   refine stoAll (Xu.fr f fun h=>h) rfl rfl fun u4 B4 g4 y4=>aggI B4 (x:=((0,0,0,0):Comp)) rfl ?_
   exact h0 hnone e u4 he ((fu.then0 f).newer g4 fun k e=>by omega)
  refine joinI (fun z u'=>(∃ vs' L2,vs'.length=j+1∧readS was (List.range (j+1)) L=some (vs',L2)∧Blk u' w3.heap.size 92 (compC (ovC was vs'))∧SlT (fun k=>ok k∧k < w.heap.size) u' boolT z L2∧L2.length≤L.length)∧Fr None w u'∧Blk u' w.heap.size 92 (compC was)∧Blk u' w1.heap.size 92 (compC (0,0,0,0))) ?_ fun z u' ⟨h1,h2⟩=>hK _ _ ⟨wsucc hj (by omega),h1,h2⟩
  have step:∀ {v:Int} {L2:List Bool},movedD was j L'=some (v,L2)→readS was (List.range (j+1)) L=some (vs ++ [v],L2):=fun hg=>by
   rw [List.range_succ,Zct,hrd]
   dsimp only
   rw [readS,hg]
   rfl
  have done:∀ {R':Type} {Q':R'→World→Prop} {u':World} {v:Int} {L2:List Bool} {r:Sl},Fr None u u'→movedD was j L'=some (v,L2)→SlT (fun k=>ok k∧k < w.heap.size) u' boolT r L2→(idxW (some (Addr.add ⟨w3.heap.size,0,none⟩ 1)) 3 1 (j:Int) fun x_38=>stoL x_38 [.int .i32 (IntKind.wrap .i32 v)] 0 <|
    (fun _ u'=>(∃ vs' L2,vs'.length=j+1∧readS was (List.range (j+1)) L=some (vs',L2)∧Blk u' w3.heap.size 92 (compC (ovC was vs'))∧SlT (fun k=>ok k∧k < w.heap.size) u' boolT r L2∧L2.length≤L.length)∧Fr None w u'∧Blk u' w.heap.size 92 (compC was)∧Blk u' w1.heap.size 92 (compC (0,0,0,0)):W R')) Q' u':=by
   intro R' Q' u' v L2 r f hg hr
   have hv:=Zqd hco hg
   refine fIdx rfl (by omega) ?_
   rw [w32 hv]
   refine setI (i:=1+j) (Cu.fr f fun h=>h) (by simp; omega) rfl fun u4 B4 g4 y4=>?_
   have hvl2:=hvl
   subst hvl
   rw [Zt9 (by omega)] at B4
   exact ⟨⟨vs ++ [v],L2,by simp,step hg,B4,hr.fr g4 fun k e (e2:k=w3.heap.size)=>by omega,by have:=Zvo hg; omega⟩,(fu.then0 f).newer g4 fun k e=>by omega,(Bu.fr f fun h=>h).fr g4 fun e=>by omega,(Xu.fr f fun h=>h).fr g4 fun e=>by omega⟩
  refine fldI Bu (i:=0) (x:=was.1) rfl (Z5z hco.1.1 fun u2 g2=>?_)
  refine Z6e (tS.fr0 g2) (by omega) (n:=1) (by decide) (fun hn=>condT rfl (fail 2 g2 (by decide) (by unfold movedD; rw [hn]))) fun b L1 ra u3 hb hra g3=>condF rfl ?_
  have g03:=g2.then0 g3
  have l1:=Zb7 hb
  refine condE (fun hb0=>?_) fun hb0=>?_
  ·have hb0:b=0:=by omega
   have hg:movedD was j L'=some (fl was j,L1):=by unfold movedD; rw [hb]; dsimp only; rw [if_pos hb0]
   refine ⟨⟨vs ++ [fl was j],L1,by simp [hvl],step hg,?_,hra,by omega⟩,fu.then0 g03,Bu.fr g03 fun h=>h,Xu.fr g03 fun h=>h⟩
   have e:ovC was (vs ++ [fl was j])=ovC was vs:=by
    rw [← hvl]
    rcases vs with _ | ⟨a,_ | ⟨b,_ | ⟨d,r⟩⟩⟩
    ·rfl
    ·rfl
    ·rfl
    ·simp at hvl; omega
   rw [e]
   exact Cu.fr g03 fun h=>h
  have hb1:¬ b=0:=by omega
  refine Z6e hra (by omega) (n:=1) (by decide) (fun hn=>condT rfl (fail 2 g03 (by decide) (by unfold movedD; rw [hb]; dsimp only; rw [if_neg hb1,hn]))) fun b2 L2 rb u4 hb2 hrb g4=>condF rfl ?_
  have g04:=g03.then0 g4
  have l2:=Zb7 hb2
  have b2lt:b2 < 2:=Zb8 hb2
  have mv:movedD was j L'=if b2=0 then (match getIn (rangeM was.1 (j:Int)).1 (rangeM was.1 (j:Int)).2.1 L2 with
    | none=>none
    | some (n,L3)=>if zigM (n - fl was j)≤16 then none else some (n,L3))
   else match getN 4 L2 with
    | none=>none
    | some (z,L3)=>if fl was j+zagM ((z:Int)+1) < (rangeM was.1 (j:Int)).1∨(rangeM was.1 (j:Int)).2.1 < fl was j+zagM ((z:Int)+1) then none else some (fl was j+zagM ((z:Int)+1),L3):=by
   conv=>lhs; unfold movedD
   rw [hb]
   dsimp only
   rw [if_neg hb1,hb2] <;> rfl
  rw [w64 (x:=(rangeM was.1 (j:Int)).1) (by omega),w64 (x:=(rangeM was.1 (j:Int)).2.1) (by omega)]
  refine joinI (fun (z:Sl × Int × Int) u'=>Fr None u u'∧((z.2.1≠0∧movedD was j L'=none)∨(z.2.1=0∧∃ L3,movedD was j L'=some (z.2.2,L3)∧SlT (fun k=>ok k∧k < w.heap.size) u' boolT z.1 L3))) ?_ ?_
  ·refine condE (fun h1=>?_) fun h1=>?_
   ·rw [if_neg (by omega)] at mv
    have cont:∀ {R':Type} {Q':R'→World→Prop} {u5:World} {r:Sl} {z e:Int},Fr None u u5→0≤z→z≤15→((e=2∧movedD was j L'=none)∨(e=0∧∃ L3:List Bool,SlT (fun k=>ok k∧k < w.heap.size) u5 boolT r L3∧movedD was j L'=if fl was j+zagM (z+1) < (rangeM was.1 (j:Int)).1∨(rangeM was.1 (j:Int)).2.1 < fl was j+zagM (z+1) then none else some (fl was j+zagM (z+1),L3))) →
      (drawW <|
     idxW (some (Addr.add ⟨w.heap.size,0,none⟩ 1)) 3 1 (j:Int) fun x_21 =>
     ld (.sc (.int .i32)) x_21 fun (x_22:Int) =>
     callW Tryz.prog Z3t [.int .u64 (IntKind.wrap .u64 (z+1))] [.sc (.int .i64)] fun (x_23:Int) =>
     andW (fun w=>Rd w x_21 (.sc (.int .i32)) x_22) <|
     joinW (σ:=Bool) (fun J_24 =>
      cond (e == 0)
       (cond (decide ((IntKind.wrap .i64 ((IntKind.wrap .i64 x_22) + x_23)) < (rangeM was.1 (j : Int)).1))
            (J_24 true)
            (J_24 (decide ((IntKind.wrap .i64 ((IntKind.wrap .i64 x_22)+x_23)) > (rangeM was.1 (j:Int)).2.1))))
       (J_24 false))
     <| fun s_25 =>
     joinW (σ:=Int) (fun J_26 =>
      cond s_25
       (J_26 5)
       (J_26 e))
     <| fun s_27 =>
     (fun (z:Sl × Int × Int)=>((fun _ u'=>Fr None u u'∧((z.2.1≠0∧movedD was j L'=none)∨(z.2.1=0∧∃ L3,movedD was j L'=some (z.2.2,L3)∧SlT (fun k=>ok k∧k < w.heap.size) u' boolT z.1 L3))):W R')) (r,s_27,IntKind.wrap .i64 ((IntKind.wrap .i64 x_22)+x_23))) Q' u5:=by
     intro R' Q' u5 r z e f5 z0 z1 hcase
     have fd:Fr None u5 u5.drew:=(Fr.refl _ _).drew
     have f5d:=f5.then0 fd
     have Bd:=Bu.fr f5d fun h=>h
     refine fIdx rfl (by omega) (fld0 Bd (x:=fl was j) (Z1u was (by omega)) ?_)
     rw [wU64 (x:=z+1) (by omega)]
     have hzr:-20≤zagM (z+1)∧zagM (z+1)≤20:=by unfold zagM; split <;> omega
     refine Zsa (by omega) (by omega) (andI ((Bd.cell (1+j)).trans (Z1u was (by omega))) ?_)
     rw [w64 (x:=fl was j) (by omega),w64 (x:=fl was j+zagM (z+1)) (by omega)]
     refine joinI (fun q u'=>u'=u5.drew∧(q=true↔(e=0∧(fl was j+zagM (z+1) < (rangeM was.1 (j:Int)).1∨(rangeM was.1 (j:Int)).2.1 < fl was j+zagM (z+1))))) ?_ ?_
     ·refine condE (fun he=>condD (fun h=>⟨rfl,by simp [he,h]⟩) fun h=>⟨rfl,by simp [he]; omega⟩) fun he=>⟨rfl,by simp [he]⟩
     rintro q _ ⟨rfl,hq⟩
     refine joinI (fun e2 u'=>u'=u5.drew∧e2=if q=true then 5 else e) (condI (fun h=>⟨rfl,by rw [if_pos h]⟩) fun h=>⟨rfl,by rw [if_neg (by rw [h]; decide)]⟩) ?_
     rintro e2 _ ⟨rfl,rfl⟩
     refine ⟨f5d,?_⟩
     rcases hcase with ⟨he,hn⟩ | ⟨he,L3,hr,hm3⟩
     ·refine .inl ⟨?_,hn⟩
      show (if q=true then 5 else e)≠0
      split <;> omega
     ·by_cases hc:fl was j+zagM (z+1) < (rangeM was.1 (j:Int)).1∨(rangeM was.1 (j:Int)).2.1 < fl was j+zagM (z+1)
      ·rw [if_pos hc] at hm3
       refine .inl ⟨?_,hm3⟩
       show (if q=true then 5 else e)≠0
       rw [if_pos (hq.2 ⟨he,hc⟩)]
       decide
      ·rw [if_neg hc] at hm3
       refine .inr ⟨?_,L3,hm3,hr.fr0 fd⟩
       show (if q=true then 5 else e)=0
       rw [if_neg fun h=>hc (hq.1 h).2]
       exact he
    refine Z6e hrb (by omega) (n:=4) (by decide) (fun hn=>?_) fun z L3 rc u5 hz4 hrc g5=>?_
    ·refine cont (e:=2) (z:=0) g04 (by decide) (by decide) (.inl ⟨rfl,?_⟩)
     rw [mv,hn]
    ·have hz16:z < 16:=Zb8 hz4
     refine cont (e:=0) (z:=(z:Int)) (g04.then0 g5) (by omega) (by omega) (.inr ⟨rfl,L3,hrc,?_⟩)
     rw [mv,hz4]
   ·rw [if_pos (by omega)] at mv
    refine Zbk hrb (by omega) (by omega) (Zkg was.1 hj) (by omega) (fun hn e u5 he g5=>?_) fun v L3 rc u5 hg v1 v2 hrc g5=>?_
    ·rw [hn] at mv
     refine joinI (fun q u'=>q=false∧u'=u5) (condF (by simpa using he) ⟨rfl,rfl⟩) ?_
     rintro q u6 ⟨rfl,e6⟩
     subst e6
     refine joinI (fun e2 u'=>e2=e∧u'=u6) (condF rfl ⟨rfl,rfl⟩) ?_
     rintro e2 u7 ⟨rfl,e7⟩
     subst e7
     exact ⟨g04.then0 g5,.inl ⟨he,mv⟩⟩
    ·rw [hg] at mv
     dsimp only at mv
     have g05:=g04.then0 g5
     refine joinI (fun q u'=>(q=true↔zigM (v - fl was j)≤16)∧u'=u5) (condT rfl (fIdx rfl (by omega) (fld0 (Bu.fr g05 fun h=>h) (x:=fl was j) (Z1u was (by omega)) ?_))) ?_
     ·rw [w64 (x:=fl was j) (by omega),w64 (x:=v - fl was j) (by omega)]
      exact Zm2 (by omega) ⟨by simp,rfl⟩
     rintro q u6 ⟨hq,e6⟩
     subst e6
     refine joinI (fun e2 u'=>(e2=if q=true then 4 else 0)∧u'=u6) (condI (fun h=>⟨by rw [if_pos h],rfl⟩) fun h=>⟨by rw [if_neg (by rw [h]; decide)],rfl⟩) ?_
     rintro e2 u7 ⟨rfl,e7⟩
     subst e7
     refine ⟨g05,?_⟩
     by_cases hc:zigM (v - fl was j)≤16
     ·rw [if_pos hc] at mv
      exact .inl ⟨by show (if q=true then (4:Int) else 0)≠0; rw [if_pos (hq.2 hc)]; decide,mv⟩
     ·rw [if_neg hc] at mv
      exact .inr ⟨by show (if q=true then (4:Int) else 0)=0; rw [if_neg fun h=>hc (hq.1 h)],L3,mv,hrc⟩
  rintro ⟨rz,e,v⟩ u5 ⟨g5,hcase⟩
  refine condN (fun he=>?_) fun he=>?_
  ·rcases hcase with ⟨_,hn⟩ | ⟨h,_⟩
   ·exact fail e g5 he hn
   ·exact absurd h he
  ·rcases hcase with ⟨h,_⟩ | ⟨_,L3,hg,hr⟩
   ·exact absurd he h
   ·exact done g5 hg hr
 ·rintro ⟨t,_⟩ u ⟨-,⟨vs,L',hvl,hrd,Cu,tS,hle⟩,fu,Bu,Xu⟩
  rw [hrd] at hD
  rw [Zvu hz hvl] at Cu
  refine aggI Cu (x:=mkC was.1 vs) rfl (stoAll Xu rfl rfl fun u2 B2 g2 y2=>aggI B2 (x:=mkC was.1 vs) rfl ?_)
  have f2':Fr None w u2:=fu.newer g2 fun k e=>by omega
  exact hk _ L' t u2 hD hle ((tS.fr g2 fun k e (e2:k=w1.heap.size)=>by omega).mono fun k _ h=>h.1) f2'
end Go.Proofs.YtchhhjlpnecjkaaGreat
namespace Go.Proofs.YtchhhjlpnecjkaaGreat
open Go Go.RowKit Go.Proofs.YtchhhjlpnecjkaaGreat.Den
variable {R:Type} {Q:R→World→Prop} {w:World} {b:Nat} {L:List Bool} {bad:Bool}
def Src (w:World) (b:Nat) (L:List Bool) (bad:Bool):Prop:=(∃ s:Sl,Blk w b 73 [.slice s.a s.n s.c,.bool bad]∧SlT (fun k=>k < b) w boolT s L)∧L.length≤1048576
theorem Src.fr (h:Src w b L bad) {S:Nat→Prop} {w':World} (f:Fr S w w') (hs:∀ k,k≤b→¬ S k):Src w' b L bad:=by
 obtain ⟨⟨s,B,t⟩,hl⟩:=h
 exact ⟨⟨s,B.fr f (hs b (Nat.le_refl _)),t.fr f fun k e=>hs k (Nat.le_of_lt e)⟩,hl⟩
theorem Src.fr0 (h:Src w b L bad) {w':World} (f:Fr None w w'):Src w' b L bad:=h.fr f fun _ _ h=>h
theorem Src.lt (h:Src w b L bad):b < w.heap.size:=by obtain ⟨⟨s,B,t⟩,hl⟩:=h; exact B.lt
theorem Z79 (h:Src w b L bad) {K:Bool→W R} (hk:K bad Q w):ld (.sc .bool) (Addr.add ⟨b,0,none⟩ 1) K Q w:=by
 obtain ⟨⟨s,B,t⟩,hl⟩:=h
 exact fldI B (i:=1) (x:=bad) rfl hk
theorem Z3j (h:Src w b L bad) {c:Bool} {K:W R} (hk:∀ w',Src w' b L c→Fr (fun k=>k=b) w w'→w'.heap.size=w.heap.size→K Q w'):stoL (Addr.add ⟨b,0,none⟩ 1) [.bool c] 0 K Q w:=by
 obtain ⟨⟨s,B,t⟩,hl⟩:=h
 exact setA B (by simp) rfl fun w' B' f z=>hk w' ⟨⟨s,B',t.fr f fun k e e2=>by omega⟩,hl⟩ f z
def Dec {α:Type} (bad:Bool) (r:Option (α × List Bool)) (v:α) (L':List Bool) (bad':Bool):Prop:=(bad'=false→bad=false∧r=some (v,L'))∧(bad'=true→bad=true∨r=none)
theorem Zkj {r:Sl} {L':List Bool} {e:Int} (h:Src w b L bad) (hr:SlT (fun k=>k < b) w boolT r L') (hl:L'.length≤1048576) {K:W R} (hk:∀ w',Src w' b L' (bad || e != 0)→Fr (fun k=>k=b) w w'→w'.heap.size=w.heap.size→K Q w') :
  (ptrW (some ⟨b,0,none⟩) fun x_4=>stoL (Addr.add x_4 0) [.slice r.a r.n r.c] 0 <|
   joinW (σ:=Unit) (fun J_5=>ptrW (some ⟨b,0,none⟩) fun x_6=>ld (.sc .bool) (Addr.add x_6 1) fun (x_7:Bool) =>
    cond x_7 (ptrW (some ⟨b,0,none⟩) fun x_8=>stoL (Addr.add x_8 1) [.bool true] 0 <| J_5 ())
     (ptrW (some ⟨b,0,none⟩) fun x_9=>stoL (Addr.add x_9 1) [.bool (e != 0)] 0 <| J_5 ())) <| fun _=>K:W R) Q w:=by
 obtain ⟨⟨s,B,t⟩,hl'⟩:=h
 refine ptrI (setA B (by simp) rfl fun w1 B1 f1 z1=>?_)
 have h1:Src w1 b L' bad:=⟨⟨r,B1,hr.fr f1 fun k e e2=>by omega⟩,hl⟩
 refine joinI (fun _ u=>Src u b L' (bad || e != 0)∧Fr (fun k=>k=b) w u∧u.heap.size=w.heap.size) ?_ fun _ u ⟨h1,h2,h3⟩=>hk u h1 h2 h3
 refine ptrI (Z79 h1 (condI (fun hb=>ptrI (Z3j h1 fun w2 h2 f2 z2=>⟨by rw [hb]; exact h2,f1.then f2,by omega⟩)) fun hb=>ptrI (Z3j h1 fun w2 h2 f2 z2=>⟨by rw [hb]; exact h2,f1.then f2,by omega⟩)))
theorem Zyx {c:Bool} (h:Src w b L bad) {K:W R} (hk:∀ w',Src w' b L (bad || c)→Fr (fun k=>k=b) w w'→w'.heap.size=w.heap.size→K Q w') :
  (joinW (σ:=Unit) (fun J_5=>ptrW (some ⟨b,0,none⟩) fun x_6=>ld (.sc .bool) (Addr.add x_6 1) fun (x_7:Bool) =>
    cond x_7 (ptrW (some ⟨b,0,none⟩) fun x_8=>stoL (Addr.add x_8 1) [.bool true] 0 <| J_5 ())
     (ptrW (some ⟨b,0,none⟩) fun x_9=>stoL (Addr.add x_9 1) [.bool c] 0 <| J_5 ())) <| fun _=>K:W R) Q w:=by
 refine joinI (fun _ u=>Src u b L (bad || c)∧Fr (fun k=>k=b) w u∧u.heap.size=w.heap.size) ?_ fun _ u ⟨h1,h2,h3⟩=>hk u h1 h2 h3
 refine ptrI (Z79 h (condI (fun hb=>ptrI (Z3j h fun w2 h2 f2 z2=>⟨by rw [hb]; exact h2,f2,z2⟩)) fun hb=>ptrI (Z3j h fun w2 h2 f2 z2=>⟨by rw [hb]; exact h2,f2,z2⟩)))
theorem Z3i (h:Src w b L bad) {n:Nat} (hn:n≤64) {K:Res [.sc (.int .u64)]→W R} (hk:∀ (v:Nat) L' bad' w',Src w' b L' bad'→Fr (fun k=>k=b) w w'→v < 2 ^ n→Dec bad (getN n L) v L' bad'→K (v:Int) Q w') :
  callW Tryz.prog Z2 [.pointer (some ⟨b,0,none⟩),.int .i64 (n:Int)] [.sc (.int .u64)] K Q w:=by
 refine Z87 _ _ K Q w ?_
 unfold Z44
 have h':=h
 obtain ⟨⟨s,B,t⟩,hl⟩:=h'
 refine ptrI (fldI B (i:=0) (x:=s) rfl (Z6e t hl hn (fun hg=>?_) fun v L' r w1 hg hr f1=>?_))
 ·exact Zkj (e:=2) h t hl fun w2 h2 f2 _=>hk 0 L _ w2 h2 f2 (Nat.two_pow_pos _) ⟨fun e=>by simp at e,fun _=>.inr hg⟩
 ·refine Zkj (e:=0) (h.fr0 f1) hr (by have:=Zb7 hg; omega) fun w2 h2 f2 _=>hk v L' _ w2 h2 (f1.any.then f2) (Zb8 hg) ⟨fun e=>⟨by simpa using e,hg⟩,fun e=>.inl (by simpa using e)⟩
theorem Z3h (h:Src w b L bad) {K:Res [.sc (.int .u64)]→W R} (hk:∀ (v:Nat) L' bad' w',Src w' b L' bad'→Fr (fun k=>k=b) w w'→v < 18446744073709551616→Dec bad (getVar L) v L' bad'→K (v:Int) Q w') :
  callW Tryz.prog Z3 [.pointer (some ⟨b,0,none⟩)] [.sc (.int .u64)] K Q w:=by
 refine Z86 _ K Q w ?_
 unfold Z43
 have h':=h
 obtain ⟨⟨s,B,t⟩,hl⟩:=h'
 refine ptrI (fldI B (i:=0) (x:=s) rfl (Zmx t hl (fun hg e w1 he f1=>?_) fun v L' r w1 hg hv hr f1=>?_))
 ·refine Zkj (e:=e) (h.fr0 f1) (t.fr0 f1) hl fun w2 h2 f2 _=>hk 0 L _ w2 h2 (f1.any.then f2) (by decide) ⟨fun q=>?_,fun _=>.inr hg⟩
  have:(e != 0)=true:=by simpa using he
  rw [this] at q
  simp at q
 ·refine Zkj (e:=0) (h.fr0 f1) hr (by have:=Za2 16 0 0 hg; omega) fun w2 h2 f2 _=>hk v L' _ w2 h2 (f1.any.then f2) hv ⟨fun e=>⟨by simpa using e,hg⟩,fun e=>.inl (by simpa using e)⟩
theorem Zg8 (h:Src w b L bad) {last:Int} (hlast:0≤last∧last≤4294967295) {K:Res [.sc (.int .u32)]→W R} (hk:∀ (id:Int) L' bad' w',Src w' b L' bad'→Fr (fun k=>k=b) w w'→IdOk id→Dec bad (idDec last L) id L' bad'→K id Q w') :
  callW Tryz.prog Zd [.pointer (some ⟨b,0,none⟩),.int .u32 last] [.sc (.int .u32)] K Q w:=by
 refine Zaf _ _ K Q w ?_
 unfold Z5e
 refine Z3h h fun v L1 bad1 w1 h1 f1 hv hd=>Zyx h1 fun w2 h2 f2 _=>?_
 have hid:IntKind.wrap .u32 (IntKind.wrap .u32 (last+IntKind.wrap .u32 (v:Int))+1)=(last+(v:Int)+1) % 4294967296:=by
  rw [IntKind.wrap_u32,IntKind.wrap_u32,IntKind.wrap_u32]
  omega
 rw [hid]
 refine hk _ L1 _ w2 h2 (f1.then f2) ⟨by omega,by omega⟩ ⟨fun e=>?_,fun e=>?_⟩
 ·obtain ⟨e1,e2⟩:=Bool.or_eq_false_iff.1 e
  obtain ⟨g1,g2⟩:=hd.1 e1
  refine ⟨g1,?_⟩
  unfold idDec
  rw [g2]
  dsimp only
  rw [if_neg (by have:=of_decide_eq_false e2; omega)]
 ·rcases (Bool.or_eq_true_iff).1 e with e1 | e1
  ·rcases hd.2 e1 with g | g
   ·exact .inl g
   ·exact .inr (by unfold idDec; rw [g])
  ·have e1:=of_decide_eq_true e1
   by_cases hb:bad1=true
   ·rcases hd.2 hb with g | g
    ·exact .inl g
    ·exact .inr (by unfold idDec; rw [g])
   ·have hb:bad1=false:=by simpa using hb
    refine .inr ?_
    unfold idDec
    rw [(hd.1 hb).2]
    dsimp only
    rw [if_pos (by omega)]
theorem Zxr:∀ m:Fin 32,∀ j:Fin 5,(Int.tmod (shR .u64 ((m.val:Nat):Int) ((j.val:Nat):Int)) 2 == 1)=m.val.testBit j.val:=by decide +kernel
theorem Zvk:∀ m:Fin 32,∀ j:Fin 5,(Int.tmod (shR .u64 ((m.val:Nat):Int) ((j.val:Nat):Int)) 2 == 0)=!m.val.testBit j.val:=by decide +kernel
theorem Zib:∀ (is js:List Int) (L:List Bool),compsD (is ++ js) L=match compsD is L with
  | none=>none
  | some (cs,L2)=>match compsD js L2 with
   | none=>none
   | some (cs2,L3)=>some (cs ++ cs2,L3)
 | [],js,L=>by
  rw [List.nil_append,compsD]
  dsimp only
  cases compsD js L with
  | none=>rfl
  | some p=>rfl
 | i :: r,js,L=>by
  rw [List.cons_append,compsD,compsD]
  cases compD i L with
  | none=>rfl
  | some p =>
   obtain ⟨v,L2⟩:=p
   dsimp only
   rw [Zib r js L2]
   cases compsD r L2 with
   | none=>rfl
   | some q =>
    obtain ⟨vs,L3⟩:=q
    dsimp only
    cases compsD js L3 with
    | none=>rfl
    | some t=>rfl
theorem Zjk (m:Nat) {j:Nat} (hj:j < 5) (hb:m.testBit j=true):∃ r,kindsB m 5=kindsB m j ++ ((j:Int) :: r):=by
 have:∀ n,j < n→∃ r,kindsB m n=kindsB m j ++ ((j:Int) :: r):=by
  intro n
  induction n with
  | zero=>intro h; omega
  | succ n ih =>
   intro h
   rw [Z5a]
   rcases Nat.lt_or_ge j n with h1 | h1
   ·obtain ⟨r,hr⟩:=ih h1
    exact ⟨_,by rw [hr,List.append_assoc,List.cons_append]⟩
   ·have:j=n:=by omega
    subst this
    rw [if_pos hb]
    exact ⟨[],rfl⟩
 exact this 5 hj
theorem Zet (h:Src w b L bad) {m:Nat} (hm:m < 32) {K:Res [.sc .sl]→W R} (hk:∀ r cs L' bad' w',Own (Up w.heap.size) w' 92 compT r cs→cs.length≤5→(∀ c∈cs,CompOk c)→Src w' b L' bad'→Fr (fun k=>k=b) w w'→Dec bad (compsD (kindsOf m) L) cs L' bad'→K r Q w') :
  callW Tryz.prog Zl [.pointer (some ⟨b,0,none⟩),.int .u64 (m:Int)] [.sc .sl] K Q w:=by
 refine Z85 _ _ K Q w ?_
 unfold Z42
 have hbw:=h.lt
 refine forI (N:=5) (fun s:Sl × Int=>s.2) (fun j st u=>st.2=(j:Int)∧Fr (fun k=>k=b) w u∧∃ cs L' bad',Own (Up w.heap.size) u 92 compT st.1 cs∧cs.length≤j∧(∀ c∈cs,CompOk c)∧Src u b L' bad'∧(bad'=false→bad=false∧compsD (kindsB m j) L=some (cs,L'))∧(bad'=true→bad=true∨compsD (kindsOf m) L=none))
  ⟨rfl,Fr.refl _ _,[],L,bad,Own.nil _ _ _ _,Nat.le_refl _,(fun c h=>by cases h),h,fun e=>⟨e,rfl⟩,fun e=>.inl e⟩ (fun j s w' h=>h.1) ?_ ?_
 ·rintro j ⟨z,_⟩ u K' hj ⟨rfl,fu,cs,L',bad',o,hlen,hco,hs,hg,hb⟩ - hK
  have su:=fu.size
  have hbit:=Zxr ⟨m,hm⟩ ⟨j,hj⟩
  dsimp only at hbit
  refine joinI (fun q v=>v=u∧q=(m.testBit j && !bad')) (chkI (Int.natCast_nonneg j) ?_) ?_
  ·show (cond (Int.tmod (shR .u64 (m:Int) (j:Int)) 2 == 1) _ _:W _) _ _
   rw [hbit]
   refine condI (fun h1=>ptrI (Z79 hs ⟨rfl,by rw [h1]; rfl⟩)) fun h1=>⟨rfl,by rw [h1]; rfl⟩
  rintro q v ⟨rfl,rfl⟩
  refine joinI (fun z v'=>Fr (fun k=>k=b) w v'∧∃ cs L' bad',Own (Up w.heap.size) v' 92 compT z cs∧cs.length≤j+1∧(∀ c∈cs,CompOk c)∧Src v' b L' bad'∧(bad'=false→bad=false∧compsD (kindsB m (j+1)) L=some (cs,L'))∧(bad'=true→bad=true∨compsD (kindsOf m) L=none)) ?_ fun z v' ⟨h1,h2⟩=>hK _ _ ⟨by rw [wu8 (by omega)]; rfl,h1,h2⟩
  refine condI (fun hc=>?_) fun hc=>?_
  ·obtain ⟨hb1,hb2⟩:=Bool.and_eq_true_iff.1 hc
   have hb2:bad'=false:=by simpa using hb2
   subst hb2
   obtain ⟨g1,g2⟩:=hg rfl
   have hs':=hs
   obtain ⟨⟨s,B,t⟩,hl⟩:=hs'
   have app:∀ {R':Type} {Q':R'→World→Prop} {c:Comp} {L2:List Bool} {r:Sl} {e:Int} {v1:World},CompOk c→Fr None v v1→SlT (fun k=>k < b) v1 boolT r L2→L2.length≤1048576→((e=0∧compD (j:Int) L'=some (c,L2))∨(e≠0∧compD (j:Int) L'=none)) →
     (newW 92 [.int .u8 0,.int .i32 0,.int .i32 0,.int .i32 0] fun c_11 =>
    stoL c_11 [.int .u8 c.1,.int .i32 c.2.1,.int .i32 c.2.2.1,.int .i32 c.2.2.2] 0 <|
    ptrW (some ⟨b,0,none⟩) fun x_12 =>
    stoL (Addr.add x_12 0) [.slice r.a r.n r.c] 0 <|
    ptrW (some ⟨b,0,none⟩) fun x_13 =>
    stoL (Addr.add x_13 1) [.bool (e != 0)] 0 <|
    ld (.agg [.int .u8,.int .i32,.int .i32,.int .i32]) c_11 fun (x_14:(Int × Int × Int × Int)) =>
    newW 92 [.int .u8 x_14.1,.int .i32 x_14.2.1,.int .i32 x_14.2.2.1,.int .i32 x_14.2.2.2] fun x_15 =>
    rawW Tryz.prog (Builtin.append_ #[55,55] 55 #[.slice z.a z.n z.c,.slice (some x_15) 1 1]) [.sc .sl] fun (x_16:Sl) =>
    (fun _ v'=>Fr (fun k=>k=b) w v'∧∃ cs L' bad',Own (Up w.heap.size) v' 92 compT x_16 cs∧cs.length≤j+1∧(∀ c∈cs,CompOk c)∧Src v' b L' bad'∧(bad'=false→bad=false∧compsD (kindsB m (j+1)) L=some (cs,L'))∧(bad'=true→bad=true∨compsD (kindsOf m) L=none):W R')) Q' v1:=by
    intro R' Q' c L2 r e v1 hc f1 hr hl2 hcase
    refine newI fun v2 C1 f2 y2=>stoAll C1 rfl rfl fun v3 C f3 y3=>?_
    have f13:Fr None v1 v3:=f2.newer f3 fun k e=>by omega
    have f03:=f1.then0 f13
    have s13:=f03.size
    have s1:=f1.size
    refine ptrI (setA (B.fr f03 fun h=>h) (by simp) rfl fun v4 B4 f4 y4=>ptrI (setA B4 (by simp) rfl fun v5 B5 f5 y5=>?_))
    have f45:=f4.then f5
    refine aggI (C.fr f45 fun e=>by omega) (x:=c) rfl ?_
    have o5:=(o.none f03).fr f45 fun k (e:w.heap.size≤k) e2=>by omega
    refine appP (x:=c) Z26 rfl o5 (fun k e=>by show w.heap.size≤k; omega) (by omega) (by omega) fun z2 v6 o6 f6=>?_
    have hs5:Src v5 b L2 (e != 0):=⟨⟨r,B5,(hr.fr0 f13).fr f45 fun k e e2=>by omega⟩,hl2⟩
    refine ⟨(((fu.then f03.any).then f45).thenNew f6 fun k e=>o5.own k e),cs ++ [c],L2,_,o6,by simp; omega,?_,hs5.fr f6 fun k e e2=>by have:w.heap.size≤k:=o5.own k e2; omega,fun h=>?_,fun h=>?_⟩
    ·intro x hx
     rcases List.mem_append.1 hx with hx | hx
     ·exact hco x hx
     ·simp at hx; rw [hx]; exact hc
    ·rcases hcase with ⟨he,hd⟩ | ⟨he,hd⟩
     ·refine ⟨g1,?_⟩
      rw [Z5a,if_pos hb1,Zib,g2]
      dsimp only
      rw [compsD,hd]
      rfl
     ·exact absurd (by simpa using h) he
    ·rcases hcase with ⟨he,hd⟩ | ⟨he,hd⟩
     ·rw [he] at h; cases h
     ·refine .inr ?_
      obtain ⟨rr,hrr⟩:=Zjk m hj hb1
      rw [← Z4c hm,hrr,Zib,g2]
      dsimp only
      rw [compsD,hd]
   refine ptrI (fldI B (i:=0) (x:=s) rfl (Zsc t hl (Int.natCast_nonneg j) (fun hn e v1 he f1=>?_) fun c L2 r v1 hd hle hr f1=>?_))
   ·exact app (c:=(0,0,0,0)) ⟨by decide,by unfold i32; decide,by unfold i32; decide,by unfold i32; decide⟩ f1 (t.fr0 f1) hl (.inr ⟨he,hn⟩)
   ·exact app (Zsm (by omega) hd) f1 hr (by omega) (.inl ⟨rfl,hd⟩)
  ·refine ⟨fu,cs,L',bad',o,by omega,hco,hs,fun e=>?_,hb⟩
   subst e
   obtain ⟨g1,g2⟩:=hg rfl
   have:m.testBit j=false:=by simpa using hc
   rw [Z5a,if_neg (by rw [this]; decide),List.append_nil]
   exact ⟨g1,g2⟩
 ·rintro ⟨z,_⟩ u ⟨-,fu,cs,L',bad',o,hlen,hco,hs,hg,hb⟩
  rw [Z4c hm] at hg
  exact hk z cs L' bad' u o hlen hco hs fu ⟨hg,hb⟩
end Go.Proofs.YtchhhjlpnecjkaaGreat
namespace Go.Proofs.YtchhhjlpnecjkaaGreat
open Go Go.RowKit Go.Proofs.YtchhhjlpnecjkaaGreat.Den
variable {R:Type} {Q:R→World→Prop} {w:World} {b:Nat} {L:List Bool} {bad:Bool}
theorem Zx8 {n:Nat} {z:Sl} {raws:List (Int × Sl)} {done:List Ent} (o:Own (Up n) w 57 entT z raws) (eR:EntsR (fun k=>n≤k∧z.v.ownBlock≠some k) w raws done) (hn:n≤w.heap.size) (hl:raws.length≤2097152) {id:Int} {r:Sl} {cs:List Comp} (hr:SlT (fun k=>n≤k∧z.v.ownBlock≠some k) w compT r cs) {K:Sl→W R}
  (hk:∀ z' w',Own (Up n) w' 57 entT z' (raws ++ [(id,r)])→EntsR (fun k=>n≤k∧z'.v.ownBlock≠some k) w' (raws ++ [(id,r)]) (done ++ [(id,cs)])→Fr (Up n) w w'→K z' Q w') :
  (newW 57 [.int .u32 id,.slice r.a r.n r.c] fun a=>rawW Tryz.prog (Builtin.append_ #[23,23] 23 #[.slice z.a z.n z.c,.slice (some a) 1 1]) [.sc .sl] K:W R) Q w:=by
 have oz:Own (fun k=>n≤k∧(z.v.ownBlock=some k∨w.heap.size≤k)) w 57 entT z raws:=⟨o.row,fun k e=>⟨o.own k e,.inl e⟩⟩
 refine appP (x:=((id,r):Int × Sl)) Z5m rfl oz (fun k e=>⟨by omega,.inr e⟩) (by omega) (by omega) fun z' w' o' f'=>?_
 have ne:∀ k,k < w.heap.size→z.v.ownBlock≠some k→z'.v.ownBlock≠some k:=fun k hk hz e=>by
  rcases (o'.own k e).2 with h | h
  ·exact hz h
  ·omega
 have fix:∀ {s:Sl} {l:List Comp},SlT (fun k=>n≤k∧z.v.ownBlock≠some k) w compT s l→SlT (fun k=>n≤k∧z'.v.ownBlock≠some k) w' compT s l:=fun h =>
  ((h.mono (ok':=fun k=>(n≤k∧z.v.ownBlock≠some k)∧k < w.heap.size) fun k hk e=>⟨e,hk⟩).fr f' fun k e e2=>e.1.2 e2).mono fun k _ e=>⟨e.1.1,ne k e.2 e.1.2⟩
 refine hk z' w' (o'.mono fun k _ e=>e.1) (EntsR.snoc ⟨eR.len,fun i a c ha hc=>?_⟩ rfl (fix hr)) (f'.sub fun k e=>o.own k e)
 obtain ⟨h1,h2⟩:=eR.at_ i a c ha hc
 exact ⟨h1,fix h2⟩
theorem Zhv (h:Src w b L bad) {K:Res [.sc .sl]→W R} (hk:∀ r raws l L' bad' w',Own (Up w.heap.size) w' 57 entT r raws→EntsR (fun k=>w.heap.size≤k∧r.v.ownBlock≠some k) w' raws l→Src w' b L' bad'→Fr (fun k=>k=b) w w'→Dec bad (entsD L) l L' bad'→K r Q w') :
  callW Tryz.prog Z1c [.pointer (some ⟨b,0,none⟩)] [.sc .sl] K Q w:=by
 refine Z98 _ K Q w ?_
 unfold Z4g
 have hbw:=h.lt
 refine Z3h h fun n L1 bad1 w1 h1 f1 hn hd1=>?_
 have len1:L1.length≤1048576:=h1.2
 refine loopI (fun (st:Sl × Int × Int) u=>∃ (raws:List (Int × Sl)) (done:List Ent) (L':List Bool) (bad':Bool) (last:Int) (m:Nat),st.2.1=last∧IdOk last∧st.2.2=((m:Nat):Int)∧m < 18446744073709551616∧Own (Up w.heap.size) u 57 entT st.1 raws∧EntsR (fun k=>w.heap.size≤k∧st.1.v.ownBlock≠some k) u raws done∧Src u b L' bad'∧Fr (fun k=>k=b) w u ∧
   (bad'=false→bad=false∧entsD L=moreD done (repD entD (fun e:Ent=>e.1) m last L')∧done.length+L'.length≤1048576)∧(bad'=true→bad=true∨entsD L=none))
  (fun st _=>st.2.2.toNat) ⟨[],[],L1,bad1,0,n,rfl,⟨by decide,by decide⟩,rfl,hn,Own.nil _ _ _ _,EntsR.nil _ _,h1,f1,fun e=>?_,fun e=>?_⟩ ?_
 ·obtain ⟨g1,g2⟩:=hd1.1 e
  refine ⟨g1,?_,by simpa using len1⟩
  unfold entsD
  rw [g2]
  dsimp only
  cases repD entD (fun e:Ent=>e.1) n 0 L1 with
  | none=>rfl
  | some p=>rfl
 ·rcases hd1.2 e with g | g
  ·exact .inl g
  ·exact .inr (by unfold entsD; rw [g])
 rintro ⟨z,c1,c2⟩ u ⟨raws,done,L',bad',last,m,hc1,hlast,hc2,hm,o,eR,hs,fu,hgood,hbad⟩
 dsimp only at hc1 hc2
 subst hc1
 subst hc2
 have su:=fu.size
 refine joinI (fun q v=>v=u∧q=(decide (0 < m) && !bad')) ?_ ?_
 ·refine condD (fun hp=>ptrI (Z79 hs ⟨rfl,?_⟩)) fun hp=>⟨rfl,?_⟩
  ·have hp:((m:Nat):Int) > 0:=hp
   rw [decide_eq_true (show 0 < m by omega)]; rfl
  ·have hp:¬ ((m:Nat):Int) > 0:=hp
   rw [decide_eq_false (show ¬ 0 < m by omega)]; rfl
 rintro q v ⟨rfl,rfl⟩
 refine condI (fun hc=>?_) fun hc=>?_
 ·obtain ⟨hc1,hc2⟩:=Bool.and_eq_true_iff.1 hc
  have hpos:=of_decide_eq_true hc1
  have hb':bad'=false:=by simpa using hc2
  subst hb'
  obtain ⟨g1,g2,g3⟩:=hgood rfl
  obtain ⟨m,rfl⟩:∃ q,m=q+1:=⟨m - 1,by omega⟩
  refine Zg8 hs hlast fun id L2 bad2 v1 hs1 k1 hid d1=>?_
  have y1:=k1.size
  refine newI fun v2 C1 k2 y2=>stoAll C1 rfl rfl fun v3 C k3 y3=>?_
  have k13:Fr None v1 v3:=k2.newer k3 fun k e=>by omega
  refine fldI C (i:=0) (x:=id) rfl ?_
  refine Z3i (hs1.fr0 k13) (n:=5) (by decide) fun mk L3 bad3 v4 hs4 k4 hmk d2=>?_
  have y4:=k4.size
  refine Zet hs4 hmk fun r cs L4 bad4 v5 o5 hcl hco hs5 k5 d3=>?_
  have y5:=k5.size
  have C5:=(C.fr k4 fun e=>by omega).fr k5 fun e=>by omega
  refine setA C5 (by simp) rfl fun v6 C6 k6 y6=>aggI C6 (x:=((id,r):Int × Sl)) rfl ?_
  have k03:Fr (fun k=>k=b) v v3:=k1.then k13.any
  have k05:Fr (fun k=>k=b) v v5:=(k03.then k4).then k5
  have k06:Fr (fun k=>k=b) v v6:=k05.thenNew k6 fun k e=>by omega
  have nb:∀ {k:Nat},w.heap.size≤k→¬ k=b:=fun h e=>by omega
  have o6:=o.fr k06 fun k (e:w.heap.size≤k)=>nb e
  have E6:=eR.fr k06 fun k e=>nb e.1
  have r6:SlT (fun k=>w.heap.size≤k∧z.v.ownBlock≠some k) v6 compT r cs:=(o5.sl.mono (ok':=fun k=>v4.heap.size≤k) fun k _ e=>e).fr k6 (fun k e e2=>by omega) |>.mono fun k _ (e:v4.heap.size≤k)=>⟨by omega,fun e2=>by have:=o.lt e2; omega⟩
  have hel:=eR.len
  refine Zx8 o6 E6 (by omega) (by omega) r6 fun z' v7 o7 E7 k7=>?_
  have hs7:Src v7 b L4 bad4:=(hs5.fr k6 fun k e e2=>by omega).fr k7 fun k e (e2:w.heap.size≤k)=>by omega
  have mm:IntKind.wrap .u64 (((m+1:Nat):Int) - 1)=(m:Int):=by rw [wU64 (by omega)]; omega
  refine ⟨⟨raws ++ [(id,r)],done ++ [(id,cs)],L4,bad4,id,m,rfl,hid,mm,by omega,o7,E7,hs7,(fu.then k06).thenNew k7 fun k e=>e,fun e=>?_,fun e=>?_⟩,?_⟩
  ·obtain ⟨q1,q2⟩:=d3.1 e
   obtain ⟨q3,q4⟩:=d2.1 q1
   obtain ⟨_,q5⟩:=d1.1 q3
   have hent:entD c1 L'=some ((id,cs),L4):=by
    unfold entD
    rw [q5]
    dsimp only
    rw [q4]
    dsimp only
    rw [q2]
   refine ⟨g1,by rw [g2]; exact Z94 hent,?_⟩
   have:=Zof hent
   simp only [List.length_append,List.length_singleton]
   omega
  ·refine .inr ?_
   have hnone:entD c1 L'=none:=by
    unfold entD
    cases h2:bad2 with
    | true =>
     rcases d1.2 h2 with q | q
     ·cases q
     ·rw [q]
    | false =>
     rw [(d1.1 h2).2]
     dsimp only
     cases h3:bad3 with
     | true =>
      rcases d2.2 h3 with q | q
      ·rw [h2] at q; cases q
      ·rw [q]
     | false =>
      rw [(d2.1 h3).2]
      dsimp only
      rcases d3.2 e with q | q
      ·rw [h3] at q; cases q
      ·rw [q]
   rw [g2,repD,hnone]
   rfl
  ·show (IntKind.wrap .u64 (((m+1:Nat):Int) - 1)).toNat < ((m+1:Nat):Int).toNat
   rw [mm]
   omega
 ·refine hk z raws done L' bad' v o eR hs fu ⟨fun e=>?_,hbad⟩
  obtain ⟨g1,g2,g3⟩:=hgood e
  have hz:m=0:=by
   rw [e] at hc
   have:decide (0 < m)=false:=by simpa using hc
   have:=of_decide_eq_false this
   omega
  subst hz
  exact ⟨g1,by rw [g2]; show some (done ++ [],L')=_; rw [List.append_nil]⟩
end Go.Proofs.YtchhhjlpnecjkaaGreat
namespace Go.Proofs.YtchhhjlpnecjkaaGreat
open Go Go.RowKit Go.Proofs.YtchhhjlpnecjkaaGreat.Den
variable {R:Type} {Q:R→World→Prop} {w:World} {b:Nat} {L:List Bool} {bad:Bool}
def hB (k:Int) (t:Nat) (L:List Bool):Option (Int × List Bool):=if k=2 then (match getVar L with
 | none=>none
 | some (b,L)=>if t≤b then none else some (((t - b - 1:Nat):Int),L)) else some (0,L)
def hT (k:Int) (L:List Bool):Option (Nat × List Bool):=if k≤3 then getN 32 L else some (0,L)
def hR3 (k c:Int) (e t:Nat) (L:List Bool):Option (Head × List Bool):=match hB k t L with
 | none=>none
 | some (b,L)=>if e≤4294967295∧headE (k,c,(e:Int),(t:Int),b)=0 then some ((k,c,(e:Int),(t:Int),b),L) else none
def hR2 (k c:Int) (e:Nat) (L:List Bool):Option (Head × List Bool):=match hT k L with
 | none=>none
 | some (t,L)=>hR3 k c e t L
def hR1 (k c:Int) (L:List Bool):Option (Head × List Bool):=match getVar L with
 | none=>none
 | some (e,L)=>hR2 k c e L
def hR0 (k:Int) (L:List Bool):Option (Head × List Bool):=match getN 4 L with
 | none=>none
 | some (c,L)=>hR1 k (c:Int) L
theorem Zsv (L:List Bool):headD L=match getIn 1 5 L with
  | none=>none
  | some (k,L)=>hR0 k L:=by
 unfold headD
 cases getIn 1 5 L with
 | none=>rfl
 | some p =>
  obtain ⟨k,L1⟩:=p
  dsimp only
  have hw:widthM 0 15=4:=by decide +kernel
  unfold hR0 getIn
  rw [hw]
  cases h4:getN 4 L1 with
  | none=>rfl
  | some q =>
   obtain ⟨c,L2⟩:=q
   have:c < 2 ^ 4:=Zb8 h4
   dsimp only
   rw [if_pos (by omega),Int.zero_add]
   rfl
theorem Zv6 {ok:Nat→Prop} {s:Sl} {L:List Bool} (hS:SlT ok w boolT s L) (hm:L.length≤1048576) {lo hi:Int} (h1:-2147483648≤lo) (h2:lo≤hi) (h3:hi≤2147483647) {K:Res [.sc (.int .i64),.sc .sl,.sc (.int .i64)]→W R}
  (hk:∀ v r e L' w',SlT ok w' boolT r L'→L'.length≤1048576→Fr None w w'→((e=0∧getIn lo hi L=some (v,L')∧lo≤v∧v≤hi)∨(e≠0∧v=0∧getIn lo hi L=none))→K (v,r,e) Q w'):callW Tryz.prog Z18 [.slice s.a s.n s.c,.int .i64 lo,.int .i64 hi] [.sc (.int .i64),.sc .sl,.sc (.int .i64)] K Q w :=
 Zbk hS hm h1 h2 h3 (fun hn e w' he f=>hk 0 s e L w' (hS.fr0 f) hm f (.inr ⟨he,rfl,hn⟩)) fun v L' r w' hg v1 v2 hr f=>hk v r 0 L' w' hr (by have:=Zke hg; omega) f (.inl ⟨rfl,hg,v1,v2⟩)
theorem Zhw (h:Src w b L false) {K:Res [.agg [.int .u8,.int .u8,.int .u32,.int .u32,.int .u32]]→W R} (hk:∀ hd L' bad' w',HeadOk hd→Src w' b L' bad'→Fr (fun k=>k=b) w w'→Dec false (headD L) hd L' bad'→K hd Q w') :
  callW Tryz.prog Z1d [.pointer (some ⟨b,0,none⟩)] [.agg [.int .u8,.int .u8,.int .u32,.int .u32,.int .u32]] K Q w:=by
 refine Z99 _ K Q w ?_
 unfold Z4h
 have hbw:=h.lt
 refine newI fun w1 X f1 z1=>newI fun w2 H f2 z2=>?_
 have X:=X.fr f2 fun h=>h
 have f02:=f1.then0 f2
 have h2:=h.fr0 f02
 have nb:∀ {x:Nat},w.heap.size≤x→¬ x=b:=fun hx e=>by omega
 obtain ⟨⟨s,B,t⟩,hl⟩:=h2
 refine ptrI (fldI B (i:=0) (x:=s) rfl (Zv6 t hl (by decide) (by decide) (by decide) fun k r e0 L1 w3 hr hl1 f3 hcase=>?_))
 refine ptrI (setA (B.fr f3 fun h=>h) (by simp) rfl fun w4 B4 f4 z4=>ptrI (setA B4 (by simp) rfl fun w5 B5 f5 z5=>?_))
 have f45:=f4.then f5
 have h5:Src w5 b L1 (e0 != 0):=⟨⟨r,B5,hr.fr f45 fun k e e2=>by omega⟩,hl1⟩
 have hk5:0≤k∧k≤5:=by rcases hcase with ⟨_,_,a,c⟩ | ⟨_,a,_⟩ <;> omega
 have d0:((e0 != 0)=false→headD L=hR0 k L1)∧((e0 != 0)=true→headD L=none):=by
  rw [Zsv]
  rcases hcase with ⟨he,hg,_⟩ | ⟨he,_,hg⟩
  ·exact ⟨fun _=>by rw [hg],fun e=>by rw [he] at e; cases e⟩
  ·exact ⟨fun e=>absurd (by simpa using e) he,fun _=>by rw [hg]⟩
 have g25:=f3.any.then f45
 have X5:=X.fr g25 (nb (Nat.le_refl _))
 have H5:=H.fr g25 (nb (by omega))
 have g05:=f02.any.then g25
 generalize (e0 != 0)=bad1 at h5 d0
 clear hcase hr B4 B5 B t
 refine Z3i h5 (n:=4) (by decide) fun c L2 bad2 w6 h6 f6 hc d2=>?_
 have z6:=f6.size
 refine setA (H5.fr f6 (nb (by omega))) (by simp) rfl fun w7 H7 f7 z7=>setA H7 (by simp) rfl fun w8 H8 f8 z8=>?_
 have kk:IntKind.wrap .u8 k=k:=wu8 (by omega)
 have cc:IntKind.wrap .u8 (c:Int)=(c:Int):=wu8 (by omega)
 rw [kk,cc] at H8
 have f78:=f7.then f8
 have h8:Src w8 b L2 bad2:=h6.fr f78 fun k e e2=>by omega
 have X8:=(X5.fr f6 (nb (Nat.le_refl _))).fr f78 fun e=>by omega
 have g08:Fr (fun k=>k=b) w w8:=(g05.then f6).thenNew f78 fun k e=>by omega
 refine Z3h h8 fun e L3 bad3 w9 h9 f9 he d3=>?_
 have z9:=f9.size
 refine setA (H8.fr f9 (nb (by omega))) (by simp) rfl fun w10 H10 f10 z10=>?_
 have h10:Src w10 b L3 bad3:=h9.fr f10 fun k e e2=>by omega
 refine Zyx (c:=decide ((e:Int) > 4294967295)) h10 fun w11 h11 f11 z11=>?_
 have X11:=((X8.fr f9 (nb (Nat.le_refl _))).fr f10 fun e=>by omega).fr f11 (nb (Nat.le_refl _))
 have H11:=H10.fr f11 (nb (by omega))
 have g011:Fr (fun k=>k=b) w w11:=((g08.then f9).thenNew f10 fun k e=>by omega).then f11
 have d4:(bad3 || decide ((e:Int) > 4294967295))=false→bad3=false∧e≤4294967295:=fun h=>by
  obtain ⟨a,c⟩:=Bool.or_eq_false_iff.1 h
  exact ⟨a,by have:=of_decide_eq_false c; omega⟩
 have d4':(bad3 || decide ((e:Int) > 4294967295))=true→bad3=true∨4294967295 < e:=fun h=>by
  rcases Bool.or_eq_true_iff.1 h with a | a
  ·exact .inl a
  ·exact .inr (by have:=of_decide_eq_true a; omega)
 generalize (bad3 || decide ((e:Int) > 4294967295))=bad4 at h11 d4 d4'
 refine fldI H11 (i:=0) (x:=k) rfl ?_
 refine joinI (fun _ u=>∃ (t:Nat) (L4:List Bool) (bad5:Bool),t < 4294967296∧Src u b L4 bad5∧Blk u w1.heap.size 30 [.int .u8 k,.int .u8 (c:Int),.int .u32 (IntKind.wrap .u32 (e:Int)),.int .u32 (t:Int),.int .u32 0]∧Blk u w.heap.size 30 [.int .u8 0,.int .u8 0,.int .u32 0,.int .u32 0,.int .u32 0]∧Fr (fun k=>k=b) w u∧Dec bad4 (hT k L3) t L4 bad5) ?_ ?_
 ·refine condD (fun hk3=>?_) fun hk3=>?_
  ·refine Z3i h11 (n:=32) (by decide) fun t L4 bad5 u1 hs1 k1 ht d5=>?_
   have y1:=k1.size
   have tt:IntKind.wrap .u32 (t:Int)=(t:Int):=by rw [IntKind.wrap_u32]; omega
   rw [tt]
   refine setA (H11.fr k1 (nb (by omega))) (by simp) rfl fun u2 H2 k2 y2=>?_
   refine ⟨t,L4,bad5,by omega,hs1.fr k2 fun k e e2=>by omega,H2,(X11.fr k1 (nb (Nat.le_refl _))).fr k2 fun e=>by omega,(g011.then k1).thenNew k2 fun k e=>by omega,?_⟩
   unfold hT
   rw [if_pos hk3]
   exact d5
  ·refine ⟨0,L3,bad4,by decide,h11,H11,X11,g011,?_⟩
   unfold hT
   rw [if_neg hk3]
   exact ⟨fun h=>⟨h,rfl⟩,fun h=>.inl h⟩
 rintro _ u ⟨t,L4,bad5,ht,hs,Hu,Xu,gu,d5⟩
 have su:=gu.size
 refine fldI Hu (i:=0) (x:=k) rfl ?_
 refine joinI (fun _ v=>∃ (bs:Int) (L5:List Bool) (bad6:Bool),(0≤bs∧bs≤4294967295)∧Src v b L5 bad6∧Blk v w1.heap.size 30 [.int .u8 k,.int .u8 (c:Int),.int .u32 (IntKind.wrap .u32 (e:Int)),.int .u32 (t:Int),.int .u32 bs]∧Blk v w.heap.size 30 [.int .u8 0,.int .u8 0,.int .u32 0,.int .u32 0,.int .u32 0]∧Fr (fun k=>k=b) w v∧Dec bad5 (hB k t L4) bs L5 bad6) ?_ ?_
 ·refine condE (fun hk2=>?_) fun hk2=>?_
  ·refine Z3h hs fun x L5 bad6 v1 hs1 k1 hx d6=>?_
   have y1:=k1.size
   have H1:=Hu.fr k1 (nb (by omega))
   have X1:=Xu.fr k1 (nb (Nat.le_refl _))
   have tw:IntKind.wrap .u64 (t:Int)=(t:Int):=wU64 (by omega)
   refine joinI (fun _ v=>Src v b L5 (bad6 || decide (t≤x))∧Fr (fun k=>k=b) v1 v∧v.heap.size=v1.heap.size) ?_ ?_
   ·refine ptrI (Z79 hs1 (condI (fun hb=>ptrI (Z3j hs1 fun v2 hs2 k2 y2=>⟨by rw [hb]; exact hs2,k2,y2⟩)) fun hb=>fldI H1 (i:=3) (x:=(t:Int)) rfl (ptrI (Z3j hs1 fun v2 hs2 k2 y2=>⟨?_,k2,y2⟩))))
    rw [hb]
    have e1:decide ((x:Int) ≥ IntKind.wrap .u64 (t:Int))=decide (t≤x):=decide_eq_decide.2 (by rw [tw]; omega)
    rw [← e1]
    exact hs2
   rintro _ v ⟨hs2,k2,y2⟩
   have H2:=H1.fr k2 (nb (by omega))
   refine fldI H2 (i:=3) (x:=(t:Int)) rfl (setA H2 (by simp) rfl fun v3 H3 k3 y3=>?_)
   have hw:∀ y:Int,0≤IntKind.wrap .u32 y∧IntKind.wrap .u32 y≤4294967295:=fun y=>by rw [IntKind.wrap_u32]; omega
   refine ⟨_,L5,_,hw _,hs2.fr k3 fun k e e2=>by omega,H3,((X1.fr k2 (nb (Nat.le_refl _))).fr k3 fun e=>by omega),((gu.then k1).then k2).thenNew k3 fun k e=>by omega,?_⟩
   unfold hB
   rw [if_pos hk2]
   refine ⟨fun h=>?_,fun h=>?_⟩
   ·obtain ⟨a1,a2⟩:=Bool.or_eq_false_iff.1 h
    obtain ⟨a3,a4⟩:=d6.1 a1
    have a2:=of_decide_eq_false a2
    refine ⟨a3,?_⟩
    rw [a4]
    dsimp only
    rw [if_neg a2]
    congr 2
    rw [IntKind.wrap_u32,IntKind.wrap_u32,IntKind.wrap_u32]
    omega
   ·rcases Bool.or_eq_true_iff.1 h with a | a
    ·rcases d6.2 a with q | q
     ·exact .inl q
     ·exact .inr (by rw [q])
    ·have a:=of_decide_eq_true a
     cases h6:bad6 with
     | true =>
      rcases d6.2 h6 with q | q
      ·exact .inl q
      ·exact .inr (by rw [q])
     | false =>
      refine .inr ?_
      rw [(d6.1 h6).2]
      dsimp only
      rw [if_pos a]
  ·refine ⟨0,L4,bad5,by decide,hs,Hu,Xu,gu,?_⟩
   unfold hB
   rw [if_neg hk2]
   exact ⟨fun h=>⟨h,rfl⟩,fun h=>.inl h⟩
 rintro _ v ⟨bs,L5,bad6,hbs,hsv,Hv,Xv,gv,d6⟩
 have ew:0≤IntKind.wrap .u32 (e:Int)∧IntKind.wrap .u32 (e:Int)≤4294967295:=by rw [IntKind.wrap_u32]; omega
 have hok:HeadOk (k,(c:Int),IntKind.wrap .u32 (e:Int),(t:Int),bs):=⟨by dsimp only; omega,by dsimp only; omega,ew,by dsimp only; omega,hbs⟩
 have sv:=gv.size
 refine joinI (fun _ v2=>Src v2 b L5 (bad6 || headE (k,(c:Int),IntKind.wrap .u32 (e:Int),(t:Int),bs) != 0)∧Fr (fun k=>k=b) v v2) ?_ ?_
 ·refine ptrI (Z79 hsv (condI (fun hb=>ptrI (Z3j hsv fun v2 hs2 k2 y2=>⟨by rw [hb]; exact hs2,k2⟩)) fun hb=>aggI Hv (x:=((k,(c:Int),IntKind.wrap .u32 (e:Int),(t:Int),bs):Head)) rfl (Zer hok fun v1 k1=>ptrI (Z3j (hsv.fr0 k1) fun v2 hs2 k2 y2=>⟨by rw [hb]; exact hs2,k1.any.then k2⟩))))
 rintro _ v2 ⟨hs2,k2⟩
 refine aggI (Hv.fr k2 (nb (by omega))) (x:=((k,(c:Int),IntKind.wrap .u32 (e:Int),(t:Int),bs):Head)) rfl (stoAll (Xv.fr k2 (nb (Nat.le_refl _))) rfl rfl fun v3 X3 k3 y3=>aggI X3 (x:=((k,(c:Int),IntKind.wrap .u32 (e:Int),(t:Int),bs):Head)) rfl ?_)
 refine hk _ L5 _ v3 hok (hs2.fr k3 fun k e e2=>by omega) ((gv.then k2).thenNew k3 fun k e=>by omega) ⟨fun h=>?_,fun h=>?_⟩
 ·obtain ⟨a6,a7⟩:=Bool.or_eq_false_iff.1 h
  have a7:headE (k,(c:Int),IntKind.wrap .u32 (e:Int),(t:Int),bs)=0:=by simpa using a7
  obtain ⟨b5,c5⟩:=d6.1 a6
  obtain ⟨b4,c4⟩:=d5.1 b5
  obtain ⟨b3,he2⟩:=d4 b4
  obtain ⟨b2,c2⟩:=d3.1 b3
  obtain ⟨b1,c1⟩:=d2.1 b2
  have e1:IntKind.wrap .u32 (e:Int)=(e:Int):=by rw [IntKind.wrap_u32]; omega
  rw [e1] at a7 ⊢
  refine ⟨rfl,?_⟩
  rw [d0.1 b1]
  unfold hR0
  rw [c1]
  dsimp only
  unfold hR1
  rw [c2]
  dsimp only
  unfold hR2
  rw [c4]
  dsimp only
  unfold hR3
  rw [c5]
  dsimp only
  rw [if_pos ⟨he2,a7⟩]
 ·refine .inr ?_
  cases q1:bad1 with
  | true=>exact d0.2 q1
  | false =>
  rw [d0.1 q1]
  unfold hR0
  cases q2:bad2 with
  | true =>
   rcases d2.2 q2 with q | q
   ·rw [q1] at q; cases q
   ·rw [q]
  | false =>
  rw [(d2.1 q2).2]
  dsimp only
  unfold hR1
  cases q3:bad3 with
  | true =>
   rcases d3.2 q3 with q | q
   ·rw [q2] at q; cases q
   ·rw [q]
  | false =>
  rw [(d3.1 q3).2]
  dsimp only
  unfold hR2
  by_cases he2:e≤4294967295
  ·have q4:bad4=false:=by
    cases q4:bad4 with
    | false=>rfl
    | true =>
     rcases d4' q4 with q | q
     ·rw [q3] at q; cases q
     ·omega
   cases q5:bad5 with
   | true =>
    rcases d5.2 q5 with q | q
    ·rw [q4] at q; cases q
    ·rw [q]
   | false =>
   rw [(d5.1 q5).2]
   dsimp only
   unfold hR3
   cases q6:bad6 with
   | true =>
    rcases d6.2 q6 with q | q
    ·rw [q5] at q; cases q
    ·rw [q]
   | false =>
   rw [(d6.1 q6).2]
   dsimp only
   have e1:IntKind.wrap .u32 (e:Int)=(e:Int):=by rw [IntKind.wrap_u32]; omega
   rw [q6,e1] at h
   have:headE (k,(c:Int),(e:Int),(t:Int),bs)≠0:=by simpa using h
   rw [if_neg fun g=>this g.2]
  ·cases hT k L3 with
   | none=>rfl
   | some p =>
    obtain ⟨t2,L6⟩:=p
    dsimp only
    unfold hR3
    cases hB k t2 L6 with
    | none=>rfl
    | some p =>
     obtain ⟨b2,L7⟩:=p
     dsimp only
     rw [if_neg fun g=>he2 g.1]
end Go.Proofs.YtchhhjlpnecjkaaGreat
namespace Go.Proofs.YtchhhjlpnecjkaaGreat
open Go Go.RowKit Go.Proofs.YtchhhjlpnecjkaaGreat.Den
variable {R:Type} {Q:R→World→Prop} {w:World} {b:Nat} {L:List Bool} {bad:Bool}
def hadK (was:List Ent) (id k:Int):Prop:=∃ a∈was,a.1=id∧∃ x∈a.2,x.1=k
theorem Zxd {l:List Comp} {k:Int} (h:¬ findM l k < 0):∃ (j:Nat) (x:Comp),findM l k=(j:Int)∧l[j]?=some x∧x.1=k∧l.find? (fun c=>c.1 == k)=some x:=by
 unfold findM at h ⊢
 split at h
 ·rename_i i hi
  obtain ⟨hl,e,hlt⟩:=List.findIdx?_eq_some_iff_getElem.1 hi
  refine ⟨i,l[i],rfl,List.getElem?_eq_getElem hl,by simpa using e,?_⟩
  rw [List.find?_eq_some_iff_getElem]
  exact ⟨e,i,hl,rfl,fun j hj=>by simpa using hlt j hj⟩
 ·exact absurd (by decide) h
theorem Zxc {L:List Ent} {id:Int} {i:Nat} (h:findE L id=(i:Int)):L.findIdx? (fun e=>e.1 == id)=some i:=by
 unfold findE at h
 split at h
 ·rename_i q hq
  have:q=i:=by omega
  rw [hq,this]
 ·omega
theorem Zls (was:List Ent) (id:Int):∀ (is js:List Int) (L:List Bool),setsD was id (is ++ js) L=match setsD was id is L with
  | none=>none
  | some (cs,L2)=>match setsD was id js L2 with
   | none=>none
   | some (cs2,L3)=>some (cs ++ cs2,L3)
 | [],js,L=>by
  rw [List.nil_append,setsD]
  dsimp only
  cases setsD was id js L with
  | none=>rfl
  | some p=>rfl
 | i :: r,js,L=>by
  rw [List.cons_append,setsD,setsD]
  by_cases h:(oldM was id i).1≠i
  ·rw [if_pos h,if_pos h]
  ·rw [if_neg h,if_neg h]
   cases stepDec (oldM was id i) L with
   | none=>rfl
   | some p =>
    obtain ⟨v,L2⟩:=p
    dsimp only
    rw [Zls was id r js L2]
    cases setsD was id r L2 with
    | none=>rfl
    | some q =>
     obtain ⟨vs,L3⟩:=q
     dsimp only
     cases setsD was id js L3 with
     | none=>rfl
     | some t=>rfl
def SetS (n:Nat) (was:List Ent) (id:Int) (m:Nat) (L0:List Bool) (bad0:Bool) (b cb:Nat) (c0:Int × Int × Sl) (j:Nat) (w0 u:World):Prop :=
 Fr (fun k=>k=b∨k=cb) w0 u∧∃ (t:Sl) (ss:List Comp) (L':List Bool) (bad':Bool),Own (Up n) u 92 compT t ss∧ss.length≤j∧(∀ c∈ss,CompOk c)∧Src u b L' bad'∧Blk u cb 86 [.int .u32 c0.1,.int .u8 c0.2.1,.slice c0.2.2.a c0.2.2.n c0.2.2.c,.slice t.a t.n t.c] ∧
  (bad'=false→bad0=false∧setsD was id (kindsB m j) L0=some (ss,L'))∧(bad'=true→bad0=true∨∀ ss' r,setsD was id (kindsOf m) L0=some (ss',r)→∃ x∈ss',¬ hadK was id x.1)
theorem Zyc (h:Src w b L bad) {cb:Nat} {c0:Int × Int × Sl} (C:Blk w cb 86 [.int .u32 c0.1,.int .u8 c0.2.1,.slice c0.2.2.a c0.2.2.n c0.2.2.c,.slice none 0 0]) (hcb:b < cb) {sw:Sl} {raws:List (Int × Sl)} {was:List Ent} (hS:SlT (fun k=>k < b) w entT sw raws) (hE:EntsR (fun k=>k < b) w raws was) (hL:∀ e∈was,EntFit e) (hwl:was.length≤1048576) (hf:FormOk was) {id:Int} {m:Nat} (hm:m < 32) {K:W R} (hk:∀ u,SetS w.heap.size was id m L bad b cb c0 5 w u→K Q u) :
  (loopW (σ := Int) (fun K_40 s_41 =>
       cond (decide (s_41 < 5))
        (joinW (σ:=Unit) (fun J_42 =>
        joinW (σ:=Bool) (fun J_43 =>
         chkW (0≤s_41) <|
         cond ((Int.tmod (shR .u64 (m:Int) s_41) 2) == 0)
          (J_43 true)
          (ld (.sc .bool) (Addr.add ⟨b, 0, none⟩ 1) fun (x_44 : Bool) =>
             J_43 x_44))
        <| fun s_45 =>
        cond s_45
         (J_42 ())
         (joinW (σ:=Int) (fun J_46 =>
         cond (decide (findE was id ≥ 0))
          (idxW sw.a sw.n 2 (findE was id) fun x_47 =>
          ld (.sc .sl) (Addr.add x_47 1) fun (x_48:Sl) =>
          callW Tryz.prog Z7 [.slice x_48.a x_48.n x_48.c,.int .u8 s_41] [.sc (.int .i64)] fun (x_49:Int) =>
          J_46 x_49)
          (J_46 (-1)))
        <| fun s_50 =>
        cond (decide (s_50 < 0))
         (stoL (Addr.add ⟨b,0,none⟩ 1) [.bool true] 0 <|
         J_42 ())
         (joinW (σ:=(Option Addr) × Sl × Int) (fun J_51 =>
         drawW <|
         bothW
          (ld (.sc .sl) (Addr.add ⟨b,0,none⟩ 0) fun (x_52:Sl) =>
          idxW sw.a sw.n 2 (findE was id) fun x_53 =>
          ld (.sc .sl) (Addr.add x_53 1) fun (x_54:Sl) =>
          idxW x_54.a x_54.n 4 s_50 fun x_55 =>
          ld (.agg [.int .u8,.int .i32,.int .i32,.int .i32]) x_55 fun (x_56:(Int × Int × Int × Int)) =>
          callW Tryz.prog Zb [.slice x_52.a x_52.n x_52.c,.agg ⟨[.int .u8 x_56.1,.int .i32 x_56.2.1,.int .i32 x_56.2.2.1,.int .i32 x_56.2.2.2]⟩] [.agg [.int .u8,.int .i32,.int .i32,.int .i32],.sc .sl,.sc (.int .i64)] fun (x_57:(Int × Int × Int × Int) × Sl × Int) =>
          newW 92 [.int .u8 0,.int .i32 0,.int .i32 0,.int .i32 0] fun x_58 =>
          stoL x_58 [.int .u8 x_57.1.1,.int .i32 x_57.1.2.1,.int .i32 x_57.1.2.2.1,.int .i32 x_57.1.2.2.2] 0 <|
          J_51 ((some x_58),x_57.2.1,x_57.2.2))
          (ld (.sc .sl) (Addr.add ⟨b,0,none⟩ 0) fun (x_59:Sl) =>
          idxW sw.a sw.n 2 (findE was id) fun x_60 =>
          ld (.sc .sl) (Addr.add x_60 1) fun (x_61:Sl) =>
          idxW x_61.a x_61.n 4 s_50 fun x_62 =>
          ld (.agg [.int .u8,.int .i32,.int .i32,.int .i32]) x_62 fun (x_63:(Int × Int × Int × Int)) =>
          newW 92 [.int .u8 0,.int .i32 0,.int .i32 0,.int .i32 0] fun x_64 =>
          callW Tryz.prog Zb [.slice x_59.a x_59.n x_59.c,.agg ⟨[.int .u8 x_63.1,.int .i32 x_63.2.1,.int .i32 x_63.2.2.1,.int .i32 x_63.2.2.2]⟩] [.agg [.int .u8,.int .i32,.int .i32,.int .i32],.sc .sl,.sc (.int .i64)] fun (x_65:(Int × Int × Int × Int) × Sl × Int) =>
          stoL x_64 [.int .u8 x_65.1.1,.int .i32 x_65.1.2.1,.int .i32 x_65.1.2.2.1,.int .i32 x_65.1.2.2.2] 0 <|
          J_51 ((some x_64),x_65.2.1,x_65.2.2)))
        <| fun s_66 =>
        stoL (Addr.add ⟨b,0,none⟩ 0) [.slice s_66.2.1.a s_66.2.1.n s_66.2.1.c] 0 <|
        stoL (Addr.add ⟨b,0,none⟩ 1) [.bool (s_66.2.2 != 0)] 0 <|
        ld (.sc .sl) (Addr.add ⟨cb,0,none⟩ 3) fun (x_67:Sl) =>
        ptrW s_66.1 fun x_68 =>
        ld (.agg [.int .u8,.int .i32,.int .i32,.int .i32]) x_68 fun (x_69:(Int × Int × Int × Int)) =>
        newW 92 [.int .u8 x_69.1,.int .i32 x_69.2.1,.int .i32 x_69.2.2.1,.int .i32 x_69.2.2.2] fun x_70 =>
        rawW Tryz.prog (Builtin.append_ #[55,55] 55 #[.slice x_67.a x_67.n x_67.c,.slice (some x_70) 1 1]) [.sc .sl] fun (x_71:Sl) =>
        stoL (Addr.add ⟨cb,0,none⟩ 3) [.slice x_71.a x_71.n x_71.c] 0 <|
        J_42 ())))
       <| fun _ =>
       K_40 (IntKind.wrap .u8 (s_41+1)))
        K) 0:W R) Q w:=by
 have hcw:=C.lt
 refine forI (N:=5) (fun s:Int=>s) (fun j s u=>s=(j:Int)∧SetS w.heap.size was id m L bad b cb c0 j w u)
  ⟨rfl,Fr.refl _ _,⟨none,0,0⟩,[],L,bad,Own.nil _ _ _ _,Nat.le_refl _,(fun c h=>by cases h),h,C,fun e=>⟨e,rfl⟩,fun e=>.inl e⟩ (fun j s w' h=>h.1) ?_ fun s u ⟨_,h⟩=>hk u h
 rintro j s u K' hj ⟨rfl,fu,t,ss,L',bad',o,hlen,hco,hs,Cu,hg,hb⟩ - hK
 have su:=fu.size
 have hbit:=Zvk ⟨m,hm⟩ ⟨j,hj⟩
 dsimp only at hbit
 have lt:∀ k,k < b→¬ (k=b∨k=cb):=fun k h e=>by omega
 refine joinI (fun _ v=>SetS w.heap.size was id m L bad b cb c0 (j+1) w v) ?_ fun _ v h=>hK _ _ ⟨by rw [wu8 (by omega)]; rfl,h⟩
 refine joinI (fun q v=>v=u∧q=(!m.testBit j || bad')) (chkI (Int.natCast_nonneg j) ?_) ?_
 ·show (cond (Int.tmod (shR .u64 (m:Int) (j:Int)) 2 == 0) _ _:W _) _ _
  rw [hbit]
  refine condI (fun h1=>⟨rfl,by rw [h1]; rfl⟩) fun h1=>Z79 hs ⟨rfl,by rw [h1]; rfl⟩
 rintro q v ⟨rfl,rfl⟩
 refine condI (fun hc=>?_) fun hc=>?_
 ·refine ⟨fu,t,ss,L',bad',o,by omega,hco,hs,Cu,fun e=>?_,hb⟩
  subst e
  have:m.testBit j=false:=by simpa using hc
  rw [Z5a,if_neg (by rw [this]; decide),List.append_nil]
  exact hg rfl
 obtain ⟨hb1,hb2⟩:=Bool.or_eq_false_iff.1 hc
 have hb1:m.testBit j=true:=by simpa using hb1
 subst hb2
 obtain ⟨g1,g2⟩:=hg rfl
 obtain ⟨rr,hrr⟩:=Zjk m hj hb1
 have hnext:kindsB m (j+1)=kindsB m j ++ [(j:Int)]:=by rw [Z5a,if_pos hb1]
 have impossible:¬ hadK was id (j:Int)→∀ ss' r,setsD was id (kindsOf m) L=some (ss',r)→∃ x∈ss',¬ hadK was id x.1:=fun hno ss' r hd=>by
  obtain ⟨_,hks,_⟩:=Zcw _ _ _ hd
  have:(j:Int)∈ss'.map (·.1):=by rw [hks,← Z4c hm,hrr]; simp
  obtain ⟨x,hx,e⟩:=List.mem_map.1 this
  exact ⟨x,hx,by rw [e]; exact hno⟩
 have hSu:=hS.fr fu lt
 have hEu:=hE.fr fu lt
 have gone:∀ {v1:World},Fr None v v1→¬ hadK was id (j:Int)→(stoL (Addr.add ⟨b,0,none⟩ 1) [.bool true] 0 (fun _ v=>SetS w.heap.size was id m L bad b cb c0 (j+1) w v:W R)) Q v1:=fun f hno =>
  Z3j (hs.fr0 f) fun v2 hs2 f2 _=>by
   have f2':=fu.then (f.any.then (f2.sub fun k e=>.inl e))
   exact ⟨f2',t,ss,L',true,(o.none f).fr f2 fun k (e:w.heap.size≤k) e2=>by omega,by omega,hco,hs2,(Cu.fr f fun h=>h).fr f2 fun e=>by omega,fun e=>(by cases e),fun _=>.inr (impossible hno)⟩
 rcases Zao (L:=was) (id:=id) with ⟨ef,hno⟩ | ⟨i,a,ef,ha,hid⟩
 ·have hnh:¬ hadK was id (j:Int):=fun ⟨a,ha,e,_⟩=>Z4x.1 hno a ha e
  rw [ef]
  refine joinI (fun z v1=>z=-1∧v1=v) (condF rfl ⟨rfl,rfl⟩) ?_
  rintro z v1 ⟨rfl,rfl⟩
  exact condT rfl (gone (Fr.refl _ _) hnh)
 rw [ef]
 obtain ⟨ra,hra,ra1,ra2⟩:=hEu.get ha
 have haf:=hL a (List.mem_of_getElem? ha)
 refine joinI (fun z v1=>z=findM a.2 (j:Int)∧Fr None v v1) (condT (decide_eq_true (Int.natCast_nonneg i)) ?_) ?_
 ·refine hSu.readK rfl rfl hra fun ad had=>(had _ hSu).fld (i:=1) (s:=.sl) (y:=ra.2) rfl ?_
  exact Z49 ra2 haf.2.1 fun v1 k1=>⟨rfl,k1⟩
 rintro z v1 ⟨rfl,k1⟩
 refine condD (fun hlt=>gone k1 fun ⟨a2,ha2,e2,x,hx,ex⟩=>?_) fun hge=>?_
 ·have:=Znf hf.rise ha2 (List.mem_of_getElem? ha) (by rw [e2,hid])
  subst this
  exact Zl9 ⟨x,hx,ex⟩ hlt
 obtain ⟨q,x,hq,hx,hxk,hfind⟩:=Zxd hge
 rw [hq]
 have hold:oldM was id (j:Int)=x:=by
  unfold oldM
  rw [Zxc ef]
  dsimp only
  rw [ha]
  show ((a.2.find? fun c=>c.1 == (j:Int))).getD (0,0,0,0)=x
  rw [hfind]
  rfl
 have hxo:CompOk x:=haf.2.2 x (List.mem_of_getElem? hx)
 have hs1:=hs.fr0 k1
 have hs1':=hs1
 obtain ⟨⟨s,B,ts⟩,hl⟩:=hs1'
 have kd:Fr None v1 v1.drew:=(Fr.refl _ _).drew
 have k1d:=k1.then0 kd
 have hSd:=hSu.fr0 k1d
 have rad:=ra2.fr0 k1d
 have hxlt:=(List.getElem?_eq_some_iff.1 hx).1
 refine joinI (fun (z:Option Addr × Sl × Int) v2=>Fr None v v2∧∃ xb c L2,z.1=some ⟨xb,0,none⟩∧v.heap.size≤xb∧Blk v2 xb 92 (compC c)∧CompOk c∧SlT (fun k=>k < b) v2 boolT z.2.1 L2∧L2.length≤1048576∧((z.2.2=0∧stepDec x L'=some (c,L2))∨(z.2.2≠0∧stepDec x L'=none))) ?_ ?_
 ·have y1:=k1.size
  refine bothI ?_ ?_
  ·refine fldI (B.fr kd fun h=>h) (i:=0) (x:=s) rfl (hSd.readK rfl rfl hra fun ad had=>(had _ hSd).fld (i:=1) (s:=.sl) (y:=ra.2) rfl (rad.get rfl rfl hxlt fun x' hx'=>?_))
   rw [hx] at hx'
   cases hx'
   refine Zd6 (ts.fr0 kd) hl hxo (fun hn e v2 he k2=>?_) fun c L2 r v2 hd hle hr k2=>?_
   ·have z2:=k2.size
    have zd:v1.drew.heap.size=v1.heap.size:=rfl
    refine newI fun v3 X1 k3 y3=>stoAll X1 rfl rfl fun v4 X k4 y4=>⟨((k1d.then0 k2).then0 k3).newer k4 fun k e=>by omega,_,(0,0,0,0),L',rfl,by omega,X,⟨by decide,by unfold i32; decide,by unfold i32; decide,by unfold i32; decide⟩,((ts.fr0 kd).fr0 k2).fr0 (k3.newer k4 fun k e=>by omega),hl,.inr ⟨he,hn⟩⟩
   ·have z2:=k2.size
    have zd:v1.drew.heap.size=v1.heap.size:=rfl
    refine newI fun v3 X1 k3 y3=>stoAll X1 rfl rfl fun v4 X k4 y4=>⟨((k1d.then0 k2).then0 k3).newer k4 fun k e=>by omega,_,c,L2,rfl,by omega,X,Ziz hxo hd,hr.fr0 (k3.newer k4 fun k e=>by omega),by omega,.inl ⟨rfl,hd⟩⟩
  ·refine fldI (B.fr kd fun h=>h) (i:=0) (x:=s) rfl (hSd.readK rfl rfl hra fun ad had=>(had _ hSd).fld (i:=1) (s:=.sl) (y:=ra.2) rfl (rad.get rfl rfl hxlt fun x' hx'=>?_))
   rw [hx] at hx'
   cases hx'
   refine newI fun v3 X1 k3 y3=>?_
   have zd:v1.drew.heap.size=v1.heap.size:=rfl
   refine Zd6 ((ts.fr0 kd).fr0 k3) hl hxo (fun hn e v2 he k2=>?_) fun c L2 r v2 hd hle hr k2=>?_
   ·refine stoAll (X1.fr k2 fun h=>h) rfl rfl fun v4 X k4 y4=>⟨((k1d.then0 k3).then0 k2).newer k4 fun k e=>by omega,_,(0,0,0,0),L',rfl,by omega,X,⟨by decide,by unfold i32; decide,by unfold i32; decide,by unfold i32; decide⟩,(((ts.fr0 kd).fr0 k3).fr0 k2).fr k4 fun k e e2=>by omega,hl,.inr ⟨he,hn⟩⟩
   ·refine stoAll (X1.fr k2 fun h=>h) rfl rfl fun v4 X k4 y4=>⟨((k1d.then0 k3).then0 k2).newer k4 fun k e=>by omega,_,c,L2,rfl,by omega,X,Ziz hxo hd,hr.fr k4 fun k e e2=>by omega,by omega,.inl ⟨rfl,hd⟩⟩
 rintro ⟨zp,r,e⟩ v2 ⟨k2,xb,c,L2,hz,hxb,X,hc,hr,hl2,hcase⟩
 have hz:zp=some ⟨xb,0,none⟩:=hz
 subst hz
 have hr:SlT (fun k=>k < b) v2 boolT r L2:=hr
 have hcase:(e=0∧stepDec x L'=some (c,L2))∨(e≠0∧stepDec x L'=none):=hcase
 obtain ⟨⟨s2,B2,_⟩,_⟩:=hs.fr0 k2
 have C2:=Cu.fr k2 fun h=>h
 have cv:=Cu.lt
 have bv:=hs.lt
 refine setA B2 (by simp) rfl fun v3 B3 k3 y3=>setA B3 (by simp) rfl fun v4 B4 k4 y4=>?_
 have k34:=k3.then k4
 have C4:=C2.fr k34 fun e=>by omega
 refine fldI C4 (i:=3) (x:=t) rfl (ptrI (aggI (X.fr k34 fun e=>by omega) (x:=c) rfl ?_))
 have o4:=(o.none k2).fr k34 fun k (e:w.heap.size≤k) e2=>by omega
 have y2:=k2.size
 refine appP (x:=c) Z26 rfl o4 (fun k e=>by show w.heap.size≤k; omega) (by omega) (by omega) fun t' v5 o5 k5=>?_
 have tlt:∀ k,t.v.ownBlock=some k→w.heap.size≤k:=fun k e=>o4.own k e
 have C5:=C4.fr k5 fun e=>by have:=tlt _ e; omega
 refine setA C5 (by simp) rfl fun v6 C6 k6 y6=>?_
 have hs4:Src v4 b L2 (e != 0):=⟨⟨r,B4,hr.fr k34 fun k e e2=>by omega⟩,hl2⟩
 have hs6:Src v6 b L2 (e != 0):=(hs4.fr k5 fun k e e2=>by have:=tlt _ e2; omega).fr k6 fun k e e2=>by omega
 refine ⟨((((fu.then k2.any).then (k34.sub fun k e=>.inl e)).thenNew k5 tlt).then (k6.sub fun k e=>.inr e)),t',ss ++ [c],L2,_,o5.fr k6 fun k (e:w.heap.size≤k) e2=>by omega,by simp; omega,fun y hy=>?_,hs6,C6,fun he=>?_,fun he=>?_⟩
 ·rcases List.mem_append.1 hy with hy | hy
  ·exact hco y hy
  ·simp at hy; rw [hy]; exact hc
 ·rcases hcase with ⟨e0,hd⟩ | ⟨e0,hd⟩
  ·refine ⟨g1,?_⟩
   rw [hnext,Zls,g2]
   dsimp only
   rw [setsD,hold,if_neg (by rw [hxk]; simp),hd]
   rfl
  ·exact absurd (by simpa using he) e0
 ·rcases hcase with ⟨e0,hd⟩ | ⟨e0,hd⟩
  ·rw [e0] at he; cases he
  ·refine .inr fun ss' r' h'=>?_
   rw [← Z4c hm,hrr,Zls,g2] at h'
   dsimp only at h'
   rw [setsD,hold,if_neg (by rw [hxk]; simp),hd] at h'
   cases h'
end Go.Proofs.YtchhhjlpnecjkaaGreat
namespace Go.Proofs.YtchhhjlpnecjkaaGreat
open Go Go.RowKit Go.Proofs.YtchhhjlpnecjkaaGreat.Den
variable {R:Type} {Q:R→World→Prop} {w:World} {b:Nat} {L:List Bool} {bad:Bool}
theorem Zyu {β:Type} {f:Int→List Bool→Option (β × List Bool)} {id:β→Int} {L0 L':List Bool} {done:List β} {last:Int} (h:L0=L0):moreD done (repD f id 0 last L')=some (done,L'):=by
 show some (done ++ [],L')=_
 rw [List.append_nil]
theorem Zqc {β:Type} (x:Option (List β × List Bool)):x=moreD [] x:=by
 cases x with
 | none=>rfl
 | some p=>rfl
theorem Zyb (h:Src w b L bad) {db:Nat} {s1 s2:Sl} (D:Blk w db 80 [.slice none 0 0,.slice s1.a s1.n s1.c,.slice s2.a s2.n s2.c]) (hdb:b < db) {K:W R}
  (hk:∀ u t gone L' bad',Own (Up w.heap.size) u 54 idT t gone→Src u b L' bad'→Blk u db 80 [.slice t.a t.n t.c,.slice s1.a s1.n s1.c,.slice s2.a s2.n s2.c]→Fr (fun k=>k=b∨k=db) w u→Dec bad (goneD L) gone L' bad'→K Q u) :
  (callW Tryz.prog Z3 [.pointer (some ⟨b, 0, none⟩)] [.sc (.int .u64)] fun (x_16 : Int) =>
     loopW (σ:=Int × Int) (fun K_17 s_18 =>
      joinW (σ:=Bool) (fun J_19 =>
       cond (decide (s_18.2 > 0))
        (ld (.sc .bool) (Addr.add ⟨b, 0, none⟩ 1) fun (x_20 : Bool) =>
           J_19 (!x_20))
        (J_19 false))
      <| fun s_21 =>
      cond s_21
       (callW Tryz.prog Zd [.pointer (some ⟨b,0,none⟩),.int .u32 s_18.1] [.sc (.int .u32)] fun (x_22:Int) =>
      ld (.sc .sl) (Addr.add ⟨db,0,none⟩ 0) fun (x_23:Sl) =>
      newW 54 [.int .u32 x_22] fun x_24 =>
      rawW Tryz.prog (Builtin.append_ #[77,77] 77 #[.slice x_23.a x_23.n x_23.c,.slice (some x_24) 1 1]) [.sc .sl] fun (x_25:Sl) =>
      stoL (Addr.add ⟨db,0,none⟩ 0) [.slice x_25.a x_25.n x_25.c] 0 <|
      K_17 (x_22,IntKind.wrap .u64 (s_18.2 - 1)))
       K) (0,x_16):W R) Q w:=by
 have hdw:=D.lt
 refine Z3h h fun n L1 bad1 w1 h1 f1 hn hd1=>?_
 have len1:L1.length≤1048576:=h1.2
 refine loopI (fun (st:Int × Int) u=>∃ (t:Sl) (done:List Int) (L':List Bool) (bad':Bool) (m:Nat),IdOk st.1∧st.2=((m:Nat):Int)∧m < 18446744073709551616∧Own (Up w.heap.size) u 54 idT t done∧Src u b L' bad'∧Blk u db 80 [.slice t.a t.n t.c,.slice s1.a s1.n s1.c,.slice s2.a s2.n s2.c]∧Fr (fun k=>k=b∨k=db) w u ∧
   (bad'=false→bad=false∧goneD L=moreD done (repD idDec (fun i:Int=>i) m st.1 L')∧done.length+L'.length≤1048576)∧(bad'=true→bad=true∨goneD L=none))
  (fun st _=>st.2.toNat) ⟨⟨none,0,0⟩,[],L1,bad1,n,(show IdOk 0 from ⟨by decide,by decide⟩),rfl,hn,Own.nil _ _ _ _,h1,D.fr f1 fun e=>by omega,f1.sub fun k e=>.inl e,fun e=>?_,fun e=>?_⟩ ?_
 ·obtain ⟨g1,g2⟩:=hd1.1 e
  refine ⟨g1,?_,by simpa using len1⟩
  unfold goneD
  rw [g2]
  exact Zqc _
 ·rcases hd1.2 e with g | g
  ·exact .inl g
  ·exact .inr (by unfold goneD; rw [g])
 rintro ⟨c1,c2⟩ u ⟨t,done,L',bad',m,hlast,hc2,hm,o,hs,Du,fu,hgood,hbad⟩
 dsimp only at hlast hc2 hgood
 subst hc2
 have su:=fu.size
 refine joinI (fun q v=>v=u∧q=(decide (0 < m) && !bad')) ?_ ?_
 ·refine condD (fun hp=>Z79 hs ⟨rfl,?_⟩) fun hp=>⟨rfl,?_⟩
  ·have hp:((m:Nat):Int) > 0:=hp
   rw [decide_eq_true (show 0 < m by omega)]; rfl
  ·have hp:¬ ((m:Nat):Int) > 0:=hp
   rw [decide_eq_false (show ¬ 0 < m by omega)]; rfl
 rintro q v ⟨rfl,rfl⟩
 refine condI (fun hc=>?_) fun hc=>?_
 ·obtain ⟨hc1,hc2⟩:=Bool.and_eq_true_iff.1 hc
  have hpos:=of_decide_eq_true hc1
  have hb':bad'=false:=by simpa using hc2
  subst hb'
  obtain ⟨g1,g2,g3⟩:=hgood rfl
  obtain ⟨m,rfl⟩:∃ q,m=q+1:=⟨m - 1,by omega⟩
  refine Zg8 hs hlast fun id L2 bad2 v1 hs1 k1 hid d1=>?_
  have y1:=k1.size
  have o1:=o.fr k1 fun k (e:w.heap.size≤k) e2=>by have:=h.lt; omega
  have hbw:=h.lt
  refine fldI (Du.fr k1 fun e=>by omega) (i:=0) (x:=t) rfl ?_
  refine appP (x:=id) Zyp rfl o1 (fun k e=>by show w.heap.size≤k; omega) (by omega) (by omega) fun t' v2 o2 k2=>?_
  have tl:∀ k,t.v.ownBlock=some k→w.heap.size≤k:=fun k e=>o1.own k e
  refine setA ((Du.fr k1 fun e=>by omega).fr k2 fun e=>by have:=tl _ e; omega) (by simp) rfl fun v3 D3 k3 y3=>?_
  have mm:IntKind.wrap .u64 (((m+1:Nat):Int) - 1)=(m:Int):=by rw [wU64 (by omega)]; omega
  refine ⟨⟨t',done ++ [id],L2,bad2,m,hid,mm,by omega,o2.fr k3 fun k (e:w.heap.size≤k) e2=>by omega,(hs1.fr k2 fun k e e2=>by have:=tl _ e2; omega).fr k3 fun k e e2=>by omega,D3,((fu.then (k1.sub fun k e=>.inl e)).thenNew k2 tl).then (k3.sub fun k e=>.inr e),fun e=>?_,fun e=>?_⟩,?_⟩
  ·obtain ⟨_,q5⟩:=d1.1 e
   refine ⟨g1,by rw [g2]; exact Z94 q5,?_⟩
   have:=Zce q5
   simp only [List.length_append,List.length_singleton]
   omega
  ·refine .inr ?_
   rcases d1.2 e with q | q
   ·cases q
   ·rw [g2,repD,q]; rfl
  ·show (IntKind.wrap .u64 (((m+1:Nat):Int) - 1)).toNat < ((m+1:Nat):Int).toNat
   rw [mm]
   omega
 ·refine hk v t done L' bad' o hs Du fu ⟨fun e=>?_,hbad⟩
  obtain ⟨g1,g2,g3⟩:=hgood e
  have hz:m=0:=by
   rw [e] at hc
   have:decide (0 < m)=false:=by simpa using hc
   have:=of_decide_eq_false this
   omega
  subst hz
  exact ⟨g1,by rw [g2]; exact Zyu (L0:=L) rfl⟩
end Go.Proofs.YtchhhjlpnecjkaaGreat
