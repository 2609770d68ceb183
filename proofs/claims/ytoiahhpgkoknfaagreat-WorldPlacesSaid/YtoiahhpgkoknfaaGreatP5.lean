/-
  What the proof of rows:R15p leans on, laid together by a program of this session (wip/pack.py) out of its own texts; the last of these texts holds rows:R15p.
-/
import Derived.Test.YtoiahhpgkoknfaaGreatP4
set_option linter.unusedVariables false
set_option linter.unusedSimpArgs false
namespace Go.Proofs.YtoiahhpgkoknfaaGreat
open Go Go.RowKit Go.Proofs.YtoiahhpgkoknfaaGreat.Den
variable {R:Type} {Q:R→World→Prop} {w:World}
abbrev plcT:Ty:=.agg [.int .u32,.bool,.int .i32,.int .i32]
def ltP (x y:Plc):Bool:=decide (x.1 < y.1)
theorem swoP:Go.Sort.SWO ltP where
 irrefl x:=by simp [ltP]
 trans x y z h1 h2:=by simp only [ltP,decide_eq_true_eq] at *; omega
 ntrans x y z h1 h2:=by simp only [ltP,decide_eq_false_iff_not] at *; omega
theorem Zod {x y:Int} {K:Res [.sc (.int .i64)]→W R} (hk:∀ r:Int,decide (r < 0)=decide (x < y)→K r Q w):callW Tryz.prog Z74 [.int .u32 x,.int .u32 y] [.sc (.int .i64)] K Q w:=by
 refine Zh3 _ _ K Q w ?_
 unfold Zb5
 refine Zcz _ _ _ _ ?_
 unfold Z9v
 refine Zcz _ _ _ _ ?_
 unfold Z9v
 refine condF (by simp) (condF (by simp) (condD (fun h=>hk _ (by simp [h])) fun h=>condD (fun h2=>hk _ (by simp [h])) fun h2=>hk _ (by simp [h])))
theorem Z46 {x y:Plc} {K:Res [.sc (.int .i64)]→W R} (hk:∀ (r:Int) w',decide (r < 0)=ltP x y→Fr None w w'→K r Q w') :
  callW Tryz.prog Z1 [.agg ⟨[.int .u32 x.1,.bool x.2.1,.int .i32 x.2.2.1,.int .i32 x.2.2.2]⟩,.agg ⟨[.int .u32 y.1,.bool y.2.1,.int .i32 y.2.2.1,.int .i32 y.2.2.2]⟩] [.sc (.int .i64)] K Q w:=by
 refine Zbq x y K Q w ?_
 unfold Z6v
 refine newI fun w1 B1 f1 s1=>newI fun w2 B2 f2 s2=>fldI (B1.fr f2 fun h=>h) (i:=0) (x:=x.1) rfl (fldI B2 (i:=0) (x:=y.1) rfl (Zod fun r hr=>hk r w2 hr (f1.then0 f2)))
end Go.Proofs.YtoiahhpgkoknfaaGreat
namespace Go.Proofs.YtoiahhpgkoknfaaGreat
open Go Go.RowKit Go.Proofs.YtoiahhpgkoknfaaGreat.Den
open Go.Sort (swp PermIn SortedIn)
variable {R:Type} {Q:R→World→Prop} {w:World}
abbrev DAP (S:Nat→Prop) (w:World) (s:Sl) (d:Array Plc):Prop:=Den.Own S w 45 plcT s d.toList
section
variable {S:Nat→Prop} {s:Sl} {d:Array Plc}
theorem DAP.n (h:DAP S w s d):s.n=d.size:=by rw [h.len]; rfl
theorem rdAP (h:DAP S w s d) {ie:Int} {j:Nat} (hi:ie=(j:Int)) (hj:j < d.size) {K:Plc→W R} (hk:K d[j]! Q w):idxW s.a s.n 4 ie (fun a=>ld (.agg [.int .u32,.bool,.int .i32,.int .i32]) a K) Q w:=by
 refine h.sl.get rfl hi (by simpa using hj) fun x hx=>?_
 rw [Array.getElem?_toList] at hx
 have e:d[j]! = x:=by
  rw [getElem!_pos d j hj]
  exact (Array.getElem?_eq_some_iff.1 hx).2
 rw [e] at hk
 exact hk
theorem Zgx (d:Array Plc) (i:Nat) (x:Plc):(d.setIfInBounds i x).toList=d.toList.set i x:=by simp
theorem swpAP (h:DAP S w s d) {ie je:Int} {i j:Nat} (ei:ie=(i:Int)) (ej:je=(j:Int)) (hi:i < d.size) (hj:j < d.size) {K:W R} (hk:∀ w',DAP S w' s (swp d i j)→Fr (OwnB s) w w'→K Q w') :
  (idxW s.a s.n 4 je fun a=>ld (.agg [.int .u32,.bool,.int .i32,.int .i32]) a fun (x:Plc)=>idxW s.a s.n 4 ie fun b=>ld (.agg [.int .u32,.bool,.int .i32,.int .i32]) b fun (y:Plc) =>
   idxW s.a s.n 4 ie fun c=>stoL c [.int .u32 x.1,.bool x.2.1,.int .i32 x.2.2.1,.int .i32 x.2.2.2] 0 <| idxW s.a s.n 4 je fun e=>stoL e [.int .u32 y.1,.bool y.2.1,.int .i32 y.2.2.1,.int .i32 y.2.2.2] 0 K) Q w:=by
 subst ei; subst ej
 refine rdAP h rfl hj (rdAP h rfl hi ?_)
 refine h.idx rfl (by omega) (by rw [Array.length_toList]; omega) fun g u hg hu _=>?_
 refine h.set rfl (by rw [Array.length_toList]; omega) hg d[j]! fun w4 o4 f4 _=>?_
 refine o4.idx rfl (by omega) (by rw [List.length_set,Array.length_toList]; omega) fun g2 u2 hg2 hu2 _=>?_
 refine o4.set rfl (by rw [List.length_set,Array.length_toList]; omega) hg2 d[i]! fun w5 o5 f5 _=>?_
 refine hk w5 ?_ (f4.then f5)
 show Den.Own S w5 45 plcT s (swp d i j).toList
 rw [swp,Zgx,Zgx]
 simpa using o5
theorem szsP (d:Array Plc) (i j:Nat):(swp d i j).size=d.size:=Go.Sort.size_swp d i j
theorem Zru (h:DAP S w s d) (hm:d.size≤1048576) {a b:Nat} (hab:a≤b) (hb:b≤d.size) {K:Res []→W R} (hk:∀ w',DAP S w' s (Go.Sort.insertionSort ltP d a b)→Fr (OwnB s) w w'→K () Q w') :
  callW Tryz.prog Z13 [.slice s.a s.n s.c,.int .i64 (a:Int),.int .i64 (b:Int),.func (.func Z1) #[] #[]] [] K Q w:=by
 refine Z1y _ _ _ K Q w ?_
 unfold Ze
 have hn:=h.n
 rw [show IntKind.wrap .i64 ((a:Int)+1)=((a+1:Nat):Int) by rw [w64 (by omega)]; rfl]
 refine loopI (fun i w'=>∃ (n:Nat) (d':Array Plc),i=(n:Int)∧a < n∧DAP S w' s d'∧d'.size=d.size∧Go.Sort.insOuter ltP a b n d'=Go.Sort.insertionSort ltP d a b∧Fr (OwnB s) w w') (fun i _=>b - i.toNat) ⟨a+1,d,rfl,by omega,h,rfl,rfl,Fr.refl _ _⟩ ?_
 rintro i w1 ⟨n,d',rfl,hn1,o1,hz,he,f1⟩
 refine condD (fun hlt=>?_) fun hge=>?_
 ·have hnb:n < b:=by have:(n:Int) < (b:Int):=hlt; omega
  refine loopI (fun j w'=>∃ (q:Nat) (e:Array Plc),j=(q:Int)∧q≤n∧DAP S w' s e∧e.size=d.size∧Go.Sort.insInner ltP a q e=Go.Sort.insInner ltP a n d'∧Fr (OwnB s) w w') (fun j _=>j.toNat) ⟨n,d',rfl,Nat.le_refl _,o1,hz,rfl,f1⟩ ?_
  rintro j w2 ⟨q,e,rfl,hq,o2,hz2,he2,f2⟩
  have fd:Fr None w2 w2.drew:=(Fr.refl _ _).drew
  have out:∀ {w':World},Fr None w2 w'→Go.Sort.insInner ltP a q e=e→∃ (n':Nat) (d':Array Plc),IntKind.wrap .i64 ((n:Int)+1)=(n':Int)∧a < n'∧DAP S w' s d'∧d'.size=d.size∧Go.Sort.insOuter ltP a b n' d'=Go.Sort.insertionSort ltP d a b∧Fr (OwnB s) w w':=fun f h=>by
   refine ⟨n+1,e,wsucc hnb (by omega),by omega,o2.none f,hz2,?_,f2.then f.any⟩
   rw [← he,← h,he2]
   conv=>rhs; rw [Go.Sort.insOuter,if_pos hnb]
  have meas:b - (IntKind.wrap .i64 ((n:Int)+1)).toNat < b - (n:Int).toNat:=by rw [wsucc hnb (by omega)]; omega
  refine joinI (fun z w'=>Fr None w2 w'∧((z=true∧∃ k,q=k+1∧Go.Sort.insInner ltP a q e=Go.Sort.insInner ltP a k (swp e (k+1) k))∨(z=false∧Go.Sort.insInner ltP a q e=e))) ?_ ?_
  ·refine condD (fun h0=>?_) fun h0=>⟨fd,.inr ⟨rfl,?_⟩⟩
   ·have h0:(q:Int) > (a:Int):=h0
    obtain ⟨k,rfl⟩:∃ k,q=k+1:=⟨q - 1,by omega⟩
    have e1:IntKind.wrap .i64 (((k+1:Nat):Int) - 1)=(k:Int):=by rw [w64 (by omega)]; omega
    refine rdAP (o2.none fd) rfl (by omega) (rdAP (o2.none fd) e1 (by omega) (Z46 fun z0 v0 hz0 fv=>⟨fd.then0 fv,?_⟩))
    have hdef:Go.Sort.insInner ltP a (k+1) e=if k+1 > a && ltP e[k+1]! e[k]! then Go.Sort.insInner ltP a k (swp e (k+1) k) else e:=rfl
    have hka:k+1 > a:=by omega
    cases hl:ltP e[k+1]! e[k]! with
    | true =>
     refine .inl ⟨hz0.trans hl,k,rfl,?_⟩
     rw [hdef,if_pos (by simp [hl,hka])]
    | false =>
     refine .inr ⟨hz0.trans hl,?_⟩
     rw [hdef,if_neg (by simp [hl])]
   ·have h0:¬ (q:Int) > (a:Int):=h0
    cases q with
    | zero=>rfl
    | succ k =>
     have hdef:Go.Sort.insInner ltP a (k+1) e=if k+1 > a && ltP e[k+1]! e[k]! then Go.Sort.insInner ltP a k (swp e (k+1) k) else e:=rfl
     rw [hdef,if_neg (by simp; omega)]
  ·rintro z w3 ⟨f3,⟨rfl,k,rfl,hx⟩ | ⟨rfl,hx⟩⟩
   ·have e1:IntKind.wrap .i64 (((k+1:Nat):Int) - 1)=(k:Int):=by rw [w64 (by omega)]; omega
    have fdd:=f3.then0 (Fr.refl None w3).drew
    refine condT rfl (swpAP (o2.none fdd) rfl e1 (by omega) (by omega) fun w4 o4 f4=>?_)
    refine ⟨⟨k,_,e1,by omega,o4,by rw [szsP]; exact hz2,by rw [← hx,he2],(f2.then fdd.any).then f4⟩,?_⟩
    rw [e1]; omega
   ·exact condF rfl ⟨out f3 hx,meas⟩
 ·have:¬ n < b:=fun h=>hge (show (n:Int) < (b:Int) by omega)
  refine hk w1 ?_ f1
  rw [← he,Go.Sort.insOuter,if_neg this]
  exact o1
end
end Go.Proofs.YtoiahhpgkoknfaaGreat
namespace Go.Proofs.YtoiahhpgkoknfaaGreat
open Go Go.RowKit Go.Proofs.YtoiahhpgkoknfaaGreat.Den
open Go.Sort (swp PermIn SortedIn)
variable {R:Type} {Q:R→World→Prop} {w:World}
section
variable {S:Nat→Prop} {s:Sl} {d:Array Plc}
theorem Zko (h:DAP S w s d) (hm:d.size≤1048576) {root hi first:Nat} (hf:first+hi≤d.size) (hr:root≤1048576) (_hr2:root < hi∨2 * root+1 ≥ hi) {K:Res []→W R} (hk:∀ w',DAP S w' s (Go.Sort.siftDown ltP hi first root d)→(Go.Sort.siftDown ltP hi first root d).size=d.size→Fr (OwnB s) w w'→K () Q w') :
  callW Tryz.prog Zy [.slice s.a s.n s.c,.int .i64 (root:Int),.int .i64 (hi:Int),.int .i64 (first:Int),.func (.func Z1) #[] #[]] [] K Q w:=by
 refine Z2g _ _ _ _ K Q w ?_
 unfold Zq
 refine loopI (fun i w'=>∃ (r:Nat) (e:Array Plc),i=(r:Int)∧r≤1048576∧DAP S w' s e∧e.size=d.size∧Go.Sort.siftDown ltP hi first r e=Go.Sort.siftDown ltP hi first root d∧Fr (OwnB s) w w') (fun i _=>hi - i.toNat) ⟨root,d,rfl,hr,h,rfl,rfl,Fr.refl _ _⟩ ?_
 rintro i w1 ⟨r,e,rfl,hr,o1,hz,he,f1⟩
 have e2:IntKind.wrap .i64 (IntKind.wrap .i64 (2 * (r:Int))+1)=((2 * r+1:Nat):Int):=by rw [wn (x:=2 * (r:Int)) (n:=2 * r) (by omega) (by omega)]; exact wn (by omega) (by omega)
 have e3:IntKind.wrap .i64 (IntKind.wrap .i64 (IntKind.wrap .i64 (2 * (r:Int))+1)+1)=((2 * r+2:Nat):Int):=by rw [e2]; exact wn (by omega) (by omega)
 rw [e3,e2]
 refine condD (fun hge=>?_) fun hlt=>?_
 ·have hge:(((2 * r+1:Nat):Int)) ≥ (hi:Int):=hge
  rw [Go.Sort.siftDown,dif_pos (show 2 * r+1 ≥ hi by omega)] at he
  rw [← he] at hk
  exact hk w1 o1 hz f1
 ·have hlt:¬ (((2 * r+1:Nat):Int)) ≥ (hi:Int):=hlt
  have hr2:2 * r+1 < hi:=by omega
  have e4:IntKind.wrap .i64 ((first:Int)+((2 * r+1:Nat):Int))=((first+(2 * r+1):Nat):Int):=wn (by omega) (by omega)
  have e5:IntKind.wrap .i64 (((first+(2 * r+1):Nat):Int)+1)=((first+(2 * r+1)+1:Nat):Int):=wn (by omega) (by omega)
  have hdef:=Go.Sort.siftDown.eq_def ltP hi first r e
  rw [dif_neg (show ¬ 2 * r+1 ≥ hi by omega)] at hdef
  have fd:Fr None w1 w1.drew:=(Fr.refl _ _).drew
  refine joinI (fun z w'=>Fr None w1 w'∧z=(decide (2 * r+1+1 < hi) && ltP e[first+(2 * r+1)]! e[first+(2 * r+1)+1]!)) ?_ ?_
  ·refine condD (fun h1=>?_) fun h1=>⟨fd,?_⟩
   ·have h1:((2 * r+2:Nat):Int) < (hi:Int):=h1
    refine rdAP (o1.none fd) e4 (by omega) (rdAP (o1.none fd) (by rw [e4]; exact e5) (by omega) (Z46 fun z0 v0 hz0 fv=>⟨fd.then0 fv,?_⟩))
    rw [decide_eq_true (show 2 * r+1+1 < hi by omega),hz0]
    rfl
   ·have h1:¬ ((2 * r+2:Nat):Int) < (hi:Int):=h1
    rw [decide_eq_false (show ¬ 2 * r+1+1 < hi by omega)]
    rfl
  rintro z w2 ⟨f2,hz1⟩
  rw [← hz1] at hdef
  refine joinI (fun (c:Int) w'=>Fr None w1 w'∧∃ q:Nat,c=(q:Int)∧r < q∧q < hi∧Go.Sort.siftDown ltP hi first r e=if !ltP e[first+r]! e[first+q]! then e else Go.Sort.siftDown ltP hi first q (swp e (first+r) (first+q))) ?_ ?_
  ·cases z with
   | true =>
    simp only [if_true] at hdef
    have hq:2 * r+2 < hi:=by
     have:=hz1.symm
     simp only [Bool.and_eq_true,decide_eq_true_eq] at this
     omega
    rw [dif_pos hq] at hdef
    exact ⟨f2,2 * r+2,rfl,by omega,hq,hdef⟩
   | false =>
    simp only [Bool.false_eq_true,if_false] at hdef
    exact ⟨f2,2 * r+1,rfl,by omega,by omega,hdef⟩
  rintro c w3 ⟨f3,q,rfl,hrq,hq,hdef2⟩
  have e6:IntKind.wrap .i64 ((first:Int)+(r:Int))=((first+r:Nat):Int):=wn (by omega) (by omega)
  have e7:IntKind.wrap .i64 ((first:Int)+(q:Int))=((first+q:Nat):Int):=wn (by omega) (by omega)
  have fd2:=f3.then0 (Fr.refl None w3).drew
  refine rdAP (o1.none fd2) e6 (by omega) (rdAP (o1.none fd2) e7 (by omega) (Z46 fun z0 v0 hz0 fv=>?_))
  rw [hz0]
  have fd2:=fd2.then0 fv
  refine condI (fun hb=>?_) fun hb=>?_
  ·rw [if_pos (show (!ltP e[first+r]! e[first+q]!)=true from hb)] at hdef2
   rw [hdef2] at he
   rw [← he] at hk
   exact hk _ (o1.none fd2) hz (f1.then fd2.any)
  ·rw [if_neg (show ¬ (!ltP e[first+r]! e[first+q]!)=true from fun h=>by rw [show (!ltP e[first+r]! e[first+q]!)=false from hb] at h; cases h)] at hdef2
   have fd3:=fd2.then0 (Fr.refl None _).drew
   refine swpAP (o1.none fd3) e6 e7 (by omega) (by omega) fun w4 o4 f4=>⟨⟨q,_,rfl,by omega,o4,by rw [szsP]; exact hz,by rw [← hdef2,he],(f1.then fd3.any).then f4⟩,by omega⟩
theorem Zqa (h:DAP S w s d) (hm:d.size≤1048576) {a b:Nat} (hab:a < b) (hb:b≤d.size) {K:Res []→W R} (hk:∀ w',DAP S w' s (Go.Sort.heapSort ltP d a b)→Fr (OwnB s) w w'→K () Q w') :
  callW Tryz.prog Z1u [.slice s.a s.n s.c,.int .i64 (a:Int),.int .i64 (b:Int),.func (.func Z1) #[] #[]] [] K Q w:=by
 refine Z2f _ _ _ K Q w ?_
 unfold Zp
 have e1:IntKind.wrap .i64 ((b:Int) - (a:Int))=((b - a:Nat):Int):=wn (by omega) (by omega)
 have e2:IntKind.wrap .i64 (((b - a:Nat):Int) - 1)=((b - a - 1:Nat):Int):=wn (by omega) (by omega)
 have e3:IntKind.wrap .i64 (Int.tdiv ((b - a - 1:Nat):Int) 2)=(((b - a - 1) / 2:Nat):Int):=wn (by rw [Int.tdiv_eq_ediv_of_nonneg (by omega)]; omega) (by omega)
 rw [e1,e2,e3]
 refine loopI (fun i w'=>∃ (k:Nat) (e:Array Plc),i=(k:Int) - 1∧k≤(b - a - 1) / 2+1∧DAP S w' s e∧e.size=d.size∧Go.Sort.heapBuild ltP (b - a) a k e=Go.Sort.heapBuild ltP (b - a) a ((b - a - 1) / 2+1) d∧Fr (OwnB s) w w') (fun i _=>(i+1).toNat) ⟨(b - a - 1) / 2+1,d,by omega,Nat.le_refl _,h,rfl,rfl,Fr.refl _ _⟩ ?_
 rintro i w1 ⟨k,e,rfl,hk1,o1,hz,he,f1⟩
 refine condD (fun hge=>?_) fun hlt=>?_
 ·have hge:(k:Int) - 1 ≥ 0:=hge
  obtain ⟨q,rfl⟩:∃ q,k=q+1:=⟨k - 1,by omega⟩
  rw [show (((q+1:Nat):Int) - 1)=(q:Int) by omega]
  refine Zko o1 (by omega) (by omega) (by omega) (by omega) fun w2 o2 hz2 f2=>?_
  have e4:IntKind.wrap .i64 ((q:Int) - 1)=(q:Int) - 1:=w64 (by omega)
  rw [e4]
  exact ⟨⟨q,_,rfl,by omega,o2,by rw [hz2]; exact hz,by rw [← he]; rfl,f1.then f2⟩,by omega⟩
 ·have hlt:¬ (k:Int) - 1 ≥ 0:=hlt
  have hk0:k=0:=by omega
  subst hk0
  have he:e=Go.Sort.heapBuild ltP (b - a) a ((b - a - 1) / 2+1) d:=he
  refine loopI (fun i w'=>∃ (k:Nat) (g:Array Plc),i=(k:Int) - 1∧k≤b - a∧DAP S w' s g∧g.size=d.size∧Go.Sort.heapPop ltP a k g=Go.Sort.heapSort ltP d a b∧Fr (OwnB s) w w') (fun i _=>(i+1).toNat) ⟨b - a,e,by omega,Nat.le_refl _,o1,hz,by rw [Go.Sort.heapSort,← he],f1⟩ ?_
  rintro i w2 ⟨k,g,rfl,hk2,o2,hz2,he2,f2⟩
  refine condD (fun hge=>?_) fun hlt=>?_
  ·have hge:(k:Int) - 1 ≥ 0:=hge
   obtain ⟨q,rfl⟩:∃ q,k=q+1:=⟨k - 1,by omega⟩
   rw [show (((q+1:Nat):Int) - 1)=(q:Int) by omega]
   have fd:Fr None w2 w2.drew:=(Fr.refl _ _).drew
   have e5:IntKind.wrap .i64 ((a:Int)+(q:Int))=((a+q:Nat):Int):=wn (by omega) (by omega)
   refine swpAP (o2.none fd) rfl e5 (by omega) (by omega) fun w3 o3 f3=>?_
   refine Zko (root:=0) (hi:=q) (first:=a) o3 (by rw [szsP]; omega) (by rw [szsP]; omega) (by omega) (by omega) fun w4 o4 hz4 f4=>?_
   have e4:IntKind.wrap .i64 ((q:Int) - 1)=(q:Int) - 1:=w64 (by omega)
   rw [e4]
   exact ⟨⟨q,_,rfl,by omega,o4,by rw [hz4,szsP]; exact hz2,by rw [← he2]; rfl,((f2.then fd.any).then f3).then f4⟩,by omega⟩
  ·have hlt:¬ (k:Int) - 1 ≥ 0:=hlt
   have hk0:k=0:=by omega
   subst hk0
   rw [← he2] at hk
   exact hk w2 o2 f2
theorem Zlu (h:DAP S w s d) (hm:d.size≤1048576) {a b:Nat} (hab:a < b) (hb:b≤d.size) {K:Res []→W R} (hk:∀ d' w',DAP S w' s d'→PermIn a b d d'→Fr (OwnB s) w w'→K () Q w') :
  callW Tryz.prog Z1c [.slice s.a s.n s.c,.int .i64 (a:Int),.int .i64 (b:Int),.func (.func Z1) #[] #[]] [] K Q w:=by
 refine Z22 _ _ _ K Q w ?_
 unfold Zf
 have e1:IntKind.wrap .i64 ((b:Int) - 1)=((b - 1:Nat):Int):=wn (by omega) (by omega)
 rw [e1]
 refine loopI (fun (st:Int × Int) w'=>∃ (i j:Nat) (e:Array Plc),st=((i:Int),(j:Int))∧a≤i∧i≤b∧j < b∧DAP S w' s e∧PermIn a b d e∧Fr (OwnB s) w w') (fun st _=>(st.2 - st.1).toNat) ⟨a,b - 1,d,rfl,Nat.le_refl _,by omega,by omega,h,Go.Sort.permIn_refl _ _ _,Fr.refl _ _⟩ ?_
 rintro st w1 ⟨i,j,e,rfl,h1,h2,h3,o1,hp,f1⟩
 have hz:e.size=d.size:=hp.1
 refine condD (fun hlt=>?_) fun hge=>hk e w1 o1 hp f1
 have hlt:(i:Int) < (j:Int):=hlt
 have fd:Fr None w1 w1.drew:=(Fr.refl _ _).drew
 refine swpAP (o1.none fd) rfl rfl (by omega) (by omega) fun w2 o2 f2=>?_
 have e2:IntKind.wrap .i64 ((i:Int)+1)=((i+1:Nat):Int):=wn (by omega) (by omega)
 have e3:IntKind.wrap .i64 ((j:Int) - 1)=((j - 1:Nat):Int):=wn (by omega) (by omega)
 rw [e2,e3]
 refine ⟨⟨i+1,j - 1,_,rfl,by omega,by omega,by omega,o2,Go.Sort.permIn_trans _ _ _ _ _ hp (Go.Sort.swp_permIn _ _ _ _ _ (by omega) (by omega) (by omega) (by omega) (by omega)),(f1.then fd.any).then f2⟩,?_⟩
 show (((j - 1:Nat):Int) - ((i+1:Nat):Int)).toNat < ((j:Int) - (i:Int)).toNat
 omega
theorem scanUpIP (p:Plc→Bool) (d:Array Plc) {jhi:Int} {j:Nat} (hj:jhi=(j:Int)) (hjm:j≤1048576) {body:Int→(Bool→W R)→W R} {done:Int→W R} {i0:Nat} (hi0:i0≤1048577)
  (hb:∀ i w' J,i0≤i→i≤j→Fr None w w'→(∀ w'',Fr None w' w''→J (p d[i]!) Q w'')→body (i:Int) J Q w') (hd:∀ w',Fr None w w'→done ((Go.Sort.scanUp p d j i0:Nat):Int) Q w') :
  loopW (fun K i=>joinW (σ:=Bool) (fun J=>drawW (cond (decide (i≤jhi)) (body i J) (J false))) fun b=>cond b (K (IntKind.wrap .i64 (i+1))) (done i)) (i0:Int) Q w:=by
 subst hj
 refine loopI (fun i w'=>∃ q:Nat,i=(q:Int)∧i0≤q∧q≤1048577∧Go.Sort.scanUp p d j q=Go.Sort.scanUp p d j i0∧Fr None w w') (fun i _=>j+1 - i.toNat) ⟨i0,rfl,Nat.le_refl _,hi0,rfl,Fr.refl _ _⟩ ?_
 rintro i w1 ⟨q,rfl,hq0,hq,he,f1⟩
 have f1d:=f1.then0 (Fr.refl None w1).drew
 have hdef:=Go.Sort.scanUp.eq_def p d j q
 refine joinI (fun z w'=>Fr None w w'∧z=(decide (q≤j) && p d[q]!)) ?_ ?_
 ·refine condD (fun h1=>?_) fun h1=>⟨f1d,?_⟩
  ·have h1:(q:Int)≤(j:Int):=h1
   refine hb q _ _ hq0 (by omega) f1d fun v0 fv=>⟨f1d.then0 fv,?_⟩
   rw [decide_eq_true (show q≤j by omega)]; rfl
  ·have h1:¬ (q:Int)≤(j:Int):=h1
   rw [decide_eq_false (show ¬ q≤j by omega)]; rfl
 ·rintro z w2 ⟨f2,hz⟩
  rw [← hz] at hdef
  cases z with
  | true =>
   simp only [if_true] at hdef
   have hqj:q≤j:=by
    have:=hz.symm
    simp only [Bool.and_eq_true,decide_eq_true_eq] at this
    exact this.1
   have e1:IntKind.wrap .i64 ((q:Int)+1)=((q+1:Nat):Int):=wn (by omega) (by omega)
   exact condT rfl ⟨⟨q+1,e1,by omega,by omega,by rw [← hdef,he],f2⟩,by rw [e1]; omega⟩
  | false =>
   simp only [Bool.false_eq_true,if_false] at hdef
   have:=hd w2 f2
   rw [← he,hdef] at this
   exact condF rfl this
theorem scanDownIP (p:Plc→Bool) (d:Array Plc) {ilo:Int} {i:Nat} (hi:ilo=(i:Int)) (hi1:1≤i) {body:Int→(Bool→W R)→W R} {done:Int→W R} {j0:Nat} (hj0:j0≤1048577)
  (hb:∀ j w' J,i≤j→j≤j0→Fr None w w'→(∀ w'',Fr None w' w''→J (p d[j]!) Q w'')→body (j:Int) J Q w') (hd:∀ w',Fr None w w'→done ((Go.Sort.scanDown p d i j0:Nat):Int) Q w') :
  loopW (fun K j=>joinW (σ:=Bool) (fun J=>drawW (cond (decide (ilo≤j)) (body j J) (J false))) fun b=>cond b (K (IntKind.wrap .i64 (j - 1))) (done j)) (j0:Int) Q w:=by
 subst hi
 refine loopI (fun j w'=>∃ q:Nat,j=(q:Int)∧q≤j0∧Go.Sort.scanDown p d i q=Go.Sort.scanDown p d i j0∧Fr None w w') (fun j _=>j.toNat) ⟨j0,rfl,Nat.le_refl _,rfl,Fr.refl _ _⟩ ?_
 rintro j w1 ⟨q,rfl,hq,he,f1⟩
 have f1d:=f1.then0 (Fr.refl None w1).drew
 refine joinI (fun z w'=>Fr None w w'∧z=(decide (i≤q) && p d[q]!)) ?_ ?_
 ·refine condD (fun h1=>?_) fun h1=>⟨f1d,?_⟩
  ·have h1:(i:Int)≤(q:Int):=h1
   refine hb q _ _ (by omega) hq f1d fun v0 fv=>⟨f1d.then0 fv,?_⟩
   rw [decide_eq_true (show i≤q by omega)]; rfl
  ·have h1:¬ (i:Int)≤(q:Int):=h1
   rw [decide_eq_false (show ¬ i≤q by omega)]; rfl
 ·rintro z w2 ⟨f2,hz⟩
  cases q with
  | zero =>
   have:z=false:=by rw [hz,decide_eq_false (by omega)]; rfl
   subst this
   have:=hd w2 f2
   rw [← he] at this
   exact condF rfl this
  | succ q =>
   have hdef:Go.Sort.scanDown p d i (q+1)=if (decide (i≤q+1) && p d[q+1]!)=true then Go.Sort.scanDown p d i q else q+1:=rfl
   rw [← hz] at hdef
   cases z with
   | true =>
    simp only [if_true] at hdef
    have e1:IntKind.wrap .i64 (((q+1:Nat):Int) - 1)=(q:Int):=wn (by omega) (by omega)
    exact condT rfl ⟨⟨q,e1,by omega,by rw [← hdef,he],f2⟩,by rw [e1]; omega⟩
   | false =>
    simp only [Bool.false_eq_true,if_false] at hdef
    have:=hd w2 f2
    rw [← he,hdef] at this
    exact condF rfl this
end
end Go.Proofs.YtoiahhpgkoknfaaGreat
namespace Go.Proofs.YtoiahhpgkoknfaaGreat
open Go Go.RowKit Go.Proofs.YtoiahhpgkoknfaaGreat.Den
open Go.Sort (swp PermIn SortedIn)
variable {R:Type} {Q:R→World→Prop} {w:World}
section
variable {S:Nat→Prop} {s:Sl} {d:Array Plc}
theorem Zmy (h:DAP S w s d) (hm:d.size≤1048576) {a b pivot:Nat} (h1:a≤pivot) (h2:pivot < b) (hb:b≤d.size) {K:Res [.sc (.int .i64)]→W R}
  (hk:∀ w',DAP S w' s (Go.Sort.partitionEqual ltP d a b pivot).2→Fr (OwnB s) w w'→K ((Go.Sort.partitionEqual ltP d a b pivot).1:Int) Q w') :
  callW Tryz.prog Zz [.slice s.a s.n s.c,.int .i64 (a:Int),.int .i64 (b:Int),.int .i64 (pivot:Int),.func (.func Z1) #[] #[]] [.sc (.int .i64)] K Q w:=by
 refine Z1t _ _ _ _ K Q w ?_
 unfold Zb
 have fd:Fr None w w.drew:=(Fr.refl _ _).drew
 refine swpAP (h.none fd) rfl rfl (by omega) (by omega) fun w1 o1 f1=>?_
 have e1:IntKind.wrap .i64 ((a:Int)+1)=((a+1:Nat):Int):=wn (by omega) (by omega)
 have e2:IntKind.wrap .i64 ((b:Int) - 1)=((b - 1:Nat):Int):=wn (by omega) (by omega)
 rw [e1,e2]
 generalize hr:Go.Sort.partitionEqual ltP d a b pivot=r at hk
 refine loopI (fun (st:Int × Int) w'=>∃ (i j:Nat) (e:Array Plc),st=((i:Int),(j:Int))∧a < i∧i≤b∧j < b∧DAP S w' s e∧e.size=d.size∧Go.Sort.partEqLoop ltP a i j e=r∧Fr (OwnB s) w w') (fun st _=>(st.2+1 - st.1).toNat)
  ⟨a+1,b - 1,_,rfl,by omega,by omega,by omega,o1,szsP _ _ _,by rw [← hr]; rfl,fd.any.then f1⟩ ?_
 rintro st w2 ⟨i,j,e,rfl,hi,hib,hj,o2,hz,he,f2⟩
 have hdef:=Go.Sort.partEqLoop_eq ltP a i j e
 refine scanUpIP (fun x=>!ltP e[a]! x) e (jhi:=(j:Int)) rfl (by omega) (i0:=i) (by omega) (fun q w' J h1 h2 f hJ=>?_) fun w3 f3=>?_
 ·exact rdAP (o2.none f) rfl (by omega) (rdAP (o2.none f) rfl (by omega) (Z46 fun z0 v0 hz0 fv=>by rw [hz0]; exact hJ _ fv))
 have hge:=Go.Sort.scanUp_ge (fun x=>!ltP e[a]! x) e j i
 generalize Go.Sort.scanUp (fun x=>!ltP e[a]! x) e j i=i2 at hdef hge ⊢
 refine scanDownIP (fun x=>ltP e[a]! x) e (ilo:=(i2:Int)) rfl (by omega) (j0:=j) (by omega) (fun q w' J h1 h2 f hJ=>?_) fun w4 f4=>?_
 ·exact rdAP ((o2.none f3).none f) rfl (by omega) (rdAP ((o2.none f3).none f) rfl (by omega) (Z46 fun z0 v0 hz0 fv=>by rw [hz0]; exact hJ _ fv))
 have hle:=Go.Sort.scanDown_le (fun x=>ltP e[a]! x) e i2 j
 generalize Go.Sort.scanDown (fun x=>ltP e[a]! x) e i2 j=j2 at hdef hle ⊢
 have f24:=f3.then0 f4
 refine condD (fun hgt=>?_) fun hgt=>?_
 ·have hgt:(i2:Int) > (j2:Int):=hgt
  rw [if_pos (show i2 > j2 by omega)] at hdef
  have:r=(i2,e):=by rw [← he,hdef]
  subst this
  exact hk w4 (o2.none f24) (f2.then f24.any)
 ·have hgt:¬ (i2:Int) > (j2:Int):=hgt
  rw [if_neg (show ¬ i2 > j2 by omega)] at hdef
  have fd4:Fr None w4 w4.drew:=(Fr.refl _ _).drew
  refine swpAP ((o2.none f24).none fd4) rfl rfl (by omega) (by omega) fun w5 o5 f5=>?_
  have e3:IntKind.wrap .i64 ((i2:Int)+1)=((i2+1:Nat):Int):=wn (by omega) (by omega)
  have e4:IntKind.wrap .i64 ((j2:Int) - 1)=((j2 - 1:Nat):Int):=wn (by omega) (by omega)
  rw [e3,e4]
  refine ⟨⟨i2+1,j2 - 1,_,rfl,by omega,by omega,by omega,o5,by rw [szsP]; exact hz,by rw [← hdef,he],(f2.then (f24.then0 fd4).any).then f5⟩,?_⟩
  show (((j2 - 1:Nat):Int)+1 - ((i2+1:Nat):Int)).toNat < ((j:Int)+1 - (i:Int)).toNat
  omega
theorem Zqb (h:DAP S w s d) (hm:d.size≤1048576) {a b pivot:Nat} (h1:a≤pivot) (h2:pivot < b) (hb:b≤d.size) {K:Res [.sc (.int .i64),.sc .bool]→W R}
  (hk:∀ w',DAP S w' s (Go.Sort.partition ltP d a b pivot).2.2→Fr (OwnB s) w w'→K (((Go.Sort.partition ltP d a b pivot).1:Int),(Go.Sort.partition ltP d a b pivot).2.1) Q w') :
  callW Tryz.prog Z1p [.slice s.a s.n s.c,.int .i64 (a:Int),.int .i64 (b:Int),.int .i64 (pivot:Int),.func (.func Z1) #[] #[]] [.sc (.int .i64),.sc .bool] K Q w:=by
 refine Z2c _ _ _ _ K Q w ?_
 unfold Zo
 have fd:Fr None w w.drew:=(Fr.refl _ _).drew
 refine swpAP (h.none fd) rfl rfl (by omega) (by omega) fun w1 o1 f1=>?_
 have e1:IntKind.wrap .i64 ((a:Int)+1)=((a+1:Nat):Int):=wn (by omega) (by omega)
 have e2:IntKind.wrap .i64 ((b:Int) - 1)=((b - 1:Nat):Int):=wn (by omega) (by omega)
 rw [e1,e2]
 have hr:Go.Sort.partition ltP d a b pivot=if Go.Sort.scanUp (fun x=>ltP x (swp d a pivot)[a]!) (swp d a pivot) (b - 1) (a+1) > Go.Sort.scanDown (fun x=>!ltP x (swp d a pivot)[a]!) (swp d a pivot) (Go.Sort.scanUp (fun x=>ltP x (swp d a pivot)[a]!) (swp d a pivot) (b - 1) (a+1)) (b - 1) then _ else _:=rfl
 generalize Go.Sort.partition ltP d a b pivot=r at hk hr
 have hze:=szsP d a pivot
 generalize swp d a pivot=e at o1 hr hze
 have f01:=fd.any.then f1
 refine scanUpIP (fun x=>ltP x e[a]!) e (jhi:=((b - 1:Nat):Int)) rfl (by omega) (i0:=a+1) (by omega) (fun q w' J h1 h2 f hJ=>?_) fun w3 f3=>?_
 ·exact rdAP (o1.none f) rfl (by omega) (rdAP (o1.none f) rfl (by omega) (Z46 fun z0 v0 hz0 fv=>by rw [hz0]; exact hJ _ fv))
 have hge:=Go.Sort.scanUp_ge (fun x=>ltP x e[a]!) e (b - 1) (a+1)
 generalize Go.Sort.scanUp (fun x=>ltP x e[a]!) e (b - 1) (a+1)=i2 at hr hge ⊢
 refine scanDownIP (fun x=>!ltP x e[a]!) e (ilo:=(i2:Int)) rfl (by omega) (j0:=b - 1) (by omega) (fun q w' J h1 h2 f hJ=>?_) fun w4 f4=>?_
 ·exact rdAP ((o1.none f3).none f) rfl (by omega) (rdAP ((o1.none f3).none f) rfl (by omega) (Z46 fun z0 v0 hz0 fv=>by rw [hz0]; exact hJ _ fv))
 have hle:=Go.Sort.scanDown_le (fun x=>!ltP x e[a]!) e i2 (b - 1)
 generalize Go.Sort.scanDown (fun x=>!ltP x e[a]!) e i2 (b - 1)=j2 at hr hle ⊢
 have f14:=f3.then0 f4
 have fd4:Fr None w4 w4.drew:=(Fr.refl _ _).drew
 have o4:=(o1.none f14).none fd4
 have f04:=f01.then (f14.then0 fd4).any
 refine condD (fun hgt=>?_) fun hgt=>?_
 ·have hgt:(i2:Int) > (j2:Int):=hgt
  rw [if_pos (show i2 > j2 by omega)] at hr
  subst hr
  exact swpAP o4 rfl rfl (by omega) (by omega) fun w5 o5 f5=>hk w5 o5 (f04.then f5)
 ·have hgt:¬ (i2:Int) > (j2:Int):=hgt
  rw [if_neg (show ¬ i2 > j2 by omega)] at hr
  refine swpAP o4 rfl rfl (by omega) (by omega) fun w5 o5 f5=>?_
  have e3:IntKind.wrap .i64 ((i2:Int)+1)=((i2+1:Nat):Int):=wn (by omega) (by omega)
  have e4:IntKind.wrap .i64 ((j2:Int) - 1)=((j2 - 1:Nat):Int):=wn (by omega) (by omega)
  rw [e3,e4]
  generalize hrr:Go.Sort.partLoop ltP a (i2+1) (j2 - 1) (swp e i2 j2)=rr at hr
  refine loopI (fun (st:Int × Int) w'=>∃ (i j:Nat) (g:Array Plc),st=((i:Int),(j:Int))∧a < i∧i≤b∧j < b∧DAP S w' s g∧g.size=d.size∧Go.Sort.partLoop ltP a i j g=rr∧Fr (OwnB s) w w') (fun st _=>(st.2+1 - st.1).toNat)
   ⟨i2+1,j2 - 1,_,rfl,by omega,by omega,by omega,o5,by rw [szsP]; exact hze,hrr,f04.then f5⟩ ?_
  rintro st w6 ⟨i,j,g,rfl,hi,hib,hj,o6,hz,he,f6⟩
  have hdef:=Go.Sort.partLoop_eq ltP a i j g
  refine scanUpIP (fun x=>ltP x g[a]!) g (jhi:=(j:Int)) rfl (by omega) (i0:=i) (by omega) (fun q w' J h1 h2 f hJ=>?_) fun w7 f7=>?_
  ·exact rdAP (o6.none f) rfl (by omega) (rdAP (o6.none f) rfl (by omega) (Z46 fun z0 v0 hz0 fv=>by rw [hz0]; exact hJ _ fv))
  have hge2:=Go.Sort.scanUp_ge (fun x=>ltP x g[a]!) g j i
  generalize Go.Sort.scanUp (fun x=>ltP x g[a]!) g j i=i3 at hdef hge2 ⊢
  refine scanDownIP (fun x=>!ltP x g[a]!) g (ilo:=(i3:Int)) rfl (by omega) (j0:=j) (by omega) (fun q w' J h1 h2 f hJ=>?_) fun w8 f8=>?_
  ·exact rdAP ((o6.none f7).none f) rfl (by omega) (rdAP ((o6.none f7).none f) rfl (by omega) (Z46 fun z0 v0 hz0 fv=>by rw [hz0]; exact hJ _ fv))
  have hle2:=Go.Sort.scanDown_le (fun x=>!ltP x g[a]!) g i3 j
  generalize Go.Sort.scanDown (fun x=>!ltP x g[a]!) g i3 j=j3 at hdef hle2 ⊢
  have f68:=f7.then0 f8
  have fd8:Fr None w8 w8.drew:=(Fr.refl _ _).drew
  have o8:=(o6.none f68).none fd8
  have f08:=f6.then (f68.then0 fd8).any
  refine condD (fun hgt=>?_) fun hgt=>?_
  ·have hgt:(i3:Int) > (j3:Int):=hgt
   rw [if_pos (show i3 > j3 by omega)] at hdef
   have:rr=(j3,g):=by rw [← he,hdef]
   subst this
   subst hr
   exact swpAP o8 rfl rfl (by omega) (by omega) fun w9 o9 f9=>hk w9 o9 (f08.then f9)
  ·have hgt:¬ (i3:Int) > (j3:Int):=hgt
   rw [if_neg (show ¬ i3 > j3 by omega)] at hdef
   refine swpAP o8 rfl rfl (by omega) (by omega) fun w9 o9 f9=>?_
   have e5:IntKind.wrap .i64 ((i3:Int)+1)=((i3+1:Nat):Int):=wn (by omega) (by omega)
   have e6:IntKind.wrap .i64 ((j3:Int) - 1)=((j3 - 1:Nat):Int):=wn (by omega) (by omega)
   rw [e5,e6]
   refine ⟨⟨i3+1,j3 - 1,_,rfl,by omega,by omega,by omega,o9,by rw [szsP]; exact hz,by rw [← hdef,he],f08.then f9⟩,?_⟩
   show (((j3 - 1:Nat):Int)+1 - ((i3+1:Nat):Int)).toNat < ((j:Int)+1 - (i:Int)).toNat
   omega
theorem Zd7 (d:Array Plc) (b:Nat):∀ (n i:Nat),b - i≤n→i≤Go.Sort.scanSorted ltP d b i∧(i≤b→Go.Sort.scanSorted ltP d b i≤b)
 | 0,i,hn=>by
  rw [Go.Sort.scanSorted,if_neg (by simp; omega)]; exact ⟨Nat.le_refl _,fun h=>h⟩
 | n+1,i,hn=>by
  rw [Go.Sort.scanSorted]
  split
  ·rename_i h
   have hib:i < b:=by simp only [Bool.and_eq_true,decide_eq_true_eq] at h; exact h.1
   obtain ⟨h1,h2⟩:=Zd7 d b n (i+1) (by omega)
   exact ⟨by omega,fun _=>h2 (by omega)⟩
  ·exact ⟨Nat.le_refl _,fun h=>h⟩
theorem Zlr (h:DAP S w s d) (hm:d.size≤1048576) {a b:Nat} (hab:a < b) (hb:b≤d.size) {K:Res [.sc .bool]→W R}
  (hk:∀ w',DAP S w' s (Go.Sort.partialInsertionSort ltP d a b).1→Fr (OwnB s) w w'→K (Go.Sort.partialInsertionSort ltP d a b).2 Q w') :
  callW Tryz.prog Zg [.slice s.a s.n s.c,.int .i64 (a:Int),.int .i64 (b:Int),.func (.func Z1) #[] #[]] [.sc .bool] K Q w:=by
 refine Z1e _ _ _ K Q w ?_
 unfold Z8
 have e1:IntKind.wrap .i64 ((a:Int)+1)=((a+1:Nat):Int):=wn (by omega) (by omega)
 have e2:IntKind.wrap .i64 ((b:Int) - (a:Int))=((b - a:Nat):Int):=wn (by omega) (by omega)
 rw [e1,e2]
 generalize hr:Go.Sort.partialInsertionSort ltP d a b=r at hk
 refine loopI (fun (st:Int × Int) w'=>∃ (i n:Nat) (e:Array Plc),st=((i:Int),5 - (n:Int))∧a < i∧i≤b∧n≤5∧DAP S w' s e∧e.size=d.size∧Go.Sort.partialIns ltP a b n i e=r∧Fr (OwnB s) w w') (fun st _=>(5 - st.2).toNat)
  ⟨a+1,5,d,rfl,by omega,by omega,by omega,h,rfl,by rw [← hr]; rfl,Fr.refl _ _⟩ ?_
 rintro st w1 ⟨i,n,e,rfl,hi,hib,hn,o1,hz,he,f1⟩
 refine condD (fun hlt=>?_) fun hge=>?_
 rotate_left
 ·have hge:¬ (5 - (n:Int)) < 5:=hge
  have:n=0:=by omega
  subst this
  have he:(e,false)=r:=he
  subst he
  exact hk w1 o1 f1
 have hlt:(5 - (n:Int)) < 5:=hlt
 obtain ⟨m,rfl⟩:∃ m,n=m+1:=⟨n - 1,by omega⟩
 have hdef:=Go.Sort.partialIns_succ (lt:=ltP) a b m i e
 have hsc:=Zd7 e b (b - i) i (Nat.le_refl _)
 refine loopI (fun q w'=>∃ q':Nat,q=(q':Int)∧i≤q'∧q'≤b∧Go.Sort.scanSorted ltP e b q'=Go.Sort.scanSorted ltP e b i∧Fr None w1 w') (fun q _=>b - q.toNat) ⟨i,rfl,Nat.le_refl _,hib,rfl,Fr.refl _ _⟩ ?_
 rintro q w2 ⟨q',rfl,hq1,hq2,heq,f2⟩
 have f2d:=f2.then0 (Fr.refl None w2).drew
 have hdq:=Go.Sort.scanSorted.eq_def ltP e b q'
 have e3:IntKind.wrap .i64 ((q':Int) - 1)=((q' - 1:Nat):Int):=wn (by omega) (by omega)
 refine joinI (fun z w'=>Fr None w1 w'∧z=(decide (q' < b) && !ltP e[q']! e[q' - 1]!)) ?_ ?_
 ·refine condD (fun h1=>?_) fun h1=>⟨f2d,?_⟩
  ·have h1:(q':Int) < (b:Int):=h1
   refine rdAP (o1.none f2d) rfl (by omega) (rdAP (o1.none f2d) e3 (by omega) (Z46 fun z0 v0 hz0 fv=>⟨f2d.then0 fv,?_⟩))
   rw [decide_eq_true (show q' < b by omega),hz0]; rfl
  ·have h1:¬ (q':Int) < (b:Int):=h1
   rw [decide_eq_false (show ¬ q' < b by omega)]; rfl
 rintro z w3 ⟨f3,hzz⟩
 rw [← hzz] at hdq
 cases z with
 | true =>
  simp only [if_true] at hdq
  have hqb:q' < b:=by
   have:=hzz.symm
   simp only [Bool.and_eq_true,decide_eq_true_eq] at this
   exact this.1
  have e4:IntKind.wrap .i64 ((q':Int)+1)=((q'+1:Nat):Int):=wn (by omega) (by omega)
  exact condT rfl ⟨⟨q'+1,e4,by omega,by omega,by rw [← hdq,heq],f3⟩,by rw [e4]; omega⟩
 | false =>
  simp only [Bool.false_eq_true,if_false] at hdq
  rw [← heq,hdq] at hdef
  refine condF rfl ?_
  have o3:=o1.none f3
  have f03:=f1.then f3.any
  refine condE (fun eqb=>?_) fun neb=>?_
  ·have eqb:q'=b:=by omega
   rw [if_pos eqb] at hdef
   have:r=(e,true):=by rw [← he,hdef]
   subst this
   exact hk w3 o3 f03
  have neb:¬ q'=b:=fun h=>neb (by rw [h])
  rw [if_neg neb] at hdef
  refine condD (fun h50=>?_) fun h50=>?_
  ·have h50:((b - a:Nat):Int) < 50:=h50
   rw [if_pos (show b - a < 50 by omega)] at hdef
   have:r=(e,false):=by rw [← he,hdef]
   subst this
   exact hk w3 o3 f03
  have h50:¬ ((b - a:Nat):Int) < 50:=h50
  rw [if_neg (show ¬ b - a < 50 by omega)] at hdef
  have fd3:Fr None w3 w3.drew:=(Fr.refl _ _).drew
  refine swpAP (o3.none fd3) rfl e3 (by omega) (by omega) fun w4 o4 f4=>?_
  have f04:=(f03.then fd3.any).then f4
  have hz4:(swp e q' (q' - 1)).size=d.size:=by rw [szsP]; exact hz
  generalize swp e q' (q' - 1)=g4 at hdef o4 hz4
  have e5:IntKind.wrap .i64 ((q':Int) - (a:Int))=((q' - a:Nat):Int):=wn (by omega) (by omega)
  have e6:IntKind.wrap .i64 ((b:Int) - (q':Int))=((b - q':Nat):Int):=wn (by omega) (by omega)
  have e7:IntKind.wrap .i64 ((q':Int)+1)=((q'+1:Nat):Int):=wn (by omega) (by omega)
  rw [e5,e6,e3,e7]
  refine joinI (fun (_:Unit) w'=>DAP S w' s (Go.Sort.fixDown ltP a q' g4)∧(Go.Sort.fixDown ltP a q' g4).size=d.size∧Fr (OwnB s) w w') ?_ ?_
  ·unfold Go.Sort.fixDown
   refine condD (fun h2=>?_) fun h2=>?_
   ·have h2:((q' - a:Nat):Int) ≥ 2:=h2
    rw [if_pos (show q' - a ≥ 2 by omega)]
    refine joinK ?_
    refine loopI (fun t w'=>∃ (k:Nat) (g:Array Plc),t=(k:Int)∧k < b∧DAP S w' s g∧g.size=d.size∧Go.Sort.shiftDown ltP k g=Go.Sort.shiftDown ltP (q' - 1) g4∧Fr (OwnB s) w w') (fun t _=>t.toNat) ⟨q' - 1,g4,rfl,by omega,o4,hz4,rfl,f04⟩ ?_
    rintro t w5 ⟨k,g,rfl,hkb,o5,hz5,he5,f5⟩
    refine condD (fun hk1=>?_) fun hk1=>?_
    ·have hk1:(k:Int) ≥ 1:=hk1
     obtain ⟨k',rfl⟩:∃ k',k=k'+1:=⟨k - 1,by omega⟩
     have e8:IntKind.wrap .i64 (((k'+1:Nat):Int) - 1)=(k':Int):=wn (by omega) (by omega)
     have fd5:Fr None w5 w5.drew:=(Fr.refl _ _).drew
     have hdf:Go.Sort.shiftDown ltP (k'+1) g=if (!ltP g[k'+1]! g[k']!)=true then g else Go.Sort.shiftDown ltP k' (swp g (k'+1) k'):=rfl
     refine rdAP (o5.none fd5) rfl (by omega) (rdAP (o5.none fd5) e8 (by omega) (Z46 fun z0 v0 hz0 fv=>?_))
     rw [hz0]
     have fd5:=fd5.then0 fv
     refine condI (fun hbb=>?_) fun hbb=>?_
     ·rw [if_pos (show (!ltP g[k'+1]! g[k']!)=true from hbb)] at hdf
      rw [← he5,hdf]
      exact ⟨o5.none fd5,hz5,f5.then fd5.any⟩
     ·rw [if_neg (show ¬ (!ltP g[k'+1]! g[k']!)=true from fun h=>by rw [show (!ltP g[k'+1]! g[k']!)=false from hbb] at h; cases h)] at hdf
      have fd6:=fd5.then0 (Fr.refl None _).drew
      refine swpAP (o5.none fd6) rfl e8 (by omega) (by omega) fun w6 o6 f6=>⟨⟨k',_,e8,by omega,o6,by rw [szsP]; exact hz5,by rw [← hdf,he5],(f5.then fd6.any).then f6⟩,by rw [e8]; omega⟩
    ·have hk1:¬ (k:Int) ≥ 1:=hk1
     have:k=0:=by omega
     subst this
     have he5:g=_:=he5
     rw [← he5]
     exact ⟨o5,hz5,f5⟩
   ·have h2:¬ ((q' - a:Nat):Int) ≥ 2:=h2
    rw [if_neg (show ¬ q' - a ≥ 2 by omega)]
    exact ⟨o4,hz4,f04⟩
  rintro _ w5 ⟨o5,hz5,f5⟩
  generalize Go.Sort.fixDown ltP a q' g4=g5 at hdef o5 hz5
  refine joinI (fun (_:Unit) w'=>DAP S w' s (Go.Sort.fixUp ltP b q' g5)∧(Go.Sort.fixUp ltP b q' g5).size=d.size∧Fr (OwnB s) w w') ?_ ?_
  ·unfold Go.Sort.fixUp
   refine condD (fun h2=>?_) fun h2=>?_
   ·have h2:((b - q':Nat):Int) ≥ 2:=h2
    rw [if_pos (show b - q' ≥ 2 by omega)]
    refine joinK ?_
    refine loopI (fun t w'=>∃ (k:Nat) (g:Array Plc),t=(k:Int)∧1≤k∧k≤b∧DAP S w' s g∧g.size=d.size∧Go.Sort.shiftUp ltP b k g=Go.Sort.shiftUp ltP b (q'+1) g5∧Fr (OwnB s) w w') (fun t _=>b - t.toNat) ⟨q'+1,g5,rfl,by omega,by omega,o5,hz5,rfl,f5⟩ ?_
    rintro t w6 ⟨k,g,rfl,hk1,hkb,o6,hz6,he6,f6⟩
    have hdf:=Go.Sort.shiftUp.eq_def ltP b k g
    refine condD (fun hlt2=>?_) fun hlt2=>?_
    ·have hlt2:(k:Int) < (b:Int):=hlt2
     rw [if_pos (show k < b by omega)] at hdf
     have e8:IntKind.wrap .i64 ((k:Int) - 1)=((k - 1:Nat):Int):=wn (by omega) (by omega)
     have fd5:Fr None w6 w6.drew:=(Fr.refl _ _).drew
     refine rdAP (o6.none fd5) rfl (by omega) (rdAP (o6.none fd5) e8 (by omega) (Z46 fun z0 v0 hz0 fv=>?_))
     rw [hz0]
     have fd5:=fd5.then0 fv
     refine condI (fun hbb=>?_) fun hbb=>?_
     ·rw [if_pos (show (!ltP g[k]! g[k - 1]!)=true from hbb)] at hdf
      rw [← he6,hdf]
      exact ⟨o6.none fd5,hz6,f6.then fd5.any⟩
     ·rw [if_neg (show ¬ (!ltP g[k]! g[k - 1]!)=true from fun h=>by rw [show (!ltP g[k]! g[k - 1]!)=false from hbb] at h; cases h)] at hdf
      have fd6:=fd5.then0 (Fr.refl None _).drew
      have e9:IntKind.wrap .i64 ((k:Int)+1)=((k+1:Nat):Int):=wn (by omega) (by omega)
      refine swpAP (o6.none fd6) rfl e8 (by omega) (by omega) fun w7 o7 f7=>⟨⟨k+1,_,e9,by omega,by omega,o7,by rw [szsP]; exact hz6,by rw [← hdf,he6],(f6.then fd6.any).then f7⟩,by rw [e9]; omega⟩
    ·have hlt2:¬ (k:Int) < (b:Int):=hlt2
     rw [if_neg (show ¬ k < b by omega)] at hdf
     rw [← he6,hdf]
     exact ⟨o6,hz6,f6⟩
   ·have h2:¬ ((b - q':Nat):Int) ≥ 2:=h2
    rw [if_neg (show ¬ b - q' ≥ 2 by omega)]
    exact ⟨o5,hz5,f5⟩
  rintro _ w6 ⟨o6,hz6,f6⟩
  have e8:IntKind.wrap .i64 (5 - ((m+1:Nat):Int)+1)=5 - (m:Int):=by rw [w64 (by omega)]; omega
  exact ⟨⟨q',m,_,by rw [e8],by omega,by omega,by omega,o6,hz6,by rw [← hdef,he],f6⟩,by
   show (5 - IntKind.wrap .i64 (5 - ((m+1:Nat):Int)+1)).toNat < (5 - (5 - ((m+1:Nat):Int))).toNat
   rw [e8]; omega⟩
end
end Go.Proofs.YtoiahhpgkoknfaaGreat
namespace Go.Proofs.YtoiahhpgkoknfaaGreat
open Go Go.RowKit Go.Proofs.YtoiahhpgkoknfaaGreat.Den
open Go.Sort (swp PermIn SortedIn)
variable {R:Type} {Q:R→World→Prop} {w:World}
section
variable {ok:Nat→Prop} {S:Nat→Prop} {s:Sl} {d:Array Plc}
theorem rdSP (h:SlT ok w plcT s d.toList) {ie:Int} {j:Nat} (hi:ie=(j:Int)) (hj:j < d.size) {K:Plc→W R} (hk:K d[j]! Q w):idxW s.a s.n 4 ie (fun a=>ld (.agg [.int .u32,.bool,.int .i32,.int .i32]) a K) Q w:=by
 refine h.get rfl hi (by simpa using hj) fun x hx=>?_
 rw [Array.getElem?_toList] at hx
 have e:d[j]! = x:=by
  rw [getElem!_pos d j hj]
  exact (Array.getElem?_eq_some_iff.1 hx).2
 rw [e] at hk
 exact hk
structure CntP (ok:Nat→Prop) (g:Nat) (s:Sl) (d:Array Plc) (w:World):Prop where
 sl:SlT ok w plcT s d.toList
 ne:∀ k,ok k→k≠g
 blk:∃ n:Int,Blk w g 3 [.int .i64 n]
theorem CntP.drew {g:Nat} (h:CntP ok g s d w) {w':World} (f:Fr None w w'):CntP ok g s d w':=⟨h.sl.fr0 f,h.ne,by obtain ⟨n,B⟩:=h.blk; exact ⟨n,B.fr f fun h=>h⟩⟩
theorem Zc9 {g:Nat} (h:CntP ok g s d w) {a b:Nat} (ha:a < d.size) (hb:b < d.size) {K:Res [.sc (.int .i64),.sc (.int .i64)]→W R}
  (hk:∀ p q w',(p=a∧q=b)∨(p=b∧q=a)→CntP ok g s d w'→Fr (fun k=>k=g) w w'→K ((p:Int),(q:Int)) Q w') :
  callW Tryz.prog Zl [.slice s.a s.n s.c,.int .i64 (a:Int),.int .i64 (b:Int),.pointer (some ⟨g,0,none⟩),.func (.func Z1) #[] #[]] [.sc (.int .i64),.sc (.int .i64)] K Q w:=by
 refine Z2u _ _ _ _ K Q w ?_
 unfold Zw
 have fd:Fr None w w.drew:=(Fr.refl _ _).drew
 have hd:=h.drew fd
 refine rdSP hd.sl rfl hb (rdSP hd.sl rfl ha (Z46 fun z0 v0 hz0 fv=>?_))
 rw [hz0]
 have hd:=hd.drew fv
 have fd:=fd.then0 fv
 refine condI (fun _=>?_) fun _=>hk a b _ (.inl ⟨rfl,rfl⟩) hd fd.any
 obtain ⟨n,B⟩:=hd.blk
 refine ptrI (fld0 (i:=0) (x:=n) B rfl ?_)
 refine ptrI (stoAll B rfl rfl fun w2 B2 f2 s2=>?_)
 refine hk b a w2 (.inr ⟨rfl,rfl⟩) ⟨hd.sl.fr f2 fun k hk e=>hd.ne k hk e,hd.ne,_,B2⟩ (fd.any.then f2)
theorem Zgy {g:Nat} (h:CntP ok g s d w) {a b c:Nat} (ha:a < d.size) (hb:b < d.size) (hc:c < d.size) {K:Res [.sc (.int .i64)]→W R}
  (hk:∀ p w',(p=a∨p=b∨p=c)→CntP ok g s d w'→Fr (fun k=>k=g) w w'→K (p:Int) Q w') :
  callW Tryz.prog Z19 [.slice s.a s.n s.c,.int .i64 (a:Int),.int .i64 (b:Int),.int .i64 (c:Int),.pointer (some ⟨g,0,none⟩),.func (.func Z1) #[] #[]] [.sc (.int .i64)] K Q w:=by
 refine Z2t _ _ _ _ _ K Q w ?_
 unfold Zv
 refine Zc9 h ha hb fun p q w1 h1 c1 f1=>?_
 refine Zc9 c1 (a:=q) (b:=c) (by omega) hc fun p2 q2 w2 h2 c2 f2=>?_
 refine Zc9 c2 (a:=p) (b:=p2) (by omega) (by omega) fun p3 q3 w3 h3 c3 f3=>?_
 exact hk q3 w3 (by omega) c3 ((f1.then f2).then f3)
theorem Z8s {g:Nat} (h:CntP ok g s d w) (hm:d.size≤1048576) {a:Nat} (ha:1≤a) (hb:a+1 < d.size) {K:Res [.sc (.int .i64)]→W R}
  (hk:∀ p w',(p=a - 1∨p=a∨p=a+1)→CntP ok g s d w'→Fr (fun k=>k=g) w w'→K (p:Int) Q w') :
  callW Tryz.prog Z6 [.slice s.a s.n s.c,.int .i64 (a:Int),.pointer (some ⟨g,0,none⟩),.func (.func Z1) #[] #[]] [.sc (.int .i64)] K Q w:=by
 refine Z1s _ _ _ K Q w ?_
 unfold Za
 rw [show IntKind.wrap .i64 ((a:Int) - 1)=((a - 1:Nat):Int) from wn (by omega) (by omega),show IntKind.wrap .i64 ((a:Int)+1)=((a+1:Nat):Int) from wn (by omega) (by omega)]
 exact Zgy h (by omega) (by omega) (by omega) hk
theorem Zof (h:DAP S w s d) (hm:d.size≤1048576) {a b:Nat} (hab:a < b) (hb:b≤d.size) {K:Res [.sc (.int .i64),.sc (.int .i64)]→W R}
  (hk:∀ (p:Nat) (z:Int) w',a≤p→p < b→Fr None w w'→K ((p:Int),z) Q w') :
  callW Tryz.prog Z1f [.slice s.a s.n s.c,.int .i64 (a:Int),.int .i64 (b:Int),.func (.func Z1) #[] #[]] [.sc (.int .i64),.sc (.int .i64)] K Q w:=by
 refine Z24 _ _ _ K Q w ?_
 unfold Zi
 have e1:IntKind.wrap .i64 ((b:Int) - (a:Int))=((b - a:Nat):Int):=wn (by omega) (by omega)
 have e2:IntKind.wrap .i64 (Int.tdiv ((b - a:Nat):Int) 4)=(((b - a) / 4:Nat):Int):=wn (by rw [Int.tdiv_eq_ediv_of_nonneg (by omega)]; omega) (by omega)
 have e3:∀ n:Nat,n≤3→IntKind.wrap .i64 ((a:Int)+IntKind.wrap .i64 ((((b - a) / 4:Nat):Int) * (n:Int)))=((a+(b - a) / 4 * n:Nat):Int):=fun n hn=>by
  have h1:(b - a) / 4 * n≤(b - a) / 4 * 3:=Nat.mul_le_mul_left _ hn
  rw [wn (x:=(((b - a) / 4:Nat):Int) * (n:Int)) (n:=(b - a) / 4 * n) (by push_cast; rfl) (by omega)]
  exact wn (by push_cast; rfl) (by omega)
 have i1:=e3 1 (by omega)
 have i2:=e3 2 (by omega)
 have i3:=e3 3 (by omega)
 rw [e1,e2]
 rw [show (((1:Nat):Int))=1 from rfl] at i1
 rw [show (((2:Nat):Int))=2 from rfl] at i2
 rw [show (((3:Nat):Int))=3 from rfl] at i3
 rw [i1,i2,i3]
 have j1:a≤a+(b - a) / 4 * 1∧a+(b - a) / 4 * 1 < b:=by omega
 have j2:a≤a+(b - a) / 4 * 2∧a+(b - a) / 4 * 2 < b:=by omega
 have j3:a≤a+(b - a) / 4 * 3∧a+(b - a) / 4 * 3 < b:=by omega
 have k1:50≤b - a→1≤a+(b - a) / 4 * 1∧a+(b - a) / 4 * 1 - 1 ≥ a∧a+(b - a) / 4 * 1+1 < b:=by omega
 have k2:50≤b - a→1≤a+(b - a) / 4 * 2∧a+(b - a) / 4 * 2 - 1 ≥ a∧a+(b - a) / 4 * 2+1 < b:=by omega
 have k3:50≤b - a→1≤a+(b - a) / 4 * 3∧a+(b - a) / 4 * 3 - 1 ≥ a∧a+(b - a) / 4 * 3+1 < b:=by omega
 generalize a+(b - a) / 4 * 1=A1 at j1 k1
 generalize a+(b - a) / 4 * 2=A2 at j2 k2
 generalize a+(b - a) / 4 * 3=A3 at j3 k3
 clear i1 i2 i3 e3
 have hsl:SlT (fun k=>k < w.heap.size) w plcT s d.toList:=h.sl.mono fun k hk _=>hk
 refine newI fun w1 B1 f1 s1=>?_
 have hc:CntP (fun k=>k < w.heap.size) w.heap.size s d w1:=⟨hsl.fr0 f1,fun k hk=>by omega,0,B1⟩
 refine joinI (fun (p:Int) w'=>∃ q:Nat,p=(q:Int)∧a≤q∧q < b∧CntP (fun k=>k < w.heap.size) w.heap.size s d w'∧Fr (fun k=>k=w.heap.size) w1 w') ?_ ?_
 ·refine condD (fun h8=>?_) fun h8=>⟨A2,rfl,j2.1,j2.2,hc,Fr.refl _ _⟩
  have h8:((b - a:Nat):Int) ≥ 8:=h8
  refine joinI (fun (t:Int × Int × Int) w'=>∃ x y z:Nat,t=((x:Int),(y:Int),(z:Int))∧(a≤x∧x < b)∧(a≤y∧y < b)∧(a≤z∧z < b)∧CntP (fun k=>k < w.heap.size) w.heap.size s d w'∧Fr (fun k=>k=w.heap.size) w1 w') ?_ ?_
  ·refine condD (fun h50=>?_) fun h50=>⟨A1,A2,A3,rfl,j1,j2,j3,hc,Fr.refl _ _⟩
   have h50:((b - a:Nat):Int) ≥ 50:=h50
   have k1:=k1 (by omega)
   have k2:=k2 (by omega)
   have k3:=k3 (by omega)
   refine Z8s hc hm (by omega) (by omega) fun x w2 h2 c2 f2=>?_
   refine Z8s c2 hm (by omega) (by omega) fun y w3 h3 c3 f3=>?_
   refine Z8s c3 hm (by omega) (by omega) fun z w4 h4 c4 f4=>?_
   exact ⟨x,y,z,rfl,by omega,by omega,by omega,c4,(f2.then f3).then f4⟩
  ·rintro t w2 ⟨x,y,z,rfl,h1,h2,h3,c2,f2⟩
   refine Zgy c2 (a:=x) (b:=y) (c:=z) (by omega) (by omega) (by omega) fun p w3 h4 c3 f3=>⟨p,rfl,by omega,by omega,c3,f2.then f3⟩
 ·rintro p w2 ⟨q,rfl,h1,h2,c2,f2⟩
  obtain ⟨n,B⟩:=c2.blk
  have fin:Fr None w w2:=f1.newer f2 fun k e=>by omega
  refine fld0 (i:=0) (x:=n) B rfl ?_
  exact condI (fun _=>hk q 1 w2 h1 h2 fin) fun _=>condI (fun _=>hk q 2 w2 h1 h2 fin) fun _=>hk q 0 w2 h1 h2 fin
theorem Zoc (h:DAP S w s d) (hm:d.size≤1048576) {a b:Nat} (hab:a < b) (hb:b≤d.size) {K:Res []→W R} (hk:∀ d' w',DAP S w' s d'→PermIn a b d d'→Fr (OwnB s) w w'→K () Q w') :
  callW Tryz.prog Z12 [.slice s.a s.n s.c,.int .i64 (a:Int),.int .i64 (b:Int),.func (.func Z1) #[] #[]] [] K Q w:=by
 refine Z1x _ _ _ K Q w ?_
 unfold Zd
 have e1:IntKind.wrap .i64 ((b:Int) - (a:Int))=((b - a:Nat):Int):=wn (by omega) (by omega)
 rw [e1]
 have e2:IntKind.wrap .i64 (Int.tdiv ((b - a:Nat):Int) 4)=(((b - a) / 4:Nat):Int):=wn (by rw [Int.tdiv_eq_ediv_of_nonneg (by omega)]; omega) (by omega)
 have e3:IntKind.wrap .i64 ((((b - a) / 4:Nat):Int) * 2)=(((b - a) / 4 * 2:Nat):Int):=wn (by push_cast; rfl) (by omega)
 have e4:IntKind.wrap .i64 ((a:Int)+(((b - a) / 4 * 2:Nat):Int))=((a+(b - a) / 4 * 2:Nat):Int):=wn (by push_cast; rfl) (by omega)
 have e5:IntKind.wrap .i64 (((a+(b - a) / 4 * 2:Nat):Int)+1)=((a+(b - a) / 4 * 2+1:Nat):Int):=wn (by push_cast; rfl) (by omega)
 rw [e2,e3,e4,e5]
 refine joinI (fun (_:Unit) w'=>∃ d',DAP S w' s d'∧PermIn a b d d'∧Fr (OwnB s) w w') ?_ fun _ w' ⟨d',o,p,f⟩=>hk d' w' o p f
 refine condD (fun h8=>?_) fun h8=>⟨d,h,Go.Sort.permIn_refl _ _ _,Fr.refl _ _⟩
 have h8:((b - a:Nat):Int) ≥ 8:=h8
 have e6:IntKind.wrap .i64 (((a+(b - a) / 4 * 2:Nat):Int) - 1)=((a+(b - a) / 4 * 2 - 1:Nat):Int):=wn (by omega) (by omega)
 rw [e6]
 refine newI fun w1 B1 f1 s1=>stoAll B1 rfl rfl fun w2 B2 f2 s2=>?_
 have f02:Fr None w w2:=f1.newer f2 fun k e=>by omega
 refine Z5i _ _ _ w2 ?_
 unfold Z3e
 have e7:IntKind.wrap .u64 ((b - a:Nat):Int)=((b - a:Nat):Int):=by rw [IntKind.wrap_u64]; omega
 rw [e7]
 refine Z7x (by omega) (by omega) (chkI (by omega) ?_)
 rw [Int.toNat_natCast]
 obtain ⟨l1,l2,l3⟩:=Zki (n:=b - a) (by omega) (by omega)
 generalize hL:Lib.bitLen (b - a)=L at l1 l2 l3
 have e8:shL .u64 1 (L:Int)=((2 ^ L:Nat):Int):=by
  unfold shL
  rw [Int.toNat_natCast,show min L IntKind.u64.bits=L from Nat.min_eq_left (by show L≤64; omega),IntKind.wrap_u64]
  have:(1:Int) * 2 ^ L=((2 ^ L:Nat):Int):=by rw [Int.one_mul]; push_cast; rfl
  rw [this]
  generalize 2 ^ L=M at l3
  omega
 rw [e8]
 have hpos:0 < 2 ^ L:=Nat.pow_pos (by omega)
 generalize 2 ^ L=M at l3 hpos
 have e9:IntKind.wrap .u64 ((M:Int) - 1)=(M:Int) - 1:=by rw [IntKind.wrap_u64]; omega
 unfold retW
 dsimp only
 rw [e9]
 have o2:DAP (fun k=>S k∧k < w.heap.size) w2 s d:=Den.Own.st h f02 fun k hk e=>⟨fun h=>h,e,hk⟩
 refine loopI (fun i w'=>∃ (n:Nat) (e:Array Plc),i=(n:Int)∧a+(b - a) / 4 * 2 - 1≤n∧n≤a+(b - a) / 4 * 2+2∧(∃ v:Int,Blk w' w.heap.size 344 [.int .u64 v])∧DAP (fun k=>S k∧k < w.heap.size) w' s e∧PermIn a b d e∧Fr (fun k=>OwnB s k∨k=w.heap.size) w2 w') (fun i _=>a+(b - a) / 4 * 2+2 - i.toNat)
  ⟨_,d,rfl,Nat.le_refl _,by omega,⟨_,B2⟩,o2,Go.Sort.permIn_refl _ _ _,Fr.refl _ _⟩ ?_
 rintro i w3 ⟨n,e,rfl,hn1,hn2,⟨v,B3⟩,o3,hp,f3⟩
 have hz:=hp.1
 refine condD (fun hle=>?_) fun hgt=>?_
 ·have hle:(n:Int)≤((a+(b - a) / 4 * 2+1:Nat):Int):=hle
  refine Zfq B3 fun x w4 B4 f4=>?_
  have o4:DAP (fun k=>S k∧k < w.heap.size) w4 s e:=o3.fr f4 fun k hk e=>by omega
  obtain ⟨g1,g2⟩:=Zqj (x:=x) (y:=(M:Int) - 1) (by omega) (by omega)
  generalize bAnd .u64 x ((M:Int) - 1)=y at g1 g2
  have ey:IntKind.wrap .i64 y=y:=w64 (by omega)
  rw [ey]
  refine joinI (fun (z:Int) w'=>w'=w4∧∃ q:Nat,z=(q:Int)∧q < b - a) ?_ ?_
  ·refine condD (fun h1=>⟨rfl,(y - ((b - a:Nat):Int)).toNat,?_,?_⟩) fun h1=>⟨rfl,y.toNat,by omega,?_⟩
   ·have h1:y ≥ ((b - a:Nat):Int):=h1
    rw [w64 (by omega)]; omega
   ·have h1:y ≥ ((b - a:Nat):Int):=h1
    omega
   ·have h1:¬ y ≥ ((b - a:Nat):Int):=h1
    omega
  ·rintro z w5 ⟨rfl,q,rfl,hq⟩
   have fd:Fr None w5 w5.drew:=(Fr.refl _ _).drew
   have e10:IntKind.wrap .i64 ((a:Int)+(q:Int))=((a+q:Nat):Int):=wn (by push_cast; rfl) (by omega)
   refine swpAP (o4.none fd) rfl e10 (by omega) (by omega) fun w6 o6 f6=>?_
   have e11:IntKind.wrap .i64 ((n:Int)+1)=((n+1:Nat):Int):=wn (by push_cast; rfl) (by omega)
   refine ⟨⟨n+1,_,e11,by omega,by omega,⟨x,(B4.fr fd fun h=>h).fr f6 fun hk=>?_⟩,o6,Go.Sort.permIn_trans _ _ _ _ _ hp (Go.Sort.swp_permIn _ _ _ _ _ (by omega) (by omega) (by omega) (by omega) (by omega)),?_⟩,by rw [e11]; omega⟩
   ·have:=(o4.own _ hk).2; omega
   ·exact ((f3.then (f4.sub fun k e=>.inr e)).then fd.any).then (f6.sub fun k e=>.inl e)
 ·refine ⟨e,o3.mono fun k _ h=>h.1,hp,?_⟩
  refine f02.trans f3 (fun _ h=>h.elim) fun k hk e=>?_
  rcases e with e | e
  ·exact e
  ·omega
end
end Go.Proofs.YtoiahhpgkoknfaaGreat
namespace Go.Proofs.YtoiahhpgkoknfaaGreat
open Go Go.RowKit Go.Proofs.YtoiahhpgkoknfaaGreat.Den
open Go.Sort (swp PermIn SortedIn)
set_option maxHeartbeats 1000000 in
theorem Zrw (n:Nat):∀ {R:Type} {Q:R→World→Prop} {w:World} {S:Nat→Prop} {s:Sl} {d:Array Plc} {a b:Nat} {limit:Int} {K:Res []→W R} (_h:DAP S w s d) (_hm:d.size≤1048576) (_hab:a≤b) (_hb:b≤d.size) (_hB:Go.Sort.Below ltP a b d) (_hn:b - a≤n)
  (_hk:∀ d' w',DAP S w' s d'→PermIn a b d d'→SortedIn ltP a b d'→Fr (OwnB s) w w'→K () Q w'),
  callW Tryz.prog Zh [.slice s.a s.n s.c,.int .i64 (a:Int),.int .i64 (b:Int),.int .i64 limit,.func (.func Z1) #[] #[]] [] K Q w:=by
 induction n using Nat.strongRecOn with
 | _ n ih =>
 intro R Q w S s d a b limit K h hm hab hb hB hn hk
 refine Z2p _ _ _ _ K Q w ?_
 unfold Zt
 refine loopI (fun st w'=>∃ (a' b':Nat) (d':Array Plc),st.1=(a':Int)∧st.2.1=(b':Int)∧a≤a'∧a'≤b'∧b'≤b∧DAP S w' s d'∧d'.size=d.size∧Go.Sort.Below ltP a' b' d' ∧
  (∀ X,PermIn a' b' d' X→SortedIn ltP a' b' X→PermIn a b d X∧SortedIn ltP a b X)∧Fr (OwnB s) w w') (fun st _=>(st.2.1 - st.1).toNat) ⟨a,b,d,rfl,rfl,Nat.le_refl _,hab,Nat.le_refl _,h,rfl,hB,fun X h1 h2=>⟨h1,h2⟩,Fr.refl _ _⟩ ?_
 rintro ⟨sa,sb,lim,wb,wp⟩ w1 ⟨a',b',d',e1,e2,ha,hab',hb',o1,hz,hB1,cl,f1⟩
 dsimp only at e1 e2 ⊢
 subst e1; subst e2
 have em:IntKind.wrap .i64 ((b':Int) - (a':Int))=((b' - a':Nat):Int):=wn (by omega) (by omega)
 rw [em]
 refine joinK (condD (fun h12=>?_) fun h12=>?_)
 ·refine Zru o1 (by omega) hab' (by omega) fun w2 o2 f2=>?_
  obtain ⟨p1,p2⟩:=Go.Sort.insertionSort_holds swoP d' a' b' hab' (by omega)
  obtain ⟨q1,q2⟩:=cl _ p1 p2
  exact hk _ w2 o2 q1 q2 (f1.then f2)
 have h12:¬ ((b' - a':Nat):Int)≤12:=h12
 have hlt:a' < b':=by omega
 refine condI (fun _=>?_) fun _=>?_
 ·refine Zqa o1 (by omega) hlt (by omega) fun w2 o2 f2=>?_
  obtain ⟨p1,p2⟩:=Go.Sort.heapSort_holds swoP d' a' b' hab' (by omega)
  obtain ⟨q1,q2⟩:=cl _ p1 p2
  exact hk _ w2 o2 q1 q2 (f1.then f2)
 refine joinI (fun (_:Int) w'=>∃ e,DAP S w' s e∧PermIn a' b' d' e∧Fr (OwnB s) w w') ?_ ?_
 ·refine condI (fun _=>?_) fun _=>⟨d',o1,Go.Sort.permIn_refl _ _ _,f1⟩
  exact Zoc o1 (by omega) hlt (by omega) fun e w2 o2 p2 f2=>⟨e,o2,p2,f1.then f2⟩
 rintro lim2 w2 ⟨e,o2,p2,f2⟩
 have hz2:=p2.1
 refine Zof o2 (by omega) hlt (by omega) fun p z w3 hp1 hp2 f3=>?_
 have f03:=f2.then f3.any
 have o3:=o2.none f3
 refine joinI (fun (t:Int × Int) w'=>∃ (q:Nat) (e:Array Plc),t.1=(q:Int)∧a'≤q∧q < b'∧DAP S w' s e∧PermIn a' b' d' e∧Fr (OwnB s) w w') ?_ ?_
 ·refine condI (fun _=>?_) fun _=>⟨p,e,rfl,hp1,hp2,o3,p2,f03⟩
  refine Zlu o3 (by omega) hlt (by omega) fun g w4 o4 p4 f4=>⟨(b' - 1) - (p - a'),g,?_,by omega,by omega,o4,Go.Sort.permIn_trans _ _ _ _ _ p2 p4,f03.then f4⟩
  show IntKind.wrap .i64 (IntKind.wrap .i64 ((b':Int) - 1) - IntKind.wrap .i64 ((p:Int) - (a':Int)))=_
  rw [wn (x:=(b':Int) - 1) (n:=b' - 1) (by omega) (by omega),wn (x:=(p:Int) - (a':Int)) (n:=p - a') (by omega) (by omega)]
  exact wn (by omega) (by omega)
 rintro ⟨t1,t2⟩ w4 ⟨q,g,et,hq1,hq2,o4,p4,f4⟩
 dsimp only at et ⊢
 subst et
 have hz4:=p4.1
 refine joinI (fun (_:Bool) w'=>w'=w4) ?_ ?_
 ·exact condI (fun _=>condI (fun _=>rfl) fun _=>rfl) fun _=>rfl
 rintro z14 w5 rfl
 have hB4:Go.Sort.Below ltP a' b' g:=hB1.perm (by omega) p4
 refine joinI (fun (_:Unit) w'=>∃ e,DAP S w' s e∧PermIn a' b' d' e∧Fr (OwnB s) w w') ?_ ?_
 ·refine condI (fun _=>?_) fun _=>⟨g,o4,p4,f4⟩
  refine Zlr o4 (by omega) hlt (by omega) fun w6 o6 f6=>?_
  obtain ⟨c1,c2⟩:=Go.Sort.partialInsertionSort_holds swoP g a' b' hlt (by omega) hB4
  have c3:=Go.Sort.permIn_trans _ _ _ _ _ p4 c1
  refine condI (fun hx=>?_) fun _=>⟨_,o6,c3,f4.then f6⟩
  obtain ⟨q1,q2⟩:=cl _ c3 (c2 hx)
  exact hk _ w6 o6 q1 q2 (f4.then f6)
 rintro _ w6 ⟨u,o6,p6,f6⟩
 have hz6:=p6.1
 have hB6:Go.Sort.Below ltP a' b' u:=hB1.perm (by omega) p6
 refine joinI (fun z w'=>Fr None w6 w'∧(z=true→0 < a'∧ltP u[a' - 1]! u[q]! = false)) ?_ ?_
 ·have fd:Fr None w6 w6.drew:=(Fr.refl _ _).drew
  refine condD (fun h0=>?_) fun _=>⟨fd,fun h=>by cases h⟩
  have h0:(a':Int) > 0:=h0
  refine rdAP (o6.none fd) (j:=a' - 1) (wn (by omega) (by omega)) (by omega) (rdAP (o6.none fd) rfl (by omega) (Z46 fun z0 v0 hz0 fv=>⟨fd.then0 fv,fun h=>⟨by omega,?_⟩⟩))
  rw [hz0] at h
  simpa using h
 rintro z24 w7 ⟨f7,hz24⟩
 have o7:=o6.none f7
 have f07:=f6.then f7.any
 refine condI (fun hz=>?_) fun _=>?_
 ·obtain ⟨h0,hnl⟩:=hz24 hz
  refine Zmy o7 (by omega) hq1 hq2 (by omega) fun w8 o8 f8=>?_
  obtain ⟨r1,r2,r3,r4,r5⟩:=Go.Sort.round_eq (d4:=(Go.Sort.partitionEqual ltP u a' b' q).2) (mid:=(Go.Sort.partitionEqual ltP u a' b' q).1) swoP (Go.Sort.partitionEqual_holds ltP) h0 hq1 hq2 (by omega) hB6 hnl rfl
  generalize (Go.Sort.partitionEqual ltP u a' b' q).1=mid at r1 r2 r4 r5 ⊢
  generalize (Go.Sort.partitionEqual ltP u a' b' q).2=v at o8 r3 r4 r5
  refine ⟨⟨mid,b',v,rfl,rfl,by omega,by omega,hb',o8,by omega,r4,fun X x1 x2=>?_,f07.then f8⟩,?_⟩
  ·obtain ⟨y1,y2⟩:=r5 X x1 x2
   exact cl X (Go.Sort.permIn_trans _ _ _ _ _ p6 y1) y2
  ·show ((b':Int) - (mid:Int)).toNat < ((b':Int) - (a':Int)).toNat
   omega
 ·refine Zqb o7 (by omega) hq1 hq2 (by omega) fun w8 o8 f8=>?_
  obtain ⟨r1,r2,r3,r4,r5,r6,r7⟩:=Go.Sort.round_part (d4:=(Go.Sort.partition ltP u a' b' q).2.2) (ap:=(Go.Sort.partition ltP u a' b' q).2.1) (mid:=(Go.Sort.partition ltP u a' b' q).1) swoP (Go.Sort.partition_holds ltP) hq1 hq2 (by omega) hB6 rfl
  generalize (Go.Sort.partition ltP u a' b' q).1=mid at r1 r2 r4 r5 r6 r7 ⊢
  generalize (Go.Sort.partition ltP u a' b' q).2.1=ap at ⊢
  generalize (Go.Sort.partition ltP u a' b' q).2.2=v at o8 r3 r4 r5 r6 r7
  have f08:=f07.then f8
  have e3:IntKind.wrap .i64 ((mid:Int)+1)=((mid+1:Nat):Int):=wn (by omega) (by omega)
  dsimp only
  rw [e3]
  refine joinI (fun (t:Int × Int × Bool) w'=>∃ (a2 b2:Nat) (X:Array Plc),t.1=(a2:Int)∧t.2.1=(b2:Int)∧a'≤a2∧a2≤b2∧b2≤b'∧b2 - a2 < b' - a'∧DAP S w' s X∧X.size=d.size∧Go.Sort.Below ltP a2 b2 X ∧
   (∀ Y,PermIn a2 b2 X Y→SortedIn ltP a2 b2 Y→PermIn a b d Y∧SortedIn ltP a b Y)∧Fr (OwnB s) w w') ?_ ?_
  ·refine condD (fun _=>?_) fun _=>?_
   ·refine ih (mid - a') (by omega) o8 (by omega) r1 (by omega) r4 (Nat.le_refl _) fun L w9 o9 p9 s9 f9=>?_
    obtain ⟨y1,y2⟩:=r6 L p9 s9
    have:=p9.1
    refine ⟨mid+1,b',L,rfl,rfl,by omega,by omega,by omega,by omega,o9,by omega,y1,fun Y z1 z2=>?_,f08.then f9⟩
    obtain ⟨x1,x2⟩:=y2 Y z1 z2
    exact cl Y (Go.Sort.permIn_trans _ _ _ _ _ p6 x1) x2
   ·refine ih (b' - (mid+1)) (by omega) o8 (by omega) (by omega) (by omega) r5 (Nat.le_refl _) fun L w9 o9 p9 s9 f9=>?_
    obtain ⟨y1,y2⟩:=r7 L p9 s9
    have:=p9.1
    refine ⟨a',mid,L,rfl,rfl,by omega,by omega,by omega,by omega,o9,by omega,y1,fun Y z1 z2=>?_,f08.then f9⟩
    obtain ⟨x1,x2⟩:=y2 Y z1 z2
    exact cl Y (Go.Sort.permIn_trans _ _ _ _ _ p6 x1) x2
  ·rintro ⟨t1,t2,t3⟩ w9 ⟨a2,b2,X,e4,e5,h1,h2,h3,h4,o9,hz9,hB9,cl9,f9⟩
   dsimp only at e4 e5 ⊢
   subst e4; subst e5
   refine ⟨⟨a2,b2,X,rfl,rfl,by omega,h2,by omega,o9,hz9,hB9,cl9,f9⟩,?_⟩
   show ((b2:Int) - (a2:Int)).toNat < ((b':Int) - (a':Int)).toNat
   omega
section
variable {R:Type} {Q:R→World→Prop} {w:World} {S:Nat→Prop} {s:Sl} {l:List Plc}
theorem Zjq (h:Den.Own S w 45 plcT s l) (hm:l.length≤1048576) {K:Res []→W R} (hk:∀ l' w',Den.Own S w' 45 plcT s l'→l'.Perm l→(l'.Pairwise fun a b=>a.1≤b.1)→Fr (OwnB s) w w'→K () Q w') :
  callW Tryz.prog Z3i [.slice s.a s.n s.c,.func (.func Z1) #[] #[]] [] K Q w:=by
 have hn:s.n=l.length:=h.len
 refine Z3c _ K Q w ?_
 unfold Z1d
 have e:IntKind.wrap .u64 (s.n:Int)=(s.n:Int):=by rw [IntKind.wrap_u64]; omega
 rw [e]
 refine Z7x (by omega) (by omega) ?_
 have hd:DAP S w s l.toArray:=h
 have es:(s.n:Int)=((l.toArray.size:Nat):Int):=by rw [hn]; simp
 rw [es]
 refine Zrw l.toArray.size (a:=0) (b:=l.toArray.size) hd (by simpa using hm) (Nat.zero_le _) (Nat.le_refl _) (.inl rfl) (Nat.le_refl _) fun d' w' o p sr f=>?_
 refine hk d'.toList w' o ?_ ?_ f
 ·have:=p.2.2
  have e2:d'.extract 0 l.toArray.size=d':=by rw [← p.1]; simp
  rw [e2] at this
  simpa using this
 ·rw [List.pairwise_iff_getElem]
  intro i j hi hj hij
  have hz:=p.1
  simp only [Array.length_toList] at hi hj
  have:=sr i j (Nat.zero_le _) hij (by omega)
  rw [getElem!_pos d' j hj,getElem!_pos d' i hi] at this
  simp only [ltP,decide_eq_false_iff_not] at this
  simp only [Array.getElem_toList]
  exact Int.not_lt.1 this
end
end Go.Proofs.YtoiahhpgkoknfaaGreat
namespace Go.Proofs.YtoiahhpgkoknfaaGreat
open Go Go.RowKit Go.Proofs.YtoiahhpgkoknfaaGreat.Den
variable {R:Type} {Q:R→World→Prop} {w:World}
def EntsAt (n:Nat) (r:Sl) (L:List Ent) (w:World):Prop:=∃ raws,Den.Own (Up n) w 49 entT r raws∧EntsR (fun k=>n≤k∧r.v.ownBlock≠some k) w raws L
theorem EntsAt.nil (n:Nat) (w:World):EntsAt n ⟨none,0,0⟩ [] w:=⟨[],Den.Own.nil _ _ _ _,EntsR.nil _ _⟩
theorem EntsAt.none {n:Nat} {r:Sl} {L:List Ent} {w':World} (h:EntsAt n r L w) (f:Fr None w w'):EntsAt n r L w':=by
 obtain ⟨raws,o,E⟩:=h
 exact ⟨raws,o.none f,E.fr f fun _ _ h=>h⟩
theorem EntsAt.fr {n:Nat} {r:Sl} {L:List Ent} {S:Nat→Prop} {w':World} (h:EntsAt n r L w) (f:Fr S w w') (hS:∀ k,n≤k→¬ S k):EntsAt n r L w':=by
 obtain ⟨raws,o,E⟩:=h
 exact ⟨raws,o.fr f fun k e=>hS k e,E.fr f fun k e=>hS k e.1⟩
theorem EntsAt.down {n m:Nat} {r:Sl} {L:List Ent} (h:EntsAt n r L w) (hm:m≤n):EntsAt m r L w:=by
 obtain ⟨raws,o,E⟩:=h
 exact ⟨raws,o.mono fun k _ e=>Nat.le_trans hm e,E.mono fun k _ e=>⟨Nat.le_trans hm e.1,e.2⟩⟩
theorem EntsAt.ents {n:Nat} {r:Sl} {L:List Ent} (h:EntsAt n r L w):∃ raws,Den.Own (Up n) w 49 entT r raws∧EntsR (Up n) w raws L:=by
 obtain ⟨raws,o,E⟩:=h
 exact ⟨raws,o,E.mono fun k _ e=>e.1⟩
theorem EntsAt.len {n:Nat} {r:Sl} {L:List Ent} (h:EntsAt n r L w):r.n=L.length:=by
 obtain ⟨raws,o,E⟩:=h
 rw [o.len,E.len]
theorem EntsAt.row {n:Nat} {r:Sl} {L:List Ent} (h:EntsAt n r L w):∀ k,r.v.ownBlock=some k→n≤k∧k < w.heap.size:=by
 obtain ⟨raws,o,E⟩:=h
 exact fun k e=>⟨o.own k e,(o.row.lt k e).2⟩
theorem EntsAt.app {n:Nat} {out:Sl} {L:List Ent} (h:EntsAt n out L w) (hn:n≤w.heap.size) (hl:L.length≤1048576) {id:Int} {s:Sl} {l:List Comp} (hs:SlT (fun k=>n≤k∧out.v.ownBlock≠some k) w compT s l) {K:Sl→W R}
  (hk:∀ r w',EntsAt n r (L ++ [(id,l)]) w'→Fr (fun k=>out.v.ownBlock=some k) w w'→K r Q w') :
  newW 49 [.int .u32 id,.slice s.a s.n s.c] (fun a=>rawW Tryz.prog (Builtin.append_ #[46,46] 46 #[.slice out.a out.n out.c,.slice (some a) 1 1]) [.sc .sl] K) Q w:=by
 obtain ⟨raws,o,E⟩:=h
 have hel:=E.len
 have hm:raws.length≤1048576:=by omega
 refine appF Zl5 (x:=((id,s):Int × Sl)) rfl o hn (Nat.le_trans (Nat.mul_le_mul_right 32 (Nat.succ_le_succ hm)) (by decide)) (Nat.le_trans (Nat.succ_le_succ hm) (by decide)) fun r w' o' f ro=>hk r w' ⟨raws ++ [(id,s)],o',?_⟩ f
 have key:∀ k,k < w.heap.size→(n≤k∧out.v.ownBlock≠some k)→n≤k∧r.v.ownBlock≠some k:=fun k hk e=>⟨e.1,fun e2=>by
  rcases ro k e2 with h | h
  ·exact e.2 h
  ·omega⟩
 have E':EntsR (fun k=>n≤k∧r.v.ownBlock≠some k) w' raws L:=((E.mono (ok':=fun k=>(n≤k∧out.v.ownBlock≠some k)∧k < w.heap.size) fun k hk e=>⟨e,hk⟩).fr f fun k e e2=>e.1.2 e2).mono fun k _ e=>key k e.2 e.1
 have s':SlT (fun k=>n≤k∧r.v.ownBlock≠some k) w' compT s l:=((hs.mono (ok':=fun k=>(n≤k∧out.v.ownBlock≠some k)∧k < w.heap.size) fun k hk e=>⟨e,hk⟩).fr f fun k e e2=>e.1.2 e2).mono fun k _ e=>key k e.2 e.1
 exact E'.snoc rfl s'
end Go.Proofs.YtoiahhpgkoknfaaGreat
namespace Go.Proofs.YtoiahhpgkoknfaaGreat
open Go Go.RowKit Go.Proofs.YtoiahhpgkoknfaaGreat.Den
variable {R:Type} {Q:R→World→Prop} {w:World}
def keV (q:Key):Value:=.agg ⟨[.int .u32 q.1,.int .u8 q.2]⟩
def seenV (p:Comp × Int):Value:=.agg ⟨[.int .u8 p.1.1,.int .i32 p.1.2.1,.int .i32 p.1.2.2.1,.int .i32 p.1.2.2.2,.int .u32 p.2]⟩
def mapV (f:Key→Option (Comp × Int)):Key→Option Value:=fun q=>(f q).map seenV
theorem Zo1:∀ i j,keV i=keV j→i=j:=by
 rintro ⟨a,b⟩ ⟨c,d⟩ h
 simp only [keV,Value.agg.injEq,Array.mk.injEq,List.cons.injEq,Value.int.injEq,and_true,true_and] at h
 rw [h.1,h.2]
theorem Zhj:Tryz.prog.underlying 124=some (.map 140 138):=by kernel_rfl
theorem Zmv:(Tryz.prog.info? 138).bind (·.zero)=some (seenV ((0,0,0,0),0)):=by kernel_rfl
theorem Zic:Go.Maps.Keyed Tryz.prog 140:=Go.Maps.Keyed.of_law (deep_law_laid laid_out (m:=2) (by omega) (of_decide_eq_true (by kernel_rfl)) (by kernel_rfl) (by kernel_rfl))
theorem Zo2 {q:Key} (h1:IdOk q.1) (h2:0≤q.2∧q.2≤255):∃ l,keyOf Tryz.prog 140 (keV q)=some l:=by
 have w1:(Lit.int .u32 q.1).wf=true:=by obtain ⟨h1,h2⟩:=h1; simp [Lit.wf,IntKind.min,IntKind.max,IntKind.bits,IntKind.signed]; omega
 have w2:(Lit.int .u8 q.2).wf=true:=by obtain ⟨h1,h2⟩:=h2; simp [Lit.wf,IntKind.min,IntKind.max,IntKind.bits,IntKind.signed]; omega
 have hk:Tryz.prog.keyType 140=true:=by kernel_rfl
 have c1:Tryz.prog.cellsOf 140=2:=by kernel_rfl
 have c2:Tryz.prog.cellsOf 34=1:=by kernel_rfl
 have c3:Tryz.prog.cellsOf 5=1:=by kernel_rfl
 have hf:(keV q).formed Tryz.prog 140=true:=by
  unfold keV
  simp only [Value.formed,Tryz.underlying140,c1]
  rfl
 obtain ⟨n,hn⟩:∃ n,Tryz.prog.types.size=n+1:=⟨Tryz.prog.types.size - 1,by
  have h:Nat.ble 1 Tryz.prog.types.size=true:=by kernel_rfl
  have:=Nat.le_of_ble_eq_true h
  omega⟩
 have hl:Tryz.prog.keyLits (Tryz.prog.types.size+1) 140 [.int .u32 q.1,.int .u8 q.2]=some [.int .u32 q.1,.int .u8 q.2]:=by
  rw [hn]
  simp [Program.keyLits,Tryz.underlying140,c1,c2,c3,Zoy,Zjf,w1,w2]
 unfold keyOf
 rw [Tryz.underlying140]
 have hc:(keV q).cells.toList=[.int .u32 q.1,.int .u8 q.2]:=rfl
 simp only [hk,hf,hc,hl,Bool.and_self,if_true]
 exact ⟨_,rfl⟩
structure WldR (lab:Nat→Nat) (w:World) (b sb bb mb:Nat) (ps:Sl) (x:StM) (L:List Ordr) (tk:Int) (f:Key→Option (Comp × Int)) (pl:List Plc):Prop where
 blk:Bl b 126 [.pointer (some ⟨sb,0,none⟩),.pointer (some ⟨bb,0,none⟩),.int .u32 tk,.map (some mb),.slice ps.a ps.n ps.c] (fun k=>lab k=1) w
 sto:Store sb x (fun k=>lab k=2) w
 buf:Buf bb L (fun k=>lab k=3) w
 map:Mp Tryz.prog 140 keV mb (mapV (f)) (fun k=>lab k=4) w
 plc:Den.Own (fun k=>lab k=5) w 45 plcT ps pl
def WldG (b:Nat) (x:StM) (L:List Ordr) (tk:Int) (f:Key→Option (Comp × Int)) (pl:List Plc):OB:=fun F w=>∃ (lab:Nat→Nat) (sb bb mb:Nat) (ps:Sl),(∀ k,lab k≠0→F k)∧WldR lab w b sb bb mb ps x L tk f pl
abbrev WldO (b:Nat) (m:WM):OB:=WldG b m.x m.wait m.tick (compsF m) m.places
section
variable {lab:Nat→Nat} {b sb bb mb:Nat} {ps:Sl} {x:StM} {L:List Ordr} {tk:Int} {f:Key→Option (Comp × Int)} {pl:List Plc} {F:Nat→Prop}
theorem WldR.cut (h:WldR lab w b sb bb mb ps x L tk f pl) {S:Nat→Prop} {w':World} (fr:Fr S w w') (hs:∀ k,k < w.heap.size→lab k≠0→¬ S k):WldR (Den.cut lab w.heap.size) w' b sb bb mb ps x L tk f pl :=
 ⟨Bl.st.cut h.blk fr (by decide) hs,Store.st.cut h.sto fr (by decide) hs,Buf.st.cut h.buf fr (by decide) hs,Mp.st.cut h.map fr (by decide) hs,Den.Own.st.cut h.plc fr (by decide) hs⟩
theorem WldG.st:St (WldG b x L tk f pl):=fun {_F _F' _S w _w'} ⟨lab,sb,bb,mb,ps,hF,h⟩ fr hs =>
 ⟨Den.cut lab w.heap.size,sb,bb,mb,ps,fun k e=>(hs k (Zam e).2 (hF k (Zam e).1)).2,h.cut fr fun k hk e=>(hs k hk (hF k e)).1⟩
theorem WldG.shut (h:WldG b x L tk f pl F w):WldG b x L tk f pl (fun k=>F k∧k < w.heap.size) w:=WldG.st.mono h fun _ hk e=>⟨e,hk⟩
theorem WldG.sto (h:WldG b x L tk f pl F w):∃ sb bb mb ps,F b∧Blk w b 126 [.pointer (some ⟨sb,0,none⟩),.pointer (some ⟨bb,0,none⟩),.int .u32 tk,.map (some mb),.slice ps.a ps.n ps.c]∧Store sb x F w∧Buf bb L F w∧Mp Tryz.prog 140 keV mb (mapV (f)) F w∧Den.Own F w 45 plcT ps pl:=by
 obtain ⟨lab,sb,bb,mb,ps,hF,h⟩:=h
 exact ⟨sb,bb,mb,ps,hF b (by have:lab b=1:=h.blk.1; omega),h.blk.2,Store.st.mono h.sto fun k _ e=>hF k (by omega),Buf.st.mono h.buf fun k _ e=>hF k (by omega),Mp.st.mono h.map fun k _ e=>hF k (by omega),Den.Own.st.mono h.plc fun k _ e=>hF k (by omega)⟩
theorem Za4 (h:WldG b x L tk f pl F w) {K:Res [.sc .ptr]→W R} (hk:∀ sb,Store sb x F w→K (some ⟨sb,0,none⟩) Q w):callW Tryz.prog Z38 [.pointer (some ⟨b,0,none⟩)] [.sc .ptr] K Q w:=by
 obtain ⟨sb,bb,mb,ps,_,B,S,_⟩:=h.sto
 refine Zg9 _ K Q w ?_
 unfold Zal
 exact condF rfl (ptrI (fldI B (i:=0) (x:=some ⟨sb,0,none⟩) rfl (hk sb S)))
theorem Zja (h:WldG b x L tk f pl F w) {K:Res [.sc (.int .u32)]→W R} (hk:K tk Q w):callW Tryz.prog Z63 [.pointer (some ⟨b,0,none⟩)] [.sc (.int .u32)] K Q w:=by
 obtain ⟨sb,bb,mb,ps,_,B,_⟩:=h.sto
 refine Zev _ K Q w ?_
 unfold Z9l
 exact condF rfl (ptrI (fldI B (i:=2) (x:=tk) rfl hk))
theorem Zk3 (h:WldG b x L tk f pl F w) {id:Int} (hid:IdOk id) {K:Res [.agg [.int .u32,.sl],.sc (.int .i64)]→W R}
  (hk:∀ s w',Den.Own (Up w.heap.size) w' 52 compT s (x.ent id).1.2→Fr None w w'→K (((x.ent id).1.1,s),(x.ent id).2) Q w') :
  callW Tryz.prog Z6k [.pointer (some ⟨b,0,none⟩),.int .u32 id] [.agg [.int .u32,.sl],.sc (.int .i64)] K Q w:=by
 refine Zg8 _ _ K Q w ?_
 unfold Zak
 refine newI fun w1 B1 f1 s1=>Za4 (WldG.st.fr0 h f1) fun sb S=>Zj4 S hid fun s w2 o2 f2=>?_
 refine stoAll (B1.fr f2 fun h=>h) rfl rfl fun w3 B3 f3 s3=>aggI B3 (x:=((x.ent id).1.1,s)) rfl ?_
 have hs1:w1.heap.size=w.heap.size+1:=s1
 refine hk s w3 (((o2.mono (S':=fun k=>w1.heap.size≤k) fun k _ e=>e).fr f3 fun k e e2=>by omega).mono fun k _ e=>by show w.heap.size≤k; omega) ((f1.then0 f2).newer f3 fun k e=>by omega)
theorem Zcc (h:WldG b x L tk f pl F w) {K:Res [.sc .sl]→W R} (hk:∀ r w',EntsAt w.heap.size r (entsM x) w'→Fr None w w'→K r Q w') :
  callW Tryz.prog Z45 [.pointer (some ⟨b,0,none⟩)] [.sc .sl] K Q w:=by
 refine Zes _ K Q w ?_
 unfold Z9i
 refine Za4 h fun sb S=>?_
 have hok:=(Store.open_ S).1
 refine Zj5 S fun rl w1 o1 f1=>?_
 have hle:=hok.s.list_le
 refine rangeI (t:=idT) (ok:=Up w.heap.size) (l:=x.s.list) (fun s:Sl × Int=>s.2) (fun j st w'=>st.2=(j:Int)∧EntsAt w1.heap.size st.1 ((x.s.list.take j).map fun id=>(x.ent id).1) w'∧Fr None w1 w') rfl ⟨rfl,EntsAt.nil _ _,Fr.refl _ _⟩ (fun j s w' h=>h.1) (fun j st w' hp=>o1.fr0 hp.2.2) ?_ ?_
 ·rintro j y ⟨out,_⟩ w2 K' hy ⟨rfl,E,f2⟩ - hK
  have hjl:=(List.getElem?_eq_some_iff.1 hy).1
  have f02:=f1.then0 f2
  have hs2:=f2.size
  refine Zk3 (WldG.st.fr0 h f02) (hok.s.list_id (List.mem_of_getElem? hy)).2 fun sl w3 o3 f3=>?_
  refine newI fun w4 B4 f4 s4=>stoAll B4 rfl rfl fun w5 B5 f5 s5=>aggI B5 (x:=((x.ent y).1.1,sl)) rfl ?_
  have f35:Fr None w3 w5:=f4.newer f5 fun k e=>by omega
  have f25:=f3.then0 f35
  have hs25:=f25.size
  have E5:=E.none f25
  have hrow:=E.row
  refine E5.app (by omega) (by simp; omega) (l:=(x.ent y).1.2) ((o3.none f35).sl.mono fun k _ e=>⟨Nat.le_trans hs2 e,fun e2=>?_⟩) fun r w6 E6 f6=>?_
  ·have:=(hrow k e2).2
   have e:w2.heap.size≤k:=e
   omega
  ·refine hK _ _ ⟨wsucc hjl (by omega),?_,(f2.then0 f25).newer f6 fun k e=>(hrow k e).1⟩
   rw [Z1q hy,List.map_append]
   exact E6
 ·rintro ⟨out,_⟩ w2 ⟨-,E,f2⟩
  rw [List.take_length] at E
  exact hk out w2 (E.down f1.size) (f1.then0 f2)
end
end Go.Proofs.YtoiahhpgkoknfaaGreat
namespace Go.Proofs.YtoiahhpgkoknfaaGreat
open Go Go.RowKit Go.Proofs.YtoiahhpgkoknfaaGreat.Den
variable {R:Type} {Q:R→World→Prop} {w:World}
theorem drawI {K:Den.W R} (h:K Q w.drew):drawW K Q w:=h
theorem bothI {X Y:Den.W R} (h1:X Q w) (h2:Y Q w):bothW X Y Q w:=⟨h1,h2⟩
theorem Zim:SlTy Tryz.prog 42 45 plcT 16:=slTy (by kernel_rfl)
abbrev Seen5:=Int × Int × Int × Int × Int
def seen5 (p:Comp × Int):Seen5:=(p.1.1,p.1.2.1,p.1.2.2.1,p.1.2.2.2,p.2)
def seenC (z:Seen5):List Value:=[.int .u8 z.1,.int .i32 z.2.1,.int .i32 z.2.2.1,.int .i32 z.2.2.2.1,.int .u32 z.2.2.2.2]
theorem Zie {mb:Nat} {f:Key→Option (Comp × Int)} (h:MapB Tryz.prog 140 keV w mb (mapV f)) {q:Key} (h1:IdOk q.1) (h2:0≤q.2∧q.2≤255) {K:Seen5 × Bool→Den.W R} (hk:K (((f q).map seen5).getD (0,0,0,0,0),(f q).isSome) Q w) :
  rawQ Tryz.prog (Instr.lookup 124 (.map (some mb)) (.agg ⟨[.int .u32 q.1,.int .u8 q.2]⟩) true) [.agg [.int .u8,.int .i32,.int .i32,.int .i32,.int .u32],.sc .bool] K Q w:=by
 obtain ⟨l,hl⟩:=Zo2 h1 h2
 refine ⟨(((f q).map seen5).getD (0,0,0,0,0),(f q).isSome),?_,hk⟩
 have:=h.look Zic Zhj Zmv hl true
 rw [show keV q=.agg ⟨[.int .u32 q.1,.int .u8 q.2]⟩ from rfl] at this
 rw [this]
 unfold mapV
 cases f q <;> rfl
theorem Zt3 {mb:Nat} {f:Key→Option (Comp × Int)} (h:MapB Tryz.prog 140 keV w mb (mapV f)) {q:Key} (h1:IdOk q.1) (h2:0≤q.2∧q.2≤255) (p:Comp × Int) {K:Den.W R}
  (hk:∀ w',MapB Tryz.prog 140 keV w' mb (mapV fun r=>if r=q then some p else f r)→Fr (fun k=>k=mb) w w'→w'.heap.size=w.heap.size→K Q w') :
  rawU Tryz.prog (Instr.mapUpdate 124 (.map (some mb)) (.agg ⟨[.int .u32 q.1,.int .u8 q.2]⟩) (.agg ⟨seenC (seen5 p)⟩)) K Q w:=by
 obtain ⟨l,hl⟩:=Zo2 h1 h2
 obtain ⟨w1,a1,a2,a3,a4⟩:=h.put Zic Zo1 Zhj hl (seenV p)
 refine ⟨w1,a1,hk w1 (a2.congr fun i=>?_) a3 a4⟩
 unfold mapV
 by_cases e:i=q <;> simp [e]
def LookI (w0 v0:World) (b sb bb mb mb2:Nat) (tk:Int) (S:Nat→Prop) (nf:Key→Option (Comp × Int)) (out:List Plc) (v:World):Prop :=
 ∃ ps,Blk v b 126 [.pointer (some ⟨sb,0,none⟩),.pointer (some ⟨bb,0,none⟩),.int .u32 tk,.map (some mb),.slice ps.a ps.n ps.c]∧Den.Own (fun k=>v0.heap.size≤k∧S k) v 45 plcT ps out ∧
  MapB Tryz.prog 140 keV v mb2 (mapV nf)∧Fr (fun k=>k=b∨k=mb2) v0 v∧Fr (fun k=>k=b) w0 v
section
variable {w0 v0:World} {b sb bb mb mb2:Nat} {tk:Int} {S:Nat→Prop} {nf:Key→Option (Comp × Int)} {out:List Plc}
theorem LookI.none (h:LookI w0 v0 b sb bb mb mb2 tk S nf out w) {w':World} (f:Fr None w w'):LookI w0 v0 b sb bb mb mb2 tk S nf out w':=by
 obtain ⟨ps,h1,h2,h3,h4,h5⟩:=h
 exact ⟨ps,h1.fr f fun h=>h,h2.none f,h3.fr f fun h=>h,h4.then f.any,h5.then f.any⟩
theorem LookI.mono (h:LookI w0 v0 b sb bb mb mb2 tk S nf out w) {S':Nat→Prop} (hs:∀ k,k < w.heap.size→S k→S' k):LookI w0 v0 b sb bb mb mb2 tk S' nf out w:=by
 obtain ⟨ps,h1,h2,h3⟩:=h
 exact ⟨ps,h1,h2.mono fun k hk e=>⟨e.1,hs k hk e.2⟩,h3⟩
theorem LookI.apart (h:LookI w0 v0 b sb bb mb mb2 tk S nf out w) {T:Nat→Prop} {w':World} (f:Fr T w w') (hT:∀ k,T k→v0.heap.size≤k∧¬ S k) (hb:b < v0.heap.size) (hm:mb2 < v0.heap.size) (hw:w0.heap.size≤v0.heap.size):LookI w0 v0 b sb bb mb mb2 tk S nf out w':=by
 obtain ⟨ps,h1,h2,h3,h4,h5⟩:=h
 exact ⟨ps,h1.fr f fun e=>by have:=(hT _ e).1; omega,h2.fr f fun k e e2=>(hT k e2).2 e.2,h3.fr f fun e=>by have:=(hT _ e).1; omega,h4.thenNew f fun k e=>(hT k e).1,h5.thenNew f fun k e=>by have:=(hT k e).1; omega⟩
theorem Zp2 {ps:Sl} (h1:Blk w b 126 [.pointer (some ⟨sb,0,none⟩),.pointer (some ⟨bb,0,none⟩),.int .u32 tk,.map (some mb),.slice ps.a ps.n ps.c]) (h2:Den.Own (fun k=>v0.heap.size≤k∧S k) w 45 plcT ps out)
  (h3:MapB Tryz.prog 140 keV w mb2 (mapV nf)) (h4:Fr (fun k=>k=b∨k=mb2) v0 w) (h5:Fr (fun k=>k=b) w0 w) (hb:b < w0.heap.size∧w0.heap.size≤mb2∧mb2 < v0.heap.size) (hS:∀ k,w.heap.size≤k→S k) (hl:out.length≤1048576) {p:Plc} {K:Den.W R}
  (hk:∀ w',LookI w0 v0 b sb bb mb mb2 tk S nf (out ++ [p]) w'→Fr (fun k=>k=b∨(v0.heap.size≤k∧S k)) w w'→K Q w') :
  (newW 45 [.int .u32 p.1,.bool p.2.1,.int .i32 p.2.2.1,.int .i32 p.2.2.2] fun a=>rawW Tryz.prog (Builtin.append_ #[42,42] 42 #[.slice ps.a ps.n ps.c,.slice (some a) 1 1]) [.sc .sl] fun (r:Sl) =>
   ptrW (some ⟨b,0,none⟩) fun y=>stoL (Addr.add y 4) [.slice r.a r.n r.c] 0 K) Q w:=by
 have z4:=h4.size
 refine appP (x:=p) Zim rfl h2 (fun k e=>⟨by omega,hS k e⟩) (Nat.le_trans (Nat.mul_le_mul_right 16 (Nat.succ_le_succ hl)) (by decide)) (Nat.le_trans (Nat.succ_le_succ hl) (by decide)) fun r w2 o2 f2=>?_
 have hown:∀ k,ps.v.ownBlock=some k→v0.heap.size≤k∧S k:=fun k e=>h2.own k e
 have h12:=h1.fr f2 fun e=>by have:=hown _ e; omega
 refine ptrI (setI (i:=4) (v:=.slice r.a r.n r.c) h12 (by simp) rfl fun w3 B3 f3 s3=>hk w3 ⟨r,B3,o2.fr f3 (fun k e e2=>by have e2:k=b:=e2; have:=e.1; omega),(h3.fr f2 fun e=>by have:=hown _ e; omega).fr f3 (fun e=>by have e:mb2=b:=e; omega),?_,?_⟩ ?_)
 ·exact (h4.thenNew f2 fun k e=>(hown k e).1).then (f3.sub fun k e=>.inl e)
 ·exact (h5.thenNew f2 fun k e=>by have:=(hown k e).1; omega).then f3
 ·exact (f2.sub fun k e=>.inr (hown k e)).then (f3.sub fun k e=>.inl e)
end
end Go.Proofs.YtoiahhpgkoknfaaGreat
namespace Go.Proofs.YtoiahhpgkoknfaaGreat
open Go Go.RowKit Go.Proofs.YtoiahhpgkoknfaaGreat.Den
variable {R:Type} {Q:R→World→Prop} {w:World}
theorem Z6o {l:List Ent} (h:EntsOk l) (hl:l.length≤1024):(pairsM l).length≤6144:=by
 have:∀ (l:List Ent),(∀ e∈l,e.2.length≤6)→(pairsM l).length≤6 * l.length:=by
  intro l
  induction l with
  | nil=>intro _; simp [pairsM]
  | cons e l ih =>
   intro h
   have h1:=ih fun e he=>h e (List.mem_cons_of_mem _ he)
   have h2:=h e List.mem_cons_self
   have e1:pairsM (e :: l)=(e.2.map fun c=>(e.1,c)) ++ pairsM l:=by simp [pairsM]
   rw [e1,List.length_append,List.length_map,List.length_cons]
   omega
 have:=this l fun e he=>Zc4 (h.2 e he).2
 omega
theorem Zge (l:List Ent) (e:Ent):pairsM (l ++ [e])=pairsM l ++ e.2.map fun c=>(e.1,c):=by simp [pairsM]
theorem Zif {m:WM} {l:List (Int × Comp)} (h:l.length≤6144):(movedM m l).length≤6144:=Nat.le_trans (List.length_filterMap_le _ _) h
theorem nd_le {α:Type} [DecidableEq α]:∀ {l k:List α},l.Nodup→(∀ x∈l,x∈k)→l.length≤k.length
 | [],_,_,_=>Nat.zero_le _
 | a :: l,k,h,hs=>by
  rw [List.nodup_cons] at h
  have ha:=hs a List.mem_cons_self
  have:=nd_le (k:=k.erase a) h.2 fun x hx=>(List.mem_erase_of_ne fun e=>h.1 (by rw [← e]; exact hx)).2 (hs x (List.mem_cons_of_mem _ hx))
  rw [List.length_erase_of_mem ha] at this
  have:=List.length_pos_of_mem ha
  rw [List.length_cons]
  omega
structure GoneI (m:WM) (N:Key→Option (Comp × Int)) (left:Key→Bool) (G:List Plc):Prop where
 nodup:G.Nodup
 mem:∀ q,q∈G↔q=(q.1,false,0,0)∧left (q.1,0)=false∧(compsF m (q.1,0)).isSome∧N (q.1,0)=none
theorem GoneI.start (m:WM) (N:Key→Option (Comp × Int)):GoneI m N (fun i=>(mapV (compsF m) i).isSome) []:=⟨List.nodup_nil,fun q=>⟨fun h=>(List.not_mem_nil h).elim,fun h=>by
 have h2:=h.2.1
 unfold mapV at h2
 rw [Option.isSome_map] at h2
 rw [h.2.2.1] at h2
 cases h2⟩⟩
theorem GoneI.done {m:WM} {N:Key→Option (Comp × Int)} {left:Key→Bool} {G:List Plc} (h:GoneI m N left G) (hall:∀ i,left i=false):∀ q,q∈G↔q=(q.1,false,0,0)∧(compsF m (q.1,0)).isSome∧N (q.1,0)=none:=fun q=>by
 rw [h.mem,hall]
 simp
theorem GoneI.len {m:WM} {N:Key→Option (Comp × Int)} {left:Key→Bool} {G:List Plc} (h:GoneI m N left G) (hw:EntsOk (entsM m.x)):G.length≤(pairsM (entsM m.x)).length:=by
 have hs:∀ q∈G.map fun q=>((q.1,0):Key),q∈(pairsM (entsM m.x)).map keyP:=fun k hk=>by
  obtain ⟨q,hq,rfl⟩:=List.mem_map.1 hk
  obtain ⟨_,_,h3,_⟩:=(h.mem q).1 hq
  unfold compsF at h3
  rw [Option.isSome_map] at h3
  obtain ⟨c,hc⟩:=Option.isSome_iff_exists.1 h3
  obtain ⟨a1,a2⟩:=(Z54 hw).1 hc
  exact List.mem_map.2 ⟨_,a1,by show ((q.1,c.1):Key)=_; rw [a2]⟩
 have hn:(G.map fun q=>((q.1,0):Key)).Nodup:=by
  rw [List.Nodup,List.pairwise_map]
  refine List.Pairwise.imp_of_mem (fun {a b} ha hb hab e=>hab ?_) h.nodup
  rw [((h.mem a).1 ha).1,((h.mem b).1 hb).1,(Prod.mk.inj e).1]
 have:=nd_le hn hs
 rw [List.length_map,List.length_map] at this
 exact this
theorem GoneI.step {m:WM} {N:Key→Option (Comp × Int)} {left:Key→Bool} {G:List Plc} (h:GoneI m N left G) {i:Key} (hl:left i=true) (hi:(compsF m i).isSome∧N i=none∧i.2=0):GoneI m N (fun j=>left j && !decide (j=i)) (G ++ [(i.1,false,0,0)]):=by
 obtain ⟨a,b⟩:=i
 obtain ⟨h1,h2,h3⟩:=hi
 have h3:b=0:=h3
 subst h3
 have hni:(a,false,0,0) ∉ G:=fun hm=>by
  have:=((h.mem _).1 hm).2.1
  rw [hl] at this
  cases this
 refine ⟨List.nodup_append.2 ⟨h.nodup,by simp,fun x hx y hy e=>?_⟩,fun q=>?_⟩
 ·simp only [List.mem_singleton] at hy
  rw [e,hy] at hx
  exact hni hx
 ·rw [List.mem_append,List.mem_singleton,h.mem]
  by_cases hq:q.1=a
  ·rw [hq]
   constructor
   ·rintro (⟨e1,e2,_⟩ | e1)
    ·rw [hl] at e2; cases e2
    ·exact ⟨e1,by simp,h1,h2⟩
   ·rintro ⟨e1,_⟩; exact .inr e1
  ·have:((q.1,(0:Int)):Key)≠(a,0):=fun e=>hq (Prod.mk.inj e).1
   simp only [decide_eq_false this,Bool.not_false,Bool.and_true]
   constructor
   ·rintro (e | e)
    ·exact e
    ·exact absurd (by rw [e]) hq
   ·exact .inl
theorem GoneI.skip {m:WM} {N:Key→Option (Comp × Int)} {left:Key→Bool} {G:List Plc} (h:GoneI m N left G) {i:Key} (hl:left i=true) (hi:¬ (N i=none∧i.2=0)):GoneI m N (fun j=>left j && !decide (j=i)) G:=by
 refine ⟨h.nodup,fun q=>?_⟩
 rw [h.mem]
 by_cases hq:((q.1,(0:Int)):Key)=i
 ·rw [← hq] at hl hi
  rw [hl]
  constructor
  ·rintro ⟨_,e,_⟩; cases e
  ·rintro ⟨_,_,_,e⟩; exact absurd ⟨e,rfl⟩ hi
 ·simp only [decide_eq_false hq,Bool.not_false,Bool.and_true]
set_option maxHeartbeats 1000000 in
theorem Zjb {m:WM} (hm:WMOk m) (ht:m.tick < 4294967295) {b:Nat} {x:StM} {L:List Ordr} {pl:List Plc} {F:Nat→Prop} (h:WldG b x L (m.tick+1) (compsF m) pl F w) {K:Res []→Den.W R}
  (hk:∀ w',WldG b x L (m.tick+1) (fun q=>(getE (entsM x) q.1 q.2).map fun c=>(c,changedM (marksM m (entsM x)) q.1 q.2)) (placesM m (entsM x)) (Ex F w) w'→Fr F w w'→K () Q w') :
  callW Tryz.prog Z64 [.pointer (some ⟨b,0,none⟩)] [] K Q w:=by
 refine Zew _ K Q w ?_
 unfold Z9m
 obtain ⟨lab,sb,bb,mb,ps,hF,hR⟩:=h.shut
 obtain ⟨hok,hle⟩:=Zhh (Store.open_ hR.sto).1
 obtain ⟨hwas,hwle⟩:=Zhh hm.x
 have hplen:=Z6o hok hle
 obtain ⟨hlb,B⟩:=hR.blk
 have hlb:lab b=1:=hlb
 have hlm:lab mb=4:=hR.map.1
 obtain ⟨hbF,hbl⟩:=hF b (by omega)
 have htk:=hm.tick
 refine ptrI (setI (i:=4) (v:=.slice none 0 0) B (by simp) rfl fun w1 B1 f1 s1=>mapNewI ?_)
 have fm:=(Fr.refl None w1).alloc (.map #[] 0)
 have mm:=MapB.made (P:=Tryz.prog) (k:=140) (ke:=keV) w1
 have s2:(w1.alloc (.map #[] 0)).heap.size=w1.heap.size+1:=by simp
 generalize w1.alloc (.map #[] 0)=w2 at *
 have f02:Fr (fun k=>k=b) w w2:=f1.then fm.any
 have keep:∀ {A:OB} {i:Nat},St A→i≠1→A (fun k=>lab k=i) w→∀ {v:World},Fr (fun k=>k=b) w v→A (fun k=>Den.cut lab w.heap.size k=i) v:=fun {A i} st hi a {v} f=>st a f fun k hk e=>⟨fun e2=>by have e2:k=b:=e2; subst e2; have e:lab k=i:=e; omega,by show Den.cut _ _ _=_; rw [Zma hk]; exact e⟩
 have h2:WldG b x L (m.tick+1) (compsF m) [] (fun k=>F k∧k < w.heap.size) w2:=⟨Den.cut lab w.heap.size,sb,bb,mb,⟨none,0,0⟩,fun k e=>hF k (Zam e).1,
  ⟨⟨by show Den.cut _ _ _=_; rw [Zma hbl]; exact hlb,B1.fr fm fun h=>h⟩,keep Store.st (by decide) hR.sto f02,keep Buf.st (by decide) hR.buf f02,keep Mp.st (by decide) hR.map f02,Den.Own.nil _ _ _ _⟩⟩
 refine Zcc h2 fun r w3 E3 f3=>?_
 have f03:Fr (fun k=>k=b) w w3:=f02.then f3.any
 have z3:=f3.size
 have z03:=f03.size
 obtain ⟨mb2,hmb2⟩:∃ mb2,mb2=w1.heap.size:=⟨_,rfl⟩
 rw [← hmb2] at mm s2 ⊢
 have hc:b < w.heap.size∧w.heap.size≤mb2∧mb2 < w3.heap.size:=⟨hbl,by omega,by omega⟩
 obtain ⟨raws,o3,ER⟩:=E3.ents
 have o3s:SlT (fun k=>w2.heap.size≤k∧k < w3.heap.size) w3 entT r raws:=o3.sl.mono fun k hk e=>⟨e,hk⟩
 have ER3:EntsR (fun k=>w2.heap.size≤k∧k < w3.heap.size) w3 raws (entsM x):=ER.mono fun k hk e=>⟨e,hk⟩
 have hrl:=ER3.len
 have Mold:∀ {v:World},Fr (fun k=>k=b) w v→MapB Tryz.prog 140 keV v mb (mapV (compsF m)):=fun f=>hR.map.2.fr f fun e=>by have e:mb=b:=e; rw [e] at hlm; omega
 have I0:LookI w w3 b sb bb mb mb2 (m.tick+1) (fun _=>True) (nextF (tickM m) (pairsM ((entsM x).take 0))) (movedM m (pairsM ((entsM x).take 0))) w3 :=
  ⟨⟨none,0,0⟩,(B1.fr fm fun h=>h).fr f3 fun h=>h,Den.Own.nil _ _ _ _,(mm.fr f3 fun h=>h).congr fun i=>rfl,Fr.refl _ _,f03⟩
 refine rangeC (t:=entT) (ok:=fun k=>w2.heap.size≤k∧k < w3.heap.size) (l:=raws) (fun s:Int=>s)
  (fun j s v=>s=(j:Int)∧LookI w w3 b sb bb mb mb2 (m.tick+1) (fun _=>True) (nextF (tickM m) (pairsM ((entsM x).take j))) (movedM m (pairsM ((entsM x).take j))) v) rfl rfl rfl ⟨rfl,I0⟩ (fun j s v h=>h.1)
  (fun j s v h=>by obtain ⟨ps,_,_,_,c4,_⟩:=h.2; exact o3s.fr c4 fun k e e2=>by rcases e2 with e2 | e2 <;> omega) ?_ ?_
 ·rintro j a s v0 v1 K' hx ⟨rfl,I1⟩ - B8 f81 s8 hK
  have hjl:=(List.getElem?_eq_some_iff.1 hx).1
  obtain ⟨e,he⟩:∃ e,(entsM x)[j]?=some e:=⟨_,List.getElem?_eq_getElem (by omega)⟩
  obtain ⟨ha1,ha2⟩:=ER3.at_ j a e hx he
  have hem:=List.mem_of_getElem? he
  obtain ⟨hid,hle2⟩:=hok.2 e hem
  have hc6:=Zc4 hle2
  refine fldI B8 (i:=1) (x:=a.2) rfl ?_
  have hpj:∀ i,(pairsM ((entsM x).take j) ++ (e.2.take i).map fun c=>(e.1,c)).length≤6144:=fun i=>by
   have h1:pairsM (entsM x)=pairsM ((entsM x).take j) ++ ((e.2.map fun c=>(e.1,c)) ++ pairsM ((entsM x).drop (j+1))):=by
    rw [← List.append_assoc,← Zge,← Z1q he]
    unfold pairsM
    rw [← List.flatMap_append,List.take_append_drop]
   rw [h1] at hplen
   simp only [List.length_append,List.length_map,List.length_take] at hplen ⊢
   omega
  have I1':LookI w w3 b sb bb mb mb2 (m.tick+1) (fun k=>k≠v0.heap.size) (nextF (tickM m) (pairsM ((entsM x).take j) ++ (e.2.take 0).map fun c=>(e.1,c))) (movedM m (pairsM ((entsM x).take j) ++ (e.2.take 0).map fun c=>(e.1,c))) v1:=by
   rw [List.take_zero,List.map_nil,List.append_nil]
   exact (I1.mono fun k hk _=>by omega).none f81
  have z13:w3.heap.size≤v0.heap.size:=by obtain ⟨ps,_,_,_,c4,_⟩:=I1; exact c4.size
  refine rangeC (t:=compT) (ok:=fun k=>w2.heap.size≤k∧k < w3.heap.size) (l:=e.2) (fun s:Int=>s)
   (fun i s v=>s=(i:Int)∧LookI w w3 b sb bb mb mb2 (m.tick+1) (fun k=>k≠v0.heap.size) (nextF (tickM m) (pairsM ((entsM x).take j) ++ (e.2.take i).map fun c=>(e.1,c))) (movedM m (pairsM ((entsM x).take j) ++ (e.2.take i).map fun c=>(e.1,c))) v∧Blk v v0.heap.size 49 (entT.cells a)) rfl rfl rfl ⟨rfl,I1',B8⟩ (fun j s v h=>h.1)
   (fun j s v h=>by obtain ⟨ps,_,_,_,c4,_⟩:=h.2.1; exact ha2.fr c4 fun k e e2=>by rcases e2 with e2 | e2 <;> omega) ?_ ?_
  ·rintro i c s u0 u1 K2 hcx ⟨rfl,I2,B8u⟩ - B14 f14 s14 hK2
   have hil:=(List.getElem?_eq_some_iff.1 hcx).1
   have hck:=(Z3x.1 hle2).1 c (List.mem_of_getElem? hcx)
   have hkk:=Z49 hck
   have hk255:0≤c.1∧c.1≤255:=⟨hkk.1,Int.le_trans hkk.2 (by decide)⟩
   have hs14:u1.heap.size=u0.heap.size+1:=s14
   have B8v:=B8u.fr f14 fun h=>h
   refine fldI B8v (i:=0) (x:=a.1) rfl (fldI B14 (i:=0) (x:=c.1) rfl ?_)
   rw [ha1]
   refine newI fun u2 B17 f17 s17=>stoAll B17 rfl rfl fun u3 B17 f17b s17b=>?_
   have f13:Fr None u1 u3:=f17.newer f17b fun k e=>by omega
   have f03u:=f14.then0 f13
   have B14:=B14.fr f13 fun h=>h
   have B8v:=B8v.fr f13 fun h=>h
   have z8:=B8u.lt
   have z03u:=f03u.size
   have z13u:=f13.size
   have I3:=(I2.mono (S':=fun k=>k≠v0.heap.size∧k < u0.heap.size) fun k hk e=>⟨e,hk⟩).none f03u
   have hp1:=hpj (i+1)
   have etake:(e.2.take (i+1)).map (fun c=>(e.1,c))=(e.2.take i).map (fun c=>(e.1,c)) ++ [(e.1,c)]:=by rw [Z1q hcx,List.map_append]; rfl
   have hcf:compsF m (e.1,c.1)=(getE (entsM m.x) e.1 c.1).map fun c0=>(c0,changedM m.marks e.1 c.1):=rfl
   obtain ⟨ps,c1,c2,c3,c4,c5⟩:=I3
   refine joinI (fun (z:Option Addr × Bool) v=>∃ g:Nat,z.1=some ⟨g,0,none⟩∧u3.heap.size≤g∧z.2=(compsF m (e.1,c.1)).isSome∧Blk v g 138 (seenC (((compsF m (e.1,c.1)).map seen5).getD (0,0,0,0,0)))∧Fr None u3 v) ?_ ?_
   ·have fd:Fr None u3 u3.drew:=(Fr.refl _ _).drew
    refine drawI (bothI ?_ ?_)
    ·refine ptrI (fldI c1.drew (i:=3) (x:=some mb) rfl (aggI B17.drew (x:=((e.1,c.1):Int × Int)) rfl (Zie (q:=(e.1,c.1)) (Mold (c5.then fd.any)) hid hk255 ?_)))
     exact newI fun u4 B4 f4 s4=>stoAll B4 rfl rfl fun u5 B5 f5 s5=>⟨_,rfl,Nat.le_refl _,rfl,B5,fd.then0 (f4.newer f5 fun k e=>by cases e; exact Nat.le_refl _)⟩
    ·refine ptrI (fldI c1.drew (i:=3) (x:=some mb) rfl (aggI B17.drew (x:=((e.1,c.1):Int × Int)) rfl (newI fun u4 B4 f4 s4=>?_)))
     refine Zie (q:=(e.1,c.1)) (Mold ((c5.then fd.any).then f4.any)) hid hk255 ?_
     exact stoAll B4 rfl rfl fun u5 B5 f5 s5=>⟨_,rfl,Nat.le_refl _,rfl,B5,fd.then0 (f4.newer f5 fun k e=>by cases e; exact Nat.le_refl _)⟩
   ·rintro ⟨z1,z2⟩ u5 ⟨g,hz1,hg,hz2,B23,f5⟩
    dsimp only at hz1 hz2 ⊢
    subst hz1
    subst hz2
    have B14:=B14.fr f5 fun h=>h
    have B17:=B17.fr f5 fun h=>h
    have B8v:=B8v.fr f5 fun h=>h
    have c1:=c1.fr f5 fun h=>h
    have c2:=c2.none f5
    have c3:=c3.fr f5 fun h=>h
    have c4:=c4.then (f5.any (S:=fun k=>k=b∨k=mb2))
    have c5:=c5.then (f5.any (S:=fun k=>k=b))
    have z5:=f5.size
    have hgu:=B23.lt
    refine joinI (fun (z:Bool) v=>v=u5∧z=decide (getE (entsM m.x) e.1 c.1≠some c)) ?_ ?_
    ·cases hg0:getE (entsM m.x) e.1 c.1 with
     | none =>
      rw [hcf,hg0]
      exact condT rfl ⟨rfl,rfl⟩
     | some c0 =>
      rw [hcf,hg0] at B23 ⊢
      refine condF rfl (ptrI (aggI' (o:=0) (x:=c0) B23 (fun j u hj=>?_) (aggI B14 (x:=c) rfl (neqI Zot (Zov c0 c) ⟨rfl,?_⟩))))
      ·rcases j with _ | _ | _ | _ | j
       ·exact hj
       ·exact hj
       ·exact hj
       ·exact hj
       ·cases hj
      ·by_cases hcc:c0=c <;> simp [hcc]
    ·rintro z u6 ⟨rfl,rfl⟩
     refine joinI (fun (_:Unit) v=>Blk v g 138 (seenC (seen5 (c,tickM m (e.1,c))))∧LookI w w3 b sb bb mb mb2 (m.tick+1) (fun k=>k≠v0.heap.size) (nextF (tickM m) (pairsM ((entsM x).take j) ++ (e.2.take i).map fun c=>(e.1,c))) (movedM m (pairsM ((entsM x).take j) ++ (e.2.take (i+1)).map fun c=>(e.1,c))) v ∧
      Blk v v0.heap.size 49 (entT.cells a)∧Blk v (u1.heap.size) 140 [.int .u32 e.1,.int .u8 c.1]) ?_ ?_
     ·by_cases hne:getE (entsM m.x) e.1 c.1≠some c
      ·refine condT (decide_eq_true hne) (drawI (aggI B14.drew (x:=c) rfl (ptrI (fldI c1.drew (i:=2) (x:=m.tick+1) rfl (ptrI ?_)))))
       have fd:Fr None u6 u6.drew:=(Fr.refl _ _).drew
       refine stoAll (B23.fr fd fun h=>h) rfl rfl fun u7 B7 f7 s7=>?_
       have htick:seen5 (c,tickM m (e.1,c))=(c.1,c.2.1,c.2.2.1,c.2.2.2,m.tick+1):=by
        unfold tickM
        rw [if_neg hne]
        rfl
       have f67:Fr (fun k=>k=g) u6 u7:=fd.any.then f7
       have hgw:w3.heap.size≤g:=by omega
       have c1:=c1.fr f67 fun e=>by have e:b=g:=e; omega
       have c2:Den.Own (fun k=>w3.heap.size≤k∧k≠v0.heap.size∧k≠g∧k≠u1.heap.size) u7 45 plcT ps (movedM m (pairsM ((entsM x).take j) ++ (e.2.take i).map fun c=>(e.1,c))) :=
        (c2.mono (S':=fun k=>w3.heap.size≤k∧k≠v0.heap.size∧k≠g∧k≠u1.heap.size) fun k _ e=>⟨e.1,e.2.1,by omega,by omega⟩).fr f67 fun k e e2=>e.2.2.1 e2
       have c3:=c3.fr f67 fun e=>by have e:mb2=g:=e; omega
       have c4:=c4.thenNew f67 fun k e=>by have e:k=g:=e; omega
       have c5:=c5.thenNew f67 fun k e=>by have e:k=g:=e; omega
       have B14:=B14.fr f67 fun e=>by have e:u0.heap.size=g:=e; omega
       have B17:=B17.fr f67 fun e=>by have e:u1.heap.size=g:=e; omega
       have B8v:=B8v.fr f67 fun e=>by have e:v0.heap.size=g:=e; omega
       have z67:=f67.size
       rw [htick]
       refine fldI B14 (i:=0) (x:=c.1) rfl (joinK (condE (fun hk0=>?_) fun hk0=>?_))
       ·have fd7:Fr None u7 u7.drew:=(Fr.refl _ _).drew
        refine drawI (ptrI (fldI c1.drew (i:=4) (x:=ps) rfl (fldI B8v.drew (i:=0) (x:=a.1) rfl ?_)))
        refine idxA (by omega) (by omega) ?_
        rw [addA]
        refine fldI B14.drew (i:=1+Int.toNat 0 * 1) (x:=c.2.1) rfl (idxA (by omega) (by omega) ?_)
        rw [addA]
        refine fldI B14.drew (i:=1+Int.toNat 1 * 1) (x:=c.2.2.1) rfl ?_
        have hml:=Zif (m:=m) (hpj i)
        refine Zp2 (w:=u7.drew) (p:=(a.1,true,c.2.1,c.2.2.1)) c1.drew (c2.none fd7) (c3.fr fd7 fun h=>h) (c4.then fd7.any) (c5.then fd7.any) hc (fun k e=>?_) (by omega) fun u8 I8 f8=>?_
        ·have e:u7.heap.size≤k:=e
         exact ⟨by omega,by omega,by omega⟩
        have nw:∀ y,(v0.heap.size=y∨y=g∨y=u1.heap.size)→w3.heap.size≤y→¬ (y=b∨(w3.heap.size≤y∧y≠v0.heap.size∧y≠g∧y≠u1.heap.size)):=fun y h1 h2 h3=>by omega
        refine ⟨B7.drew.fr f8 (nw g (.inr (.inl rfl)) (by omega)),?_,B8v.drew.fr f8 (nw _ (.inl rfl) (by omega)),B17.drew.fr f8 (nw _ (.inr (.inr rfl)) (by omega))⟩
        rw [etake,← List.append_assoc,Zdz,if_pos ⟨hne,hk0⟩]
        rw [ha1] at I8
        exact I8.mono fun k _ e=>e.1
       ·refine ⟨B7,?_,B8v,B17⟩
        rw [etake,← List.append_assoc,Zdz,if_neg (fun h=>hk0 h.2),List.append_nil]
        exact ⟨ps,c1,c2.mono fun k _ e=>⟨e.1,e.2.1⟩,c3,c4,c5⟩
      ·refine condF (decide_eq_false hne) ?_
       have hgeq:getE (entsM m.x) e.1 c.1=some c:=by simpa using hne
       refine ⟨?_,?_,B8v,B17⟩
       ·rw [hcf,hgeq] at B23
        have:tickM m (e.1,c)=changedM m.marks e.1 c.1:=by unfold tickM; rw [if_pos hgeq]
        rw [this]
        exact B23
       ·rw [etake,← List.append_assoc,Zdz,if_neg (fun h=>h.1 hgeq),List.append_nil]
        exact ⟨ps,c1,c2.mono fun k _ e=>⟨e.1,e.2.1⟩,c3,c4,c5⟩
     ·rintro _ u8 ⟨B23,⟨ps,c1,c2,c3,c4,c5⟩,B8v,B17⟩
      refine aggI B17 (x:=((e.1,c.1):Int × Int)) rfl (ptrI (aggI B23 (x:=seen5 (c,tickM m (e.1,c))) rfl (Zt3 (q:=(e.1,c.1)) c3 hid hk255 (c,tickM m (e.1,c)) fun u9 M9 f9 s9=>?_)))
      have nb:∀ y,y≠mb2→¬ (fun k=>k=mb2) y:=fun y h1 h2=>h1 h2
      refine hK2 _ _ ⟨wsucc hil (by omega),⟨ps,c1.fr f9 fun e=>by have e:b=mb2:=e; omega,c2.fr f9 fun k e e2=>by have e2:k=mb2:=e2; have:=e.1; omega,?_,c4.then (f9.sub fun k e=>.inr e),c5.thenNew f9 fun k e=>by have e:k=mb2:=e; omega⟩,B8v.fr f9 fun e=>by have e:v0.heap.size=mb2:=e; omega⟩
      rw [etake,← List.append_assoc,Zpy]
      exact M9
  ·rintro s v2 ⟨rfl,I2,_⟩
   refine hK _ _ ⟨wsucc hjl (by omega),?_⟩
   rw [List.take_length] at I2
   rw [Z1q he,Zge]
   exact I2.mono fun _ _ _=>trivial
 ·rintro s v0 ⟨rfl,I1⟩
  rw [hrl,List.take_length] at I1
  obtain ⟨ps1,c1,c2,c3,c4,c5⟩:=I1
  have z4:=c4.size
  refine ptrI (fldI c1 (i:=3) (x:=some mb) rfl (rngI (Mold c5) Zhj fun v1 hr f1' s1'=>?_))
  have hml:(movedM m (pairsM (entsM x))).length≤6144:=Zif hplen
  have hN:=fun q=>Zsv (m:=m) hok q
  have hmb:mb < w.heap.size:=(hF mb (by omega)).2
  refine loopI (fun (_:Unit) v=>∃ left last G,RngM Tryz.prog 140 keV v mb v0.heap.size (mapV (compsF m)) left last ∧
   LookI w w3 b sb bb mb mb2 (m.tick+1) (fun k=>k≠v0.heap.size) (nextF (tickM m) (pairsM (entsM x))) (movedM m (pairsM (entsM x)) ++ G) v∧GoneI m (nextF (tickM m) (pairsM (entsM x))) left G∧v0.heap.size < v.heap.size) (fun _ v=>v.rangeLeft mb v0.heap.size)
   ⟨_,_,[],hr,by rw [List.append_nil]; exact (LookI.mono ⟨ps1,c1,c2,c3,c4,c5⟩ fun k hk _=>by omega).none f1',GoneI.start m _,by omega⟩ ?_
  rintro _ v2 ⟨left,last,G,hr2,I2,hG,hv2⟩
  obtain ⟨ps2,d1,d2,d3,d4,d5⟩:=I2
  refine nxtI Zo1 hr2 (fun hall=>?_) fun i v v3 hfi hli hr3 f3' s3' hμ=>?_
  ·
   refine ptrI (setI (i:=3) (v:=.map (some mb2)) d1 (by simp) rfl fun v4 B4 f4 s4=>ptrI (fldI B4 (i:=4) (x:=ps2) rfl ?_))
   have hdone:=hG.done hall
   have hlen:(movedM m (pairsM (entsM x)) ++ G).length≤1048576:=by
    have h1:G.length≤(pairsM (entsM m.x)).length:=hG.len hwas
    have:=Z6o hwas hwle
    rw [List.length_append]; omega
   refine Zjq (d2.fr f4 fun k e e2=>by have e2:k=b:=e2; have:=e.1; omega) hlen fun l' v5 o5 p5 r5 f5=>?_
   have hpl:l'=placesM m (entsM x):=Zrg hok hwas hG.nodup (fun q=>?_) p5 r5
   ·subst hpl
    have hown5:∀ k,ps2.v.ownBlock=some k→w3.heap.size≤k:=fun k e=>(d2.own k e).1
    have f05:Fr (fun k=>k=b) w v5:=(d5.then f4).thenNew f5 fun k e=>by have:=hown5 k e; omega
    have z5:=f05.size
    have zv5:w3.heap.size≤v5.heap.size:=((d4.then (f4.sub fun k e=>.inl e)).thenNew f5 fun k e=>hown5 k e).size
    refine hk v5 ⟨fun k=>if k < w.heap.size then lab k else if k=mb2 then 4 else if w3.heap.size≤k then 5 else 0,sb,bb,mb2,ps2,fun k e=>?_,⟨⟨?_,?_⟩,?_,?_,⟨?_,?_⟩,?_⟩⟩ (f05.sub fun k e=>by subst e; exact hbF)
    ·by_cases h1:k < w.heap.size
     ·have e:(if k < w.heap.size then lab k else if k=mb2 then 4 else if w3.heap.size≤k then 5 else 0)≠0:=e
      rw [if_pos h1] at e
      exact .inl (hF k e).1
     ·exact .inr (by omega)
    ·show (if b < w.heap.size then lab b else _)=1
     rw [if_pos hbl]; exact hlb
    ·exact B4.fr f5 fun e=>by have:w3.heap.size≤b:=hown5 _ e; omega
    ·exact Store.st hR.sto f05 fun k hk e=>⟨fun e2=>by have e2:k=b:=e2; subst e2; have e:lab k=2:=e; omega,by show (if k < w.heap.size then lab k else _)=2; rw [if_pos hk]; exact e⟩
    ·exact Buf.st hR.buf f05 fun k hk e=>⟨fun e2=>by have e2:k=b:=e2; subst e2; have e:lab k=3:=e; omega,by show (if k < w.heap.size then lab k else _)=3; rw [if_pos hk]; exact e⟩
    ·show (if mb2 < w.heap.size then lab mb2 else _)=4
     rw [if_neg (by omega),if_pos rfl]
    ·refine ((d3.fr f4 fun e=>by have e:mb2=b:=e; omega).fr f5 fun e=>by have:=hown5 _ e; omega).congr fun q=>?_
     unfold mapV
     rw [hN q]
    ·refine o5.mono fun k _ e=>?_
     show (if k < w.heap.size then lab k else _)=5
     have:=e.1
     rw [if_neg (by omega),if_neg (by omega),if_pos e.1]
   ·rw [hdone q]
    have hN0:=hN (q.1,0)
    rw [hN0]
    show _∧((getE (entsM m.x) q.1 0).map _).isSome=true∧(getE (entsM x) q.1 0).map _=none↔_
    simp only [Option.isSome_map,Option.map_eq_none_iff]
  ·
   unfold mapV at hfi
   obtain ⟨p,hp,rfl⟩:=Option.map_eq_some_iff.1 hfi
   have hik:IdOk i.1∧0≤i.2∧i.2≤255:=by
    unfold compsF at hp
    obtain ⟨c0,hc0,_⟩:=Option.map_eq_some_iff.1 hp
    obtain ⟨a1,a2⟩:=(Z54 hwas).1 hc0
    obtain ⟨e,he,he1,he2⟩:=Z4b.1 a1
    obtain ⟨b1,b2⟩:=hwas.2 e he
    have:=Z49 ((Z3x.1 b2).1 c0 he2)
    have he1:e.1=i.1:=he1
    rw [← he1,← a2]
    exact ⟨b1,this.1,Int.le_trans this.2 (by decide)⟩
   have hr4:=hr3.lt
   refine entI Zo1 (v:=seenV p) hr3 (by unfold mapV; rw [hp]; rfl) (x:=((i,seen5 p):(Int × Int) × Seen5)) rfl ?_
   refine newI fun v4 B4 f4 s4=>stoAll B4 rfl rfl fun v5 B5 f5 s5=>aggI B5 (x:=(i:Int × Int)) rfl ?_
   have f35:Fr None v3 v5:=f4.newer f5 fun k e=>by omega
   have hs4:v4.heap.size=v3.heap.size+1:=s4
   have f25:Fr (fun k=>k=v0.heap.size) v2 v5:=f3'.then f35.any
   have e1:=d1.fr f25 fun e=>by have e:b=v0.heap.size:=e; omega
   have e2:=d2.fr f25 fun k e e2=>e.2 e2
   have e3:=d3.fr f25 fun e=>by have e:mb2=v0.heap.size:=e; omega
   have e4:=d4.thenNew f25 fun k e=>by have e:k=v0.heap.size:=e; omega
   have e5:=d5.thenNew f25 fun k e=>by have e:k=v0.heap.size:=e; omega
   have hr5:=hr3.fr f35 (fun h=>h) fun h=>h
   refine Zie (q:=i) e3 hik.1 hik.2 ?_
   refine newI fun v6 B6 f6 s6=>stoAll B6 rfl rfl fun v7 B7 f7 s7=>?_
   have f57:Fr None v5 v7:=f6.newer f7 fun k e=>by omega
   have e1:=e1.fr f57 fun h=>h
   have e2:=e2.none f57
   have e3:=e3.fr f57 fun h=>h
   have e4:=e4.then (f57.any (S:=fun k=>k=b∨k=mb2))
   have e5:=e5.then (f57.any (S:=fun k=>k=b))
   have B5:=B5.fr f57 fun h=>h
   have hr7:=hr5.fr f57 (fun h=>h) fun h=>h
   have z57:=f57.size
   have hsz3:=f35.size
   have hleft:∀ {v:World} {T:Nat→Prop},Fr T v3 v→¬ T mb→¬ T v0.heap.size→v.rangeLeft mb v0.heap.size=v3.rangeLeft mb v0.heap.size:=fun {v T} f h1 h2=>by
    unfold World.rangeLeft
    rw [f.block mb (by omega) h1,f.block v0.heap.size hr4 h2]
   refine joinI (fun (z:Bool) v=>v=v7∧z=decide (nextF (tickM m) (pairsM (entsM x)) i=none∧i.2=0)) ?_ ?_
   ·cases hn:nextF (tickM m) (pairsM (entsM x)) i with
    | none =>
     refine condT rfl (fldI B5 (i:=1) (x:=i.2) rfl ⟨rfl,?_⟩)
     by_cases h0:i.2=0 <;> simp [h0]
    | some p2=>exact condF rfl ⟨rfl,by simp⟩
   ·rintro z v8 ⟨rfl,rfl⟩
    refine joinK ?_
    have f38:Fr None v3 v8:=f35.then0 f57
    by_cases hz:nextF (tickM m) (pairsM (entsM x)) i=none∧i.2=0
    ·have fd:Fr None v8 v8.drew:=(Fr.refl _ _).drew
     refine condT (decide_eq_true hz) (drawI (ptrI (fldI e1.drew (i:=4) (x:=ps2) rfl (fldI B5.drew (i:=0) (x:=i.1) rfl ?_))))
     have hlen:(movedM m (pairsM (entsM x)) ++ G).length≤1048576:=by
      have h1:G.length≤(pairsM (entsM m.x)).length:=hG.len hwas
      have:=Z6o hwas hwle
      rw [List.length_append]; omega
     refine Zp2 (w:=v8.drew) (p:=(i.1,false,0,0)) e1.drew (e2.none fd) (e3.fr fd fun h=>h) (e4.then fd.any) (e5.then fd.any) hc (fun k e=>by have e:v8.heap.size≤k:=e; omega) hlen fun v9 I9 f9=>?_
     rw [List.append_assoc] at I9
     have f39:Fr (fun k=>k=b∨(w3.heap.size≤k∧k≠v0.heap.size)) v3 v9:=(f38.then0 fd).any.then f9
     have nmb:¬ (mb=b∨(w3.heap.size≤mb∧mb≠v0.heap.size)):=fun h=>by
      rcases h with h | h
      ·rw [h] at hlm; omega
      ·omega
     have nv0:¬ (v0.heap.size=b∨(w3.heap.size≤v0.heap.size∧v0.heap.size≠v0.heap.size)):=fun h=>by
      rcases h with h | h
      ·omega
      ·exact h.2 rfl
     refine ⟨⟨_,_,G ++ [(i.1,false,0,0)],hr3.fr f39 nmb nv0,I9,hG.step hli ⟨by rw [show compsF m i=some p from hp]; rfl,hz⟩,?_⟩,?_⟩
     ·have:=f39.size; omega
     ·rw [hleft f39 nmb nv0]; exact hμ
    ·refine condF (decide_eq_false hz) ⟨⟨_,_,G,hr7,⟨ps2,e1,e2,e3,e4,e5⟩,hG.skip hli hz,by omega⟩,?_⟩
     rw [hleft f38 (fun h=>h) fun h=>h]; exact hμ
end Go.Proofs.YtoiahhpgkoknfaaGreat
namespace Go.Proofs.YtoiahhpgkoknfaaGreat
open Go Go.RowKit Go.Proofs.YtoiahhpgkoknfaaGreat.Den
variable {R:Type} {Q:R→World→Prop} {w:World}
def newM (n:Nat) (first tick:Int):WM:=⟨StM.new n first,[],tick,[],[]⟩
theorem Zlf {n:Nat} {first:Int} (h:StOk (StM.new n first)):entsM (StM.new n first)=[]:=by
 have:(StM.new n first).s.list=[]:=List.eq_nil_iff_forall_not_mem.2 fun id hid=>by
  have h1:=h.s.mem_list.1 hid
  obtain ⟨m,_,hm⟩:=(h.live id).2 h1
  simp [inT,StM.new,rowM] at hm
 unfold entsM
 rw [this]
 rfl
theorem Zua {n:Nat} {first tick:Int} (h:StOk (StM.new n first)) (ht:0≤tick∧tick≤4294967295):WMOk (newM n first tick) :=
 ⟨h,Nat.zero_le _,fun o ho=>(List.not_mem_nil ho).elim,ht,by show []=(pairsM (entsM (StM.new n first))).map keyP; rw [Zlf h]; rfl,fun k hk=>(List.not_mem_nil hk).elim⟩
theorem Zk4 {n first tick:Int} (ht:0≤tick∧tick≤4294967295) {K:Res [.sc .ptr,.sc (.int .i64)]→Den.W R} (h1:¬ (1≤n∧n≤1024∧1≤first∧first≤4194303)→K (none,1) Q w)
  (h2:∀ b w',1≤n∧n≤1024∧1≤first∧first≤4194303→WldO b (newM n.toNat first tick) (Up w.heap.size) w'→WMOk (newM n.toNat first tick)→Fr None w w'→K (some ⟨b,0,none⟩,0) Q w') :
  callW Tryz.prog Z8r [.int .i64 n,.int .i64 first,.int .u32 tick] [.sc .ptr,.sc (.int .i64)] K Q w:=by
 refine Znq _ _ _ K Q w ?_
 unfold Zhz
 refine Zk2 (fun hn=>condT rfl (h1 hn)) fun sb w1 hp S f1=>condF rfl (Ziy fun bb w2 U f2=>mapNewI ?_)
 have fm:=(Fr.refl None w2).alloc (.map #[] 0)
 have mm:=MapB.made (P:=Tryz.prog) (k:=140) (ke:=keV) w2
 have s3:(w2.alloc (.map #[] 0)).heap.size=w2.heap.size+1:=by simp
 generalize w2.alloc (.map #[] 0)=w3 at *
 refine newI fun w4 B4 f4 s4=>?_
 have hok:=(Store.open_ S).1
 have z1:=f1.size
 have z2:=f2.size
 have f24:=fm.then0 f4
 refine h2 w3.heap.size w4 hp ⟨fun k=>if k < w1.heap.size then (if w.heap.size≤k then 2 else 0) else if k < w2.heap.size then 3 else if k=w2.heap.size then 4 else if k=w3.heap.size then 1 else 0,sb,bb,w2.heap.size,⟨none,0,0⟩,fun k e=>?_,⟨⟨?_,B4⟩,?_,?_,⟨?_,?_⟩,Den.Own.nil _ _ _ _⟩⟩ (Zua hok ht) ((f1.then0 f2).then0 f24)
 ·show w.heap.size≤k
  by_cases h:w.heap.size≤k
  ·exact h
  ·have e:(if k < w1.heap.size then (if w.heap.size≤k then 2 else 0) else _)≠0:=e
   rw [if_pos (by omega),if_neg h] at e
   exact absurd rfl e
 ·show (if w3.heap.size < w1.heap.size then _ else _)=1
  rw [if_neg (by omega),if_neg (by omega),if_neg (by omega),if_pos rfl]
 ·refine Store.st S (f2.then0 f24) fun k hk e=>⟨fun h=>h,?_⟩
  show (if k < w1.heap.size then _ else _)=2
  rw [if_pos hk,if_pos e]
 ·refine Buf.st U f24 fun k hk e=>⟨fun h=>h,?_⟩
  have e:w1.heap.size≤k:=e
  show (if k < w1.heap.size then _ else _)=3
  rw [if_neg (by omega),if_pos hk]
 ·show (if w2.heap.size < w1.heap.size then _ else _)=4
  rw [if_neg (by omega),if_neg (by omega),if_pos rfl]
 ·refine (mm.fr f4 fun h=>h).congr fun q=>?_
  show ((getE (entsM (StM.new n.toNat first)) q.1 q.2).map _).map seenV=none
  rw [Zlf hok]
  rfl
section
variable {b:Nat} {x:StM} {L:List Ordr} {tk:Int} {f:Key→Option (Comp × Int)} {pl:List Plc} {F:Nat→Prop}
theorem Zj8 (h:WldG b x L tk f pl F w) (hL:L.length≤256) {ok:Nat→Prop} {r:OrdRaw} {o:Ordr} (hr:ordR ok w r o) (hsm:Small o.2.2.2) {K:Res [.sc (.int .i64)]→Den.W R}
  (hk:∀ w',WldG b x (pushL L o) tk f pl (Ex F w) w'→Fr F w w'→K (pushE L o) Q w'):callW Tryz.prog Z20 [.pointer (some ⟨b,0,none⟩),.agg ⟨ordC r⟩] [.sc (.int .i64)] K Q w:=by
 refine Zet _ r K Q w ?_
 unfold Z9j
 obtain ⟨lab,sb,bb,mb,ps,hF,hR⟩:=h.shut
 refine newI fun w1 B1 f1 s1=>condF rfl (drawI ?_)
 have fd:Fr None w1 w1.drew:=(Fr.refl _ _).drew
 have f1d:=f1.then0 fd
 have hlb:lab b=1:=hR.blk.1
 refine ptrI (fldI (hR.blk.2.fr f1d fun h=>h) (i:=1) (x:=some ⟨bb,0,none⟩) rfl (aggI B1.drew (x:=r) rfl ?_))
 refine Zro (Buf.st.fr0 hR.buf f1d) hL (Za2 r o hr f1d (F':=ok) fun k _ e=>⟨fun h=>h,e⟩) hsm fun w2 U2 f2=>?_
 have f02:Fr (fun k=>lab k=3) w w2:=f1d.any.then f2
 have z1:w1.drew.heap.size=w.heap.size+1:=s1
 have z2:=f02.size
 have keep:∀ {A:OB} {i:Nat},St A→i≠3→i≠0→A (fun k=>lab k=i) w→A (fun k=>(if k < w.heap.size then lab k else 3)=i) w2:=fun {A i} st hi h0 a=>st a f02 fun k hk e=>⟨fun e2=>by have e:lab k=i:=e; have e2:lab k=3:=e2; omega,by show (if k < w.heap.size then lab k else 3)=i; rw [if_pos hk]; exact e⟩
 refine hk w2 ⟨fun k=>if k < w.heap.size then lab k else 3,sb,bb,mb,ps,fun k e=>?_,⟨keep Bl.st (by decide) (by decide) hR.blk,keep Store.st (by decide) (by decide) hR.sto,?_,keep Mp.st (by decide) (by decide) hR.map,keep Den.Own.st (by decide) (by decide) hR.plc⟩⟩ (f02.sub fun k e=>(hF k (by omega)).1)
 ·by_cases h1:k < w.heap.size
  ·have e:(if k < w.heap.size then lab k else 3)≠0:=e
   rw [if_pos h1] at e
   exact .inl (hF k e).1
  ·exact .inr (by omega)
 ·refine Buf.st.mono U2 fun k _ e=>?_
  show (if k < w.heap.size then lab k else 3)=3
  by_cases h1:k < w.heap.size
  ·rw [if_pos h1]
   rcases e with e | e
   ·exact e
   ·omega
  ·rw [if_neg h1]
end
end Go.Proofs.YtoiahhpgkoknfaaGreat
namespace Go.Proofs.YtoiahhpgkoknfaaGreat
open Go Go.RowKit Go.Proofs.YtoiahhpgkoknfaaGreat.Den
variable {R:Type} {Q:R→World→Prop} {w:World}
theorem Zs6 {m:WM} {b:Nat} {F:Nat→Prop} (h:WldG b (nowM m) [] (m.tick+1) (fun q=>(getE (entsM (nowM m)) q.1 q.2).map fun c=>(c,changedM (marksM m (entsM (nowM m))) q.1 q.2)) (placesM m (entsM (nowM m))) F w):WldO b (stepM m) F w:=by
 unfold stepM
 generalize nowM m=y at *
 generalize marksM m (entsM y)=ms at *
 generalize placesM m (entsM y)=ps at *
 exact h
open Classical in
set_option maxHeartbeats 1000000 in
theorem Zj9 {m:WM} {b:Nat} {F:Nat→Prop} (h:WldO b m F w) (hm:WMOk m) {K:Res [.sc .sl,.sc (.int .i64)]→Den.W R} (h0:m.tick=4294967295→K (⟨none,0,0⟩,11) Q w)
  (hk:m.tick < 4294967295→∀ r w' G,WldO b (stepM m) G w'→(∀ k,G k→(F k∨w.heap.size≤k)∧k < w'.heap.size)→Den.Own (fun k=>w.heap.size≤k∧¬ G k) w' 71 resT r (allM m.x m.wait).1→WMOk (stepM m)→Fr F w w'→K (r,0) Q w') :
  callW Tryz.prog Z21 [.pointer (some ⟨b,0,none⟩)] [.sc .sl,.sc (.int .i64)] K Q w:=by
 refine Zeu _ K Q w ?_
 unfold Z9k
 obtain ⟨lab,sb,bb,mb,ps,hF,hR⟩:=h.shut
 obtain ⟨hlb,B⟩:=hR.blk
 have hlb:lab b=1:=hlb
 have htk:=hm.tick
 refine condF rfl (ptrI (fldI B (i:=2) (x:=m.tick) rfl (condE (fun e=>h0 e) fun hne=>?_)))
 have htl:m.tick < 4294967295:=by omega
 have hk:=hk htl
 have ew:IntKind.wrap .u32 (m.tick+1)=m.tick+1:=by rw [IntKind.wrap_u32]; omega
 refine ptrI (fldI B (i:=2) (x:=m.tick) rfl (ptrI ?_))
 rw [ew]
 refine setI (i:=2) (v:=.int .u32 (m.tick+1)) B (by simp) rfl fun w1 B1 f1 s1=>drawI ?_
 have f1:Fr (fun k=>k=b) w w1:=f1
 have s1:w1.heap.size=w.heap.size:=s1
 have B1:Blk w1 b 126 [.pointer (some ⟨sb,0,none⟩),.pointer (some ⟨bb,0,none⟩),.int .u32 (m.tick+1),.map (some mb),.slice ps.a ps.n ps.c]:=B1
 have fd:Fr None w1 w1.drew:=(Fr.refl _ _).drew
 have f1d:Fr (fun k=>k=b) w w1.drew:=f1.then fd.any
 have B1:=B1.drew
 have s1:w1.drew.heap.size=w.heap.size:=s1
 generalize w1.drew=w2 at *
 have keepb:∀ {A:OB} {i:Nat},St A→i≠1→A (fun k=>lab k=i) w→A (fun k=>lab k=i) w2:=fun {A i} st hi a=>st a f1d fun k hk e=>⟨fun e2=>by have e2:k=b:=e2; subst e2; have e:lab k=i:=e; omega,e⟩
 have S2:=keepb Store.st (by decide) hR.sto
 have U2:=keepb Buf.st (by decide) hR.buf
 have M2:=keepb Mp.st (by decide) hR.map
 have P2:=keepb Den.Own.st (by decide) hR.plc
 have hlbb:lab bb=3:=by obtain ⟨_,_,_,e,_⟩:=hR.buf; exact e
 have hlm:lab mb=4:=hR.map.1
 have hbl:=(hF b (by omega)).2
 have hbbl:=(hF bb (by omega)).2
 refine ptrI (fldI B1 (i:=0) (x:=some ⟨sb,0,none⟩) rfl (ptrI (fldI B1 (i:=1) (x:=some ⟨bb,0,none⟩) rfl ?_)))
 refine Zrr U2 fun r raws w3 U3 D3 f3=>?_
 have B3:=B1.fr f3 fun e=>by have e:b=bb:=e; rw [e] at hlb; omega
 have S3:Store sb m.x (fun k=>lab k=2) w3:=Store.st.fr S2 f3 fun k e e2=>by have e2:k=bb:=e2; subst e2; omega
 have M3:=Mp.st.fr M2 f3 fun k e e2=>by have e2:k=bb:=e2; subst e2; omega
 have P3:=Den.Own.st.fr P2 f3 fun k e e2=>by have e2:k=bb:=e2; subst e2; omega
 have f03:Fr F w w3:=(f1d.sub fun k e=>by have e:k=b:=e; subst e; exact (hF k (by omega)).1).then (f3.sub fun k e=>by have e:k=bb:=e; subst e; exact (hF k (by omega)).1)
 have z3:=f3.size
 refine andI (B3.rd (s:=.ptr) (i:=0) (x:=some ⟨sb,0,none⟩) rfl) ?_
 have hsmall:Small m.wait:=Nat.le_trans hm.few (by decide)
 refine Zix S3 D3 (fun k _ e e2=>by have e2:lab k=2:=e2; have:=e.1; omega) hm.wait hsmall fun rr w4 G1 S4 hG1 o4 f4=>?_
 have hlow:∀ {G:Nat→Prop} {n:Nat},w.heap.size≤n→(∀ k,G k→lab k=2∨n≤k)→∀ k,k < w.heap.size→G k→lab k=2:=fun hn h k hk e=>by rcases h k e with h | h; exact h; omega
 have l1:∀ k,k < w.heap.size→G1 k→lab k=2:=hlow (n:=w3.heap.size) (by omega) fun k e=>(hG1 k e).1
 have B4:=B3.fr f4 fun e=>by have e:lab b=2:=e; omega
 have U4:Buf bb [] (fun k=>k=bb) w4:=Buf.st.fr U3 f4 fun k e e2=>by have e:k=bb:=e; subst e; have e2:lab k=2:=e2; omega
 have M4:=Mp.st.fr M3 f4 fun k e e2=>by have e2:lab k=2:=e2; omega
 have P4:=Den.Own.st.fr P3 f4 fun k e e2=>by have e2:lab k=2:=e2; omega
 have z4:=f4.size
 have z34:=f4.size
 have next:∀ {v v':World} {G G':Nat→Prop} {n:Nat},w.heap.size≤v.heap.size→(∀ k,k < w.heap.size→G k→lab k=2)→(∀ k,G' k→G k∨v.heap.size≤k)→∀ k,k < w.heap.size→G' k→lab k=2:=fun {v v' G G' n} hv hg hg' k hk e=>by
  rcases hg' k e with h | h
  ·exact hg k hk h
  ·omega
 have thru:∀ {v v':World} {G:Nat→Prop},(∀ k,k < w.heap.size→G k→lab k=2)→Fr G v v'→Blk v b 126 [.pointer (some ⟨sb,0,none⟩),.pointer (some ⟨bb,0,none⟩),.int .u32 (m.tick+1),.map (some mb),.slice ps.a ps.n ps.c]∧Buf bb [] (fun k=>k=bb) v∧Mp Tryz.prog 140 keV mb (mapV (compsF m)) (fun k=>lab k=4) v∧Den.Own (fun k=>lab k=5) v 45 plcT ps m.places →
   Blk v' b 126 [.pointer (some ⟨sb,0,none⟩),.pointer (some ⟨bb,0,none⟩),.int .u32 (m.tick+1),.map (some mb),.slice ps.a ps.n ps.c]∧Buf bb [] (fun k=>k=bb) v'∧Mp Tryz.prog 140 keV mb (mapV (compsF m)) (fun k=>lab k=4) v'∧Den.Own (fun k=>lab k=5) v' 45 plcT ps m.places:=fun {v v' G} hg f ⟨h1,h2,h3,h4⟩ =>
  ⟨h1.fr f fun e=>by have:=hg b hbl e; omega,Buf.st.fr h2 f fun k e e2=>by have e:k=bb:=e; subst e; have:=hg k hbbl e2; omega,Mp.st.fr h3 f fun k e e2=>by have e:lab k=4:=e; have:=hg k (hF k (by omega)).2 e2; omega,Den.Own.st.fr h4 f fun k e e2=>by have e:lab k=5:=e; have:=hg k (hF k (by omega)).2 e2; omega⟩
 have A4:=And.intro B4 (And.intro U4 (And.intro M4 P4))
 refine ptrI (fldI B4 (i:=0) (x:=some ⟨sb,0,none⟩) rfl (Zgi S4 fun r5 w5 h5=>?_))
 obtain ⟨G2,S5,hG2,hG2l,_,f5⟩:=h5
 have z5:=f5.size
 have l2:=next (v:=w4) (v':=w5) (n:=0) (by omega) l1 hG2
 have A5:=thru l1 f5 A4
 refine ptrI (fldI A5.1 (i:=0) (x:=some ⟨sb,0,none⟩) rfl (Zhg S5 fun r6 w6 h6=>?_))
 obtain ⟨G3,S6,hG3,hG3l,_,f6⟩:=h6
 have z6:=f6.size
 have l3:=next (v:=w5) (v':=w6) (n:=0) (by omega) l2 hG3
 have A6:=thru l2 f6 A5
 refine ptrI (fldI A6.1 (i:=0) (x:=some ⟨sb,0,none⟩) rfl (Zfm S6 fun r7 w7 h7=>?_))
 obtain ⟨G4,S7,hG4,hG4l,_,f7⟩:=h7
 have z7:=f7.size
 have l4:=next (v:=w6) (v':=w7) (n:=0) (by omega) l3 hG4
 obtain ⟨B7,U7,M7,P7⟩:=thru l3 f7 A6
 have hO:Den.Own (fun k=>w3.heap.size≤k∧¬ G1 k∧k < w4.heap.size) w4 71 resT rr (allM m.x m.wait).1:=o4.mono fun k hk e=>⟨e.1,e.2,hk⟩
 have n2:∀ k,k < w4.heap.size→¬ G1 k→¬ G2 k:=fun k hk e e2=>by rcases hG2 k e2 with h | h; exact e h; omega
 have n3:∀ k,k < w4.heap.size→¬ G1 k→¬ G3 k:=fun k hk e e2=>by rcases hG3 k e2 with h | h; exact n2 k hk e h; omega
 have n4:∀ k,k < w4.heap.size→¬ G1 k→¬ G4 k:=fun k hk e e2=>by rcases hG4 k e2 with h | h; exact n3 k hk e h; omega
 have O7:=((hO.fr f5 fun k e e2=>e.2.1 e2).fr f6 fun k e e2=>n2 k e.2.2 e.2.1 e2).fr f7 fun k e e2=>n3 k e.2.2 e.2.1 e2
 let lab4:Nat→Nat:=fun k=>if G4 k then 2 else if k < w.heap.size∧lab k≠2 then lab k else 0
 have hl4:∀ k,k < w.heap.size→lab k≠2→lab4 k=lab k:=fun k hk e=>by
  show (if G4 k then 2 else _)=_
  rw [if_neg (fun e2=>e (l4 k hk e2)),if_pos ⟨hk,e⟩]
 have hl4n:∀ k,lab4 k≠0→G4 k∨(k < w.heap.size∧lab k≠2∧lab k≠0):=fun k e=>by
  by_cases h1:G4 k
  ·exact .inl h1
  ·have e:(if G4 k then 2 else if k < w.heap.size∧lab k≠2 then lab k else 0)≠0:=e
   rw [if_neg h1] at e
   by_cases h2:k < w.heap.size∧lab k≠2
   ·rw [if_pos h2] at e; exact .inr ⟨h2.1,h2.2,e⟩
   ·rw [if_neg h2] at e; exact absurd rfl e
 have hW:WldG b (nowM m) [] (m.tick+1) (compsF m) m.places (fun k=>lab4 k≠0) w7:=⟨lab4,sb,bb,mb,ps,fun k e=>e,⟨⟨?_,B7⟩,?_,?_,⟨?_,M7.2⟩,?_⟩⟩
 rotate_left
 ·show lab4 b=1; rw [hl4 b hbl (by omega)]; exact hlb
 ·exact Store.st.mono S7 fun k _ e=>by show (if G4 k then 2 else _)=2; rw [if_pos e]
 ·exact Buf.st.mono U7 fun k _ e=>by have e:k=bb:=e; subst e; show lab4 k=3; rw [hl4 k hbbl (by omega)]; exact hlbb
 ·show lab4 mb=4; rw [hl4 mb (hF mb (by omega)).2 (by omega)]; exact hlm
 ·exact Den.Own.st.mono P7 fun k hk e=>by have e:lab k=5:=e; show lab4 k=5; rw [hl4 k (hF k (by omega)).2 (by omega)]; exact e
 refine Zjb hm htl hW fun w8 h8 f8=>?_
 have z8:=f8.size
 have hok:StOk (nowM m):=(Store.open_ S7).1
 have fG:∀ {G:Nat→Prop} {v v':World},w.heap.size≤v.heap.size→(∀ k,k < w.heap.size→G k→lab k=2)→Fr G v v'→Fr (Ex F w) v v':=fun {G v v'} hv hg f=>f.sub fun k e=>by
  by_cases hk:k < w.heap.size
  ·exact .inl (hF k (by have:=hg k hk e; omega)).1
  ·exact .inr (by omega)
 have g8:Fr (Ex F w) w7 w8:=f8.sub fun k e=>by
  by_cases hk:k < w.heap.size
  ·rcases hl4n k e with e | e
   ·exact .inl (hF k (by have:=l4 k hk e; omega)).1
   ·exact .inl (hF k e.2.2).1
  ·exact .inr (by omega)
 have f08:Fr F w w8:=((((f03.ex (fG (by omega) (fun k _ e=>e) f4)).ex (fG (by omega) l1 f5)).ex (fG (by omega) l2 f6)).ex (fG (by omega) l3 f7)).ex g8
 refine hk rr w8 (fun k=>(lab4 k≠0∨w7.heap.size≤k)∧k < w8.heap.size) (Zs6 (WldG.st.mono h8 fun k hk e=>⟨e,hk⟩)) (fun k e=>⟨?_,e.2⟩) ?_ (Ztb hm hok htl) f08
 ·by_cases hkn:k < w.heap.size
  ·rcases e.1 with e | e
   ·rcases hl4n k e with e | e
    ·exact .inl (hF k (by have:=l4 k hkn e; omega)).1
    ·exact .inl (hF k e.2.2).1
   ·omega
  ·exact .inr (by omega)
 ·have no:∀ k,w3.heap.size≤k→¬ G1 k→k < w4.heap.size→lab4 k=0:=fun k h1 h2 h3=>by
   by_cases h4:lab4 k=0
   ·exact h4
   ·rcases hl4n k h4 with e | e
    ·exact absurd e (n4 k h3 h2)
    ·omega
  refine (O7.fr f8 fun k e e2=>e2 (no k e.1 e.2.1 e.2.2)).mono fun k _ e=>⟨by omega,fun e2=>?_⟩
  have h0:=no k e.1 e.2.1 e.2.2
  rcases e2.1 with e3 | e3
  ·exact e3 h0
  ·omega
end Go.Proofs.YtoiahhpgkoknfaaGreat
namespace Go.Proofs.YtoiahhpgkoknfaaGreat
open Go Go.RowKit Go.Proofs.YtoiahhpgkoknfaaGreat.Den
variable {R:Type} {Q:R→World→Prop} {w:World}
section
variable {b:Nat} {x:StM} {L:List Ordr} {tk:Int} {f:Key→Option (Comp × Int)} {pl:List Plc} {F:Nat→Prop}
theorem Zhb {ok:Nat→Prop} {s:Sl} {l:List Plc} (hS:SlT ok w plcT s l) (hm:l.length * 16≤140737488355328) {K:Res [.sc .sl]→Den.W R} (hk:∀ r w',Den.Own (Up w.heap.size) w' 45 plcT r l→Fr None w w'→K r Q w') :
  callW Tryz.prog Z4x [.slice s.a s.n s.c] [.sc .sl] K Q w:=by
 refine Zcr _ K Q w ?_
 unfold Z7g
 rcases hS.at_ with rfl | ⟨b,o,ha,_⟩
 ·cases hsa:s.a with
  | none=>exact condT rfl (hk _ w (Den.Own.nil _ _ _ _) (Fr.refl _ _))
  | some a =>
   refine condF rfl ?_
   rw [← hsa]
   refine newI fun w1 B1 f1 s1=>?_
   have own:=Den.Own.mk' (S:=Up w.heap.size) (w:=w1) (E:=45) (t:=plcT) (l:=[]) (g:=w.heap.size) (c:=0) (cur:=⟨[]⟩) (Nat.le_refl _) B1 (Nat.le_refl _) (Nat.zero_le _) (by simp) (by simp)
   refine appI (s:=⟨some ⟨w.heap.size,0,none⟩,0,0⟩) (s2:=s) (S':=Up w.heap.size) Zim own (hS.fr0 f1) (by simp) (by simp) (fun _ h=>h) (by show _≤_; omega) fun r w2 o2 f2 s2=>hk r w2 (by simpa using o2) (f1.newer f2 (fun x e=>own.own x e))
 ·rw [ha]
  refine condF rfl ?_
  rw [← ha]
  exact cloneI Zim hS hm (by omega) hk
theorem Zas (h:WldG b x L tk f pl F w) (hm:pl.length≤1048576) {K:Res [.sc .sl]→Den.W R} (hk:∀ r w',Den.Own (Up w.heap.size) w' 45 plcT r pl→Fr None w w'→K r Q w') :
  callW Tryz.prog Z37 [.pointer (some ⟨b,0,none⟩)] [.sc .sl] K Q w:=by
 obtain ⟨sb,bb,mb,ps,_,B,_,_,_,P⟩:=h.sto
 refine Zcy _ K Q w ?_
 unfold Z7n
 exact condF rfl (ptrI (fldI B (i:=4) (x:=ps) rfl (Zhb P.sl (by omega) hk)))
theorem Zpv {mb:Nat} (h:MapB Tryz.prog 140 keV w mb (mapV f)) {q:Key} (h1:IdOk q.1) (h2:0≤q.2∧q.2≤255) {K:Seen5→Den.W R} (hk:K (((f q).map seen5).getD (0,0,0,0,0)) Q w) :
  rawQ Tryz.prog (Instr.lookup 124 (.map (some mb)) (.agg ⟨[.int .u32 q.1,.int .u8 q.2]⟩) false) [.agg [.int .u8,.int .i32,.int .i32,.int .i32,.int .u32]] K Q w:=by
 obtain ⟨l,hl⟩:=Zo2 h1 h2
 refine ⟨((f q).map seen5).getD (0,0,0,0,0),?_,hk⟩
 have:=h.look Zic Zhj Zmv hl false
 rw [show keV q=.agg ⟨[.int .u32 q.1,.int .u8 q.2]⟩ from rfl] at this
 rw [this]
 unfold mapV
 cases f q <;> rfl
def tickF (f:Key→Option (Comp × Int)) (id k:Int):Int:=((f (id,k)).map (·.2)).getD 0
theorem tick5 (id k:Int):(((f (id,k)).map seen5).getD (0,0,0,0,0)).2.2.2.2=tickF f id k:=by unfold tickF; cases f (id,k) <;> rfl
theorem Z9t (h:WldG b x L tk f pl F w) {id k:Int} (hid:IdOk id) (hk0:0≤k∧k≤255) {K:Res [.sc (.int .u32),.sc (.int .i64)]→Den.W R} (h1:(x.get id k).2≠0→∀ w',Fr None w w'→K (0,(x.get id k).2) Q w')
  (h2:(x.get id k).2=0→∀ w',Fr None w w'→K (tickF f id k,0) Q w'):callW Tryz.prog Z31 [.pointer (some ⟨b,0,none⟩),.int .u32 id,.int .u8 k] [.sc (.int .u32),.sc (.int .i64)] K Q w:=by
 obtain ⟨sb,bb,mb,ps,_,B,_,_,M,_⟩:=h.sto
 refine Zbp _ _ _ K Q w ?_
 unfold Z6u
 refine Za4 h fun sb S=>Z3r S hid fun w1 f1=>newI fun w2 B2 f2 s2=>stoAll B2 rfl rfl fun w3 B3 f3 s3=>?_
 have f03:Fr None w w3:=f1.then0 (f2.newer f3 fun k e=>by cases e; exact Nat.le_refl _)
 refine condN (fun hne=>h1 hne w3 f03) fun heq=>?_
 refine ptrI (fldI (B.fr f03 fun h=>h) (i:=3) (x:=some mb) rfl (Zpv (q:=(id,k)) (M.2.fr f03 fun h=>h) hid hk0 ?_))
 have:=h2 heq w3 f03
 rw [← tick5] at this
 exact this
end
end Go.Proofs.YtoiahhpgkoknfaaGreat
namespace Go.Proofs.YtoiahhpgkoknfaaGreat
open Go Go.RowKit Go.ChangeShapes Go.WideShapes Go.ChangeAt Go.Proofs.YtoiahhpgkoknfaaGreat.Den
variable {R:Type} {Q:R→World→Prop} {w:World} {H:Type} {enc:TypeId × Value→H}
def OrdersIn (W:World) (s:Sl) (L:List Ordr):Prop:=(∃ raws,SlT (Old W) W ordT s raws∧All2 (OrdIn W) raws L)∧s.c≤maxLen
theorem Zo5 {s:Sl} (h:LeafOk enc Tryz.prog w 30 (.slice s.a s.n s.c)):∃ L,OrdersIn w s L:=by
 obtain ⟨s',l,e,h2,h3,h4⟩:=h.slice Zq0
 have e':s=s':=by
  have e:Value.slice s.a s.n s.c=Value.slice s'.a s'.n s'.c:=e
  simp only [Value.slice.injEq] at e
  obtain ⟨e1,e2,e3⟩:=e
  cases s; cases s'; simp_all
 subst e'
 obtain ⟨L,hL⟩:=Zre h4
 exact ⟨L,⟨l,h2,hL⟩,h3⟩
abbrev turnT:Ty:=.agg [.sl,.int .u32]
theorem turns_arg:SlArg Tryz.prog 22 32 turnT [30,28] :=
 ⟨by kernel_rfl,by kernel_rfl,by decide,by kernel_rfl,⟨[.sl,.int .u32],by kernel_rfl,.inl rfl⟩⟩
def TurnIn (W:World) (r:Sl × Int) (t:List Ordr × Int):Prop:=OrdersIn W r.1 t.1∧r.2=t.2∧0≤t.2∧t.2≤4294967295
theorem turns_in {raws:List (Sl × Int)} (h:∀ r∈raws,AllLeaf enc Tryz.prog w [30,28] (turnT.cells r)):∃ L,All2 (TurnIn w) raws L:=deep_of fun r hr=>by
 obtain ⟨_,h⟩:=h r hr
 obtain ⟨L,hL⟩:=Zo5 (s:=r.1) (h 0 _ _ rfl rfl)
 obtain ⟨_,e,h1⟩:=(h 1 _ _ rfl rfl).int Zuk
 cases e
 exact ⟨(L,r.2),hL,rfl,Ztw h1⟩
end Go.Proofs.YtoiahhpgkoknfaaGreat
namespace Go.Proofs.YtoiahhpgkoknfaaGreat
open Go Go.RowKit Go.ChangeShapes Go.WideShapes Go.ChangeAt Go.Proofs.YtoiahhpgkoknfaaGreat.Den
variable {R:Type} {Q:R→World→Prop} {w:World}
theorem Zsm (L:List Ordr) (n:Nat):(fewO L n).length≤n:=by simp [fewO]; omega
theorem Zu4 {L:List Ordr} {n:Nat} (h:∀ o∈L,OrdOk o):∀ o∈fewO L n,OrdOk o∧o.2.2.2.length≤20:=fun o ho=>by
 obtain ⟨p,hp,rfl⟩:=List.mem_map.1 ho
 have hk:=h p (List.mem_of_mem_take hp)
 exact ⟨⟨hk.do_,hk.id,hk.kind,fun c hc=>hk.comps c (List.mem_of_mem_take hc)⟩,by simp; omega⟩
theorem Den.DR.fr0' {ok:Nat→Prop} {s:Sl} {raws:List OrdRaw} {L:List Ordr} (h:DR ordR (t:=ordT) ok w s raws L) {w':World} (f:Fr None w w'):DR ordR (t:=ordT) ok w' s raws L:=DR.st Za2 h f fun _ _ e=>⟨fun h=>h,e⟩
end Go.Proofs.YtoiahhpgkoknfaaGreat
namespace Go.Proofs.YtoiahhpgkoknfaaGreat
open Go Go.RowKit
theorem band {a b:Bool} (h1:a=true) (h2:b=true):(a && b)=true:=by rw [h1,h2]; rfl
theorem maps_rowed:mapsRowed Tryz.prog=true:=by kernel_rfl
theorem may_enter:Tryz.prog.mayEnter=true:=by kernel_rfl
end Go.Proofs.YtoiahhpgkoknfaaGreat
set_option linter.unusedVariables false
namespace Go.Proofs.YtoiahhpgkoknfaaGreat
open Go Go.Proofs.YtoiahhpgkoknfaaGreat.Den
def Z4m (d0:Sl):W (Bool) :=
 callW Tryz.prog Z4t [] [.sc .bool] fun (x_1:Bool) =>
 cond (!x_1)
  (retW false)
  (callW Tryz.prog Z8r [.int .i64 10,.int .i64 1,.int .u32 0] [.sc .ptr,.sc (.int .i64)] fun (x_2:(Option Addr) × Int) =>
 cond (x_2.2 != 0)
  (retW false)
  (rawW Tryz.prog (Instr.makeMap 29 none) [.sc .map] fun (x_3:Option Nat) =>
 joinW (σ:=Unit) (fun J_4 =>
  loopW (σ:=Int) (fun K_5 s_6 =>
   cond (decide (s_6 < (d0.n:Int)))
    (idxW d0.a d0.n 2 s_6 fun x_7 =>
   ld (.agg [.sl,.int .u32]) x_7 fun (x_8:(Sl × Int)) =>
   newW 32 [.slice none 0 0,.int .u32 0] fun x_9 =>
   stoL x_9 [.slice x_8.1.a x_8.1.n x_8.1.c,.int .u32 x_8.2] 0 <|
   cond (decide (s_6 ≥ 12))
    (J_4 ())
    (ld (.sc .sl) (Addr.add x_9 0) fun (x_10:Sl) =>
   callW Tryz.prog Z41 [.slice x_10.a x_10.n x_10.c,.int .i64 10] [.sc .sl] fun (x_11:Sl) =>
   loopW (σ:=Int) (fun K_12 s_13 =>
    cond (decide (s_13 < (x_11.n:Int)))
     (idxW x_11.a x_11.n 4 s_13 fun x_14 =>
    ld (.agg [.int .u8,.int .u32,.int .u8,.sl]) x_14 fun (x_15:(Int × Int × Int × Sl)) =>
    newW 37 [.int .u8 0,.int .u32 0,.int .u8 0,.slice none 0 0] fun x_16 =>
    stoL x_16 [.int .u8 x_15.1,.int .u32 x_15.2.1,.int .u8 x_15.2.2.1,.slice x_15.2.2.2.a x_15.2.2.2.n x_15.2.2.2.c] 0 <|
    ld (.agg [.int .u8,.int .u32,.int .u8,.sl]) x_16 fun (x_17:(Int × Int × Int × Sl)) =>
    callW Tryz.prog Z20 [.pointer x_2.1,.agg ⟨[.int .u8 x_17.1,.int .u32 x_17.2.1,.int .u8 x_17.2.2.1,.slice x_17.2.2.2.a x_17.2.2.2.n x_17.2.2.2.c]⟩] [.sc (.int .i64)] fun (x_18:Int) =>
    K_12 (IntKind.wrap .i64 (s_13+1)))
     (callW Tryz.prog Z21 [.pointer x_2.1] [.sc .sl,.sc (.int .i64)] fun (x_19:Sl × Int) =>
   callW Tryz.prog Z37 [.pointer x_2.1] [.sc .sl] fun (x_20:Sl) =>
   loopW (σ:=Int) (fun K_21 s_22 =>
    cond (decide (s_22 < (x_20.n:Int)))
     (idxW x_20.a x_20.n 4 s_22 fun x_23 =>
    ld (.agg [.int .u32,.bool,.int .i32,.int .i32]) x_23 fun (x_24:(Int × Bool × Int × Int)) =>
    newW 45 [.int .u32 0,.bool false,.int .i32 0,.int .i32 0] fun x_25 =>
    stoL x_25 [.int .u32 x_24.1,.bool x_24.2.1,.int .i32 x_24.2.2.1,.int .i32 x_24.2.2.2] 0 <|
    ld (.sc (.int .u32)) (Addr.add x_25 0) fun (x_26:Int) =>
    rawW Tryz.prog (Builtin.delete_ #[29,34] 0 #[.map x_3,.int .u32 x_26]) [] fun (_:Unit) =>
    ld (.sc .bool) (Addr.add x_25 1) fun (x_28:Bool) =>
    joinW (σ:=Unit) (fun J_29 =>
     cond x_28
      (ld (.sc (.int .u32)) (Addr.add x_25 0) fun (x_30:Int) =>
      ld (.agg [.int .u32,.bool,.int .i32,.int .i32]) x_25 fun (x_31:(Int × Bool × Int × Int)) =>
      rawU Tryz.prog (Instr.mapUpdate 29 (.map x_3) (.int .u32 x_30) (.agg ⟨[.int .u32 x_31.1,.bool x_31.2.1,.int .i32 x_31.2.2.1,.int .i32 x_31.2.2.2]⟩)) <|
      J_29 ())
      (J_29 ()))
    <| fun s_32 =>
    K_21 (IntKind.wrap .i64 (s_22+1)))
     (callW Tryz.prog Z45 [.pointer x_2.1] [.sc .sl] fun (x_33:Sl) =>
   loopW (σ:=Int × Int) (fun K_34 s_35 =>
    cond (decide (s_35.2 < (x_33.n:Int)))
     (idxW x_33.a x_33.n 2 s_35.2 fun x_36 =>
    ld (.agg [.int .u32,.sl]) x_36 fun (x_37:(Int × Sl)) =>
    newW 49 [.int .u32 0,.slice none 0 0] fun x_38 =>
    stoL x_38 [.int .u32 x_37.1,.slice x_37.2.a x_37.2.n x_37.2.c] 0 <|
    ld (.agg [.int .u32,.sl]) x_38 fun (x_39:(Int × Sl)) =>
    newW 49 [.int .u32 x_39.1,.slice x_39.2.a x_39.2.n x_39.2.c] fun x_40 =>
    ld (.sc (.int .u32)) (Addr.add x_38 0) fun (x_41:Int) =>
    callW Tryz.prog Z5u [.slice (some x_40) 1 1,.int .u32 x_41,.int .u8 0] [.agg [.int .u8,.int .i32,.int .i32,.int .i32],.sc .bool] fun (x_42:(Int × Int × Int × Int) × Bool) =>
    newW 52 [.int .u8 0,.int .i32 0,.int .i32 0,.int .i32 0] fun x_43 =>
    stoL x_43 [.int .u8 x_42.1.1,.int .i32 x_42.1.2.1,.int .i32 x_42.1.2.2.1,.int .i32 x_42.1.2.2.2] 0 <|
    joinW (σ:=Int) (fun J_44 =>
     cond x_42.2
      (ld (.sc (.int .u32)) (Addr.add x_38 0) fun (x_45:Int) =>
      rawQ Tryz.prog (Instr.lookup 29 (.map x_3) (.int .u32 x_45) false) [.agg [.int .u32,.bool,.int .i32,.int .i32]] fun (x_46:(Int × Bool × Int × Int)) =>
      ld (.sc (.int .u32)) (Addr.add x_38 0) fun (x_47:Int) =>
      idxW (some (Addr.add x_43 1)) 3 1 0 fun x_48 =>
      ld (.sc (.int .i32)) x_48 fun (x_49:Int) =>
      idxW (some (Addr.add x_43 1)) 3 1 1 fun x_50 =>
      ld (.sc (.int .i32)) x_50 fun (x_51:Int) =>
      rawQ Tryz.prog (do Go.eqGuard .neq 45 (.tmp 87) (.tmp 96) (.agg ⟨[.int .u32 x_46.1,.bool x_46.2.1,.int .i32 x_46.2.2.1,.int .i32 x_46.2.2.2]⟩) (.agg ⟨[.int .u32 x_47,.bool true,.int .i32 x_49,.int .i32 x_51]⟩); Go.binOp .neq 45 (.agg ⟨[.int .u32 x_46.1,.bool x_46.2.1,.int .i32 x_46.2.2.1,.int .i32 x_46.2.2.2]⟩) (.agg ⟨[.int .u32 x_47,.bool true,.int .i32 x_49,.int .i32 x_51]⟩)) [.sc .bool] fun (x_52:Bool) =>
      cond x_52
       (retW false)
       (J_44 (IntKind.wrap .i64 (s_35.1+1))))
      (J_44 s_35.1))
    <| fun s_53 =>
    K_34 (s_53,IntKind.wrap .i64 (s_35.2+1)))
     (rawQ Tryz.prog (Builtin.len_ #[29] 3 #[.map x_3]) [.sc (.int .i64)] fun (x_54:Int) =>
   cond (s_35.1 != x_54)
    (retW false)
    (K_5 (IntKind.wrap .i64 (s_6+1)))))
    (0,0)))
    0))
    0))
    (J_4 ()))
   0)
 <| fun s_55 =>
 retW true))
set_option maxRecDepth 100000 in
theorem Z8v {R:Type} (d0:Sl) (K:Res [.sc .bool]→W R) (Q:R→World→Prop) (w:World) (h:Z4m d0 (fun r w=>K r Q w) w):callW Tryz.prog Z8z [.slice d0.a d0.n d0.c] [.sc .bool] K Q w:=den_c (K:=K) mix Tryz.func3 { con:=[(23060,[]),(31081,[(12,.sc (.int .i64))])],blk:=[(0,[])],lop:=[(0,[(28,.sc (.int .i64))]),(2,[(39,.sc (.int .i64))]),(4,[(52,.sc (.int .i64))]),(6,[(12,.sc (.int .i64)),(69,.sc (.int .i64))])] } trivial rfl (by kernel_rfl) h
def Z7a :W (Bool) :=
 callW Tryz.prog Z8r [.int .i64 9,.int .i64 1,.int .u32 0] [.sc .ptr,.sc (.int .i64)] fun (x_1:(Option Addr) × Int) =>
 joinW (σ:=Bool) (fun J_2 =>
  cond (x_1.2 != 0)
   (J_2 true)
   (callW Tryz.prog Z4u [] [.agg [.int .u8,.int .u32,.int .u8,.sl]] fun (x_3:(Int × Int × Int × Sl)) =>
    callW Tryz.prog Z20 [.pointer x_1.1,.agg ⟨[.int .u8 x_3.1,.int .u32 x_3.2.1,.int .u8 x_3.2.2.1,.slice x_3.2.2.2.a x_3.2.2.2.n x_3.2.2.2.c]⟩] [.sc (.int .i64)] fun (x_4:Int) =>
     J_2 (x_4 != 0)))
 <| fun s_5 =>
 cond s_5
  (retW false)
  (callW Tryz.prog Z21 [.pointer x_1.1] [.sc .sl,.sc (.int .i64)] fun (x_6:Sl × Int) =>
 callW Tryz.prog Z37 [.pointer x_1.1] [.sc .sl] fun (x_7:Sl) =>
 joinW (σ:=Bool) (fun J_8 =>
  cond (x_6.2 != 0)
   (J_8 true)
   (newW 71 [.int .i64 0,.int .u32 1024] fun x_9 =>
     callW Tryz.prog Z2v [.slice x_6.1.a x_6.1.n x_6.1.c,.slice (some x_9) 1 1] [.sc .bool] fun (x_10:Bool) =>
      cond (!x_10)
        (J_8 true)
        (callW Tryz.prog Z63 [.pointer x_1.1] [.sc (.int .u32)] fun (x_11:Int) =>
         cond (x_11 != 1)
           (J_8 true)
           (cond ((x_7.n : Int) != 1)
              (J_8 true)
              (idxW x_7.a x_7.n 4 0 fun x_12 =>
               ld (.agg [.int .u32,.bool,.int .i32,.int .i32]) x_12 fun (x_13:(Int × Bool × Int × Int)) =>
                rawQ Tryz.prog (do Go.eqGuard .neq 45 (.tmp 51) (.tmp 52) (.agg ⟨[.int .u32 x_13.1,.bool x_13.2.1,.int .i32 x_13.2.2.1,.int .i32 x_13.2.2.2]⟩) (.agg ⟨[.int .u32 1024,.bool true,.int .i32 5,.int .i32 0]⟩); Go.binOp .neq 45 (.agg ⟨[.int .u32 x_13.1,.bool x_13.2.1,.int .i32 x_13.2.2.1,.int .i32 x_13.2.2.2]⟩) (.agg ⟨[.int .u32 1024,.bool true,.int .i32 5,.int .i32 0]⟩)) [.sc .bool] fun (x_14:Bool) =>
                  J_8 x_14)))))
 <| fun s_15 =>
 cond s_15
  (retW false)
  (callW Tryz.prog Z21 [.pointer x_1.1] [.sc .sl,.sc (.int .i64)] fun (x_16:Sl × Int) =>
 callW Tryz.prog Z31 [.pointer x_1.1,.int .u32 1024,.int .u8 0] [.sc (.int .u32),.sc (.int .i64)] fun (x_17:Int × Int) =>
 callW Tryz.prog Z31 [.pointer x_1.1,.int .u32 1024,.int .u8 1] [.sc (.int .u32),.sc (.int .i64)] fun (x_18:Int × Int) =>
 joinW (σ:=Bool) (fun J_19 =>
  cond (x_17.1 == 2)
   (J_19 (x_18.1 == 1))
   (J_19 false))
 <| fun s_20 =>
 retW s_20))
theorem Zcl {R:Type}  (K:Res [.sc .bool]→W R) (Q:R→World→Prop) (w:World) (h:Z7a (fun r w=>K r Q w) w):callW Tryz.prog Z4t [] [.sc .bool] K Q w:=den_c (K:=K) mix Tryz.func15 { reg:=[(2,[(21,.sc .bool)]),(6,[(54,.sc .bool)]),(11,[(0,.sc .bool)])] } trivial rfl (by kernel_rfl) h
def Z7b :W ((Int × Int × Int × Sl)) :=
 newW 37 [.int .u8 0,.int .u32 0,.int .u8 0,.slice none 0 0] fun x_1 =>
 newW 52 [.int .u8 0,.int .i32 0,.int .i32 0,.int .i32 0,.int .u8 1,.int .i32 5,.int .i32 0,.int .i32 0] fun x_2 =>
 stoL x_1 [.int .u8 1,.int .u32 0,.int .u8 0,.slice (some x_2) 2 2] 0 <|
 ld (.agg [.int .u8,.int .u32,.int .u8,.sl]) x_1 fun (x_3:(Int × Int × Int × Sl)) =>
 retW x_3
theorem Zcm {R:Type}  (K:Res [.agg [.int .u8,.int .u32,.int .u8,.sl]]→W R) (Q:R→World→Prop) (w:World) (h:Z7b (fun r w=>K r Q w) w):callW Tryz.prog Z4u [] [.agg [.int .u8,.int .u32,.int .u8,.sl]] K Q w:=den_c (K:=K) mix Tryz.func23 {} ⟨by kernel_rfl,trivial⟩ rfl (by kernel_rfl) h
end Go.Proofs.YtoiahhpgkoknfaaGreat
namespace Go.Proofs.YtoiahhpgkoknfaaGreat
open Go Go.RowKit Go.ChangeShapes Go.WideShapes Go.ChangeAt Go.Proofs.YtoiahhpgkoknfaaGreat.Den
variable {R:Type} {Q:R→World→Prop} {w:World}
def WA (n0 b:Nat) (m:WM) (G:Nat→Prop) (w:World):Prop:=WldO b m G w∧(∀ k,G k→n0≤k∧k < w.heap.size)∧WMOk m
def pushW (m:WM) (o:Ordr):WM:={ m with wait:=pushL m.wait o }
theorem Zt1 {m:WM} (h:WMOk m) {o:Ordr} (ho:OrdOk o∧Small o.2.2.2):WMOk (pushW m o):=by
 refine ⟨h.x,Zt0 h.few,fun p hp=>?_,h.tick,h.marks,h.ticks⟩
 have hp:p∈pushL m.wait o:=hp
 unfold pushL at hp
 split at hp
 ·rcases List.mem_append.1 hp with hp | hp
  ·exact h.wait p hp
  ·rw [List.mem_singleton] at hp; subst hp; exact ho
 ·exact h.wait p hp
section
variable {n0 b:Nat} {m:WM} {G:Nat→Prop}
theorem WA.fr0 (h:WA n0 b m G w) {w':World} (f:Fr None w w'):WA n0 b m G w':=⟨WldG.st.fr0 h.1 f,fun k e=>⟨(h.2.1 k e).1,Nat.lt_of_lt_of_le (h.2.1 k e).2 f.size⟩,h.2.2⟩
theorem WA.frS (h:WA n0 b m G w) {S:Nat→Prop} {w':World} (f:Fr S w w') (hS:∀ k,S k→¬ G k):WA n0 b m G w':=⟨WldG.st.fr h.1 f fun k e e2=>hS k e2 e,fun k e=>⟨(h.2.1 k e).1,Nat.lt_of_lt_of_le (h.2.1 k e).2 f.size⟩,h.2.2⟩
theorem Ztv {n first tick:Int} (ht:0≤tick∧tick≤4294967295) (hn:1≤n∧n≤1024∧1≤first∧first≤4194303) {K:Res [.sc .ptr,.sc (.int .i64)]→Den.W R}
  (h2:∀ b G w',WA w.heap.size b (newM n.toNat first tick) G w'→Fr None w w'→K (some ⟨b,0,none⟩,0) Q w'):callW Tryz.prog Z8r [.int .i64 n,.int .i64 first,.int .u32 tick] [.sc .ptr,.sc (.int .i64)] K Q w :=
 Zk4 ht (fun h=>absurd hn h) fun b w' _ h ok f=>h2 b _ w' ⟨WldG.shut h,fun k e=>e,ok⟩ f
theorem Zs0 (h:WA n0 b m G w) {ok:Nat→Prop} {r:OrdRaw} {o:Ordr} (hr:ordR ok w r o) (ho:OrdOk o∧Small o.2.2.2) (hn:n0≤w.heap.size) {K:Res [.sc (.int .i64)]→Den.W R}
  (hk:∀ G' w',WA n0 b (pushW m o) G' w'→(∀ k,G' k→G k∨w.heap.size≤k)→Fr G w w'→K (pushE m.wait o) Q w'):callW Tryz.prog Z20 [.pointer (some ⟨b,0,none⟩),.agg ⟨ordC r⟩] [.sc (.int .i64)] K Q w :=
 Zj8 h.1 h.2.2.few hr ho.2 fun w' h' f=>hk (fun k=>Ex G w k∧k < w'.heap.size) w' ⟨WldG.shut h',fun k e=>⟨by rcases e.1 with e | e; exact (h.2.1 k e).1; omega,e.2⟩,Zt1 h.2.2 ho⟩ (fun k e=>e.1) f
theorem Zom (h:WA n0 b m G w) (hn:n0≤w.heap.size) (ht:m.tick < 4294967295) {K:Res [.sc .sl,.sc (.int .i64)]→Den.W R}
  (hk:∀ r G' w',WA n0 b (stepM m) G' w'→(∀ k,G' k→G k∨w.heap.size≤k)→Den.Own (fun k=>w.heap.size≤k∧¬ G' k) w' 71 resT r (allM m.x m.wait).1→Fr G w w'→K (r,0) Q w') :
  callW Tryz.prog Z21 [.pointer (some ⟨b,0,none⟩)] [.sc .sl,.sc (.int .i64)] K Q w :=
 Zj9 h.1 h.2.2 (fun e=>by omega) fun _ r w' G' h' hG o ok f=>hk r G' w' ⟨h',fun k e=>⟨by rcases (hG k e).1 with e2 | e2; exact (h.2.1 k e2).1; omega,(hG k e).2⟩,ok⟩ (fun k e=>(hG k e).1) o f
theorem Den.Fr.wa {W:World} {G:Nat→Prop} {w':World} (f0:Fr None W w) (h:∀ k,G k→W.heap.size≤k) (f:Fr G w w'):Fr None W w':=f0.newer f h
end
def ord0:Ordr:=(1,0,0,[(0,0,0,0),(1,5,0,0)])
theorem Zub:OrdOk ord0∧Small ord0.2.2.2:=⟨⟨by decide,⟨by decide,by decide⟩,by decide,fun c hc=>by
 simp only [ord0,List.mem_cons,List.not_mem_nil,or_false] at hc
 rcases hc with rfl | rfl <;> exact Zf4 (by decide +kernel)⟩,by decide⟩
theorem Zju {K:Res [.agg [.int .u8,.int .u32,.int .u8,.sl]]→Den.W R} (hk:∀ r w',ordR (Up w.heap.size) w' r ord0→Fr None w w'→K r Q w'):callW Tryz.prog Z4u [] [.agg [.int .u8,.int .u32,.int .u8,.sl]] K Q w:=by
 refine Zcm K Q w ?_
 unfold Z7b
 refine newI fun w1 B1 f1 s1=>?_
 refine newI fun w2 B2 f2 s2=>?_
 have hs:SlT (Up w.heap.size) w2 compT ⟨some ⟨w1.heap.size,0,none⟩,2,2⟩ ord0.2.2.2:=by
  have:Den.Own (Up w.heap.size) w2 52 compT ⟨some ⟨w1.heap.size,0,none⟩,2,2⟩ ord0.2.2.2:=Den.Own.mk' (t:=compT) (l:=ord0.2.2.2) (c:=2) (cur:=⟨ord0.2.2.2.flatMap compT.cells⟩) (by show w.heap.size≤w1.heap.size; have:=f1.size; omega) B2 (by decide) (by rw [Zn]; decide) rfl rfl
  exact this.sl
 refine stoAll (B1.fr f2 fun h=>h) rfl rfl fun w3 B3 f3 s3=>aggI B3 (x:=((1,0,0,⟨some ⟨w1.heap.size,0,none⟩,2,2⟩):OrdRaw)) rfl ?_
 have e1:w1.heap.size=w.heap.size+1:=s1
 have hs3:SlT (Up w.heap.size) w3 compT ⟨some ⟨w1.heap.size,0,none⟩,2,2⟩ ord0.2.2.2 :=
  ((hs.mono (ok' := fun k => w.heap.size ≤ k) fun k _ e => e))|> fun h => by
    obtain ⟨a1,a2,a3⟩:=h
    refine ⟨a1,a2,a3.imp id ?_⟩
    rintro ⟨bb,o,h1,h2,h3,h4⟩
    cases h1
    exact ⟨_,_,rfl,h2,Nat.lt_of_lt_of_le h3 f3.size,fun i x hx=>(h4 i x hx).keep (f3.block _ h3 fun e=>by have e:w1.heap.size=w.heap.size:=e; omega)⟩
 exact hk _ w3 ⟨rfl,rfl,rfl,hs3⟩ ((f1.then0 f2).newer f3 fun k e=>by cases e; exact Nat.le_refl _)
def wld0:WM:=pushW (newM 9 1 0) ord0
theorem Zkp (m:WM):(stepM m).tick=m.tick+1:=rfl
theorem Zs5:pushE (newM 9 1 0).wait ord0=0:=by kernel_rfl
theorem Ztj:(allM wld0.x wld0.wait).1=[(0,1024)]:=by kernel_rfl
theorem Zon:(stepM wld0).places=[(1024,true,5,0)]:=by kernel_rfl
theorem Zs3:((stepM (stepM wld0)).x.get 1024 0).2=0:=by kernel_rfl
theorem Zs4:((stepM (stepM wld0)).x.get 1024 1).2=0:=by kernel_rfl
theorem Zqf:tickF (compsF (stepM (stepM wld0))) 1024 0=2:=by kernel_rfl
theorem Zqg:tickF (compsF (stepM (stepM wld0))) 1024 1=1:=by kernel_rfl
theorem Zv0 {x y:Plc}:(x.1 == y.1 && (x.2.1 == y.2.1 && (x.2.2.1 == y.2.2.1 && (x.2.2.2 == y.2.2.2 && true))))=decide (x=y):=by
 rw [Bool.eq_iff_iff]
 simp [Prod.ext_iff]
theorem Zqt (x y:Plc):eqV Tryz.prog 9 45 (.agg ⟨[.int .u32 x.1,.bool x.2.1,.int .i32 x.2.2.1,.int .i32 x.2.2.2]⟩) (.agg ⟨[.int .u32 y.1,.bool y.2.1,.int .i32 y.2.2.1,.int .i32 y.2.2.2]⟩)=some (decide (x=y)):=by
 rw [← Zv0]
 kernel_rfl
theorem Zqs:Tryz.prog.eqGuardType Tryz.prog.depth 45=false:=by kernel_rfl
theorem Zjt {K:Res [.sc .bool]→Den.W R} (hk:∀ w',Fr None w w'→K true Q w'):callW Tryz.prog Z4t [] [.sc .bool] K Q w:=by
 refine Zcl K Q w ?_
 unfold Z7a
 refine Ztv ⟨by decide,by decide⟩ ⟨by decide,by decide,by decide,by decide⟩ fun b G1 w1 h1 f1=>?_
 have z1:=f1.size
 refine joinI (fun z v=>z=false∧∃ G,WA w.heap.size b wld0 G v∧Fr None w v) ?_ ?_
 ·refine condF rfl (Zju fun r w2 hr f2=>?_)
  have f02:=f1.then0 f2
  refine Zs0 (h1.fr0 f2) hr Zub f02.size fun G3 w3 h3 hG3 f3=>⟨?_,G3,h3,f02.wa (fun k e=>(h1.2.1 k e).1) f3⟩
  rw [show pushE (newM (Int.toNat 9) 1 0).wait ord0=0 from Zs5]
  rfl
 rintro z w3 ⟨rfl,G3,h3,f3⟩
 refine condF rfl (Zom h3 f3.size (by show (0:Int) < 4294967295; decide) fun r G4 w4 h4 hG4 o4 f4=>?_)
 have f04:=f3.wa (fun k e=>(h3.2.1 k e).1) f4
 rw [Ztj] at o4
 generalize hm1:stepM wld0=m1 at h4
 have e1:m1.places=[(1024,true,5,0)]:=by rw [← hm1]; exact Zon
 have e2:m1.tick=1:=by rw [← hm1,Zkp]; rfl
 have hpl:m1.places.length≤1048576:=by rw [e1]; decide
 refine Zas h4.1 hpl fun rp w5 o5 f5=>?_
 have h5:=h4.fr0 f5
 have f05:=f04.then0 f5
 rw [e1] at o5
 have o45:=o4.none f5
 refine joinI (fun z v=>z=false∧Fr None w5 v) ?_ ?_
 ·refine condF rfl (newI fun w6 B6 f6 s6=>?_)
  have l6:SlT (fun _=>True) w6 resT ⟨some ⟨w5.heap.size,0,none⟩,1,1⟩ [(0,1024)]:=by
   have:Den.Own (fun _=>True) w6 71 resT ⟨some ⟨w5.heap.size,0,none⟩,1,1⟩ [(0,1024)]:=Den.Own.mk' (t:=resT) (l:=[(0,1024)]) (c:=1) (cur:=⟨[.int .i64 0,.int .u32 1024]⟩) trivial B6 (by decide) (by rw [Zn]; decide) rfl rfl
   exact this.sl
  refine Zhd (o45.none f6).sl l6 (by decide) fun w7 f7=>condF (by simp) ?_
  have f57:=f6.then0 f7
  refine Zja (h5.fr0 f57).1 (condF (by rw [e2]; rfl) ?_)
  have hrn:rp.n=1:=o5.len
  refine condF (by rw [hrn]; rfl) ?_
  refine (o5.none f57).sl.get (j:=0) rfl rfl (by decide) fun x hx=>?_
  cases hx
  exact neqI Zqs (Zqt (1024,true,5,0) (1024,true,5,0)) ⟨by simp,f57⟩
 rintro z w6 ⟨rfl,f6⟩
 have h6:=h5.fr0 f6
 have f06:=f05.then0 f6
 refine condF rfl ?_
 have hlt:m1.tick < 4294967295:=by rw [e2]; decide
 refine (Zom h6 f06.size hlt fun r G7 w7 h7 hG7 o7 f7=>?_)
 generalize hm2:stepM m1=m2 at h7
 have g0:(m2.x.get 1024 0).2=0:=by rw [← hm2,← hm1]; exact Zs3
 have g1:(m2.x.get 1024 1).2=0:=by rw [← hm2,← hm1]; exact Zs4
 have t0:tickF (compsF m2) 1024 0=2:=by rw [← hm2,← hm1]; exact Zqf
 have t1:tickF (compsF m2) 1024 1=1:=by rw [← hm2,← hm1]; exact Zqg
 have f07:=f06.wa (fun k e=>(h6.2.1 k e).1) f7
 refine Z9t h7.1 ⟨by decide,by decide⟩ ⟨by decide,by decide⟩ (fun h=>h g0 |>.elim) fun _ w8 f8=>?_
 refine Z9t (h7.fr0 f8).1 ⟨by decide,by decide⟩ ⟨by decide,by decide⟩ (fun h=>h g1 |>.elim) fun _ w9 f9=>?_
 rw [t0,t1]
 refine joinI (fun z v=>z=true∧v=w9) (condT rfl ⟨rfl,rfl⟩) ?_
 rintro z v ⟨rfl,rfl⟩
 exact hk _ ((f07.then0 f8).then0 f9)
end Go.Proofs.YtoiahhpgkoknfaaGreat
namespace Go.Proofs.YtoiahhpgkoknfaaGreat
open Go Go.RowKit Go.ChangeShapes Go.WideShapes Go.ChangeAt Go.Proofs.YtoiahhpgkoknfaaGreat.Den
variable {R:Type} {Q:R→World→Prop} {w:World} {H:Type} {enc:TypeId × Value→H}
theorem Zrs {V:World} {s:Sl} {raws:List OrdRaw} {L:List Ordr} (hS:SlT (Old V) V ordT s raws) (hO:All2 (OrdIn V) raws L) (hc:s.c≤maxLen) (f:Fr None V w) {n:Nat} (hn:n≤1000) {K:Res [.sc .sl]→Den.W R}
  (hk:∀ r raws' LF w',Den.Own (Up w.heap.size) w' 37 ordT r raws'→All2 (fun a b=>ordR (Old V) w' a b) raws' LF→LF=fewO L n→LF.length≤n→(∀ o∈LF,OrdOk o∧Small o.2.2.2)→Fr None w w'→K r Q w'):callW Tryz.prog Z41 [.slice s.a s.n s.c,.int .i64 (n:Int)] [.sc .sl] K Q w:=by
 have hR:DR ordR (t:=ordT) (Old V) w s raws L:=DR.fr0' ⟨hS,hO.imp fun _ _ h=>h.1⟩ f
 rw [Zn] at hc
 refine Zn2 hR hc hn (fun r hr=>?_) fun r raws' w' o a f'=>?_
 ·obtain ⟨i,hi⟩:=List.mem_iff_getElem?.1 hr
  obtain ⟨b,_,h⟩:=hO.getL hi
  have:=h.2.2
  rwa [Zn] at this
 ·refine hk r raws' _ w' o a rfl (Zsm L n) (fun o ho=>?_) f'
  obtain ⟨h1,h2⟩:=Zu4 (L:=L) (n:=n) (fun o ho=>by
   obtain ⟨i,hi⟩:=List.mem_iff_getElem?.1 ho
   obtain ⟨b,_,h⟩:=hO.get hi
   exact h.2.1) o ho
  exact ⟨h1,Nat.le_trans h2 (by decide)⟩
abbrev Gap (n0 a c:Nat):Nat→Prop:=fun k=>n0≤k∧¬ (a≤k∧k < c)
end Go.Proofs.YtoiahhpgkoknfaaGreat
namespace Go.Proofs.YtoiahhpgkoknfaaGreat
open Go Go.RowKit Go.ChangeShapes Go.WideShapes Go.ChangeAt Go.Proofs.YtoiahhpgkoknfaaGreat.Den
variable {R:Type} {Q:R→World→Prop} {w:World} {H:Type} {enc:TypeId × Value→H}
def pushAllW (m:WM) (l:List Ordr):WM:=l.foldl pushW m
theorem Zlh (m:WM) (l:List Ordr) (o:Ordr):pushAllW m (l ++ [o])=pushW (pushAllW m l) o:=by simp [pushAllW]
theorem Zfc:∀ (l:List Ordr) (m:WM),(pushAllW m l).tick=m.tick
 | [],_=>rfl
 | o :: l,m=>by rw [show pushAllW m (o :: l)=pushAllW (pushW m o) l from rfl,Zfc]; rfl
theorem Zqe {W:World} {b:Nat} {m:WM} {G:Nat→Prop} {a c:Nat} (h:WA W.heap.size b m G w) (hac:W.heap.size≤a) (hz:W.heap.size≤w.heap.size) {r:Sl} {raws:List OrdRaw} {LF:List Ordr} (hs:SlT (fun k=>a≤k∧k < c) w ordT r raws) (hl:All2 (fun a b=>ordR (Old W) w a b) raws LF)
  (hok:∀ o∈LF,OrdOk o∧Small o.2.2.2) (hlen:LF.length≤1000) (hG:∀ k,G k→Gap W.heap.size a c k) {done:Den.W R} (hd:∀ G' v,WA W.heap.size b (pushAllW m LF) G' v→(∀ k,G' k→G k∨w.heap.size≤k)→Fr G w v→done Q v) :
  loopW (σ:=Int) (fun K_7 s_8=>cond (decide (s_8 < (r.n:Int)))
    (idxW r.a r.n 4 s_8 fun x_9=>ld (.agg [.int .u8,.int .u32,.int .u8,.sl]) x_9 fun (x_17:(Int × Int × Int × Sl))=>newW 37 [.int .u8 0,.int .u32 0,.int .u8 0,.slice none 0 0] fun x_18 =>
    stoL x_18 [.int .u8 x_17.1,.int .u32 x_17.2.1,.int .u8 x_17.2.2.1,.slice x_17.2.2.2.a x_17.2.2.2.n x_17.2.2.2.c] 0 <| ld (.agg [.int .u8,.int .u32,.int .u8,.sl]) x_18 fun (x_19:(Int × Int × Int × Sl)) =>
    callW Tryz.prog Z20 [.pointer (some ⟨b,0,none⟩),.agg ⟨[.int .u8 x_19.1,.int .u32 x_19.2.1,.int .u8 x_19.2.2.1,.slice x_19.2.2.2.a x_19.2.2.2.n x_19.2.2.2.c]⟩] [.sc (.int .i64)] fun (_:Int)=>K_7 (IntKind.wrap .i64 (s_8+1))) done) 0 Q w:=by
 refine rangeC (t:=ordT) (ok:=fun k=>a≤k∧k < c) (l:=raws) (fun s:Int=>s) (fun j s v=>s=(j:Int)∧Fr G w v∧∃ G',WA W.heap.size b (pushAllW m (LF.take j)) G' v∧∀ k,G' k→G k∨w.heap.size≤k) rfl rfl rfl
  ⟨rfl,Fr.refl _ _,G,h,fun k e=>.inl e⟩ (fun j s v h=>h.1) (fun j s v hp=>hs.fr hp.2.1 fun k e e2=>(hG k e2).2 e) ?_ ?_
 ·rintro j x s v0 v1 K' hx ⟨rfl,f1,G1,h1,hG1⟩ - B8 f8 s8 hK
  obtain ⟨o,ho,hao⟩:=hl.getL hx
  have hjl:=(List.getElem?_eq_some_iff.1 ho).1
  have f18:=f1.then (f8.any (S:=G))
  have z18:=f18.size
  refine aggI B8 (x:=x) rfl (Zs0 (h1.fr0 f8) (Za2 x o hao f18 (F':=Old W) fun k _ e=>⟨fun e2=>by have e:k < W.heap.size:=e; have:=(hG k e2).1; omega,e⟩) (hok o (List.mem_of_getElem? ho)) (by omega) fun G9 v4 h9 hG9 f9=>?_)
  refine hK _ _ ⟨wsucc (N:=LF.length) hjl (by omega),f18.exS f9 hG1,G9,by rw [Z1q ho,Zlh]; exact h9,fun k e=>?_⟩
  rcases hG9 k e with e2 | e2
  ·exact hG1 k e2
  ·exact .inr (by omega)
 ·rintro s v0 ⟨rfl,f1,G1,h1,hG1⟩
  rw [hl.len,List.take_length] at h1
  exact hd G1 v0 h1 hG1 f1
end Go.Proofs.YtoiahhpgkoknfaaGreat
namespace Go.Proofs.YtoiahhpgkoknfaaGreat
open Go Go.RowKit Go.Proofs.YtoiahhpgkoknfaaGreat.Den
variable {R:Type} {Q:R→World→Prop} {w:World}
theorem lenI {κ:Type} [DecidableEq κ] {P:Program} {k:TypeId} {ke:κ→Value} {b:Nat} {f:κ→Option Value} (h:MapB P k ke w b f) (hke:∀ i j,ke i=ke j→i=j) {T e:TypeId} (ht:P.underlying T=some (.map k e)) {l:List κ} (hn:l.Nodup) (hl:∀ i,i∈l↔(f i).isSome) {ty:TypeId} {K:Int→Den.W R} (hk:K (l.length:Int) Q w) :
  rawQ P (Builtin.len_ #[T] ty #[.map (some b)]) [.sc (.int .i64)] K Q w:=by
 obtain ⟨es,clock,hb,_,_,hks,hpw,hf⟩:=h
 have e1:es.size=l.length:=by
  obtain ⟨ks,hkl,hkm⟩:∃ ks:List κ,ks.length=es.toList.length∧es.toList.map (·.key)=ks.map ke:=by
   generalize es.toList=E at hks
   induction E with
   | nil=>exact ⟨[],rfl,rfl⟩
   | cons x E ih =>
    obtain ⟨ks,h1,h2⟩:=ih fun x hx=>hks x (List.mem_cons_of_mem _ hx)
    obtain ⟨i,hi⟩:=hks x List.mem_cons_self
    exact ⟨i :: ks,by simp [h1],by simp [h2,hi]⟩
  have hkn:ks.Nodup:=by
   have:(es.toList.map (·.key)).Nodup:=List.pairwise_map.2 hpw
   rw [hkm] at this
   exact (List.pairwise_map.1 this).imp fun {a b} hab e=>hab (by rw [e])
  have hmem:∀ i,i∈ks↔(f i).isSome:=fun i=>by
   constructor
   ·intro hi
    have:ke i∈es.toList.map (·.key):=by rw [hkm]; exact List.mem_map.2 ⟨i,hi,rfl⟩
    obtain ⟨x,hx,hxk⟩:=List.mem_map.1 this
    rw [(hf i x.val).2 ⟨x,hx,hxk,rfl⟩]
    rfl
   ·intro hi
    obtain ⟨v,hv⟩:=Option.isSome_iff_exists.1 hi
    obtain ⟨x,hx,hxk,_⟩:=(hf i v).1 hv
    have:x.key∈ks.map ke:=by rw [← hkm]; exact List.mem_map.2 ⟨x,hx,rfl⟩
    obtain ⟨j,hj,hjk⟩:=List.mem_map.1 this
    rw [← hke j i (hjk.trans hxk)]
    exact hj
  have a1:=nd_le hkn fun i hi=>(hl i).2 ((hmem i).1 hi)
  have a2:=nd_le hn fun i hi=>(hmem i).2 ((hl i).1 hi)
  have a3:es.toList.length=es.size:=Array.length_toList
  omega
 refine ⟨(l.length:Int),?_,hk⟩
 simp [Builtin.len_,run_underlying ht,Go.MapKept.run_getObj_map hb,e1,resE,Ty.e,Sc.e,goInt]
theorem Zpp {l:List Comp} {k:Int} {j:Nat} (h:findM l k=(j:Int)):∃ c,l[j]?=some c∧c.1=k:=by
 unfold findM at h
 cases hf:l.findIdx? fun c=>c.1 == k with
 | none =>
  rw [hf] at h
  have h:(-1:Int)=(j:Int):=h
  omega
 | some i =>
  rw [hf] at h
  have h:(i:Int)=(j:Int):=h
  have:i=j:=by omega
  subst this
  obtain ⟨hl,h2,_⟩:=List.findIdx?_eq_some_iff_getElem.1 hf
  exact ⟨l[i],List.getElem?_eq_getElem hl,by simpa using h2⟩
theorem Zpo {l:List Comp} {k:Int} (h:¬ findM l k ≥ 0):∀ c∈l,c.1≠k:=by
 unfold findM at h
 cases hf:l.findIdx? fun c=>c.1 == k with
 | some i =>
  rw [hf] at h
  have h:¬ (i:Int) ≥ 0:=h
  omega
 | none =>
  intro c hc
  have:=List.findIdx?_eq_none_iff.1 hf c hc
  simpa using this
theorem Zn3 {ok:Nat→Prop} {s:Sl} {raws:List (Int × Sl)} {L:List Ent} (hS:SlT ok w entT s raws) (hE:EntsR ok w raws L) (hL:EntsOk L) (hl:L.length≤1048576) {id k:Int} {K:Res [.agg [.int .u8,.int .i32,.int .i32,.int .i32],.sc .bool]→Den.W R}
  (hk:∀ w',Fr None w w'→K ((getE L id k).getD (0,0,0,0),(getE L id k).isSome) Q w'):callW Tryz.prog Z5u [.slice s.a s.n s.c,.int .u32 id,.int .u8 k] [.agg [.int .u8,.int .i32,.int .i32,.int .i32],.sc .bool] K Q w:=by
 refine Zei s id k K Q w ?_
 unfold Z9a
 have hrl:=hE.len
 refine newI fun w1 B1 f1 s1=>?_
 refine rangeC (t:=entT) (ok:=fun k=>ok k∧k < w.heap.size) (l:=raws) (fun s:Int=>s) (fun j i v=>i=(j:Int)∧Fr None w1 v∧∀ c,(id,c)∈pairsM (L.take j)→c.1≠k) rfl rfl rfl ⟨rfl,Fr.refl _ _,fun c hc=>by simp [pairsM] at hc⟩ (fun j s v h=>h.1)
  (fun j s v hp=>((hS.mono fun k hk e=>⟨e,hk⟩).fr0 f1).fr0 hp.2.1) ?_ ?_
 ·rintro j a i v0 v1 K' hx ⟨rfl,f2,hno⟩ - B8 f3 s3 hK
  have hjl:=(List.getElem?_eq_some_iff.1 hx).1
  obtain ⟨e,he⟩:∃ e,L[j]?=some e:=⟨_,List.getElem?_eq_getElem (by omega)⟩
  obtain ⟨ha1,ha2⟩:=hE.at_ j a e hx he
  have hem:=List.mem_of_getElem? he
  obtain ⟨_,hle⟩:=hL.2 e hem
  have hc6:=Zc4 hle
  have f23:=f2.then0 f3
  have f03:=f1.then0 f23
  refine fldI B8 (i:=0) (x:=a.1) rfl ?_
  rw [ha1]
  have fin:∀ {v:World},Fr None w1 v→(∀ c,e.1=id→c∈e.2→c.1≠k)→IntKind.wrap .i64 ((j:Int)+1)=((j+1:Nat):Int)∧Fr None w1 v∧∀ c,(id,c)∈pairsM (L.take (j+1))→c.1≠k:=fun {v} f h=>⟨wsucc (N:=raws.length) hjl (by omega),f,fun c hc=>by
   rw [Z1q he,Zge] at hc
   rcases List.mem_append.1 hc with hc | hc
   ·exact hno c hc
   ·obtain ⟨c2,hc2,hce⟩:=List.mem_map.1 hc
    cases hce
    exact h c rfl hc2⟩
  refine joinK (condE (fun hid=>?_) fun hid=>hK _ _ (fin f23 fun c h _=>absurd h hid))
  refine fldI B8 (i:=1) (x:=a.2) rfl (Zca (ha2.fr0 f03) (Nat.le_trans hc6 (by decide)) fun v2 f4=>?_)
  have f24:=f23.then0 f4
  refine condD (fun hge=>?_) fun hlt=>hK _ _ (fin f24 fun c _ hc=>Zpo hlt c hc)
  obtain ⟨q,hq⟩:∃ q:Nat,findM e.2 k=(q:Int):=⟨(findM e.2 k).toNat,by have hge:findM e.2 k ≥ 0:=hge; omega⟩
  obtain ⟨c,hcq,hck⟩:=Zpp hq
  refine fldI (B8.fr f4 fun h=>h) (i:=1) (x:=a.2) rfl ?_
  rw [hq]
  refine (ha2.fr0 (f1.then0 f24)).get rfl rfl (List.getElem?_eq_some_iff.1 hcq).1 fun c' hc'=>?_
  rw [hcq] at hc'
  cases hc'
  refine stoAll (B1.fr f24 fun h=>h) rfl rfl fun v3 B3 f5 s5=>aggI B3 (x:=c) rfl ?_
  have hg:getE L id k=some c:=(Z54 hL).2 ⟨Z4b.2 ⟨e,hem,hid,List.mem_of_getElem? hcq⟩,hck⟩
  have:=hk v3 ((f1.then0 f24).newer f5 fun k e=>by cases e; exact Nat.le_refl _)
  rw [hg] at this
  exact this
 ·rintro i v0 ⟨rfl,f2,hno⟩
  rw [hrl,List.take_length] at hno
  refine stoAll (B1.fr f2 fun h=>h) rfl rfl fun v3 B3 f5 s5=>aggI B3 (x:=((0,0,0,0):Comp)) rfl ?_
  have:=hk v3 ((f1.then0 f2).newer f5 fun k e=>by cases e; exact Nat.le_refl _)
  rw [(Zf7 hL).2 hno] at this
  exact this
def followF (at_:Int→Option Plc) (l:List Plc):Int→Option Plc:=l.foldl (fun f p=>fun i=>if i=p.1 then (if p.2.1 then some p else none) else f i) at_
theorem Zmc (at_:Int→Option Plc) (l:List Plc) (p:Plc):followF at_ (l ++ [p])=fun i=>if i=p.1 then (if p.2.1 then some p else none) else followF at_ l i:=by simp [followF]
theorem Zgb:∀ {l:List Plc} {at_:Int→Option Plc},(l.map (·.1)).Nodup→∀ {p:Plc},p∈l→followF at_ l p.1=if p.2.1 then some p else none
 | [],_,_,_,h=>(List.not_mem_nil h).elim
 | q :: l,at_,hn,p,hp=>by
  simp only [List.map_cons,List.nodup_cons] at hn
  show followF (fun i=>if i=q.1 then (if q.2.1 then some q else none) else at_ i) l p.1=_
  rcases List.mem_cons.1 hp with rfl | hp
  ·rw [followF_out fun x hx e=>hn.1 (by rw [← e]; exact List.mem_map.2 ⟨x,hx,rfl⟩),if_pos rfl]
  ·exact Zgb hn.2 hp
where
 followF_out:∀ {l:List Plc} {at_:Int→Option Plc} {i:Int},(∀ x∈l,x.1≠i)→followF at_ l i=at_ i
 | [],_,_,_=>rfl
 | q :: l,at_,i,h=>by
  show followF (fun i=>if i=q.1 then (if q.2.1 then some q else none) else at_ i) l i=_
  rw [followF_out fun x hx=>h x (List.mem_cons_of_mem _ hx),if_neg fun e=>h q List.mem_cons_self e.symm]
theorem followF_out {l:List Plc} {at_:Int→Option Plc} {i:Int} (h:∀ x∈l,x.1≠i):followF at_ l i=at_ i:=Zgb.followF_out h
def whereM (l:List Ent) (id:Int):Option Plc:=(getE l id 0).map fun c=>(id,true,c.2.1,c.2.2.1)
theorem Znw {m:WM} {now:List Ent} (h:EntsOk now) (hw:EntsOk (entsM m.x)):followF (whereM (entsM m.x)) (placesM m now)=whereM now:=by
 funext id
 have hp:=Zap (movedM m (pairsM now) ++ goneP (entsM m.x) now)
 have hn:((placesM m now).map (·.1)).Nodup:=(hp.map _).nodup_iff.2 (Zgu h hw)
 have hm:∀ q,q∈placesM m now↔q∈movedM m (pairsM now)∨q∈goneP (entsM m.x) now:=fun q=>(hp.mem_iff).trans List.mem_append
 by_cases hex:∃ q∈placesM m now,q.1=id
 ·obtain ⟨q,hq,rfl⟩:=hex
  rw [Zgb hn hq]
  rcases (hm q).1 hq with h1 | h1
  ·obtain ⟨p,hp,_,h3,rfl⟩:=Zfb.1 h1
   unfold whereM
   have:getE now p.1 0=some p.2:=(Z54 h).2 ⟨hp,h3⟩
   show (if true=true then some _ else none)=(getE now p.1 0).map _
   rw [this]
   rfl
  ·obtain ⟨h2,_,h4⟩:=(Zf8 hw).1 h1
   rw [h2]
   show (if false=true then _ else none)=whereM now q.1
   unfold whereM
   rw [h4]
   rfl
 ·rw [followF_out fun x hx e=>hex ⟨x,hx,e⟩]
  unfold whereM
  congr 1
  cases hg:getE now id 0 with
  | none =>
   cases hg2:getE (entsM m.x) id 0 with
   | none=>rfl
   | some c=>exact absurd ⟨(id,false,0,0),(hm _).2 (.inr ((Zf8 hw).2 ⟨rfl,by rw [hg2]; rfl,hg⟩)),rfl⟩ hex
  | some c =>
   obtain ⟨h1,h2⟩:=(Z54 h).1 hg
   by_cases hs:getE (entsM m.x) id 0=some c
   ·exact hs
   ·exact absurd ⟨_,(hm _).2 (.inl (Zfb.2 ⟨(id,c),h1,by show getE (entsM m.x) id c.1≠some c; rw [h2]; exact hs,h2,rfl⟩)),rfl⟩ hex
theorem Zs2 {l:List Ent} (h:EntsOk l):((l.filter fun e=>(getE l e.1 0).isSome).map (·.1)).Nodup∧∀ id,id∈(l.filter fun e=>(getE l e.1 0).isSome).map (·.1)↔(whereM l id).isSome:=by
 refine ⟨?_,fun id=>?_⟩
 ·have:=h.1
  rw [List.Nodup,List.pairwise_map] at this ⊢
  exact this.filter _
 ·unfold whereM
  rw [Option.isSome_map,List.mem_map]
  constructor
  ·rintro ⟨e,he,rfl⟩
   exact (List.mem_filter.1 he).2
  ·intro hs
   obtain ⟨c,hc⟩:=Option.isSome_iff_exists.1 hs
   obtain ⟨h1,_⟩:=(Z54 h).1 hc
   obtain ⟨e,he,he1,_⟩:=Z4b.1 h1
   have he1:e.1=id:=he1
   exact ⟨e,List.mem_filter.2 ⟨he,by rw [he1]; exact hs⟩,he1⟩
end Go.Proofs.YtoiahhpgkoknfaaGreat
namespace Go.Proofs.YtoiahhpgkoknfaaGreat
open Go Go.Proofs.YtoiahhpgkoknfaaGreat.Den
def NoT (x:StM):Prop:=∀ m,m < 64→x.tab m≠[]→∀ k∈([1,2,5]:List Int),k ∉ kindsOf m
def stillC (c:Comp):Prop:=c.1≠1∧c.1≠2∧c.1≠5
theorem NoT.new (n:Nat) (first:Int):NoT (StM.new n first):=fun _ _ h=>absurd rfl h
theorem NoT.with {x:StM} (h:NoT x) {all:Int} {ks:List Int} (hks:∀ m:Nat,m < 64→fitB (m:Int) all 0=ks.all fun k=>decide (k∈kindsOf m)) {k:Int} (hk:k∈ks) (hk2:k∈([1,2,5]:List Int)):withL x all 0=[]:=by
 unfold withL
 rw [List.filter_eq_nil_iff]
 intro id _ hf
 unfold fitE at hf
 cases hh:homeT x.tab id with
 | none=>rw [hh] at hf; cases hf
 | some m =>
  rw [hh] at hf
  obtain ⟨hm,hi⟩:=Z6x hh
  have hne:x.tab m≠[]:=fun e=>by unfold inT at hi; rw [e] at hi; simp [rowM] at hi
  have hf:fitB (m:Int) all 0=true:=hf
  rw [hks m hm,List.all_eq_true] at hf
  exact h m hm hne k hk2 (of_decide_eq_true (hf k hk))
theorem NoT.move {x:StM} (h:NoT x):(moveM x).1=x:=by unfold moveM; rw [h.with Zqx (k:=1) (by simp) (by simp)]; rfl
theorem NoT.spawn {x:StM} (h:NoT x) {l:List Comp} (hl:∀ c∈l,stillC c):NoT (x.spawn l).2.2:=by
 unfold StM.spawn
 by_cases he:listE l≠0
 ·rw [if_pos he]; exact h
 ·rw [if_neg he]
  cases ht:x.s.take with
  | none=>exact h
  | some p =>
   obtain ⟨id,s'⟩:=p
   intro m hm hne k hk hkm
   have hne:putT x.tab id l m≠[]:=hne
   unfold putT at hne
   by_cases hml:m=maskN l
   ·subst hml
    have hv:Valid (maskN l) l:=⟨by simpa using he,rfl⟩
    rw [← hv.kinds] at hkm
    obtain ⟨c,hc,rfl⟩:=List.mem_map.1 hkm
    have:=hl c hc
    simp only [List.mem_cons,List.not_mem_nil,or_false] at hk
    unfold stillC at this
    omega
   ·rw [Z1w hml] at hne
    exact h m hm hne k hk hkm
theorem NoT.all:∀ {l:List Ordr} {x:StM},NoT x→(∀ o∈l,o.1=1∧∀ c∈o.2.2.2,stillC c)→NoT (allM x l).2
 | [],_,h,_=>h
 | o :: l,x,h,hl=>by
  have h1:NoT (doM x o).2:=by
   unfold doM
   by_cases he:ochk o≠0
   ·rw [if_pos he]; exact h
   ·obtain ⟨ho,hc⟩:=hl o List.mem_cons_self
    have hw:NoT (workM x o).2.2:=by unfold workM; rw [if_pos ho]; exact h.spawn hc
    rw [if_neg he]
    split <;> exact hw
  show NoT (allM (doM x o).2 l).2
  exact NoT.all h1 fun o ho=>hl o (List.mem_cons_of_mem _ ho)
theorem Zv6 (m:WM):(stepM m).x=nowM m:=by unfold stepM; rfl
theorem Zok (m:WM):(stepM m).places=placesM m (entsM (nowM m)):=by
 unfold stepM
 generalize placesM m (entsM (nowM m))=ps
 rfl
end Go.Proofs.YtoiahhpgkoknfaaGreat
namespace Go.Proofs.YtoiahhpgkoknfaaGreat
open Go Go.RowKit Go.ChangeShapes Go.WideShapes Go.ChangeAt Go.Proofs.YtoiahhpgkoknfaaGreat.Den
variable {R:Type} {Q:R→World→Prop} {w:World} {H:Type} {enc:TypeId × Value→H}
def plcV (p:Plc):Value:=.agg ⟨[.int .u32 p.1,.bool p.2.1,.int .i32 p.2.2.1,.int .i32 p.2.2.2]⟩
def atV (f:Int→Option Plc):Int→Option Value:=fun i=>(f i).map plcV
theorem Zl0:Tryz.prog.underlying 29=some (.map 34 45):=by kernel_rfl
theorem Zsz:(Tryz.prog.info? 45).bind (·.zero)=some (plcV (0,false,0,0)):=by kernel_rfl
theorem Zty {mb:Nat} {f:Int→Option Plc} (h:MapB Tryz.prog 34 (Value.int .u32) w mb (atV f)) {id:Int} (hid:IdOk id) {K:Plc→Den.W R} (hk:K ((f id).getD (0,false,0,0)) Q w) :
  rawQ Tryz.prog (Instr.lookup 29 (.map (some mb)) (.int .u32 id) false) [.agg [.int .u32,.bool,.int .i32,.int .i32]] K Q w:=by
 refine ⟨(f id).getD (0,false,0,0),?_,hk⟩
 rw [h.look Z7t Zl0 Zsz (Zf9 hid) false]
 unfold atV
 cases f id <;> rfl
theorem Zul {mb:Nat} {f:Int→Option Plc} (h:MapB Tryz.prog 34 (Value.int .u32) w mb (atV f)) {id:Int} (hid:IdOk id) {ty:TypeId} {K:Res []→Den.W R}
  (hk:∀ w',MapB Tryz.prog 34 (Value.int .u32) w' mb (atV fun i=>if i=id then none else f i)→Fr (fun k=>k=mb) w w'→w'.heap.size=w.heap.size→K () Q w') :
  rawW Tryz.prog (Builtin.delete_ #[29,34] ty #[.map (some mb),.int .u32 id]) [] K Q w:=by
 obtain ⟨w1,h1,h2,h3,h4⟩:=h.del Z7t (intI _) Zl0 (ty:=ty) (Zf9 hid)
 refine ⟨(),w1,h1,hk w1 (h2.congr fun i=>?_) h3 h4⟩
 unfold atV
 by_cases e:i=id <;> simp [e]
theorem Zum {mb:Nat} {f:Int→Option Plc} (h:MapB Tryz.prog 34 (Value.int .u32) w mb (atV f)) {id:Int} (hid:IdOk id) (p:Plc) {K:Den.W R}
  (hk:∀ w',MapB Tryz.prog 34 (Value.int .u32) w' mb (atV fun i=>if i=id then some p else f i)→Fr (fun k=>k=mb) w w'→w'.heap.size=w.heap.size→K Q w') :
  rawU Tryz.prog (Instr.mapUpdate 29 (.map (some mb)) (.int .u32 id) (.agg ⟨[.int .u32 p.1,.bool p.2.1,.int .i32 p.2.2.1,.int .i32 p.2.2.2]⟩)) K Q w:=by
 obtain ⟨w1,h1,h2,h3,h4⟩:=h.put Z7t (intI _) Zl0 (Zf9 hid) (plcV p)
 refine ⟨w1,h1,hk w1 (h2.congr fun i=>?_) h3 h4⟩
 unfold atV
 by_cases e:i=id <;> simp [e]
theorem Zq1 {m:WM} {now:List Ent} (h:EntsOk now) (hw:EntsOk (entsM m.x)):∀ p∈placesM m now,IdOk p.1:=fun p hp=>by
 rcases List.mem_append.1 ((Zap _).mem_iff.1 hp) with h1 | h1
 ·obtain ⟨q,hq,_,_,rfl⟩:=Zfb.1 h1
  obtain ⟨e,he,he1,_⟩:=Z4b.1 hq
  rw [show ((q.1,true,q.2.2.1,q.2.2.2.1):Plc).1=e.1 from he1.symm]
  exact (h.2 e he).1
 ·obtain ⟨_,h2,_⟩:=(Zf8 hw).1 h1
  obtain ⟨c,hc⟩:=Option.isSome_iff_exists.1 h2
  obtain ⟨h3,_⟩:=(Z54 hw).1 hc
  obtain ⟨e,he,he1,_⟩:=Z4b.1 h3
  have he1:e.1=p.1:=he1
  rw [← he1]
  exact (hw.2 e he).1
theorem Zq2 {m:WM} {now:List Ent} (h:EntsOk now) (hl:now.length≤1024) (hw:(entsM m.x).length≤1024):(placesM m now).length≤10000:=by
 have:=(Zap (movedM m (pairsM now) ++ goneP (entsM m.x) now)).length_eq
 have h1:=Zif (m:=m) (Z6o h hl)
 have h2:(goneP (entsM m.x) now).length≤(entsM m.x).length:=List.length_filterMap_le _ _
 unfold placesM
 rw [this,List.length_append]
 omega
set_option maxHeartbeats 1000000 in
theorem law_WorldPlaces {W:World} {s:Sl} {raws:List (Sl × Int)} {L:List (List Ordr × Int)} (hS:SlT (Old W) W turnT s raws) (hO:All2 (TurnIn W) raws L) (hc:s.c≤maxLen) :
  Calls Tryz.prog 3 #[.slice s.a s.n s.c] W (fun e w'=>e=.returned (.bool true)∧Fr None W w'):=by
 refine Zsc (Z8v s _ _ W ?_)
 unfold Z4m
 refine Zjt fun w1 f1=>condF rfl ?_
 refine Ztv ⟨by omega,by omega⟩ ⟨by decide,by decide,by decide,by decide⟩ fun b G2 w2 h2 f2=>condF rfl (mapNewI ?_)
 have z1:=f1.size
 have z2:=f2.size
 have f02:=f1.then0 f2
 have fm:=(Fr.refl None w2).alloc (.map #[] 0)
 have mm:=MapB.made (P:=Tryz.prog) (k:=34) (ke:=Value.int .u32) w2
 have s3:(w2.alloc (.map #[] 0)).heap.size=w2.heap.size+1:=by simp
 generalize w2.alloc (.map #[] 0)=w3 at *
 have f03:=f02.then0 fm
 have h3:=h2.fr0 fm
 have h3:WA W.heap.size b (newM (Int.toNat 10) 1 0) G2 w3:=⟨h3.1,fun k e=>⟨Nat.le_trans z1 (h3.2.1 k e).1,(h3.2.1 k e).2⟩,h3.2.2⟩
 obtain ⟨mb,hmb⟩:∃ mb,mb=w2.heap.size:=⟨_,rfl⟩
 rw [← hmb] at mm ⊢
 have hGm:¬ G2 mb:=fun e=>by have:=(h2.2.1 mb e).2; omega
 have hmbW:W.heap.size≤mb:=by omega
 have hent:entsM (newM (Int.toNat 10) 1 0).x=[]:=Zlf h2.2.2.x
 refine joinI (fun _ v=>Fr None W v) ?_ fun _ v hv=>⟨rfl,hv⟩
 have hsn:s.n≤9223372036854775807:=by have:=hS.cap; rw [Zn] at hc; omega
 have hlen:=hO.len
 have hsl:=hS.len
 refine rangeC (t:=turnT) (ok:=Old W) (l:=raws) (fun s:Int=>s) (fun j i v=>i=(j:Int)∧j≤12∧Fr None W v∧∃ m G,WA W.heap.size b m G v∧¬ G mb∧mb < v.heap.size∧MapB Tryz.prog 34 (Value.int .u32) v mb (atV (whereM (entsM m.x)))∧m.tick=(j:Int)) rfl rfl rfl
  ⟨rfl,by omega,f03,_,G2,h3,hGm,by omega,mm.congr fun i=>by unfold atV whereM; rw [hent]; rfl,rfl⟩ (fun j s v h=>h.1) (fun j s v hp=>hS.fr0 hp.2.2.1) ?_ fun s v hp=>hp.2.2.1
 rintro j x i v0 v1 K' hx ⟨rfl,h12,f4,m,G,ha,hGm,hmv,hM,ht⟩ - B8 f5 s5 hK
 have hjl:=(List.getElem?_eq_some_iff.1 hx).1
 have f05:=f4.then0 f5
 refine condD (fun _=>f05) fun hlt=>?_
 have hlt:¬ (j:Int) ≥ 12:=hlt
 obtain ⟨t,hxt,⟨⟨raws2,hS2,hO2⟩,hc2⟩,_⟩:=hO.getL hx
 refine fldI B8 (i:=0) (x:=x.1) rfl (Zrs (n:=10) hS2 hO2 hc2 f05 (by decide) fun r raws' LF v2 o2 a2 _ hlf hok f6=>?_)
 have f06:=f05.then0 f6
 have z5:=f05.size
 have z6:=f6.size
 have zf5:=f5.size
 have ha:=ha.fr0 f5
 have o2s:SlT (fun k=>v1.heap.size≤k∧k < v2.heap.size) v2 ordT r raws':=o2.sl.mono fun k hk e=>⟨e,hk⟩
 have gapA:∀ k,G k→Gap W.heap.size v1.heap.size v2.heap.size k:=fun k e=>⟨(ha.2.1 k e).1,fun e2=>by have:=(ha.2.1 k e).2; omega⟩
 refine Zqe (ha.fr0 f6) z5 (by omega) o2s a2 hok (by omega) gapA fun G3 v3 ha3 hG3 f7=>?_
 have f07:=f06.wa (fun k e=>(ha.2.1 k e).1) f7
 have hM3:=((hM.fr f5 fun h=>h).fr f6 fun h=>h).fr f7 hGm
 have hGm3:¬ G3 mb:=fun e=>by rcases hG3 mb e with e | e; exact hGm e; omega
 have z7:=f7.size
 have hpx:(pushAllW m LF).x=m.x:=by
  have:∀ (l:List Ordr) (m:WM),(pushAllW m l).x=m.x:=fun l=>by
   induction l with
   | nil=>exact fun _=>rfl
   | cons o l ih=>exact fun m=>ih (pushW m o)
  exact this LF m
 have htk:(pushAllW m LF).tick=(j:Int):=by rw [Zfc]; exact ht
 rw [← hpx] at hM3
 generalize pushAllW m LF=m2 at ha3 htk hM3
 have hwas:=ha3.2.2.x
 refine Zom ha3 (by omega) (by omega) fun r8 G4 v4 ha4 hG4 _ f8=>?_
 have f08:=f07.wa (fun k e=>(ha3.2.1 k e).1) f8
 have hM4:=hM3.fr f8 hGm3
 have hGm4:¬ G4 mb:=fun e=>by rcases hG4 mb e with e | e; exact hGm3 e; omega
 have z8:=f8.size
 obtain ⟨hw,hwl⟩:=Zhh hwas
 have hx4:=Zv6 m2
 obtain ⟨hn,hnl⟩:=Zhh ha4.2.2.x
 have hp4:=Zok m2
 have ht4:(stepM m2).tick=((j+1:Nat):Int):=by rw [Zkp,htk]; rfl
 rw [← hx4] at hp4
 have hfol:=Znw (m:=m2) hn hw
 have hpi:=Zq1 (m:=m2) hn hw
 have hpl:=Zq2 (m:=m2) hn hnl hwl
 rw [← hp4] at hfol hpi hpl
 generalize stepM m2=m4 at ha4 hfol hpi hpl ht4 hn hnl
 refine Zas ha4.1 (by omega) fun rp v5 o5 f9=>?_
 have f09:=f08.then0 f9
 have h5:=ha4.fr0 f9
 have hM5:=hM4.fr f9 fun h=>h
 have z9:=f9.size
 have hGv:∀ k,G4 k→k < v4.heap.size:=fun k e=>(ha4.2.1 k e).2
 have o5s:SlT (fun k=>v4.heap.size≤k∧k < v5.heap.size) v5 plcT rp m4.places:=o5.sl.mono fun k hk e=>⟨e,hk⟩
 refine rangeC (t:=plcT) (ok:=fun k=>v4.heap.size≤k∧k < v5.heap.size) (l:=m4.places) (fun s:Int=>s) (fun q i v=>i=(q:Int)∧Fr (fun k=>k=mb) v5 v∧MapB Tryz.prog 34 (Value.int .u32) v mb (atV (followF (whereM (entsM m2.x)) (m4.places.take q)))) rfl rfl rfl
  ⟨rfl,Fr.refl _ _,hM5⟩ (fun j s v h=>h.1) (fun j s v hp=>o5s.fr hp.2.1 fun k e e2=>by have e2:k=mb:=e2; omega) ?_ ?_
 ·rintro q p i u0 u1 K2 hq ⟨rfl,g1,hMq⟩ - B9 g2 t2 hK2
  have hql:=(List.getElem?_eq_some_iff.1 hq).1
  have hpid:=hpi p (List.mem_of_getElem? hq)
  have z1':=g1.size
  refine fldI B9 (i:=0) (x:=p.1) rfl (Zul (hMq.fr g2 fun h=>h) hpid fun u2 hM2 g3 t3=>?_)
  have B9:=B9.fr g3 fun e=>by have e:u0.heap.size=mb:=e; omega
  refine fldI B9 (i:=1) (x:=p.2.1) rfl ?_
  have g13:Fr (fun k=>k=mb) v5 u2:=(g1.then g2.any).then g3
  refine joinI (fun (_:Unit) v=>Fr (fun k=>k=mb) v5 v∧MapB Tryz.prog 34 (Value.int .u32) v mb (atV (followF (whereM (entsM m2.x)) (m4.places.take (q+1))))) ?_ ?_
  ·rw [Z1q hq,Zmc]
   refine condI (fun ht=>fldI B9 (i:=0) (x:=p.1) rfl (aggI B9 (x:=p) rfl (Zum hM2 hpid p fun u3 hM3 g4 t4=>⟨g13.then g4,hM3.congr fun i=>?_⟩))) fun hf=>⟨g13,hM2.congr fun i=>?_⟩
   ·unfold atV
    by_cases e:i=p.1 <;> simp [e,ht]
   ·unfold atV
    by_cases e:i=p.1 <;> simp [e,hf]
  ·rintro _ u3 ⟨g4,hM3⟩
   exact hK2 _ _ ⟨wsucc (N:=m4.places.length) hql (by omega),g4,hM3⟩
 ·rintro i u0 ⟨-,g1,hMq⟩
  rw [List.take_length,hfol] at hMq
  have h6:=h5.frS g1 fun k e e2=>by have e:k=mb:=e; subst e; exact hGm4 e2
  have g09:=f09.newer g1 fun k e=>by have e:k=mb:=e; omega
  have zg:=g1.size
  refine Zcc h6.1 fun rl u1 E1 g2=>?_
  obtain ⟨rwl,ol,Rl⟩:=E1.ents
  have hrl:=Rl.len
  have g010:=g09.then0 g2
  have hM7:=hMq.fr g2 fun h=>h
  have h7:=h6.fr0 g2
  have hmbu:mb < u1.heap.size:=by have:=g2.size; omega
  refine rangeC (t:=entT) (ok:=Up u0.heap.size) (l:=rwl) (fun s:Int × Int=>s.2) (fun q st v=>st.2=(q:Int)∧Fr None u1 v∧st.1=((((entsM m4.x).take q).filter fun e=>(getE (entsM m4.x) e.1 0).isSome).length:Int)) rfl rfl rfl
   ⟨rfl,Fr.refl _ _,rfl⟩ (fun j s v h=>h.1) (fun j st v hp=>ol.sl.fr0 hp.2.1) ?_ ?_
  ·rintro q a ⟨n,_⟩ u2 u3 K2 ha' ⟨rfl,g3,hnq⟩ - B9 g4 t4 hK2
   have hql:=(List.getElem?_eq_some_iff.1 ha').1
   obtain ⟨e,he⟩:∃ e,(entsM m4.x)[q]?=some e:=⟨_,List.getElem?_eq_getElem (by omega)⟩
   obtain ⟨ha1,ha2⟩:=Rl.at_ q a e ha' he
   have hem:=List.mem_of_getElem? he
   obtain ⟨hid,hle⟩:=hn.2 e hem
   have g34:=g3.then0 g4
   refine aggI B9 (x:=a) rfl (newI fun u4 B10 g5 t5=>fldI (B9.fr g5 fun h=>h) (i:=0) (x:=a.1) rfl ?_)
   have g35:=g34.then0 g5
   have hone:SlT (fun k=>k=u3.heap.size) u4 entT ⟨some ⟨u3.heap.size,0,none⟩,1,1⟩ [a]:=by
    have:Den.Own (fun k=>k=u3.heap.size) u4 49 entT ⟨some ⟨u3.heap.size,0,none⟩,1,1⟩ [a]:=Den.Own.mk' (t:=entT) (l:=[a]) (c:=1) (cur:=⟨entT.cells a⟩) rfl B10 (Nat.le_refl 1) (by rw [Zn]; decide) rfl rfl
    exact this.sl
   have hR1:EntsR (fun _=>True) u4 [a] [e]:=⟨rfl,fun i r e' h1 h2=>by
    cases i with
    | zero=>cases h1; cases h2; exact ⟨ha1,(ha2.fr0 g35).mono fun _ _ _=>trivial⟩
    | succ i=>cases h1⟩
   have hok1:EntsOk [e]:=⟨by simp,fun e' he'=>by rw [List.mem_singleton] at he'; subst he'; exact ⟨hid,hle⟩⟩
   refine Zn3 (hone.mono (ok':=fun _=>True) fun _ _ _=>trivial) hR1 hok1 (show 1≤_ from by decide) fun u5 g6=>?_
   rw [ha1]
   have hsame:getE [e] e.1 0=getE (entsM m4.x) e.1 0:=by
    cases hg:getE [e] e.1 0 with
    | some c =>
     obtain ⟨b1,b2⟩:=(Z54 hok1).1 hg
     obtain ⟨e',he',b3,b4⟩:=Z4b.1 b1
     rw [List.mem_singleton] at he'
     subst he'
     exact ((Z54 hn).2 ⟨Z4b.2 ⟨e',hem,rfl,b4⟩,b2⟩).symm
    | none =>
     have b1:=(Zf7 hok1).1 hg
     refine ((Zf7 hn).2 fun c hc=>?_).symm
     obtain ⟨e',he',b3,b4⟩:=Z4b.1 hc
     have b3:e'.1=e.1:=b3
     have:e'=e:=by
      have f1:=(Z7s (fun e:Ent=>e.1) hn.1 (q:=e.1) (p:=e')).2 ⟨he',b3⟩
      have f2:=(Z7s (fun e:Ent=>e.1) hn.1 (q:=e.1) (p:=e)).2 ⟨hem,rfl⟩
      rw [f1] at f2
      cases f2
      rfl
     subst this
     exact b1 c (Z4b.2 ⟨e',List.mem_singleton.2 rfl,rfl,b4⟩)
   rw [hsame]
   refine newI fun u6 B11 g7 t7=>stoAll B11 rfl rfl fun u7 B11 g8 t8=>?_
   have g67:Fr None u5 u7:=g7.newer g8 fun k e=>by cases e; exact Nat.le_refl _
   have g37:=(g35.then0 g6).then0 g67
   have B9:=((B9.fr g5 fun h=>h).fr g6 fun h=>h).fr g67 fun h=>h
   have hM8:=hM7.fr g37 fun h=>h
   have hcnt:∀ z:Bool,(getE (entsM m4.x) e.1 0).isSome=z→((((entsM m4.x).take (q+1)).filter fun e=>(getE (entsM m4.x) e.1 0).isSome).length:Int)=n+(if z then 1 else 0):=fun z hz=>by
    have hnq:n=_:=hnq
    rw [Z1q he,List.filter_append,List.length_append,hnq]
    cases z with
    | true=>rw [List.filter_cons_of_pos (by simpa using hz)]; simp
    | false=>rw [List.filter_cons_of_neg (by simp [hz])]; simp
   have hnb:n≤1024:=by
    have hnq:n=_:=hnq
    have:=Nat.le_trans (List.length_filter_le (fun e=>(getE (entsM m4.x) e.1 0).isSome) ((entsM m4.x).take q)) (by rw [List.length_take]; exact Nat.min_le_right _ _)
    omega
   refine joinI (fun (z:Int) v=>v=u7∧z=((((entsM m4.x).take (q+1)).filter fun e=>(getE (entsM m4.x) e.1 0).isSome).length:Int)) ?_ ?_
   ·refine condI (fun hz=>?_) (fun hz=>?_)
    ·have hz:(getE (entsM m4.x) e.1 0).isSome=true:=hz
     obtain ⟨c,hc⟩:=Option.isSome_iff_exists.1 hz
     have hcz:=hcnt true hz
     rw [hc] at B11
     refine fldI B9 (i:=0) (x:=a.1) rfl (Zty hM8 (by rw [ha1]; exact hid) (fldI B9 (i:=0) (x:=a.1) rfl (idxA (by decide) (by decide) ?_)))
     rw [addA]
     refine fldI B11 (i:=1) (x:=c.2.1) rfl (idxA (by decide) (by decide) ?_)
     rw [addA]
     refine fldI B11 (i:=2) (x:=c.2.2.1) rfl (neqI Zqs (Zqt ((whereM (entsM m4.x) a.1).getD (0,false,0,0)) (a.1,true,c.2.1,c.2.2.1)) (condF ?_ ⟨rfl,?_⟩))
     ·rw [ha1]
      simp [whereM,hc]
     ·rw [hcz]
      simp only [if_true]
      have hn0:0≤n:=by
       rw [show n=_ from hnq]
       exact Int.natCast_nonneg _
      exact w64 ⟨show -9223372036854775808≤n+1 by omega,show n+1≤9223372036854775807 by omega⟩
    ·have hz:(getE (entsM m4.x) e.1 0).isSome=false:=hz
     exact ⟨rfl,by rw [hcnt false hz]; simp⟩
   ·rintro z v ⟨rfl,rfl⟩
    exact hK2 _ _ ⟨wsucc (N:=rwl.length) hql (by omega),g37,rfl⟩
  ·rintro ⟨n,_⟩ u2 ⟨-,g3,hnq⟩
   rw [hrl,List.take_length] at hnq
   obtain ⟨k1,k2⟩:=Zs2 hn
   refine lenI (hM7.fr g3 fun h=>h) (intI _) Zl0 k1 (fun i=>by unfold atV; rw [Option.isSome_map]; exact k2 i) ?_
   have hnq:n=_:=hnq
   refine condF (by rw [hnq,List.length_map]; simp) (hK _ _ ⟨wsucc (N:=s.n) (by omega) hsn,by omega,g010.then0 g3,m4,G4,h7.fr0 g3,hGm4,by have:=g3.size; omega,hM7.fr g3 fun h=>h,ht4⟩)
end Go.Proofs.YtoiahhpgkoknfaaGreat
