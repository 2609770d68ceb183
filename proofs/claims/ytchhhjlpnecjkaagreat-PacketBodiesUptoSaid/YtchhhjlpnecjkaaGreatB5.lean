/-
  What the proof of packetBodies_holds leans on, laid together by a program of this session (wip/pack.py) out of its own texts; the last of these texts holds packetBodies_holds.
-/
import Derived.Test.YtchhhjlpnecjkaaGreatB4
set_option linter.unusedVariables false
namespace Go.Proofs.YtchhhjlpnecjkaaGreat
open Go Go.RowKit Go.Proofs.YtchhhjlpnecjkaaGreat.Den
variable {α:Type} {key:α→Int} {L L':List α} {M M':α→Prop}
structure Holds (key:α→Int) (L:List α) (M:α→Prop):Prop where
 rise:L.Pairwise fun a b=>key a < key b
 mem:∀ e,e∈L↔M e
theorem Z12a:∀ {l k:List α},(l.Pairwise fun a b=>key a < key b)→(k.Pairwise fun a b=>key a < key b)→(∀ x,x∈l↔x∈k)→l=k
 | [],[],_,_,_=>rfl
 | [],y :: k,_,_,h=>by have:=(h y).2 List.mem_cons_self; cases this
 | x :: l,[],_,_,h=>by have:=(h x).1 List.mem_cons_self; cases this
 | x :: l,y :: k,hl,hk,h=>by
  obtain ⟨l1,l2⟩:=List.pairwise_cons.1 hl
  obtain ⟨k1,k2⟩:=List.pairwise_cons.1 hk
  have hxy:x=y:=by
   rcases List.mem_cons.1 ((h x).1 List.mem_cons_self) with e | e
   ·exact e
   ·rcases List.mem_cons.1 ((h y).2 List.mem_cons_self) with e2 | e2
    ·exact e2.symm
    ·have:=k1 x e; have:=l1 y e2; omega
  subst hxy
  rw [Z12a l2 k2 fun z=>⟨fun hz=>?_,fun hz=>?_⟩]
  ·rcases List.mem_cons.1 ((h z).1 (List.mem_cons_of_mem _ hz)) with e | e
   ·have:=l1 z hz; rw [e] at this; omega
   ·exact e
  ·rcases List.mem_cons.1 ((h z).2 (List.mem_cons_of_mem _ hz)) with e | e
   ·have:=k1 z hz; rw [e] at this; omega
   ·exact e
theorem Holds.iff (h:Holds key L M) (hm:∀ e,M e↔M' e):Holds key L M':=⟨h.rise,fun e=>(h.mem e).trans (hm e)⟩
theorem Holds.uniq (h:Holds key L M) (h':Holds key L' M):L=L':=Z12a h.rise h'.rise fun x=>(h.mem x).trans (h'.mem x).symm
theorem Z12b:∀ {L:List α},(L.Pairwise fun a b=>key a < key b)→∀ {a b:α},a∈L→b∈L→key a=key b→a=b
 | x :: r,h,a,b,ha,hb,e=>by
  obtain ⟨h1,h2⟩:=List.pairwise_cons.1 h
  rcases List.mem_cons.1 ha with ea | ea
  ·rcases List.mem_cons.1 hb with eb | eb
   ·rw [ea,eb]
   ·have:=h1 b eb; rw [ea] at e; omega
  ·rcases List.mem_cons.1 hb with eb | eb
   ·have:=h1 a ea; rw [eb] at e; omega
   ·exact Z12b h2 ea eb e
theorem Z14r {i:Nat} {a:α} (h:L[i]?=some a):∃ p q,p=L.take i∧q=L.drop (i+1)∧L=p ++ a :: q:=by
 obtain ⟨hi,e⟩:=List.getElem?_eq_some_iff.1 h
 refine ⟨_,_,rfl,rfl,?_⟩
 have:=(List.take_append_drop i L).symm
 rw [List.drop_eq_getElem_cons hi,e] at this
 exact this
theorem Zo5 (h:L.Pairwise fun a b=>key a < key b) {j:Nat} {a:α} (ha:L[j]?=some a):∀ b∈L.take j,key b < key a:=by
 obtain ⟨p,q,hp,hq,e⟩:=Z14r ha
 rw [← hp]
 rw [e] at h
 exact fun b hb=>(List.pairwise_append.1 h).2.2 b hb a List.mem_cons_self
theorem Zz {j:Nat} {a:α} (ha:L[j]?=some a) {b:α}:b∈L.take (j+1)↔b∈L.take j∨b=a:=by
 obtain ⟨hi,e⟩:=List.getElem?_eq_some_iff.1 ha
 rw [List.take_add_one,ha]
 simp
theorem Holds.cut (h:Holds key L M) {i:Nat} {a:α} (ha:L[i]?=some a):Holds key (L.take i ++ L.drop (i+1)) fun e=>M e∧key e≠key a:=by
 obtain ⟨p,q,hp,hq,e⟩:=Z14r ha
 rw [← hp,← hq]
 clear hp hq ha
 subst e
 obtain ⟨r1,r2,r3⟩:=List.pairwise_append.1 h.rise
 obtain ⟨r4,r5⟩:=List.pairwise_cons.1 r2
 refine ⟨List.pairwise_append.2 ⟨r1,r5,fun x hx y hy=>r3 x hx y (List.mem_cons_of_mem _ hy)⟩,fun x=>?_⟩
 rw [← h.mem x]
 simp only [List.mem_append,List.mem_cons]
 constructor
 ·rintro (hx | hx)
  ·exact ⟨.inl hx,by have:=r3 x hx a List.mem_cons_self; omega⟩
  ·exact ⟨.inr (.inr hx),by have:=r4 x hx; omega⟩
 ·rintro ⟨hx | rfl | hx,hn⟩
  ·exact .inl hx
  ·exact absurd rfl hn
  ·exact .inr hx
theorem Holds.set (h:Holds key L M) {i:Nat} {a b:α} (ha:L[i]?=some a) (hb:key b=key a):Holds key (L.set i b) fun e=>e=b∨(M e∧key e≠key a):=by
 have hi:=(List.getElem?_eq_some_iff.1 ha).1
 have c:=h.cut ha
 obtain ⟨p,q,hp,hq,e⟩:=Z14r ha
 have es:L.set i b=p ++ b :: q:=by rw [List.set_eq_take_append_cons_drop,if_pos hi,hp,hq]
 rw [es]
 rw [← hp,← hq] at c
 clear hp hq ha es
 subst e
 obtain ⟨r1,r2,r3⟩:=List.pairwise_append.1 h.rise
 obtain ⟨r4,r5⟩:=List.pairwise_cons.1 r2
 refine ⟨List.pairwise_append.2 ⟨r1,List.pairwise_cons.2 ⟨fun x hx=>by rw [hb]; exact r4 x hx,r5⟩,fun x hx y hy=>?_⟩,fun x=>?_⟩
 ·rcases List.mem_cons.1 hy with e | e
  ·rw [e,hb]; exact r3 x hx a List.mem_cons_self
  ·exact r3 x hx y (List.mem_cons_of_mem _ e)
 ·rw [← c.mem x]
  simp only [List.mem_append,List.mem_cons]
  constructor
  ·rintro (hx | hx | hx)
   ·exact .inr (.inl hx)
   ·exact .inl hx
   ·exact .inr (.inr hx)
  ·rintro (hx | hx | hx)
   ·exact .inr (.inl hx)
   ·exact .inl hx
   ·exact .inr (.inr hx)
theorem Holds.without {k:Int} (h:Holds key L M):Holds key (L.filter fun c=>!(key c == k)) fun e=>M e∧key e≠k :=
 ⟨h.rise.filter _,fun x=>by rw [List.mem_filter,h.mem x]; simp⟩
theorem Zsp {k:Int} {l:List Comp} (h:∃ x∈l,x.1=k):¬ findM l k < 0:=by
 unfold findM
 split
 ·omega
 ·rename_i hn
  obtain ⟨x,hx,e⟩:=h
  have:=List.findIdx?_eq_none_iff.1 hn x hx
  simp [e] at this
theorem Z148 {k:Int} {l:List Comp} (h:∀ x∈l,x.1≠k):findM l k < 0:=by
 unfold findM
 split
 ·rename_i i hi
  obtain ⟨hl,e,_⟩:=List.findIdx?_eq_some_iff_getElem.1 hi
  exact absurd (by simpa using e) (h _ (List.getElem_mem hl))
 ·decide
theorem Holds.withC {L:List Comp} {M:Comp→Prop} (c:Comp) (h:Holds (fun x:Comp=>x.1) L M):Holds (fun x:Comp=>x.1) (withM L c) fun x=>x=c∨(M x∧x.1≠c.1):=by
 have key:∀ l:List Comp,(l.Pairwise fun a b=>a.1 < b.1)→((withG c false l).Pairwise fun a b=>a.1 < b.1)∧∀ x,x∈withG c false l↔x=c∨(x∈l∧x.1≠c.1):=by
  intro l
  induction l with
  | nil=>intro _; simp [withG]
  | cons y r ih =>
   intro hp
   obtain ⟨p1,p2⟩:=List.pairwise_cons.1 hp
   obtain ⟨i1,i2⟩:=ih p2
   rw [withG]
   by_cases hy:y.1 ≥ c.1
   ·have hr:∀ x∈r,x.1≠c.1:=fun x hx=>by have:=p1 x hx; omega
    have hd:withG c (false || decide (y.1 ≥ c.1)) r=r:=by rw [decide_eq_true hy]; exact Zqb hr
    rw [hd,decide_eq_true hy]
    by_cases he:y.1=c.1
    ·rw [if_neg (show ¬ y.1≠c.1 by omega)]
     refine ⟨?_,fun x=>?_⟩
     ·simp only [Bool.not_false,Bool.and_self,if_true,List.nil_append,List.cons_append]
      exact List.pairwise_cons.2 ⟨fun x hx=>by have:=p1 x hx; omega,p2⟩
     ·simp only [Bool.not_false,Bool.and_self,if_true,List.nil_append,List.cons_append,List.mem_cons]
      constructor
      ·rintro (e | e)
       ·exact .inl e
       ·exact .inr ⟨.inr e,hr x e⟩
      ·rintro (e | ⟨e | e,hn⟩)
       ·exact .inl e
       ·exact absurd (by rw [e]; exact he) hn
       ·exact .inr e
    ·rw [if_pos he]
     refine ⟨?_,fun x=>?_⟩
     ·simp only [Bool.not_false,Bool.and_self,if_true,List.nil_append,List.cons_append]
      refine List.pairwise_cons.2 ⟨fun x hx=>?_,hp⟩
      rcases List.mem_cons.1 hx with e | e
      ·rw [e]; omega
      ·have:=p1 x e; omega
     ·simp only [Bool.not_false,Bool.and_self,if_true,List.nil_append,List.cons_append,List.mem_cons]
      constructor
      ·rintro (e | e | e)
       ·exact .inl e
       ·exact .inr ⟨.inl e,by rw [e]; exact he⟩
       ·exact .inr ⟨.inr e,hr x e⟩
      ·rintro (e | ⟨e | e,_⟩)
       ·exact .inl e
       ·exact .inr (.inl e)
       ·exact .inr (.inr e)
   ·rw [decide_eq_false hy,if_pos (show y.1≠c.1 by omega)]
    refine ⟨?_,fun x=>?_⟩
    ·simp only [Bool.not_false,Bool.and_false,Bool.false_eq_true,if_false,List.nil_append,List.cons_append,Bool.or_false]
     refine List.pairwise_cons.2 ⟨fun x hx=>?_,i1⟩
     rcases (i2 x).1 hx with e | e
     ·rw [e]; omega
     ·exact p1 x e.1
    ·simp only [Bool.not_false,Bool.and_false,Bool.false_eq_true,if_false,List.nil_append,List.cons_append,Bool.or_false,List.mem_cons,i2 x]
     constructor
     ·rintro (e | e | ⟨e,hn⟩)
      ·exact .inr ⟨.inl e,by rw [e]; omega⟩
      ·exact .inl e
      ·exact .inr ⟨.inr e,hn⟩
     ·rintro (e | ⟨e | e,hn⟩)
      ·exact .inr (.inl e)
      ·exact .inl e
      ·exact .inr (.inr ⟨e,hn⟩)
 obtain ⟨k1,k2⟩:=key L h.rise
 exact ⟨k1,fun x=>by rw [← h.mem x]; exact k2 x⟩
def insG (e:Ent):Bool→List Ent→List Ent
 | done,[]=>if done then [] else [e]
 | done,x :: r=>(if !done && decide (x.1 ≥ e.1) then [e] else []) ++ (x :: insG e (done || decide (x.1 ≥ e.1)) r)
theorem Zek {e:Ent}:∀ {l:List Ent},insG e true l=l
 | []=>rfl
 | x :: r=>by rw [insG]; simp [Zek]
theorem Holds.ins {L:List Ent} {M:Ent→Prop} (e:Ent) (h:Holds (fun x:Ent=>x.1) L M) (hn:∀ x,M x→x.1≠e.1):Holds (fun x:Ent=>x.1) (insG e false L) fun x=>x=e∨M x:=by
 have key:∀ l:List Ent,(l.Pairwise fun a b=>a.1 < b.1)→(∀ x∈l,x.1≠e.1)→((insG e false l).Pairwise fun a b=>a.1 < b.1)∧∀ x,x∈insG e false l↔x=e∨x∈l:=by
  intro l
  induction l with
  | nil=>intro _ _; simp [insG]
  | cons y r ih =>
   intro hp hne
   obtain ⟨p1,p2⟩:=List.pairwise_cons.1 hp
   obtain ⟨i1,i2⟩:=ih p2 fun x hx=>hne x (List.mem_cons_of_mem _ hx)
   have hy1:=hne y List.mem_cons_self
   rw [insG]
   by_cases hy:y.1 ≥ e.1
   ·rw [decide_eq_true hy]
    simp only [Bool.not_false,Bool.and_self,if_true,Bool.false_or,Zek,List.cons_append,List.nil_append]
    refine ⟨List.pairwise_cons.2 ⟨fun x hx=>?_,hp⟩,fun x=>by simp [List.mem_cons]⟩
    rcases List.mem_cons.1 hx with a | a
    ·rw [a]; omega
    ·have:=p1 x a; omega
   ·rw [decide_eq_false hy]
    simp only [Bool.not_false,Bool.and_false,Bool.false_eq_true,if_false,List.nil_append,Bool.or_false]
    refine ⟨List.pairwise_cons.2 ⟨fun x hx=>?_,i1⟩,fun x=>?_⟩
    ·rcases (i2 x).1 hx with a | a
     ·rw [a]; omega
     ·exact p1 x a
    ·simp only [List.mem_cons,i2 x]
     constructor
     ·rintro (a | a | a)
      ·exact .inr (.inl a)
      ·exact .inl a
      ·exact .inr (.inr a)
     ·rintro (a | a | a)
      ·exact .inr (.inl a)
      ·exact .inl a
      ·exact .inr (.inr a)
 obtain ⟨k1,k2⟩:=key L h.rise fun x hx=>hn x ((h.mem x).1 hx)
 exact ⟨k1,fun x=>by rw [← h.mem x]; exact k2 x⟩
theorem Z11t (e:Ent):∀ (b:Bool) (l:List Ent),(insG e b l).length≤l.length+1
 | true,l=>by rw [Zek]; omega
 | false,[]=>by simp [insG]
 | false,x :: r=>by
  rw [insG]
  by_cases h:x.1 ≥ e.1
  ·rw [decide_eq_true h]; simp [Zek]
  ·rw [decide_eq_false h]; have:=Z11t e false r; simp; omega
theorem Z11u (e:Ent):∀ (b:Bool) (l:List Ent),∀ x∈insG e b l,x=e∨x∈l
 | true,l,x,h=>by rw [Zek] at h; exact .inr h
 | false,[],x,h=>by simp [insG] at h; exact .inl h
 | false,y :: r,x,h=>by
  rw [insG] at h
  by_cases hy:y.1 ≥ e.1
  ·rw [decide_eq_true hy] at h; simp [Zek] at h
   rcases h with h | h | h
   ·exact .inl h
   ·exact .inr (by rw [h]; exact List.mem_cons_self)
   ·exact .inr (List.mem_cons_of_mem _ h)
  ·rw [decide_eq_false hy] at h; simp at h
   rcases h with h | h
   ·exact .inr (by rw [h]; exact List.mem_cons_self)
   ·rcases Z11u e false r x h with h | h
    ·exact .inl h
    ·exact .inr (List.mem_cons_of_mem _ h)
section
variable {a b:Ent}
def lostP (a:Ent) (d:Chg) (k:Nat) (x:Comp):Prop:=x∈a.2∧¬ (x.1 < (k:Int)∧d.2.1.toNat.testBit x.1.toNat=true)
def newP (a:Ent) (d:Chg) (j:Nat) (x:Comp):Prop:=(x∈a.2∧d.2.1.toNat.testBit x.1.toNat=false)∨x∈d.2.2.1.take j
def setP (a:Ent) (d:Chg) (j:Nat) (x:Comp):Prop:=(x∈a.2∧d.2.1.toNat.testBit x.1.toNat=false∧∀ y∈d.2.2.2.take j,y.1≠x.1)∨x∈d.2.2.1∨x∈d.2.2.2.take j
theorem Zib {l:List Comp} (h:listE l=0):l.Pairwise fun a b=>a.1 < b.1:=by
 have:=(Z28.1 h).2
 rwa [Rising,List.pairwise_map] at this
theorem Zwr {l:List Comp} (h:listE l=0):∀ x∈l,0≤x.1∧x.1 < 6:=fun x hx=>by have:=Z3w ((Z28.1 h).1 x hx); omega
theorem Z18i (ha:listE a.2=0) (d:Chg):Holds (fun x:Comp=>x.1) a.2 (lostP a d 0) :=
 ⟨Zib ha,fun x=>⟨fun h=>⟨h,fun h2=>by have:=(Zwr ha x h).1; omega⟩,fun h=>h.1⟩⟩
theorem Z16q {l:List Comp} {d:Chg} {k:Nat} (ha:listE a.2=0) (h:Holds (fun x:Comp=>x.1) l (lostP a d k)) (hb:d.2.1.toNat.testBit k=false):Holds (fun x:Comp=>x.1) l (lostP a d (k+1)) :=
 h.iff fun x=>⟨fun h=>⟨h.1,fun h2=>h.2 ⟨by
  have:=(Zwr ha x h.1).1
  rcases Int.lt_or_eq_of_le (show x.1≤(k:Int) by omega) with g | g
  ·exact g
  ·rw [g] at h2
   rw [show ((k:Int).toNat)=k by omega,hb] at h2
   exact absurd h2.2 (by simp),h2.2⟩⟩,fun h=>⟨h.1,fun h2=>h.2 ⟨by omega,h2.2⟩⟩⟩
theorem Z14m {l:List Comp} {k:Nat} (ha:listE a.2=0) (h:Holds (fun x:Comp=>x.1) l (lostP a (changeM a b) k)) (hk:k < 8) (hb:(changeM a b).2.1.toNat.testBit k=true) :
  (∃ x∈l,x.1=(k:Int))∧Holds (fun x:Comp=>x.1) (l.filter fun c=>!(c.1 == (k:Int))) (lostP a (changeM a b) (k+1)):=by
 have hk6:k < 6:=by
  refine Classical.byContradiction fun hn=>?_
  have:=Z11y a.2 b.2
  have h2:(changeM a b).2.1.toNat < 2 ^ k:=Nat.lt_of_lt_of_le this (Nat.pow_le_pow_right (show 0 < 2 by decide) (show 6≤k by omega))
  rw [Nat.testBit_lt_two_pow h2] at hb
  cases hb
 have hl:(has a.2 k && !has b.2 k)=true:=by rw [← Zfs a.2 b.2 hk6]; exact hb
 obtain ⟨h1,h2⟩:=Bool.and_eq_true_iff.1 hl
 obtain ⟨x,hx,e⟩:=Zh6.1 h1
 refine ⟨⟨x,(h.mem x).2 ⟨hx,fun g=>by omega⟩,e⟩,(Holds.without (k:=(k:Int)) h).iff fun y=>⟨fun ⟨g1,g2⟩=>⟨g1.1,fun g3=>g1.2 ⟨by omega,g3.2⟩⟩,fun g=>⟨⟨g.1,fun g2=>g.2 ⟨by omega,g2.2⟩⟩,fun g2=>g.2 ⟨by omega,?_⟩⟩⟩⟩
 rw [g2,show ((k:Int).toNat)=k by omega]
 exact hb
theorem Z19e {l:List Comp} {d:Chg} (ha:listE a.2=0) (h:Holds (fun x:Comp=>x.1) l (lostP a d 8)):Holds (fun x:Comp=>x.1) l (newP a d 0) :=
 h.iff fun x=>⟨fun g=>.inl ⟨g.1,by
  have:=Zwr ha x g.1
  cases hh:d.2.1.toNat.testBit x.1.toNat with
  | false=>rfl
  | true=>exact absurd ⟨by omega,hh⟩ g.2⟩,fun g=>by
  rcases g with g | g
  ·exact ⟨g.1,fun g2=>by rw [g.2] at g2; exact absurd g2.2 (by simp)⟩
  ·rw [List.take_zero] at g; cases g⟩
theorem Z14t {l:List Comp} (hb:listE b.2=0) {j:Nat} {y:Comp} (hy:(changeM a b).2.2.1[j]?=some y) (h:Holds (fun x:Comp=>x.1) l (newP a (changeM a b) j)) :
  (∀ x∈a.2,x.1≠y.1)∧Holds (fun x:Comp=>x.1) (withM l y) (newP a (changeM a b) (j+1)):=by
 have hm:y∈newM a.2 b.2:=List.mem_of_getElem? hy
 have h2:(findC a.2 y.1).2=false:=by have:=(List.mem_filter.1 hm).2; simpa using this
 have hna:=Z7z h2
 have rise:((changeM a b).2.2.1).Pairwise fun a b=>a.1 < b.1:=(Zib hb).filter _
 have fr:=Zo5 (key:=fun x:Comp=>x.1) rise hy
 refine ⟨hna,(h.withC y).iff fun x=>?_⟩
 unfold newP
 rw [Zz hy]
 constructor
 ·rintro (e | ⟨g | g,_⟩)
  ·exact .inr (.inr e)
  ·exact .inl g
  ·exact .inr (.inl g)
 ·rintro (g | g | e)
  ·exact .inr ⟨.inl g,hna x g.1⟩
  ·exact .inr ⟨.inr g,by have:=fr x g; omega⟩
  ·exact .inl e
theorem Z19p {l:List Comp} {d:Chg} {n:Nat} (hn:d.2.2.1.length≤n) (h:Holds (fun x:Comp=>x.1) l (newP a d n)):Holds (fun x:Comp=>x.1) l (setP a d 0) :=
 h.iff fun x=>by
  unfold newP setP
  rw [List.take_of_length_le hn,List.take_zero]
  constructor
  ·rintro (g | g)
   ·exact .inl ⟨g.1,g.2,fun y hy=>by cases hy⟩
   ·exact .inr (.inl g)
  ·rintro (g | g | g)
   ·exact .inl ⟨g.1,g.2.1⟩
   ·exact .inr g
   ·cases g
theorem Z15e {l:List Comp} (ha:listE a.2=0) (hb:listE b.2=0) {j:Nat} {y:Comp} (hy:(changeM a b).2.2.2[j]?=some y) (h:Holds (fun x:Comp=>x.1) l (setP a (changeM a b) j)) :
  (∃ x∈l,x.1=y.1)∧Holds (fun x:Comp=>x.1) (withM l y) (setP a (changeM a b) (j+1)):=by
 have hm:y∈chM a.2 b.2:=List.mem_of_getElem? hy
 obtain ⟨hyb,h2⟩:=List.mem_filter.1 hm
 have hf:(findC a.2 y.1).2=true:=by
  cases hc:(findC a.2 y.1).2 with
  | true=>rfl
  | false=>rw [hc] at h2; simp at h2
 obtain ⟨h3,h4⟩:=Z26 hf
 have rise:((changeM a b).2.2.2).Pairwise fun a b=>a.1 < b.1:=(Zib hb).filter _
 have fr:=Zo5 (key:=fun x:Comp=>x.1) rise hy
 have kb:=Zwr hb y hyb
 have notlost:∀ x:Comp,x.1=y.1→(changeM a b).2.1.toNat.testBit x.1.toNat=false:=fun x e=>by
  show (lostM a.2 b.2).toNat.testBit x.1.toNat=false
  rw [e,Zfs _ _ (by omega)]
  have:has b.2 y.1.toNat=true:=Zh6.2 ⟨y,hyb,by omega⟩
  rw [this]; simp
 refine ⟨⟨_,(h.mem _).2 (.inl ⟨h3,notlost _ h4,fun z hz e=>by have:=fr z hz; omega⟩),h4⟩,(h.withC y).iff fun x=>?_⟩
 have newk:∀ x∈(changeM a b).2.2.1,x.1≠y.1:=fun x hx e=>by
  have h5:(findC a.2 x.1).2=false:=by have:=(List.mem_filter.1 (show x∈newM a.2 b.2 from hx)).2; simpa using this
  exact Z7z h5 _ h3 (by rw [h4,e])
 unfold setP
 rw [Zz hy]
 constructor
 ·rintro (e | ⟨g | g | g,hn⟩)
  ·exact .inr (.inr (.inr e))
  ·refine .inl ⟨g.1,g.2.1,fun z hz=>?_⟩
   rcases (Zz hy).1 hz with q | q
   ·exact g.2.2 z q
   ·rw [q]; exact fun e=>hn e.symm
  ·exact .inr (.inl g)
  ·exact .inr (.inr (.inl g))
 ·rintro (g | g | g | e)
  ·exact .inr ⟨.inl ⟨g.1,g.2.1,fun z hz=>g.2.2 z ((Zz hy).2 (.inl hz))⟩,fun e=>g.2.2 y ((Zz hy).2 (.inr rfl)) e.symm⟩
  ·exact .inr ⟨.inr (.inl g),newk x g⟩
  ·exact .inr ⟨.inr (.inr g),by have:=fr x g; omega⟩
  ·exact .inl e
theorem Z179 {l:List Comp} (ha:listE a.2=0) (hb:listE b.2=0) {n:Nat} (hn:(changeM a b).2.2.2.length≤n) (h:Holds (fun x:Comp=>x.1) l (setP a (changeM a b) n)):l=b.2:=by
 refine h.uniq ⟨Zib hb,fun x=>?_⟩
 rw [Zi6 ha hb x]
 unfold setP
 rw [List.take_of_length_le hn]
 constructor
 ·rintro (g | g | g)
  ·exact .inr (.inl g)
  ·exact .inr (.inr g)
  ·exact .inl ⟨g.1,g.2.1,g.2.2⟩
 ·rintro (g | g | g)
  ·exact .inr (.inr ⟨g.1,g.2.1,g.2.2⟩)
  ·exact .inl g
  ·exact .inr (.inl g)
end
section
variable {was now:List Ent} {gone:List Int} {come:List Ent} {chg:List Chg}
def goneP1 (was:List Ent) (gone:List Int) (j:Nat) (e:Ent):Prop:=e∈was∧e.1 ∉ gone.take j
def chgP (was now:List Ent) (gone:List Int) (chg:List Chg) (j:Nat) (e:Ent):Prop:=(e∈was∧e.1 ∉ gone∧∀ d∈chg.take j,d.1≠e.1)∨(e∈now∧∃ d∈chg.take j,d.1=e.1)
def comeP (was now:List Ent) (come:List Ent) (j:Nat) (e:Ent):Prop:=e∈now∧(hasE was e.1=true∨e∈come.take j)
theorem Z16i (hw:FormOk was) (gone:List Int):Holds (fun x:Ent=>x.1) was (goneP1 was gone 0):=⟨hw.rise,fun x=>⟨fun h=>⟨h,by rw [List.take_zero]; simp⟩,fun h=>h.1⟩⟩
theorem Z14b (hw:FormOk was) (now:List Ent):(goneM was now).Pairwise fun a b=>a < b:=by
 unfold goneM
 rw [List.pairwise_map]
 exact hw.rise.filter _
theorem Zrs {id:Int}:id∈goneM was now↔(∃ a∈was,a.1=id)∧hasE now id=false:=by
 unfold goneM
 rw [List.mem_map]
 constructor
 ·rintro ⟨a,h,e⟩
  obtain ⟨h1,h2⟩:=List.mem_filter.1 h
  rw [e] at h2
  exact ⟨⟨a,h1,e⟩,by simpa using h2⟩
 ·rintro ⟨⟨a,h,e⟩,h2⟩
  exact ⟨a,List.mem_filter.2 ⟨h,by rw [e,h2]; rfl⟩,e⟩
theorem Zss (hw:FormOk was) (hp:PatchOk was gone come chg now) {L:List Ent} {j:Nat} {id:Int} (hj:gone[j]?=some id) (h:Holds (fun x:Ent=>x.1) L (goneP1 was gone j)) :
  (∃ x∈L,x.1=id)∧∀ i x,L[i]?=some x→x.1=id→Holds (fun x:Ent=>x.1) (L.take i ++ L.drop (i+1)) (goneP1 was gone (j+1)):=by
 obtain ⟨hn,rfl,rfl,rfl⟩:=hp
 have fr:=Zo5 (key:=fun x:Int=>x) (Z14b hw now) hj
 obtain ⟨⟨a,ha,e⟩,_⟩:=Zrs.1 (List.mem_of_getElem? hj)
 refine ⟨⟨a,(h.mem a).2 ⟨ha,fun hh=>by have:=fr _ hh; omega⟩,e⟩,fun i x hx hid=>(h.cut hx).iff fun y=>?_⟩
 unfold goneP1
 rw [Zz hj,hid]
 constructor
 ·rintro ⟨⟨g1,g2⟩,g3⟩
  exact ⟨g1,fun g=>g.elim g2 g3⟩
 ·rintro ⟨g1,g2⟩
  exact ⟨⟨g1,fun g=>g2 (.inl g)⟩,fun g=>g2 (.inr g)⟩
theorem Z13r {c:Chg} (h:c∈chgsM was now):∃ a∈was,∃ b∈now,a.1=b.1∧c.1=b.1∧c=changeM a b:=by
 obtain ⟨b,hb,h2⟩:=List.mem_filterMap.1 h
 obtain ⟨g1,a,ha,g2,g3,_⟩:=Z8i h2
 exact ⟨a,ha,b,hb,g2,g1,g3⟩
theorem Zye:∀ {now:List Ent},(now.Pairwise fun a b=>a.1 < b.1)→(chgsM was now).Pairwise fun a b=>a.1 < b.1
 | [],_=>List.Pairwise.nil
 | x :: r,h=>by
  obtain ⟨h1,h2⟩:=List.pairwise_cons.1 h
  have ih:=Zye h2
  unfold chgsM at ih ⊢
  rw [List.filterMap_cons]
  split
  ·exact ih
  ·rename_i d hd
   refine List.pairwise_cons.2 ⟨fun c hc=>?_,ih⟩
   obtain ⟨b,hb,hcb⟩:=List.mem_filterMap.1 hc
   rw [(Z8i hd).1,(Z8i hcb).1]
   exact h1 b hb
theorem Z197 {L:List Ent} {n:Nat} (hn:gone.length≤n) (now:List Ent) (chg:List Chg) (h:Holds (fun x:Ent=>x.1) L (goneP1 was gone n)):Holds (fun x:Ent=>x.1) L (chgP was now gone chg 0) :=
 h.iff fun x=>by
  unfold goneP1 chgP
  rw [List.take_of_length_le hn,List.take_zero]
  constructor
  ·rintro ⟨g1,g2⟩
   exact .inl ⟨g1,g2,fun d hd=>by cases hd⟩
  ·rintro (g | ⟨_,d,hd,_⟩)
   ·exact ⟨g.1,g.2.1⟩
   ·cases hd
theorem Zyd (hw:FormOk was) (hp:PatchOk was gone come chg now) {L:List Ent} {j:Nat} {c:Chg} (hj:chg[j]?=some c) (h:Holds (fun x:Ent=>x.1) L (chgP was now gone chg j)) :
  ∃ a b,a∈was∧b∈now∧a.1=c.1∧c=changeM a b∧listE a.2=0∧listE b.2=0∧a∈L∧∀ (i:Nat) x,L[i]?=some x→x.1=c.1→x=a∧Holds (fun x:Ent=>x.1) (L.set i (x.1,b.2)) (chgP was now gone chg (j+1)):=by
 obtain ⟨hn,rfl,rfl,rfl⟩:=hp
 have fr:=Zo5 (key:=fun x:Chg=>x.1) (Zye hn.rise) hj
 obtain ⟨a,ha,b,hb,e1,e2,e3⟩:=Z13r (List.mem_of_getElem? hj)
 have hal:a∈L:=(h.mem a).2 (.inl ⟨ha,fun hg=>by
  have:=(Zrs.1 hg).2
  rw [Z6r] at this
  exact this b hb e1.symm,fun d hd=>by have:=fr d hd; omega⟩)
 refine ⟨a,b,ha,hb,by omega,e3,hw.list ha,hn.list hb,hal,fun i x hx hid=>?_⟩
 have hxa:x=a:=Z12b h.rise (List.mem_of_getElem? hx) hal (by show x.1=a.1; omega)
 subst hxa
 have hbe:((x.1,b.2):Ent)=b:=Prod.ext e1 rfl
 rw [hbe]
 refine ⟨rfl,(h.set hx (b:=b) e1.symm).iff fun y=>?_⟩
 unfold chgP
 constructor
 ·rintro (g | ⟨g | g,hne⟩)
  ·rw [g]; exact .inr ⟨hb,c,(Zz hj).2 (.inr rfl),e2⟩
  ·refine .inl ⟨g.1,g.2.1,fun d hd=>?_⟩
   rcases (Zz hj).1 hd with q | q
   ·exact g.2.2 d q
   ·rw [q]; omega
  ·obtain ⟨g1,d,hd,g2⟩:=g
   exact .inr ⟨g1,d,(Zz hj).2 (.inl hd),g2⟩
 ·rintro (g | g)
  ·refine .inr ⟨.inl ⟨g.1,g.2.1,fun d hd=>g.2.2 d ((Zz hj).2 (.inl hd))⟩,fun e=>g.2.2 c ((Zz hj).2 (.inr rfl)) (by omega)⟩
  ·obtain ⟨g1,d,hd,g2⟩:=g
   rcases (Zz hj).1 hd with q | q
   ·refine .inr ⟨.inr ⟨g1,d,q,g2⟩,fun e=>?_⟩
    have:=fr d q
    omega
   ·exact .inl (Zv7 hn.rise g1 hb (by rw [← g2,q,e2]))
theorem Z187 (hw:FormOk was) (hp:PatchOk was gone come chg now) {L:List Ent} {n:Nat} (hl:chg.length≤n) (h:Holds (fun x:Ent=>x.1) L (chgP was now gone chg n)):Holds (fun x:Ent=>x.1) L (comeP was now come 0):=by
 obtain ⟨hn,rfl,rfl,rfl⟩:=hp
 refine h.iff fun x=>?_
 unfold chgP comeP
 rw [List.take_of_length_le hl,List.take_zero]
 constructor
 ·rintro (g | ⟨g,d,hd,e⟩)
  ·have hh:hasE now x.1=true:=Classical.byContradiction fun hx=>g.2.1 (Zrs.2 ⟨⟨x,g.1,rfl⟩,by simpa using hx⟩)
   obtain ⟨b,hb,e⟩:=Z3x.1 hh
   have:=Zwh hw hn g.1 hb e.symm g.2.2
   rw [this]
   exact ⟨hb,.inl (Z3x.2 ⟨x,g.1,by rw [e]⟩)⟩
  ·obtain ⟨a,ha,b,hb,e1,e2,_⟩:=Z13r hd
   exact ⟨g,.inl (Z3x.2 ⟨a,ha,by omega⟩)⟩
 ·rintro ⟨g,g2 | g2⟩
  ·by_cases hd:∃ d∈chgsM was now,d.1=x.1
   ·exact .inr ⟨g,hd⟩
   ·obtain ⟨a,ha,e⟩:=Z3x.1 g2
    have hd2:∀ d∈chgsM was now,d.1≠a.1:=fun d h1 h2=>hd ⟨d,h1,by omega⟩
    have:=Zwh hw hn ha g e hd2
    subst this
    refine .inl ⟨ha,fun hg=>?_,hd2⟩
    have:=(Zrs.1 hg).2
    rw [Z6r] at this
    exact this a g rfl
  ·cases g2
theorem Z12y (hp:PatchOk was gone come chg now) {L:List Ent} {j:Nat} {e:Ent} (hj:come[j]?=some e) (h:Holds (fun x:Ent=>x.1) L (comeP was now come j)) :
  (∀ x∈was,x.1≠e.1)∧Holds (fun x:Ent=>x.1) (insG e false L) (comeP was now come (j+1)):=by
 obtain ⟨hn,rfl,rfl,rfl⟩:=hp
 have rise:(comeM was now).Pairwise fun a b=>a.1 < b.1:=hn.rise.filter _
 have fr:=Zo5 (key:=fun x:Ent=>x.1) rise hj
 obtain ⟨h1,h2⟩:=List.mem_filter.1 (List.mem_of_getElem? hj)
 have h2:hasE was e.1=false:=by simpa using h2
 refine ⟨fun x hx=>Z6r.1 h2 x hx,(h.ins e fun x hx he=>?_).iff fun x=>?_⟩
 ·obtain ⟨g1,g | g⟩:=hx
  ·rw [he,h2] at g; cases g
  ·have:=fr x g; omega
 ·unfold comeP
  rw [Zz hj]
  constructor
  ·rintro (g | ⟨g1,g | g⟩)
   ·rw [g]; exact ⟨h1,.inr (.inr rfl)⟩
   ·exact ⟨g1,.inl g⟩
   ·exact ⟨g1,.inr (.inl g)⟩
  ·rintro ⟨g1,g | g | g⟩
   ·exact .inr ⟨g1,.inl g⟩
   ·exact .inr ⟨g1,.inr g⟩
   ·exact .inl g
theorem Z13w (hp:PatchOk was gone come chg now) {L:List Ent} {n:Nat} (hl:come.length≤n) (h:Holds (fun x:Ent=>x.1) L (comeP was now come n)):L=now:=by
 obtain ⟨hn,rfl,rfl,rfl⟩:=hp
 refine h.uniq ⟨hn.rise,fun x=>?_⟩
 unfold comeP
 rw [List.take_of_length_le hl]
 constructor
 ·intro g
  refine ⟨g,?_⟩
  by_cases hh:hasE was x.1=true
  ·exact .inl hh
  ·exact .inr (List.mem_filter.2 ⟨g,by simpa using hh⟩)
 ·exact fun g=>g.1
end
end Go.Proofs.YtchhhjlpnecjkaaGreat
namespace Go.Proofs.YtchhhjlpnecjkaaGreat
open Go Go.RowKit Go.ChangeShapes Go.WideShapes Go.ChangeAt Go.Proofs.YtchhhjlpnecjkaaGreat.Den
variable {R:Type} {Q:R→World→Prop} {w:World} {H:Type} {enc:TypeId × Value→H}
theorem Den.deep_of {α β:Type} {p:α→β→Prop} {l:List α} (h:∀ a∈l,∃ b,p a b):∃ k,All2 p l k:=by
 induction l with
 | nil=>exact ⟨[],All2.nil _⟩
 | cons a r ih =>
  obtain ⟨b,hb⟩:=h a List.mem_cons_self
  obtain ⟨k,hk⟩:=ih fun x hx=>h x (List.mem_cons_of_mem _ hx)
  refine ⟨b :: k,by simp [hk.len],fun i x y h1 h2=>?_⟩
  rcases i with _ | i
  ·simp at h1 h2; subst h1; subst h2; exact hb
  ·simp at h1 h2; exact hk.at_ i x y h1 h2
abbrev Old (W:World):Nat→Prop:=fun k=>k < W.heap.size
theorem Z12z {s:Sl} (h:LeafOk enc Tryz.prog w 55 (.slice s.a s.n s.c)):∃ l,SlT (Old w) w compT s l∧(∀ c∈l,CompOk c)∧s.c≤maxLen:=by
 obtain ⟨s',l,e,h2,h3,h4⟩:=h.slice Z13y
 have e':s=s':=by
  have e:Value.slice s.a s.n s.c=Value.slice s'.a s'.n s'.c:=e
  simp only [Value.slice.injEq] at e
  obtain ⟨e1,e2,e3⟩:=e
  cases s; cases s'; simp_all
 subst e'
 exact ⟨l,h2,fun c hc=>Z189 (h4 c hc),h3⟩
end Go.Proofs.YtchhhjlpnecjkaaGreat
namespace Go.Proofs.YtchhhjlpnecjkaaGreat
open Go Go.RowKit Go.ChangeShapes Go.WideShapes Go.ChangeAt Go.Proofs.YtchhhjlpnecjkaaGreat.Den
variable {R:Type} {Q:R→World→Prop} {w:World} {H:Type} {enc:TypeId × Value→H}
theorem Z16a:SlArg Tryz.prog 23 57 entT [54,55] :=
 ⟨by kernel_rfl,by kernel_rfl,by decide,by kernel_rfl,⟨[.int .u32,.sl],by kernel_rfl,.inl rfl⟩⟩
structure EntIn (W:World) (r:Int × Sl) (e:Ent):Prop where
 id:r.1=e.1
 sl:SlT (Old W) W compT r.2 e.2
 ok:IdOk e.1
 comps:∀ c∈e.2,CompOk c
 cap:r.2.c≤maxLen
theorem Z18d {raws:List (Int × Sl)} (h:∀ r∈raws,AllLeaf enc Tryz.prog w [54,55] (entT.cells r)):∃ L,All2 (EntIn w) raws L:=deep_of fun r hr=>by
 obtain ⟨_,h⟩:=h r hr
 obtain ⟨_,e,h0⟩:=(h 0 _ _ rfl rfl).int Z19b
 cases e
 obtain ⟨l,h1,h2,h3⟩:=Z12z (s:=r.2) (h 1 _ _ rfl rfl)
 exact ⟨(r.1,l),rfl,h1,Z19q h0,h2,h3⟩
theorem EntIn.ents {raws:List (Int × Sl)} {L:List Ent} (h:All2 (EntIn w) raws L):EntsR (Old w) w raws L:=⟨h.len,fun i r e h1 h2=>⟨(h.at_ i r e h1 h2).id,(h.at_ i r e h1 h2).sl⟩⟩
end Go.Proofs.YtchhhjlpnecjkaaGreat
namespace Go.Proofs.YtchhhjlpnecjkaaGreat
open Go Go.RowKit Go.ChangeShapes Go.WideShapes Go.ChangeAt Go.Deep Go.Proofs.YtchhhjlpnecjkaaGreat.Den
variable {w:World} {H:Type} {enc:TypeId × Value→H}
theorem Z11g:∀ (l:List (DataW H)),l.length≤Rows.uptoBulkAll l
 | []=>by simp [Rows.uptoBulkAll]
 | d :: r=>by
  have h1:1≤Rows.uptoBulk d:=by
   cases d with
   | lit l=>cases l <;> simp [Rows.uptoBulk]
   | _=>simp [Rows.uptoBulk]
  have:=Z11g r
  simp only [Rows.uptoBulkAll,List.length_cons]
  omega
theorem Zyc {d:DataW H}:∀ {l:List (DataW H)},d∈l→Rows.uptoBulk d≤Rows.uptoBulkAll l
 | [],h=>by cases h
 | x :: r,h=>by
  simp only [Rows.uptoBulkAll]
  rcases List.mem_cons.1 h with rfl | h
  ·omega
  ·have:=Zyc h; omega
theorem Z11h {α:Type} (D:α→DataW H) (f:α→Nat):∀ (l:List α),(∀ a∈l,f a≤Rows.uptoBulk (D a))→(l.map f).sum≤Rows.uptoBulkAll (l.map D)
 | [],_=>by simp
 | a :: r,h=>by
  have:=Z11h D f r fun x hx=>h x (List.mem_cons_of_mem _ hx)
  have:=h a List.mem_cons_self
  simp only [List.map_cons,List.sum_cons,Rows.uptoBulkAll]
  omega
theorem Z13d {t e:TypeId} (hu:Tryz.prog.underlying t=some (.slice e)) {fuel:Nat} {s:Sl} {x:DataW H × List MemPlace} (h:DataW.trod enc Tryz.prog w 0 (fun _=>true) true fuel t [.slice s.a s.n s.c]=some x):s.n≤Rows.uptoBulk x.1:=by
 rcases open_slice hu h with ⟨hc,_⟩ | ⟨a,len,cap,m,n,D,Pl,hc,_,_,_,_,rfl,_⟩
 ·injection hc with hc
  injection hc with _ h1
  omega
 ·injection hc with hc
  injection hc with _ h1
  have:=Z11g ((List.range len).map D)
  simp only [Rows.uptoBulk,List.length_map,List.length_range] at this ⊢
  omega
def entUndB (P:Program) (t c:TypeId):Bool:=match P.underlying t with
 | some (.struct fs)=>Nat.beq fs.size 2 && (match fs[1]? with
  | some f=>Nat.beq f.type c && Nat.beq f.offset 1
  | none=>false)
 | _=>false
theorem Z168:entUndB Tryz.prog 57 55=true:=by kernel_rfl
theorem Z18c:∃ fs:Array Field,∃ f1:Field,Tryz.prog.underlying 57=some (.struct fs)∧fs.size=2∧fs[1]?=some f1∧f1.type=55∧f1.offset=1:=by
 have h:=Z168
 unfold entUndB at h
 split at h
 ·rename_i fs hu
  rw [Bool.and_eq_true] at h
  obtain ⟨h1,h2⟩:=h
  split at h2
  ·rename_i f hf
   rw [Bool.and_eq_true] at h2
   exact ⟨fs,f,hu,Nat.eq_of_beq_eq_true h1,hf,Nat.eq_of_beq_eq_true h2.1,Nat.eq_of_beq_eq_true h2.2⟩
  ·cases h2
 ·cases h
theorem Z167 {fuel:Nat} {r:Int × Sl} {x:DataW H × List MemPlace} (h:DataW.trod enc Tryz.prog w 0 (fun _=>true) true fuel 57 (entC r)=some x):r.2.n+1≤Rows.uptoBulk x.1:=by
 obtain ⟨fs,f1,hu,hsz,hf1,ht,ho⟩:=Z18c
 obtain ⟨xs,n,_,rfl,_,hl,hx⟩:=DataW.trod_struct hu h
 have h1:=hx 1 f1 hf1
 rw [ht,ho] at h1
 have hl:xs.length=2:=by omega
 have hc:Tryz.prog.cellsOf 55=1:=by kernel_rfl
 rw [hc,List.getElem?_eq_getElem (by omega)] at h1
 have h2:=Z13d (s:=r.2) Z2u.under h1
 have h3:=Zyc (List.mem_map.2 ⟨xs[1],List.getElem_mem (by omega),rfl⟩:xs[1].1∈xs.map (·.1))
 simp only [Rows.uptoBulk]
 omega
theorem Z157 (raws:List (Int × Sl)) (len:Nat) (h:len=raws.length):(List.range len).map (fun i=>((raws[i]?).map fun r=>r.2.n+1).getD 0)=raws.map fun r=>r.2.n+1:=by
 apply List.ext_getElem (by simp [h])
 intro i h1 h2
 have hi:i < raws.length:=by simpa using h2
 rw [List.getElem_map,List.getElem_map,List.getElem_range,List.getElem?_eq_getElem hi]
 rfl
theorem Z143 {v:Value} {d:DataW H} {p:List MemPlace} (h:DataW.Trod enc Tryz.prog w 0 (fun _=>true) true 23 v d p) {s:Sl} {raws:List (Int × Sl)} (hv:v=s.v) (hS:SlT (Old w) w entT s raws):(raws.map fun r=>r.2.n+1).sum≤Rows.uptoBulk d:=by
 obtain ⟨fuel,h⟩:=h
 subst hv
 rcases open_slice Z8k.under h with ⟨hc,hx⟩ | ⟨a,len,cap,m,n,D,Pl,hc,_,hlc,_,hm,hx,hel⟩
 ·have hc:[Value.slice s.a s.n s.c]=[.slice none 0 0]:=hc
  injection hc with hc
  injection hc with _ h1
  have:=hS.len
  have:raws=[]:=List.length_eq_zero_iff.1 (by omega)
  subst this
  simp
 ·have hc:[Value.slice s.a s.n s.c]=[.slice (some a) len cap]:=hc
  injection hc with hc
  injection hc with ha h1
  have hm:m=cap:=by simpa using hm
  have hrl:=hS.len
  injection hx with hx1
  subst hx1
  have key:∀ i∈List.range len,((raws[i]?).map fun r=>r.2.n+1).getD 0≤Rows.uptoBulk (D i):=by
   intro i hi
   have hi:=List.mem_range.1 hi
   obtain ⟨cs',g1,g2⟩:=hel i (by omega)
   obtain ⟨g3,g4⟩:=Z11i g1
   have hrx:=List.getElem?_eq_getElem (l:=raws) (i:=i) (by omega)
   have e:cs'=entC raws[i]:=by
    rcases hS.at_ with e | ⟨b,o,hb,_,_,hr⟩
    ·rw [e] at hrl; simp at hrl; omega
    ·have hr:=Rd.cells.1 (hr i _ hrx)
     rw [hb] at ha
     have ha:=Option.some.inj ha
     have hsz:Tryz.prog.cellsOf 57=2:=by kernel_rfl
     rw [hsz,← ha,add_lit] at g4
     rw [hsz] at g3
     apply List.ext_getElem?
     intro j
     by_cases hj:j < 2
     ·have e1:=g4 j _ (List.getElem?_eq_getElem (by omega))
      have hl2:(entT.cells raws[i]).length=2:=entT.cells_len _
      have e2:=hr j _ (List.getElem?_eq_getElem (by omega))
      have:i * entT.size=i * 2:=rfl
      rw [this] at e2
      rw [e2] at e1
      rw [List.getElem?_eq_getElem (by omega)]
      have e1:=Option.some.inj e1
      rw [← e1]
      exact (List.getElem?_eq_getElem (by omega)).symm
     ·have hl2:(entC raws[i]).length=2:=rfl
      have a1:cs'[j]?=none:=List.getElem?_eq_none (by omega)
      have a2:(entC raws[i])[j]?=none:=List.getElem?_eq_none (by omega)
      exact a1.trans a2.symm
   rw [e] at g2
   rw [hrx]
   exact Z167 g2
  have hs:=Z11h D (fun i=>((raws[i]?).map fun r=>r.2.n+1).getD 0) (List.range len) key
  rw [Z157 raws len (by omega)] at hs
  simp only [Rows.uptoBulk]
  omega
end Go.Proofs.YtchhhjlpnecjkaaGreat
namespace Go.Proofs.YtchhhjlpnecjkaaGreat
open Go Go.RowKit Go.Proofs.YtchhhjlpnecjkaaGreat.Den
variable {R:Type} {Q:R→World→Prop} {w:World}
theorem Zk2 {ok:Nat→Prop} {s:Sl} {raws:List (Int × Sl)} {L:List Ent} (hS:SlT ok w entT s raws) (hE:EntsR ok w raws L) (hm:L.length≤1048576) (hL:∀ e∈L,Small e.2) {K:Res [.sc .sl]→W R}
  (hk:∀ r raws' w',Own (Up w.heap.size) w' 57 entT r raws'→EntsR (Up w.heap.size) w' raws' L→Fr None w w'→K r Q w') :
  callW Tryz.prog Z1n [.slice s.a s.n s.c] [.sc .sl] K Q w:=by
 refine Zai s K Q w ?_
 unfold Z3a
 have hlen:=hS.len
 have hel:=hE.len
 refine forI (N:=s.n) (fun s:Sl × Int=>s.2) (fun j st w'=>st.2=(j:Int)∧(∃ rs,rs.length=j∧Own (fun k=>w.heap.size≤k) w' 57 entT st.1 rs∧EntsR (fun k=>w.heap.size≤k∧st.1.v.ownBlock≠some k) w' rs (L.take j))∧Fr None w w') ⟨rfl,⟨[],rfl,Own.nil _ _ _ _,by rw [List.take_zero]; exact EntsR.nil _ _⟩,Fr.refl _ _⟩ (fun j s w' h=>h.1) ?_ ?_
 ·rintro j ⟨z,_⟩ w1 K' hj ⟨rfl,⟨rs,hrs,o1,E1⟩,f1⟩ - hK
  have hs1:=f1.size
  obtain ⟨e,he⟩:∃ e,L[j]?=some e:=⟨_,List.getElem?_eq_getElem (by omega)⟩
  obtain ⟨r1,hr1,ha1,ha2⟩:=hE.get he
  refine (hS.fr0 f1).get rfl rfl (by omega) fun y hy=>?_
  rw [hr1] at hy
  cases hy
  refine newI fun w2 B2 f2 s2=>stoAll B2 rfl rfl fun w3 B3 f3 s3=>?_
  have f13:Fr None w1 w3:=f2.newer f3 fun k e=>by omega
  have fd:Fr None w3 w3.drew:=(Fr.refl _ _).drew
  have f1d:=f13.then0 fd
  have Bd:=B3.fr fd fun h=>h
  have hs3:=f1d.size
  refine fldI Bd (i:=0) (x:=r1.1) rfl (fldI Bd (i:=1) (x:=r1.2) rfl ?_)
  refine Zi0 (ha2.fr0 (f1.then0 f1d)) (hL e (List.mem_of_getElem? he)) fun t w4 o4 f4=>?_
  refine andI ((Bd.fr f4 fun h=>h).rd (s:=.int .u32) (i:=0) (x:=r1.1) rfl) ?_
  have f14:=f1d.then0 f4
  have hs4:=f4.size
  have oz:Own (fun k=>w.heap.size≤k∧(z.v.ownBlock=some k∨w4.heap.size≤k)) w4 57 entT z rs:=⟨(o1.none f14).row,fun k e=>⟨o1.own k e,.inl e⟩⟩
  refine appP (x:=((r1.1,t):Int × Sl)) Z8k rfl oz (fun k e=>⟨by omega,.inr e⟩) (by omega) (by omega) fun r w5 o5 f5=>?_
  have hzl:∀ k,z.v.ownBlock=some k→k < w1.heap.size:=fun k e=>(o1.row.lt k e).2
  have E4:EntsR (fun k=>(w.heap.size≤k∧z.v.ownBlock≠some k)∧k < w1.heap.size) w5 rs (L.take j):=((E1.mono (ok':=fun k=>(w.heap.size≤k∧z.v.ownBlock≠some k)∧k < w1.heap.size) fun k hk e=>⟨e,hk⟩).fr f14 fun _ _ h=>h).fr f5 fun k e e2=>e.1.2 e2
  have t5:SlT (fun k=>w3.drew.heap.size≤k∧k < w4.heap.size) w5 compT t e.2:=(o4.mono (S':=fun k=>w3.drew.heap.size≤k∧k < w4.heap.size) fun k hk e=>⟨e,hk⟩).sl.fr f5 fun k e e2=>by have:=hzl k e2; omega
  refine hK _ _ ⟨wsucc hj (by omega),⟨rs ++ [(r1.1,t)],by simp [hrs],o5.mono fun k _ e=>e.1,?_⟩,(f1.then0 f14).newer f5 fun k e=>o1.own k e⟩
  have ro:∀ k,r.v.ownBlock=some k→z.v.ownBlock=some k∨w4.heap.size≤k:=fun k e=>(o5.own k e).2
  refine ⟨by simp [hrs]; omega,fun q rq eq h1 h2=>?_⟩
  rw [Z8 he] at h2
  rcases Nat.lt_or_ge q j with hq | hq
  ·rw [List.getElem?_append_left (by omega)] at h1
   rw [List.getElem?_append_left (by simp; omega)] at h2
   obtain ⟨x1,x2⟩:=E4.at_ q rq eq h1 h2
   refine ⟨x1,x2.mono fun k _ e=>⟨e.1.1,fun e2=>?_⟩⟩
   rcases ro k e2 with h | h
   ·exact e.1.2 h
   ·have:=e.2; omega
  ·have hlt:=(List.getElem?_eq_some_iff.1 h1).1
   have:q=j:=by simp [hrs] at hlt; omega
   subst this
   rw [List.getElem?_append_right (by omega)] at h1
   rw [List.getElem?_append_right (by simp; omega)] at h2
   simp [hrs] at h1
   have h2:eq=e:=by
    have:q - (L.take q).length=0:=by simp; omega
    rw [this] at h2
    simpa using h2.symm
   subst h1; subst h2
   refine ⟨ha1,t5.mono fun k _ e=>⟨by omega,fun e2=>?_⟩⟩
   rcases ro k e2 with h | h
   ·have:=hzl k h; omega
   ·omega
 ·rintro ⟨z,_⟩ w1 ⟨_,⟨rs,hrs,o1,E1⟩,f1⟩
  rw [List.take_of_length_le (by omega)] at E1
  exact hk z rs w1 o1 (E1.mono fun k _ e=>e.1) f1
end Go.Proofs.YtchhhjlpnecjkaaGreat
set_option linter.unusedVariables false
namespace Go.Proofs.YtchhhjlpnecjkaaGreat
open Go Go.Proofs.YtchhhjlpnecjkaaGreat.Den
def Z2k (body0:Sl) (was1:Sl):W (Bool) :=
 callW Tryz.prog Z6g [] [.sc .bool] fun (x_1:Bool) =>
 cond (!x_1)
  (retW false)
  (callW Tryz.prog Z8q [.slice was1.a was1.n was1.c] [.sc .bool] fun (x_2:Bool) =>
 cond (!x_2)
  (retW true)
  (slcW body0.a body0.n body0.c 1 none (some (if 300 < (body0.n:Int) then 300 else (body0.n:Int))) fun x_3 =>
 callW Tryz.prog Z2p [.slice x_3.a x_3.n x_3.c] [.sc .sl,.sc (.int .i64)] fun (x_4:Sl × Int) =>
 cond (x_4.2 != 0)
  (retW false)
  (callW Tryz.prog Z1n [.slice was1.a was1.n was1.c] [.sc .sl] fun (x_5:Sl) =>
 callW Tryz.prog Zb8 [.slice x_4.1.a x_4.1.n x_4.1.c,.slice x_5.a x_5.n x_5.c] [.agg [.int .u8,.int .u8,.int .u32,.int .u32,.int .u32],.sc .sl,.sc (.int .i64)] fun (x_6:(Int × Int × Int × Int × Int) × Sl × Int) =>
 newW 30 [.int .u8 0,.int .u8 0,.int .u32 0,.int .u32 0,.int .u32 0] fun h_7 =>
 stoL h_7 [.int .u8 x_6.1.1,.int .u8 x_6.1.2.1,.int .u32 x_6.1.2.2.1,.int .u32 x_6.1.2.2.2.1,.int .u32 x_6.1.2.2.2.2] 0 <|
 callW Tryz.prog Z43 [.slice x_4.1.a x_4.1.n x_4.1.c,.slice was1.a was1.n was1.c] [.agg [.int .u8,.int .u8,.int .u32,.int .u32,.int .u32],.sc .sl,.sc (.int .i64)] fun (x_8:(Int × Int × Int × Int × Int) × Sl × Int) =>
 newW 30 [.int .u8 0,.int .u8 0,.int .u32 0,.int .u32 0,.int .u32 0] fun x_9 =>
 stoL x_9 [.int .u8 x_8.1.1,.int .u8 x_8.1.2.1,.int .u32 x_8.1.2.2.1,.int .u32 x_8.1.2.2.2.1,.int .u32 x_8.1.2.2.2.2] 0 <|
 joinW (σ:=Bool) (fun J_10 =>
  ld (.agg [.int .u8,.int .u8,.int .u32,.int .u32,.int .u32]) h_7 fun (x_11:(Int × Int × Int × Int × Int)) =>
  ld (.agg [.int .u8,.int .u8,.int .u32,.int .u32,.int .u32]) x_9 fun (x_12:(Int × Int × Int × Int × Int)) =>
  rawQ Tryz.prog (do Go.eqGuard .eql 30 (.tmp 44) (.tmp 45) (.agg ⟨[.int .u8 x_11.1,.int .u8 x_11.2.1,.int .u32 x_11.2.2.1,.int .u32 x_11.2.2.2.1,.int .u32 x_11.2.2.2.2]⟩) (.agg ⟨[.int .u8 x_12.1,.int .u8 x_12.2.1,.int .u32 x_12.2.2.1,.int .u32 x_12.2.2.2.1,.int .u32 x_12.2.2.2.2]⟩); Go.binOp .eql 30 (.agg ⟨[.int .u8 x_11.1,.int .u8 x_11.2.1,.int .u32 x_11.2.2.1,.int .u32 x_11.2.2.2.1,.int .u32 x_11.2.2.2.2]⟩) (.agg ⟨[.int .u8 x_12.1,.int .u8 x_12.2.1,.int .u32 x_12.2.2.1,.int .u32 x_12.2.2.2.1,.int .u32 x_12.2.2.2.2]⟩)) [.sc .bool] fun (x_13:Bool) =>
  cond x_13
   (cond (x_6.2.2 == x_8.2.2)
      (callW Tryz.prog Z2e [.slice x_6.2.1.a x_6.2.1.n x_6.2.1.c,.slice x_8.2.1.a x_8.2.1.n x_8.2.1.c] [.sc .bool] fun (x_14:Bool) =>
        J_10 x_14)
      (J_10 false))
   (J_10 false))
 <| fun s_15 =>
 retW s_15)))
def Z5f:Hints:={ reg:=[(10,[(4,.sc .bool)])] }
theorem Zbi (body0:Sl) (was1:Sl):denF Tryz.prog Z5f Tryz.f3 [.sc .bool] [.slice body0.a body0.n body0.c,.slice was1.a was1.n was1.c]=Z2k body0 was1:=by kernel_rfl
theorem Zbe {R:Type} (body0:Sl) (was1:Sl) (K:Res [.sc .bool]→W R) (Q:R→World→Prop) (w:World) (h:Z2k body0 was1 (fun r w=>K r Q w) w):callW Tryz.prog Zck [.slice body0.a body0.n body0.c,.slice was1.a was1.n was1.c] [.sc .bool] K Q w :=
 Z0 mix Tryz.func3 Z5f (ts:=[.sc .bool]) trivial (by rw [Tryz.ntmps3]; simp) (by rw [Zbi]; exact h)
def Z63 :W (Bool) :=
 callW Tryz.prog Zb9 [.agg ⟨[.int .u8 3,.int .u8 2,.int .u32 1,.int .u32 5,.int .u32 0]⟩,.slice none 0 0,.slice none 0 0] [.sc .sl,.sc (.int .i64)] fun (x_1:Sl × Int) =>
 callW Tryz.prog Z1z [.slice x_1.1.a x_1.1.n x_1.1.c] [.sc .sl,.sc (.int .i64)] fun (x_2:Sl × Int) =>
 joinW (σ:=Bool) (fun J_3 =>
  cond (x_1.2 == 0)
   (cond (x_2.2 == 0)
     (newW 5 [.int .u8 146,.int .u8 80,.int .u8 0,.int .u8 0,.int .u8 0,.int .u8 0] fun x_4 =>
      callW Tryz.prog Z2o [.slice x_2.1.a x_2.1.n x_2.1.c,.slice (some x_4) 6 6] [.sc .bool] fun (x_5:Bool) =>
       J_3 x_5)
     (J_3 false))
   (J_3 false))
 <| fun s_6 =>
 retW s_6
def Zap:Hints:={ reg:=[(3,[(0,.sc .bool)])] }
theorem Zj3 :denF Tryz.prog Zap Tryz.f8 [.sc .bool] []=Z63:=by kernel_rfl
theorem Zim {R:Type}  (K:Res [.sc .bool]→W R) (Q:R→World→Prop) (w:World) (h:Z63 (fun r w=>K r Q w) w):callW Tryz.prog Z6g [] [.sc .bool] K Q w :=
 Z0 mix Tryz.func8 Zap (ts:=[.sc .bool]) trivial (by rw [Tryz.ntmps8]; simp) (by rw [Zj3]; exact h)
end Go.Proofs.YtchhhjlpnecjkaaGreat
namespace Go.Proofs.YtchhhjlpnecjkaaGreat
open Go Go.RowKit
theorem band {a b:Bool} (h1:a=true) (h2:b=true):(a && b)=true:=by rw [h1,h2]; rfl
theorem Z134:mapsRowed Tryz.prog=true:=by kernel_rfl
theorem Z14p:Tryz.prog.mayEnter=true:=by kernel_rfl
end Go.Proofs.YtchhhjlpnecjkaaGreat
namespace Go.Proofs.YtchhhjlpnecjkaaGreat
open Go Go.RowKit Go.ChangeShapes Go.WideShapes Go.ChangeAt Go.Proofs.YtchhhjlpnecjkaaGreat.Den
variable {R:Type} {Q:R→World→Prop} {w:World}
abbrev awH:Head:=(3,2,1,5,0)
theorem Z190:sealE awH [] []=0:=by decide +kernel
theorem Z184:packM (sealW awH [] []).1=[146,80,0,0,0,0]:=by decide +kernel
theorem Zun {K:Res [.sc .bool]→W R} (hk:∀ w',Fr None w w'→K true Q w'):callW Tryz.prog Z6g [] [.sc .bool] K Q w:=by
 refine Zim K Q w ?_
 unfold Z63
 refine Zg1 (ok1:=None) (ok2:=None) (h:=awH) (by unfold HeadOk; decide) (s1:=⟨none,0,0⟩) (s2:=⟨none,0,0⟩) (SlT.nil _) (EntsR.nil _ _) (SlT.nil _) (EntsR.nil _ _) (by decide) (by decide) (fun e h=>by cases h) (fun e h=>by cases h) (fun h=>absurd Z190 h) fun _ r w1 o1 f1=>?_
 unfold sealB at o1
 rw [Z184] at o1
 have ok:BytesOk [146,80,0,0,0,0]:=by decide
 have hl:(sealF [146,80,0,0,0,0]).length=10:=by rw [Zza]; rfl
 have ht:(sealF [146,80,0,0,0,0]).take ((sealF [146,80,0,0,0,0]).length - 4)=[146,80,0,0,0,0]:=by
  rw [hl]
  exact List.take_left (l₁:=[146,80,0,0,0,0])
 refine Zr2 o1.sl (Zoh ok) (by omega) (fun w' _=>⟨fun h=>by omega,fun h=>by omega,fun _ _ h=>absurd (by rw [ht]) h⟩) fun _ _ _ r2 w2 o2 f2=>?_
 rw [ht] at o2
 refine joinI (fun z v=>z=true∧Fr None w v) ?_ fun z v ⟨hz,f⟩=>by subst hz; exact hk v f
 refine condT rfl (condT rfl ?_)
 refine newI fun w3 B3 f3 t3=>?_
 have hS3:=blkSl (t:=u8T) (l:=[146,80,0,0,0,0]) (n:=6) B3 rfl rfl
 refine Zhw (o2.none f3).sl hS3 ok ok ?_
 exact ⟨by decide,(f1.then0 f2).then0 f3⟩
theorem EntIn.later {W:World} {raws:List (Int × Sl)} {L:List Ent} (h:All2 (EntIn W) raws L) (f:Fr None W w):EntsR (Old W) w raws L:=(EntIn.ents h).fr f fun _ _ h=>h
end Go.Proofs.YtchhhjlpnecjkaaGreat
namespace Go.Proofs.YtchhhjlpnecjkaaGreat
open Go Go.RowKit Go.ChangeShapes Go.WideShapes Go.ChangeAt Go.Proofs.YtchhhjlpnecjkaaGreat.Den
variable {R:Type} {Q:R→World→Prop} {w:World} {H:Type} {enc:TypeId × Value→H}
theorem Zeu {ok ok2:Nat→Prop} {s s2:Sl} {raws raws2:List (Int × Sl)} {L L2:List Ent} (hS:SlT ok w entT s raws) (hE:EntsR ok w raws L) (hS2:SlT ok2 w entT s2 raws2) (hE2:EntsR ok2 w raws2 L2) (hm:L.length≤1048576) (hL:∀ e∈L,Small e.2) {K:Res [.sc .bool]→W R} (hk:∀ w',Fr None w w'→K (decide (L=L2)) Q w') :
  callW Tryz.prog Z2e [.slice s.a s.n s.c,.slice s2.a s2.n s2.c] [.sc .bool] K Q w:=by
 refine Zew s s2 K Q w ?_
 unfold Z3v
 have h1:=hS.len.trans hE.len
 have h2:=hS2.len.trans hE2.len
 refine condN (fun hne=>?_) fun heq=>?_
 ·have e:=hk w (Fr.refl _ _)
  rw [decide_eq_false (fun e=>hne (by rw [h1,h2,e]))] at e
  exact e
 ·refine forI (N:=s.n) (fun s:Int=>s) (fun j s w'=>s=j∧Fr None w w'∧L.take j=L2.take j) ⟨rfl,Fr.refl _ _,rfl⟩ (fun j s w' h=>h.1) ?_ ?_
  ·rintro j i w1 K' hj ⟨rfl,f1,ht⟩ - hK
   have f1d:=f1.drew
   obtain ⟨x,hx⟩:∃ x,L[j]?=some x:=⟨_,List.getElem?_eq_getElem (by omega)⟩
   obtain ⟨y,hy⟩:∃ y,L2[j]?=some y:=⟨_,List.getElem?_eq_getElem (by omega)⟩
   obtain ⟨r,hr,a1,a2⟩:=hE.get hx
   obtain ⟨q,hq,b1,b2⟩:=hE2.get hy
   refine (hS.fr0 f1d).get rfl rfl (by have:=hE.len; omega) fun z hz=>?_
   rw [hr] at hz; cases hz
   refine (hS2.fr0 f1d).get rfl rfl (by have:=hE2.len; omega) fun z hz=>?_
   rw [hq] at hz; cases hz
   refine Zrf (id:=r.1) (s:=r.2) (id2:=q.1) (s2:=q.2) (a2.fr0 f1d) (b2.fr0 f1d) (hL x (List.mem_of_getElem? hx)) fun w2 f2=>?_
   have f02:=f1d.then0 f2
   refine condI (fun hb=>?_) fun hb=>?_
   ·have e:=hk _ f02
    rw [decide_eq_false (fun e=>by
     subst e; rw [hx] at hy; cases hy
     simp [a1,b1] at hb)] at e
    exact e
   ·have hxy:x=y:=by
     have:r.1=q.1∧x.2=y.2:=by simpa using hb
     exact Prod.ext (by rw [← a1,← b1]; exact this.1) this.2
    subst hxy
    exact hK _ _ ⟨wsucc hj (by omega),f02,by rw [Z8 hx,Z8 hy,ht]⟩
  ·rintro i w1 ⟨rfl,f1,ht⟩
   have e:=hk _ f1
   have heq:(s.n:Int)=(s2.n:Int):=heq
   rw [List.take_of_length_le (by omega),List.take_of_length_le (by omega)] at ht
   rw [decide_eq_true ht] at e
   exact e
theorem Z18h {x y:Head}:(x.1 == y.1 && (x.2.1 == y.2.1 && (x.2.2.1 == y.2.2.1 && (x.2.2.2.1 == y.2.2.2.1 && (x.2.2.2.2 == y.2.2.2.2 && true)))))=decide (x=y):=by
 rw [Bool.eq_iff_iff]
 simp [Prod.ext_iff]
abbrev headC (x:Head):List Value:=[.int .u8 x.1,.int .u8 x.2.1,.int .u32 x.2.2.1,.int .u32 x.2.2.2.1,.int .u32 x.2.2.2.2]
theorem Z16d (x y:Head):eqV Tryz.prog 9 30 (.agg ⟨headC x⟩) (.agg ⟨headC y⟩)=some (decide (x=y)):=by
 rw [← Z18h]
 kernel_rfl
theorem Z16b:Tryz.prog.eqGuardType Tryz.prog.depth 30=false:=by kernel_rfl
theorem EntIn.fit {W:World} {raws:List (Int × Sl)} {L:List Ent} (h:All2 (EntIn W) raws L) (hb:(raws.map fun r=>r.2.n+1).sum≤1048576):L.length≤1048576∧∀ e∈L,EntFit e:=by
 have h1:∀ (l:List (Int × Sl)),l.length≤(l.map fun r=>r.2.n+1).sum:=by
  intro l
  induction l with
  | nil=>simp
  | cons a r ih=>simp only [List.length_cons,List.map_cons,List.sum_cons]; omega
 have h2:∀ (l:List (Int × Sl)) r,r∈l→r.2.n≤(l.map fun r=>r.2.n+1).sum:=by
  intro l
  induction l with
  | nil=>intro r h; cases h
  | cons a q ih =>
   intro r hr
   simp only [List.map_cons,List.sum_cons]
   rcases List.mem_cons.1 hr with rfl | hr
   ·omega
   ·have:=ih r hr; omega
 refine ⟨by have:=h1 raws; have:=h.len; omega,fun e he=>?_⟩
 obtain ⟨i,hi⟩:=List.mem_iff_getElem?.1 he
 obtain ⟨r,hr,hin⟩:=h.get hi
 have:=h2 raws r (List.mem_of_getElem? hr)
 have:=hin.sl.len
 exact ⟨hin.ok,by omega,hin.comps⟩
end Go.Proofs.YtchhhjlpnecjkaaGreat
namespace Go.Proofs.YtchhhjlpnecjkaaGreat
open Go Go.RowKit Go.Proofs.YtchhhjlpnecjkaaGreat.Den
variable {R:Type} {Q:R→World→Prop} {w:World}
theorem idxF {ok:Nat→Prop} {t:Ty} {s:Sl} {l:List t.T} (h:SlT ok w t s l) {sz:Nat} (hsz:sz=t.size) {i:Int} (h0:0≤i) (h1:i < l.length) {K:Addr→W R}
  (hk:∀ a x,l[i.toNat]?=some x→(∀ w',Fr None w w'→Rd w' a t x)→K a Q w):idxW s.a s.n sz i K Q w:=by
 subst hsz
 have hi:i.toNat < l.length:=by omega
 rcases h.at_ with rfl | ⟨b,o,ha,_,_,hr⟩
 ·simp at hi
 ·refine ⟨⟨b,o,none⟩,ha,h0,by rw [h.len]; exact h1,?_⟩
  rw [add_lit]
  refine hk _ _ (List.getElem?_eq_getElem hi) fun w' f=>?_
  rcases (h.fr0 f).at_ with e | ⟨b',o',ha',_,_,hr'⟩
  ·rw [e] at hi; simp at hi
  ·rw [ha] at ha'; cases ha'; exact hr' _ _ (List.getElem?_eq_getElem hi)
theorem Zx9 {ok ok2:Nat→Prop} {r r2:DRaw} {g g2:List Int} {c c2:List Ent} {d d2:List Chg} (h1:DltR ok w r g c d) (h2:DltR ok2 w r2 g2 c2 d2) (hm:Small g∧c.length≤1048576∧d.length≤9223372036854775807) (hc:∀ e∈c,Small e.2) (hd:∀ e∈d,Small e.2.2.1∧Small e.2.2.2) {K:Res [.sc .bool]→W R} (hk:∀ w',Fr None w w'→K (decide (g=g2∧c=c2∧d=d2)) Q w') :
  callW Tryz.prog Z7p [.agg ⟨[.slice r.1.a r.1.n r.1.c,.slice r.2.1.a r.2.1.n r.2.1.c,.slice r.2.2.a r.2.2.n r.2.2.c]⟩,.agg ⟨[.slice r2.1.a r2.1.n r2.1.c,.slice r2.2.1.a r2.2.1.n r2.2.1.c,.slice r2.2.2.a r2.2.2.n r2.2.2.c]⟩] [.sc .bool] K Q w:=by
 refine Zko r r2 K Q w ?_
 unfold Z7d
 obtain ⟨a1,⟨rc,a2,a3⟩,⟨rd,a4,a5⟩⟩:=h1
 obtain ⟨b1,⟨rc2,b2,b3⟩,⟨rd2,b4,b5⟩⟩:=h2
 have n1:=a4.len.trans a5.len
 have n2:=b4.len.trans b5.len
 refine newI fun w1 B1 f1 z1=>newI fun w2 B2 f2 z2=>?_
 have f02:=f1.then0 f2
 have B1:=B1.fr f2 fun h=>h
 refine joinI (fun z u=>z=!decide (g=g2∧c=c2∧d.length=d2.length)∧Fr None w2 u) ?_ ?_
 ·refine fldI B1 (i:=0) (x:=r.1) rfl (fldI B2 (i:=0) (x:=r2.1) rfl (Zzg (a1.fr0 f02) (b1.fr0 f02) hm.1 fun w3 f3=>?_))
  refine condI (fun h=>⟨by rw [decide_eq_false fun e=>by rw [decide_eq_true e.1] at h; cases h]; rfl,f3⟩) fun h=>?_
  have e1:g=g2:=by simpa using h
  have f03:=f02.then0 f3
  refine fldI (B1.fr f3 fun h=>h) (i:=1) (x:=r.2.1) rfl (fldI (B2.fr f3 fun h=>h) (i:=1) (x:=r2.2.1) rfl (Zeu (a2.fr0 f03) (a3.fr f03 fun _ _ h=>h) (b2.fr0 f03) (b3.fr f03 fun _ _ h=>h) hm.2.1 hc fun w4 f4=>?_))
  have f24:=f3.then0 f4
  refine condI (fun h=>⟨by rw [decide_eq_false fun e=>by rw [decide_eq_true e.2.1] at h; cases h]; rfl,f24⟩) fun h=>?_
  have e2:c=c2:=by simpa using h
  refine fldI (B1.fr f24 fun h=>h) (i:=2) (x:=r.2.2) rfl (fldI (B2.fr f24 fun h=>h) (i:=2) (x:=r2.2.2) rfl ⟨?_,f24⟩)
  by_cases h:d.length=d2.length
  ·rw [decide_eq_true ⟨e1,e2,h⟩]
   have:(r.2.2.n:Int)=(r2.2.2.n:Int):=by omega
   rw [this]; simp
  ·rw [decide_eq_false fun e=>h e.2.2]
   have:(r.2.2.n:Int)≠(r2.2.2.n:Int):=by omega
   simpa using this
 rintro z u ⟨rfl,fu⟩
 refine condI (fun h=>?_) fun h=>?_
 ·have h:¬ (g=g2∧c=c2∧d.length=d2.length):=fun e=>by rw [decide_eq_true e] at h; cases h
  have e:=hk u (f02.then0 fu)
  rw [decide_eq_false fun e=>h ⟨e.1,e.2.1,by rw [e.2.2]⟩] at e
  exact e
 have h:g=g2∧c=c2∧d.length=d2.length:=by simpa using h
 obtain ⟨e1,e2,e3⟩:=h
 have B1u:=B1.fr fu fun h=>h
 have B2u:=B2.fr fu fun h=>h
 have f0u:=f02.then0 fu
 refine fldI B1u (i:=2) (x:=r.2.2) rfl (forI (N:=r.2.2.n) (fun s:Int=>s) (fun j s v=>s=(j:Int)∧Fr None u v∧d.take j=d2.take j) ⟨rfl,Fr.refl _ _,rfl⟩ (fun j s w' h=>h.1) ?_ ?_)
 ·rintro j s v K' hj ⟨rfl,fv,ht⟩ - hK
  obtain ⟨x,hx⟩:∃ x,d[j]?=some x:=⟨_,List.getElem?_eq_getElem (by omega)⟩
  obtain ⟨y,hy⟩:∃ y,d2[j]?=some y:=⟨_,List.getElem?_eq_getElem (by omega)⟩
  obtain ⟨q1,hq1,hq⟩:=a5.get hx
  obtain ⟨p1,hp1,hp⟩:=b5.get hy
  have fd:Fr None v v.drew:=(Fr.refl _ _).drew
  have f0d:=(f0u.then0 fv).then0 fd
  have fud:=fv.then0 fd
  have B1d:=B1u.fr fud fun h=>h
  have B2d:=B2u.fr fud fun h=>h
  refine joinI (fun z u'=>∃ p q,z=(some ⟨p,0,none⟩,some ⟨q,0,none⟩)∧Blk u' p 86 [.int .u32 q1.1,.int .u8 q1.2.1,.slice q1.2.2.1.a q1.2.2.1.n q1.2.2.1.c,.slice q1.2.2.2.a q1.2.2.2.n q1.2.2.2.c]∧Blk u' q 86 [.int .u32 p1.1,.int .u8 p1.2.1,.slice p1.2.2.1.a p1.2.2.1.n p1.2.2.1.c,.slice p1.2.2.2.a p1.2.2.2.n p1.2.2.2.c]∧Fr None v u') ?_ ?_
  ·refine bothI ?_ ?_
   ·refine fldI B1d (i:=2) (x:=r.2.2) rfl (idxF (a4.fr0 f0d) rfl (Int.natCast_nonneg j) (by have:=(List.getElem?_eq_some_iff.1 hq1).1; omega) fun p x' hx' hr=>?_)
    rw [Int.toNat_natCast,hq1] at hx'
    cases hx'
    refine ldI (t:=chgT) q1 (hr _ (Fr.refl _ _)) (fldI B2d (i:=2) (x:=r2.2.2) rfl (idxF (b4.fr0 f0d) rfl (Int.natCast_nonneg j) (by have:=(List.getElem?_eq_some_iff.1 hp1).1; omega) fun p' y' hy' hr'=>?_))
    rw [Int.toNat_natCast,hp1] at hy'
    cases hy'
    refine ldI (t:=chgT) p1 (hr' _ (Fr.refl _ _)) (newI fun v1 C1 g1 y1=>newI fun v2 C2 g2 y2=>stoAll (C1.fr g2 fun h=>h) rfl rfl fun v3 C1 g3 y3=>?_)
    have g03:Fr None v.drew v3:=(g1.then0 g2).newer g3 fun k e=>by omega
    refine andI (hr' _ g03) (andI ((B2d.fr g03 fun h=>h).rd (s:=.sl) (i:=2) (x:=r2.2.2) rfl) (stoAll (C2.fr g3 fun e=>by omega) rfl rfl fun v4 C2 g4 y4=>?_))
    exact ⟨_,_,rfl,C1.fr g4 fun e=>by omega,C2,fd.then0 (g03.newer g4 fun k e=>by omega)⟩
   ·refine fldI B1d (i:=2) (x:=r.2.2) rfl (idxF (a4.fr0 f0d) rfl (Int.natCast_nonneg j) (by have:=(List.getElem?_eq_some_iff.1 hq1).1; omega) fun p x' hx' hr=>?_)
    rw [Int.toNat_natCast,hq1] at hx'
    cases hx'
    refine ldI (t:=chgT) q1 (hr _ (Fr.refl _ _)) (fldI B2d (i:=2) (x:=r2.2.2) rfl (idxF (b4.fr0 f0d) rfl (Int.natCast_nonneg j) (by have:=(List.getElem?_eq_some_iff.1 hp1).1; omega) fun p' y' hy' hr'=>?_))
    rw [Int.toNat_natCast,hp1] at hy'
    cases hy'
    refine ldI (t:=chgT) p1 (hr' _ (Fr.refl _ _)) (newI fun v1 C1 g1 y1=>newI fun v2 C2 g2 y2=>stoAll C2 rfl rfl fun v3 C2 g3 y3=>?_)
    have g03:Fr None v.drew v3:=(g1.then0 g2).newer g3 fun k e=>by omega
    refine andI (hr' _ g03) (andI ((B2d.fr g03 fun h=>h).rd (s:=.sl) (i:=2) (x:=r2.2.2) rfl) (stoAll ((C1.fr g2 fun h=>h).fr g3 fun e=>by omega) rfl rfl fun v4 C1 g4 y4=>?_))
    exact ⟨_,_,rfl,C2.fr g4 fun e=>by omega,C1,fd.then0 (g03.newer g4 fun k e=>by omega)⟩
  rintro z u' ⟨p,q,rfl,P1,P2,fu'⟩
  have f0u':=(f0u.then0 fv).then0 fu'
  have hq':chgR ok u' q1 x:=St.fr0 (A:=fun F w=>chgR F w q1 x) (Z3j q1 x) hq f0u'
  have hp':chgR ok2 u' p1 y:=St.fr0 (A:=fun F w=>chgR F w p1 y) (Z3j p1 y) hp f0u'
  obtain ⟨x1,x2,x3,x4⟩:=hq'
  obtain ⟨y1,y2,y3,y4⟩:=hp'
  have sm:=hd x (List.mem_of_getElem? hx)
  refine joinI (fun z v'=>z=!decide (x=y)∧Fr None u' v') ?_ ?_
  ·refine ptrI (fldI P1 (i:=0) (x:=q1.1) rfl (ptrI (fldI P2 (i:=0) (x:=p1.1) rfl (condN (fun hne=>⟨by rw [decide_eq_false fun e=>hne (by rw [x1,y1,e])]; rfl,Fr.refl _ _⟩) fun k1=>?_))))
   refine ptrI (fldI P1 (i:=1) (x:=q1.2.1) rfl (ptrI (fldI P2 (i:=1) (x:=p1.2.1) rfl (condN (fun hne=>⟨by rw [decide_eq_false fun e=>hne (by rw [x2,y2,e])]; rfl,Fr.refl _ _⟩) fun k2=>?_))))
   refine ptrI (fldI P1 (i:=2) (x:=q1.2.2.1) rfl (ptrI (fldI P2 (i:=2) (x:=p1.2.2.1) rfl (Zhz x3 y3 sm.1 fun v1 g1=>?_))))
   refine condI (fun h=>⟨by rw [decide_eq_false fun e=>by rw [e,decide_eq_true rfl] at h; cases h]; rfl,g1⟩) fun h=>?_
   have k3:x.2.2.1=y.2.2.1:=by simpa using h
   refine ptrI (fldI (P1.fr g1 fun h=>h) (i:=3) (x:=q1.2.2.2) rfl (ptrI (fldI (P2.fr g1 fun h=>h) (i:=3) (x:=p1.2.2.2) rfl (Zhz (x4.fr0 g1) (y4.fr0 g1) sm.2 fun v2 g2=>⟨?_,g1.then0 g2⟩))))
   have c1:x.1=y.1:=by rw [← x1,← y1]; exact k1
   have c2:x.2.1=y.2.1:=by rw [← x2,← y2]; exact k2
   congr 1
   exact decide_eq_decide.2 ⟨fun e=>Prod.ext c1 (Prod.ext c2 (Prod.ext k3 e)),fun e=>by rw [e]⟩
  rintro z v' ⟨rfl,fv'⟩
  refine condI (fun hne=>?_) fun he=>?_
  ·have hne:¬ x=y:=fun e=>by rw [decide_eq_true e] at hne; cases hne
   have e:=hk v' (f0u'.then0 fv')
   rw [decide_eq_false fun e=>hne (by have:=e.2.2; rw [this,hy] at hx; cases hx; rfl)] at e
   exact e
  ·have he:x=y:=by simpa using he
   exact hK _ _ ⟨wsucc hj (by omega),(fv.then0 fu').then0 fv',by rw [Z8 hx,Z8 hy,ht,he]⟩
 ·rintro s v ⟨rfl,fv,ht⟩
  have e:=hk v (f0u.then0 fv)
  rw [List.take_of_length_le (by omega),List.take_of_length_le (by omega)] at ht
  rw [decide_eq_true ⟨e1,e2,ht⟩] at e
  exact e
end Go.Proofs.YtchhhjlpnecjkaaGreat
namespace Go.Proofs.YtchhhjlpnecjkaaGreat
open Go Go.RowKit Go.Proofs.YtchhhjlpnecjkaaGreat.Den
variable {R:Type} {Q:R→World→Prop} {w:World}
theorem Z16r:∀ m:Fin 256,∀ k:Fin 8,(Int.tmod (shR .u8 ((m.val:Nat):Int) ((k.val:Nat):Int)) 2 == 0)=!m.val.testBit k.val:=by decide +kernel
theorem EntsR.all {ok:Nat→Prop} {rs:List (Int × Sl)} {L:List Ent}:EntsR ok w rs L↔All2 (fun (r:Int × Sl) (e:Ent)=>r.1=e.1∧SlT ok w compT r.2 e.2) rs L:=⟨fun h=>⟨h.len,h.at_⟩,fun h=>⟨h.len,h.at_⟩⟩
theorem EntsR.cut {ok:Nat→Prop} {rs:List (Int × Sl)} {L:List Ent} (h:EntsR ok w rs L) (i j:Nat):EntsR ok w (rs.take i ++ rs.drop j) (L.take i ++ L.drop j) :=
 EntsR.append (EntsR.all.2 ((EntsR.all.1 h).take i)) (EntsR.all.2 ((EntsR.all.1 h).drop j))
theorem EntsR.set {ok:Nat→Prop} {rs:List (Int × Sl)} {L:List Ent} (h:EntsR ok w rs L) (i:Nat) {r:Int × Sl} {e:Ent} (h1:r.1=e.1) (h2:SlT ok w compT r.2 e.2):EntsR ok w (rs.set i r) (L.set i e):=by
 have hl:=h.len
 refine ⟨by simp [hl],fun j a b ha hb=>?_⟩
 rw [List.getElem?_set] at ha hb
 by_cases hj:i=j
 ·subst hj
  simp only [if_true] at ha hb
  split at ha
  ·split at hb
   ·cases ha; cases hb; exact ⟨h1,h2⟩
   ·cases hb
  ·cases ha
 ·rw [if_neg hj] at ha hb
  exact h.at_ j a b ha hb
def NowS (n n0:Nat) (u:World) (s:Sl) (L:List Ent):Prop:=∃ rs,Own (Up n0) u 57 entT s rs∧EntsR (fun k=>(k < n∨n0≤k)∧s.v.ownBlock≠some k) u rs L
theorem NowS.fr0 {n n0:Nat} {s:Sl} {L:List Ent} (h:NowS n n0 w s L) {w':World} (f:Fr None w w'):NowS n n0 w' s L:=by
 obtain ⟨rs,o,e⟩:=h
 exact ⟨rs,o.none f,e.fr f fun _ _ h=>h⟩
def LFit (m k:Nat) (L:List Ent):Prop:=L.length≤m∧∀ e∈L,(0≤e.1∧e.1≤4294967295)∧e.2.length≤k∧∀ c∈e.2,CompOk c
theorem Z19l {n n0:Nat} {s:Sl} {L:List Ent} (h:NowS n n0 w s L) (hn0:n0≤w.heap.size) {i:Nat} (hi:i < L.length) (hl:L.length≤1048576) {K:Sl→W R} (hk:∀ r w',NowS n n0 w' r (L.take i ++ L.drop (i+1))→Fr None w w'→K r Q w') :
  (drawW <|
  slcW s.a s.n s.c 2 none (some (i:Int)) fun x_10 =>
  slcW s.a s.n s.c 2 (some (IntKind.wrap .i64 ((i:Int)+1))) none fun x_11 =>
  newW 57 [] fun x_12 =>
  rawW Tryz.prog (Builtin.append_ #[23,23] 23 #[.slice (some x_12) 0 0,.slice x_10.a x_10.n x_10.c]) [.sc .sl] fun (x_13:Sl) =>
  rawW Tryz.prog (Builtin.append_ #[23,23] 23 #[.slice x_13.a x_13.n x_13.c,.slice x_11.a x_11.n x_11.c]) [.sc .sl] fun (x_14:Sl)=>K x_14:W R) Q w:=by
 obtain ⟨rs,o,eR⟩:=h
 have rl:=eR.len
 have fd:Fr None w w.drew:=(Fr.refl _ _).drew
 have sd:w.drew.heap.size=w.heap.size:=rfl
 have od:=(o.none fd).sl
 refine od.cutI (n:=i) rfl (by omega) fun c1 _ hc1=>od.from rfl (n:=i+1) (wsucc hi (by omega)) (by omega) fun c2 hc2 _=>?_
 refine newI fun u2 B2 f2 y2=>?_
 have own:=Own.mk' (S:=Up w.heap.size) (w:=u2) (E:=57) (t:=entT) (l:=[]) (g:=w.drew.heap.size) (c:=0) (cur:=⟨[]⟩) (Nat.le_refl _) B2 (Nat.le_refl _) (Nat.zero_le _) (by simp) (by simp)
 have z2:=f2.size
 refine appI (s:=⟨some ⟨w.drew.heap.size,0,none⟩,0,0⟩) (s2:=c1) (S':=Up w.heap.size) Z8k own (hc1 _ _ (od.fr0 f2)) (by simp; omega) (by rw [Z1j]; simp; omega) (fun _ h=>h) (by show _≤_; omega) fun r1 u3 o3 f3 y3=>?_
 have f03:Fr None w.drew u3:=f2.newer f3 fun k e=>own.own k e
 have z3:=f03.size
 rw [List.nil_append] at o3
 refine appI (s:=r1) (s2:=c2) (S':=Up w.heap.size) Z8k o3 (hc2.fr0 f03) (by simp; omega) (by rw [Z1j]; simp; omega) (fun _ h=>h) (by show _≤_; omega) fun r2 u4 o4 f4 y4=>?_
 have f04:Fr None w.drew u4:=f03.newer f4 fun k e=>o3.own k e
 refine hk r2 u4 ⟨_,o4.up hn0,?_⟩ (fd.then0 f04)
 have e4:EntsR (fun k=>((k < n∨n0≤k)∧s.v.ownBlock≠some k)∧k < w.heap.size) w rs L:=eR.mono fun k hk e=>⟨e,hk⟩
 exact ((e4.fr (fd.then0 f04) fun _ _ h=>h).mono fun k _ e=>⟨e.1.1,fun e2=>by have:w.heap.size≤k:=o4.own k e2; omega⟩).cut i (i+1)
theorem Z19n {n n0:Nat} {s:Sl} {L:List Ent} (h:NowS n n0 w s L) {i:Nat} {e:Ent} (he:L[i]?=some e) {t:Sl} {l:List Comp} (ht:SlT (fun k=>(k < n∨n0≤k)∧s.v.ownBlock≠some k) w compT t l) {K:W R} (hk:∀ w',NowS n n0 w' s (L.set i (e.1,l))→Fr (Up n0) w w'→K Q w') :
  (idxW s.a s.n 2 (i:Int) fun x_54=>stoL (Addr.add x_54 1) [.slice t.a t.n t.c] 0 K:W R) Q w:=by
 obtain ⟨rs,o,eR⟩:=h
 obtain ⟨r,hr,r1,r2⟩:=eR.get he
 have hir:=(List.getElem?_eq_some_iff.1 hr).1
 refine o.idx rfl (Int.natCast_nonneg i) (by omega) fun g x hg hx _=>?_
 rw [Int.toNat_natCast,hr] at hx
 cases hx
 rw [Int.toNat_natCast]
 refine o.setFld (i:=i) (j:=1) (x:=r) (x':=(r.1,t)) hr hg (by decide) rfl rfl fun w' o' f' _=>?_
 refine hk w' ⟨_,o',?_⟩ (f'.sub fun k e=>o.own k e)
 exact EntsR.set (eR.fr f' fun k e e2=>e.2 e2) i r1 (ht.fr f' fun k e e2=>e.2 e2)
theorem Z19m {n n0:Nat} {s:Sl} {L:List Ent} (h:NowS n n0 w s L) (hn0:n0≤w.heap.size) (hl:L.length≤1048576) {b:Nat} {e:Ent} {r:Int × Sl} (B:Blk w b 57 (entC r)) (hr1:r.1=e.1) (hr2:SlT (fun k=>k < n) w compT r.2 e.2) (hn:n≤n0) {K:Sl→W R} (hk:∀ z w',NowS n n0 w' z (insG e false L)→Fr None w w'→K z Q w') :
  (loopW (σ:=Sl × Bool × Int) (fun K_63 s_64 =>
   cond (decide (s_64.2.2 < (s.n:Int)))
    (idxW s.a s.n 2 s_64.2.2 fun x_65 =>
   ld (.agg [.int .u32,.sl]) x_65 fun (x_66:(Int × Sl)) =>
   newW 57 [.int .u32 0,.slice none 0 0] fun x_67 =>
   stoL x_67 [.int .u32 x_66.1,.slice x_66.2.a x_66.2.n x_66.2.c] 0 <|
   joinW (σ:=Bool) (fun J_68 =>
    cond (!s_64.2.1)
     (ld (.sc (.int .u32)) (Addr.add x_67 0) fun (x_69:Int) =>
      ld (.sc (.int .u32)) (Addr.add ⟨b,0,none⟩ 0) fun (x_70:Int) =>
        J_68 (decide (x_69 ≥ x_70)))
     (J_68 false))
   <| fun s_71 =>
   joinW (σ:=Sl × Bool) (fun J_72 =>
    cond s_71
     (ld (.agg [.int .u32,.sl]) ⟨b,0,none⟩ fun (x_73:(Int × Sl)) =>
     newW 57 [.int .u32 x_73.1,.slice x_73.2.a x_73.2.n x_73.2.c] fun x_74 =>
     rawW Tryz.prog (Builtin.append_ #[23,23] 23 #[.slice s_64.1.a s_64.1.n s_64.1.c,.slice (some x_74) 1 1]) [.sc .sl] fun (x_75:Sl) =>
     J_72 (x_75,true))
     (J_72 (s_64.1,s_64.2.1)))
   <| fun s_76 =>
   ld (.agg [.int .u32,.sl]) x_67 fun (x_77:(Int × Sl)) =>
   newW 57 [.int .u32 x_77.1,.slice x_77.2.a x_77.2.n x_77.2.c] fun x_78 =>
   rawW Tryz.prog (Builtin.append_ #[23,23] 23 #[.slice s_76.1.a s_76.1.n s_76.1.c,.slice (some x_78) 1 1]) [.sc .sl] fun (x_79:Sl) =>
   K_63 (x_79,s_76.2,IntKind.wrap .i64 (s_64.2.2+1)))
    (joinW (σ:=Sl) (fun J_80 =>
   cond (!s_64.2.1)
    (ld (.agg [.int .u32,.sl]) ⟨b,0,none⟩ fun (x_81:(Int × Sl)) =>
    newW 57 [.int .u32 x_81.1,.slice x_81.2.a x_81.2.n x_81.2.c] fun x_82 =>
    rawW Tryz.prog (Builtin.append_ #[23,23] 23 #[.slice s_64.1.a s_64.1.n s_64.1.c,.slice (some x_82) 1 1]) [.sc .sl] fun (x_83:Sl) =>
    J_80 x_83)
    (J_80 s_64.1))
  <| fun s_84=>K s_84))
   ((⟨none,0,0⟩:Sl),false,0):W R) Q w:=by
 obtain ⟨rs,o,eR⟩:=h
 have rl:=eR.len
 have ol:=o.sl.len
 have eL:EntsR (fun k=>(k < n∨n0≤k)∧k < w.heap.size) w rs L:=eR.mono fun k hk e=>⟨e.1,hk⟩
 have hrw:SlT (fun k=>(k < n∨n0≤k)∧k < w.heap.size) w compT r.2 e.2:=hr2.mono fun k hk h=>⟨.inl h,hk⟩
 have lt:∀ k,((k < n∨n0≤k)∧k < w.heap.size)→¬ Up w.heap.size k:=fun k hk e=>by have e:w.heap.size≤k:=e; omega
 have app:∀ {v:World} {z:Sl} {rs':List (Int × Sl)} {L':List Ent} {x:Int × Sl} {y:Ent} {X:Sl→W R} {Q':R→World→Prop},Fr (Up w.heap.size) w v→Own (Up w.heap.size) v 57 entT z rs'→EntsR (fun k=>(k < n∨n0≤k)∧k < w.heap.size) v rs' L'→rs'.length≤4194304→x.1=y.1→SlT (fun k=>(k < n∨n0≤k)∧k < w.heap.size) w compT x.2 y.2 →
   (∀ z' v',Own (Up w.heap.size) v' 57 entT z' (rs' ++ [x])→EntsR (fun k=>(k < n∨n0≤k)∧k < w.heap.size) v' (rs' ++ [x]) (L' ++ [y])→Fr (Up w.heap.size) w v'→X z' Q' v') →
   (newW 57 (entC x) fun a=>rawW Tryz.prog (Builtin.append_ #[23,23] 23 #[.slice z.a z.n z.c,.slice (some a) 1 1]) [.sc .sl] X) Q' v:=by
  intro v z rs' L' x y X Q' fv oz ez hlen h1 h2 hX
  have vz:=fv.size
  refine appP (x:=x) Z8k rfl oz (fun k h=>by show _≤_; omega) (by omega) (by omega) fun z' v' o' f'=>?_
  have fv':=fv.then (f'.sub fun k e=>oz.own k e)
  exact hX z' v' o' (EntsR.snoc (ez.fr f' fun k e e2=>lt k e (oz.own k e2)) h1 (h2.fr fv' lt)) fv'
 refine forI (N:=s.n) (fun st:Sl × Bool × Int=>st.2.2) (fun j st v=>st.2.2=(j:Int)∧Fr (Up w.heap.size) w v∧∃ rs' L',Own (Up w.heap.size) v 57 entT st.1 rs'∧EntsR (fun k=>(k < n∨n0≤k)∧k < w.heap.size) v rs' L'∧rs'.length≤2 * j∧L' ++ insG e st.2.1 (L.drop j)=insG e false L)
  ⟨rfl,Fr.refl _ _,[],[],Own.nil _ _ _ _,EntsR.nil _ _,by simp,by simp⟩ (fun j s w' h=>h.1) ?_ ?_
 ·rintro j ⟨z,dn,_⟩ v K' hj ⟨rfl,fv,rs',L',o1,e1,hlen,hL'⟩ - hK
  obtain ⟨x,hx⟩:∃ x,L[j]?=some x:=⟨_,List.getElem?_eq_getElem (by omega)⟩
  obtain ⟨q,hq,q1,q2⟩:=eL.get hx
  have f0:Fr None w v:=fv.ofUp (Nat.le_refl _)
  refine ((o.none f0).sl).get rfl rfl (List.getElem?_eq_some_iff.1 hq).1 fun q' hq'=>?_
  rw [hq] at hq'
  cases hq'
  refine newI fun v1 C1 g1 y1=>stoAll C1 rfl rfl fun v2 C g2 y2=>?_
  have g02:Fr None v v2:=g1.newer g2 fun k e=>by omega
  have fv2:=fv.then0 g02
  have B2:=(B.fr f0 fun h=>h).fr g02 fun h=>h
  have hdr:L.drop j=x :: L.drop (j+1):=by
   obtain ⟨hh,hg⟩:=List.getElem?_eq_some_iff.1 hx
   rw [List.drop_eq_getElem_cons hh,hg]
  rw [hdr,insG] at hL'
  refine joinI (fun z v'=>z=(!dn && decide (x.1 ≥ e.1))∧v'=v2) ?_ ?_
  ·refine condI (fun hd=>?_) fun hd=>⟨by rw [hd]; rfl,rfl⟩
   refine fldI C (i:=0) (x:=q.1) rfl (fldI B2 (i:=0) (x:=r.1) rfl ⟨?_,rfl⟩)
   rw [hd,q1,hr1]; rfl
  rintro z2 _ ⟨rfl,rfl⟩
  refine joinI (fun p v'=>p.2=(dn || decide (x.1 ≥ e.1))∧Fr (Up w.heap.size) w v'∧Blk v' v.heap.size 57 (entC q)∧∃ rs2,Own (Up w.heap.size) v' 57 entT p.1 rs2∧EntsR (fun k=>(k < n∨n0≤k)∧k < w.heap.size) v' rs2 (L' ++ if (!dn && decide (x.1 ≥ e.1))=true then [e] else [])∧rs2.length≤2 * j+1) ?_ ?_
  ·refine condI (fun hc=>?_) fun hc=>?_
   ·rw [if_pos hc]
    refine aggI B2 (x:=r) rfl ?_
    have zlt:∀ k,z.v.ownBlock=some k→k < v.heap.size:=fun k e=>o1.lt e
    refine appP (x:=r) Z8k rfl (o1.none g02) (fun k h=>by have:=fv2.size; show _≤_; omega) (by omega) (by omega) fun z' v' o' f'=>?_
    have fv':=fv2.then (f'.sub fun k e=>o1.own k e)
    refine ⟨?_,fv',C.fr f' fun e=>by have:=zlt _ e; omega,_,o',EntsR.snoc ((e1.fr g02 fun _ _ h=>h).fr f' fun k e e2=>lt k e (o1.own k e2)) hr1 (hrw.fr fv' lt),by simp; omega⟩
    have hc2:=(Bool.and_eq_true_iff.1 hc).2
    rw [hc2]; simp
   ·rw [hc,if_neg (by simp),List.append_nil]
    refine ⟨?_,fv2,C,_,o1.none g02,e1.fr g02 fun _ _ h=>h,by omega⟩
    cases dn
    ·have:decide (x.1 ≥ e.1)=false:=by simpa using hc
     rw [this]; rfl
    ·rfl
  rintro ⟨z3,d3⟩ v3 ⟨hd3,fv3,C3,rs2,o3,e3,l3⟩
  have hd3:d3=(dn || decide (x.1 ≥ e.1)):=hd3
  refine aggI C3 (x:=q) rfl (app fv3 o3 e3 (by omega) q1 q2 fun z' v' o' e' f'=>?_)
  refine hK _ _ ⟨wsucc hj (by omega),f',_,_,o',e',by simp; omega,?_⟩
  rw [← hL',hd3,List.append_assoc,List.append_assoc]
  rfl
 ·rintro ⟨z,dn,_⟩ v ⟨-,fv,rs',L',o1,e1,hlen,hL'⟩
  rw [List.drop_of_length_le (by omega)] at hL'
  have f0:Fr None w v:=fv.ofUp (Nat.le_refl _)
  have vz:=fv.size
  have fin:∀ {z2:Sl} {v2:World} {rs2:List (Int × Sl)},Own (Up w.heap.size) v2 57 entT z2 rs2→EntsR (fun k=>(k < n∨n0≤k)∧k < w.heap.size) v2 rs2 (insG e false L)→Fr (Up w.heap.size) w v2→K z2 Q v2:=fun o2 e2 f2 =>
   hk _ _ ⟨_,o2.up hn0,e2.mono fun k _ h=>⟨h.1,fun e=>by have:w.heap.size≤k:=o2.own k e; omega⟩⟩ (f2.ofUp (Nat.le_refl _))
  refine joinI (fun z2 v2=>∃ rs2,Own (Up w.heap.size) v2 57 entT z2 rs2∧EntsR (fun k=>(k < n∨n0≤k)∧k < w.heap.size) v2 rs2 (insG e false L)∧Fr (Up w.heap.size) w v2) ?_ fun z2 v2 ⟨rs2,o2,e2,f2⟩=>fin o2 e2 f2
  refine condI (fun hd=>?_) fun hd=>?_
  ·have hd:dn=false:=by simpa using hd
   subst hd
   refine aggI (B.fr f0 fun h=>h) (x:=r) rfl (app fv o1 e1 (by omega) hr1 hrw fun z' v' o' e' f'=>⟨_,o',?_,f'⟩)
   rw [← hL']
   exact e'
  ·have hd:dn=true:=by simpa using hd
   subst hd
   refine ⟨_,o1,?_,fv⟩
   rw [← hL',show insG e true []=[] from rfl,List.append_nil]
   exact e1
end Go.Proofs.YtchhhjlpnecjkaaGreat
namespace Go.Proofs.YtchhhjlpnecjkaaGreat
open Go Go.RowKit Go.Proofs.YtchhhjlpnecjkaaGreat.Den
variable {R:Type} {Q:R→World→Prop} {w:World}
theorem Z12i (c:Comp):∀ (b:Bool) (l:List Comp),(withG c b l).length≤l.length+1
 | true,l=>by
  induction l with
  | nil=>simp [withG]
  | cons x r ih=>rw [withG]; simp; split <;> simp <;> omega
 | false,[]=>by simp [withG]
 | false,x :: r=>by
  rw [withG]
  by_cases h:x.1 ≥ c.1
  ·rw [decide_eq_true h]
   have:(withG c (false || true) r).length≤r.length:=by
    clear h
    induction r with
    | nil=>simp [withG]
    | cons y r ih=>show (withG c true (y :: r)).length≤_; rw [withG]; simp at ih ⊢; split <;> simp <;> omega
   simp at this ⊢
   split <;> simp <;> omega
  ·rw [decide_eq_false h]
   have:=Z12i c false r
   simp at this ⊢
   split <;> simp <;> omega
theorem Zzl (c:Comp):∀ (b:Bool) (l:List Comp),∀ x∈withG c b l,x=c∨x∈l
 | b,[],x,h=>by
  rw [withG] at h
  split at h
  ·cases h
  ·simp at h; exact .inl h
 | b,y :: r,x,h=>by
  rw [withG] at h
  rcases List.mem_append.1 h with h | h
  ·split at h
   ·simp at h; exact .inl h
   ·cases h
  ·rcases List.mem_append.1 h with h | h
   ·split at h
    ·simp at h; rw [h]; exact .inr List.mem_cons_self
    ·cases h
   ·rcases Zzl c _ r x h with h | h
    ·exact .inl h
    ·exact .inr (List.mem_cons_of_mem _ h)
theorem succ8:∀ k:Fin 8,IntKind.wrap .u8 ((k.val:Int)+1)=((k.val+1:Nat):Int):=by decide +kernel
def CFit (m:Nat) (l:List Comp):Prop:=l.length≤m∧∀ c∈l,CompOk c
theorem CFit.withM {m:Nat} {l:List Comp} (h:CFit m l) {c:Comp} (hc:CompOk c):CFit (m+1) (withM l c) :=
 ⟨by have:=Z12i c false l; have:=h.1; show (withG c false l).length≤_; omega,fun x hx=>by
  rcases Zzl c false l x hx with e | e
  ·rw [e]; exact hc
  ·exact h.2 x e⟩
def ChgFw (d:Chg):Prop:=ChgSm d∧d.2.2.2.length≤9
theorem Z16o {m k:Nat} {L:List Ent} {e:Ent} (h:LFit m k L) (he:(0≤e.1∧e.1≤4294967295)∧e.2.length≤k∧∀ c∈e.2,CompOk c):LFit (m+1) k (insG e false L) :=
 ⟨by have:=Z11t e false L; have:=h.1; omega,fun x hx=>by
  rcases Z11u e false L x hx with a | a
  ·rw [a]; exact he
  ·exact h.2 x a⟩
theorem Z18r {m k k':Nat} {L:List Ent} (h:LFit m k L) (hk:k≤k') {i:Nat} {e:Ent} (hi:L[i]?=some e) {l:List Comp} (hl:CFit k' l):LFit m k' (L.set i (e.1,l)) :=
 ⟨by rw [List.length_set]; exact h.1,fun x hx=>by
  rcases List.mem_or_eq_of_mem_set hx with a | a
  ·have:=h.2 x a; exact ⟨this.1,by omega,this.2.2⟩
  ·rw [a]; exact ⟨(h.2 e (List.mem_of_getElem? hi)).1,hl.1,hl.2⟩⟩
theorem Z18a {m k:Nat} {L:List Ent} (h:LFit m k L) (i j:Nat) (hij:i≤j):LFit m k (L.take i ++ L.drop j) :=
 ⟨by have:=h.1; simp; omega,fun x hx=>by
  rcases List.mem_append.1 hx with a | a
  ·exact h.2 x (List.mem_of_mem_take a)
  ·exact h.2 x (List.mem_of_mem_drop a)⟩
theorem Zrg {ok:Nat→Prop} {s:Sl} {l:List Comp} (hS:SlT ok w compT s l) (hm:Small l) {k:Int} {K:Res [.sc .sl]→W R}
  (hk:∀ r w',Own (Up w.heap.size) w' 92 compT r (l.filter fun c=>!(c.1 == k))→Fr None w w'→K r Q w'):callW Tryz.prog Z4u [.slice s.a s.n s.c,.int .u8 k] [.sc .sl] K Q w:=by
 refine Zg2 _ _ K Q w ?_
 unfold Z4q
 refine rangeC (t:=compT) (l:=l) (ok:=ok) (fun s:Sl × Int=>s.2) (fun j st w'=>st.2=(j:Int)∧Fr None w w'∧Own (Up w.heap.size) w' 92 compT st.1 ((l.take j).filter fun c=>!(c.1 == k))) rfl rfl rfl ⟨rfl,Fr.refl _ _,Own.nil _ _ _ _⟩ (fun j s w' h=>h.1) (fun j st w' hp=>hS.fr0 hp.2.1) ?_ ?_
 ·rintro j x ⟨out,_⟩ w1 w2 K' hx ⟨rfl,f1,ow⟩ - B2 f2 s2 hK
  have hjl:=(List.getElem?_eq_some_iff.1 hx).1
  have f02:=f1.then0 f2
  have hs1:=f02.size
  have hfl:((l.take j).filter fun c=>!(c.1 == k)).length≤(l.take j).length:=List.length_filter_le _ _
  rw [List.length_take] at hfl
  have o2:=ow.none f2
  refine fldI B2 (x:=x.1) rfl ?_
  refine joinI (fun (z:Sl) w'=>Fr None w w'∧Own (Up w.heap.size) w' 92 compT z ((l.take (j+1)).filter fun c=>!(c.1 == k))) ?_ ?_
  ·rw [Z8 hx,List.filter_append]
   refine condN (fun hne=>?_) fun heq=>?_
   ·rw [List.filter_cons_of_pos (by simp [hne])]
    refine aggI B2 (x:=x) rfl ?_
    have h9:((l.take j).filter fun c=>!(c.1 == k)).length≤1048576:=by omega
    exact appF Z2u (x:=x) rfl o2 hs1 (Nat.le_trans (Nat.mul_le_mul_right 16 (Nat.succ_le_succ h9)) (by decide)) (Nat.le_trans (Nat.succ_le_succ h9) (by decide)) fun r w3 o3 f3 _=>⟨(f02.up.thenOwn o2 f3).ofUp (Nat.le_refl _),o3⟩
   ·rw [List.filter_cons_of_neg (by simp [heq])]
    exact ⟨f02,by simpa using o2⟩
  ·rintro z w3 ⟨f3,o3⟩
   exact hK _ _ ⟨wsucc (N:=l.length) hjl (by omega),f3,o3⟩
 ·rintro ⟨out,_⟩ w1 ⟨-,f1,ow⟩
  rw [List.take_length] at ow
  exact hk out w1 ow f1
theorem Ztf {ok:Nat→Prop} {s:Sl} {raws:List (Int × Sl)} {L:List Ent} (hS:SlT ok w entT s raws) (hE:EntsR ok w raws L) (hm:L.length≤1048576) (hL:∀ e∈L,Small e.2) {K:Res [.sc .sl]→W R}
  (hk:∀ r raws' w',Own (Up w.heap.size) w' 57 entT r raws'→EntsR (fun k=>w.heap.size≤k∧r.v.ownBlock≠some k) w' raws' L→Fr None w w'→K r Q w') :
  callW Tryz.prog Z1n [.slice s.a s.n s.c] [.sc .sl] K Q w:=by
 refine Zai s K Q w ?_
 unfold Z3a
 have hlen:=hS.len
 have hel:=hE.len
 refine forI (N:=s.n) (fun s:Sl × Int=>s.2) (fun j st w'=>st.2=(j:Int)∧(∃ rs,rs.length=j∧Own (fun k=>w.heap.size≤k) w' 57 entT st.1 rs∧EntsR (fun k=>w.heap.size≤k∧st.1.v.ownBlock≠some k) w' rs (L.take j))∧Fr None w w') ⟨rfl,⟨[],rfl,Own.nil _ _ _ _,by rw [List.take_zero]; exact EntsR.nil _ _⟩,Fr.refl _ _⟩ (fun j s w' h=>h.1) ?_ ?_
 ·rintro j ⟨z,_⟩ w1 K' hj ⟨rfl,⟨rs,hrs,o1,E1⟩,f1⟩ - hK
  have hs1:=f1.size
  obtain ⟨e,he⟩:∃ e,L[j]?=some e:=⟨_,List.getElem?_eq_getElem (by omega)⟩
  obtain ⟨r1,hr1,ha1,ha2⟩:=hE.get he
  refine (hS.fr0 f1).get rfl rfl (by omega) fun y hy=>?_
  rw [hr1] at hy
  cases hy
  refine newI fun w2 B2 f2 s2=>stoAll B2 rfl rfl fun w3 B3 f3 s3=>?_
  have f13:Fr None w1 w3:=f2.newer f3 fun k e=>by omega
  have fd:Fr None w3 w3.drew:=(Fr.refl _ _).drew
  have f1d:=f13.then0 fd
  have Bd:=B3.fr fd fun h=>h
  have hs3:=f1d.size
  refine fldI Bd (i:=0) (x:=r1.1) rfl (fldI Bd (i:=1) (x:=r1.2) rfl ?_)
  refine Zi0 (ha2.fr0 (f1.then0 f1d)) (hL e (List.mem_of_getElem? he)) fun t w4 o4 f4=>?_
  refine andI ((Bd.fr f4 fun h=>h).rd (s:=.int .u32) (i:=0) (x:=r1.1) rfl) ?_
  have f14:=f1d.then0 f4
  have hs4:=f4.size
  have oz:Own (fun k=>w.heap.size≤k∧(z.v.ownBlock=some k∨w4.heap.size≤k)) w4 57 entT z rs:=⟨(o1.none f14).row,fun k e=>⟨o1.own k e,.inl e⟩⟩
  refine appP (x:=((r1.1,t):Int × Sl)) Z8k rfl oz (fun k e=>⟨by omega,.inr e⟩) (by omega) (by omega) fun r w5 o5 f5=>?_
  have hzl:∀ k,z.v.ownBlock=some k→k < w1.heap.size:=fun k e=>(o1.row.lt k e).2
  have E4:EntsR (fun k=>(w.heap.size≤k∧z.v.ownBlock≠some k)∧k < w1.heap.size) w5 rs (L.take j):=((E1.mono (ok':=fun k=>(w.heap.size≤k∧z.v.ownBlock≠some k)∧k < w1.heap.size) fun k hk e=>⟨e,hk⟩).fr f14 fun _ _ h=>h).fr f5 fun k e e2=>e.1.2 e2
  have t5:SlT (fun k=>w3.drew.heap.size≤k∧k < w4.heap.size) w5 compT t e.2:=(o4.mono (S':=fun k=>w3.drew.heap.size≤k∧k < w4.heap.size) fun k hk e=>⟨e,hk⟩).sl.fr f5 fun k e e2=>by have:=hzl k e2; omega
  refine hK _ _ ⟨wsucc hj (by omega),⟨rs ++ [(r1.1,t)],by simp [hrs],o5.mono fun k _ e=>e.1,?_⟩,(f1.then0 f14).newer f5 fun k e=>o1.own k e⟩
  have ro:∀ k,r.v.ownBlock=some k→z.v.ownBlock=some k∨w4.heap.size≤k:=fun k e=>(o5.own k e).2
  refine ⟨by simp [hrs]; omega,fun q rq eq h1 h2=>?_⟩
  rw [Z8 he] at h2
  rcases Nat.lt_or_ge q j with hq | hq
  ·rw [List.getElem?_append_left (by omega)] at h1
   rw [List.getElem?_append_left (by simp; omega)] at h2
   obtain ⟨x1,x2⟩:=E4.at_ q rq eq h1 h2
   refine ⟨x1,x2.mono fun k _ e=>⟨e.1.1,fun e2=>?_⟩⟩
   rcases ro k e2 with h | h
   ·exact e.1.2 h
   ·have:=e.2; omega
  ·have hlt:=(List.getElem?_eq_some_iff.1 h1).1
   have:q=j:=by simp [hrs] at hlt; omega
   subst this
   rw [List.getElem?_append_right (by omega)] at h1
   rw [List.getElem?_append_right (by simp; omega)] at h2
   simp [hrs] at h1
   have h2:eq=e:=by
    have:q - (L.take q).length=0:=by simp; omega
    rw [this] at h2
    simpa using h2.symm
   subst h1; subst h2
   refine ⟨ha1,t5.mono fun k _ e=>⟨by omega,fun e2=>?_⟩⟩
   rcases ro k e2 with h | h
   ·have:=hzl k h; omega
   ·omega
 ·rintro ⟨z,_⟩ w1 ⟨_,⟨rs,hrs,o1,E1⟩,f1⟩
  rw [List.take_of_length_le (by omega)] at E1
  exact hk z rs w1 o1 E1 f1
theorem Zuo {okw okd:Nat→Prop} {sw:Sl} {raws:List (Int × Sl)} {was:List Ent} (hS:SlT okw w entT sw raws) (hE:EntsR okw w raws was) (hf:FormOk was) (hL:∀ e∈was,EntFit e) {rD:DRaw} {gone:List Int} {come:List Ent} {chg:List Chg} (hD:DltR okd w rD gone come chg) (hg:gone.length≤1048576) (hC:∀ e∈come,EntFit e) (hd:chg.length≤50000) (hd2:∀ d∈chg,ChgFw d) (hm:was.length+come.length≤1048576) {K:Res [.sc .sl,.sc (.int .i64)]→W R}
  (h0:(∀ now,¬ PatchOk was gone come chg now)→∀ w',Fr None w w'→K (⟨none,0,0⟩,4) Q w') (hk:∀ now,PatchOk was gone come chg now→(∀ e∈now,EntFit e)→now.length≤was.length+come.length→∀ r raws' w',Own (Up w.heap.size) w' 57 entT r raws'→EntsR (Up w.heap.size) w' raws' now→Fr None w w'→K (r,0) Q w') :
  callW Tryz.prog Z6i [.slice sw.a sw.n sw.c,.agg ⟨[.slice rD.1.a rD.1.n rD.1.c,.slice rD.2.1.a rD.2.1.n rD.2.1.c,.slice rD.2.2.a rD.2.2.n rD.2.2.c]⟩] [.sc .sl,.sc (.int .i64)] K Q w:=by
 refine Zit sw rD K Q w ?_
 unfold Z6a
 have hwl:=hS.len
 have hel:=hE.len
 refine newI fun w1 B1 f1 z1=>?_
 refine Z8v (hS.fr0 f1) (hE.fr f1 fun _ _ h=>h) (by omega) (fun e he=>⟨(hL e he).1,by have:=(hL e he).2.1; omega,(hL e he).2.2⟩) fun w2 f2=>?_
 rw [← Zej was 0 true fun _=>rfl,formOk.2 hf]
 refine condF rfl ?_
 have f02:=f1.then0 f2
 have B1:=B1.fr f2 fun h=>h
 have s2:=f2.size
 have hS':SlT (fun k=>k < w.heap.size) w2 entT sw raws:=(hS.mono fun k hk _=>hk).fr0 f02
 have hE':EntsR (fun k=>k < w.heap.size) w2 raws was:=(hE.mono fun k hk _=>hk).fr f02 fun _ _ h=>h
 have hD':DltR (fun k=>k < w.heap.size) w2 rD gone come chg:=DltR.st hD f02 fun k hk _=>⟨fun h=>h,hk⟩
 have six:∀ e∈was,e.2.length≤6:=fun e he=>hf.six he
 have lt:∀ k,k < w.heap.size→¬ Up w2.heap.size k:=fun k hk e=>by have e:w2.heap.size≤k:=e; omega
 have B1lt:=B1.lt
 refine Ztf hS' hE' (by omega) (fun e he=>(hL e he).2.1) fun r3 raws3 w3 o3 e3 f3=>?_
 obtain ⟨dg,⟨rc,dc1,dc2⟩,⟨rd,dd1,dd2⟩⟩:=hD'
 have hgl:=dg.len
 have hcl:=dc1.len.trans dc2.len
 have hdl:=dd1.len.trans dd2.len
 have bad:∀ {u:World},Fr (Up w2.heap.size) w2 u→(∀ now,¬ PatchOk was gone come chg now)→(retW ((⟨none,0,0⟩:Sl),(4:Int)):W (Sl × Int)) (fun r w=>K r Q w) u:=fun f hn=>h0 hn _ (f02.thenUp f f02.size)
 have fit0:LFit was.length 6 was:=⟨Nat.le_refl _,fun e he=>⟨(hL e he).1,six e he,(hL e he).2.2⟩⟩
 obtain ⟨n,hn⟩:∃ n,n=w.heap.size:=⟨_,rfl⟩
 obtain ⟨n0,hn0⟩:∃ n0,n0=w2.heap.size:=⟨_,rfl⟩
 rw [← hn] at hS' hE' dg dc1 dc2 dd1 dd2 lt
 rw [← hn0] at lt o3 e3 bad
 have ns3:NowS n n0 w3 r3 was:=⟨raws3,o3,e3.mono fun k _ e=>⟨.inr e.1,e.2⟩⟩
 have s3:=f3.size
 have hn0n:n≤n0:=by omega
 have B3:=B1.fr f3 fun h=>h
 have b1n:w.heap.size < n0:=by omega
 refine fldI B3 (i:=0) (x:=rD.1) rfl ?_
 refine forI (N:=rD.1.n) (fun s:Sl × Int=>s.2) (fun j st u=>st.2=(j:Int)∧Fr None w3 u∧∃ L,NowS n n0 u st.1 L∧LFit was.length 6 L∧∀ now,PatchOk was gone come chg now→Holds (fun x:Ent=>x.1) L (goneP1 was gone j))
  ⟨rfl,Fr.refl _ _,was,ns3,fit0,fun now hp=>Z16i hf gone⟩ (fun j s w' h=>h.1) ?_ ?_
 ·rintro j ⟨z,_⟩ u K' hj ⟨rfl,fu,L,ns,lf,hL'⟩ - hK
  have f2u:=f3.then0 fu
  have su:=f2u.size
  obtain ⟨id,hid⟩:∃ id,gone[j]?=some id:=⟨_,List.getElem?_eq_getElem (by omega)⟩
  refine (dg.fr0 f2u).get rfl rfl (by omega) fun x hx=>?_
  rw [hid] at hx
  cases hx
  obtain ⟨rs,o,eR⟩:=ns
  have ll:=lf.1
  refine Z47 (ok:=fun _=>True) (o.sl.mono fun _ _ _=>trivial) (eR.mono fun _ _ _=>trivial) (by omega) fun u1 g1=>?_
  rcases Zei (L:=L) (id:=id) with ⟨ef,hno⟩ | ⟨i,e,ef,he,hei⟩
  ·rw [ef]
   refine condT rfl (bad (f2u.then0 g1).up fun now hp=>?_)
   obtain ⟨⟨x,hx,e⟩,_⟩:=Zss hf hp hid (hL' now hp)
   exact Z6r.1 hno x hx e
  ·rw [ef]
   refine condF (decide_eq_false (by omega)) ?_
   have hi:=(List.getElem?_eq_some_iff.1 he).1
   have ns1:NowS n n0 u1 z L:=NowS.fr0 ⟨rs,o,eR⟩ g1
   refine Z19l ns1 (by have:=g1.size; omega) hi (by omega) fun r u2 ns2 g2=>hK _ _ ⟨wsucc hj (by omega),(fu.then0 g1).then0 g2,_,ns2,Z18a lf i (i+1) (by omega),fun now hp=>(Zss hf hp hid (hL' now hp)).2 i e he hei⟩
 rintro ⟨z,_⟩ u ⟨-,fu,L,ns,lf,hL'⟩
 rw [hgl] at hL'
 have f2u:=f3.then0 fu
 have su:=f2u.size
 refine fldI (B3.fr fu fun h=>h) (i:=2) (x:=rD.2.2) rfl ?_
 have zown:∀ k,z.v.ownBlock=some k→n0≤k:=fun k e=>by obtain ⟨rs,o,_⟩:=ns; exact o.own k e
 refine forI (N:=rD.2.2.n) (fun s:Int=>s) (fun j s v=>s=(j:Int)∧Fr (Up n0) w2 v∧∃ L,NowS n n0 v z L∧LFit was.length (6+18 * j) L∧∀ now,PatchOk was gone come chg now→Holds (fun x:Ent=>x.1) L (chgP was now gone chg j))
  ⟨rfl,f2u.up,L,ns,lf,fun now hp=>Z197 (Nat.le_refl _) now chg (hL' now hp)⟩ (fun j s w' h=>h.1) ?_ ?_
 ·clear ns lf hL'
  clear L
  rintro j s v K' hj ⟨rfl,fv,L,ns,lf,hL'⟩ - hK
  obtain ⟨c,hc⟩:∃ c,chg[j]?=some c:=⟨_,List.getElem?_eq_getElem (by omega)⟩
  obtain ⟨q,hq,hqr⟩:=dd2.get hc
  have sv:=fv.size
  refine (dd1.fr fv lt).get rfl rfl (List.getElem?_eq_some_iff.1 hq).1 fun q' hq'=>?_
  rw [hq] at hq'
  cases hq'
  refine newI fun v1 C1 g1 y1=>stoAll C1 rfl rfl fun v2 C g2 y2=>?_
  have g02:Fr None v v2:=g1.newer g2 fun k e=>by omega
  have fv2:=fv.then g02.up
  obtain ⟨cfw,cset⟩:=hd2 c (List.mem_of_getElem? hc)
  obtain ⟨cb,cn,cs,cno,cso⟩:=cfw
  obtain ⟨q1,q2,q3,q4⟩:chgR (fun k=>k < n) v2 q c:=St.fr (A:=fun F w=>chgR F w q c) (Z3j q c) hqr fv2 lt
  obtain ⟨rs,o,eR⟩:=ns.fr0 g02
  have ll:=lf.1
  refine fldI C (i:=0) (x:=q.1) rfl (Z47 (ok:=fun _=>True) (o.sl.mono fun _ _ _=>trivial) (eR.mono fun _ _ _=>trivial) (by omega) fun v3 g3=>?_)
  rw [q1]
  have g03:=g02.then0 g3
  have fv3:=fv2.then g3.up
  rcases Zei (L:=L) (id:=c.1) with ⟨ef,hno⟩ | ⟨i,e,ef,he,hei⟩
  ·rw [ef]
   refine condT rfl (bad fv3 fun now hp=>?_)
   obtain ⟨a,b,ha,hb,e1,ce,la,lb,hal,_⟩:=Zyd hf hp hc (hL' now hp)
   exact Z6r.1 hno a hal e1
  rw [ef]
  refine condF (decide_eq_false (by omega)) ?_
  have cnd:∀ now,PatchOk was gone come chg now→∃ b,c=changeM e b∧listE e.2=0∧listE b.2=0∧Holds (fun x:Ent=>x.1) (L.set i (e.1,b.2)) (chgP was now gone chg (j+1)):=fun now hp=>by
   obtain ⟨a,b,ha,hb,e1,ce,la,lb,hal,hset⟩:=Zyd hf hp hc (hL' now hp)
   obtain ⟨rfl,h2⟩:=hset i e he hei
   exact ⟨b,ce,la,lb,h2⟩
  clear hL'
  obtain ⟨re,hre,re1,re2⟩:=eR.get he
  have ef6:=lf.2 e (List.mem_of_getElem? he)
  have o3':=o.none g3
  have re3:=re2.fr0 g3
  have C3:=C.fr g3 fun h=>h
  refine o3'.sl.readK rfl rfl hre fun ad had=>(had _ o3'.sl).fld (i:=1) (s:=.sl) (y:=re.2) rfl ?_
  refine forI (N:=8) (fun s:Sl × Int=>s.2) (fun k st v'=>st.2=(k:Int)∧Fr None v3 v'∧∃ l,SlT (fun k=>(k < n∨n0≤k)∧z.v.ownBlock≠some k) v' compT st.1 l∧CFit (6+18 * j) l∧∀ now,PatchOk was gone come chg now→Holds (fun x:Comp=>x.1) l (lostP e c k))
   ⟨rfl,Fr.refl _ _,e.2,re3,⟨ef6.2.1,ef6.2.2⟩,fun now hp=>by obtain ⟨b,_,le,_⟩:=cnd now hp; exact Z18i le c⟩ (fun j s w' h=>h.1) ?_ ?_
  ·rintro k ⟨t,_⟩ v4 K2 hk8 ⟨rfl,f4,l,tl,lfit,hl⟩ - hK2
   have olt:∀ k,z.v.ownBlock=some k→k < v3.heap.size:=fun k e=>o3'.lt e
   refine joinI (fun t' v5=>Fr None v3 v5∧∃ l,SlT (fun k=>(k < n∨n0≤k)∧z.v.ownBlock≠some k) v5 compT t' l∧CFit (6+18 * j) l∧∀ now,PatchOk was gone come chg now→Holds (fun x:Comp=>x.1) l (lostP e c (k+1))) ?_ fun t' v5 ⟨f5,h5⟩=>hK2 _ _ ⟨succ8 ⟨k,hk8⟩,f5,h5⟩
   refine fldI (C3.fr f4 fun h=>h) (i:=1) (x:=q.2.1) rfl (chkI (Int.natCast_nonneg k) ?_)
   rw [q2]
   have hbit:=Z16r ⟨c.2.1.toNat,by omega⟩ ⟨k,hk8⟩
   have hcast:((c.2.1.toNat:Nat):Int)=c.2.1:=by omega
   dsimp only at hbit
   rw [hcast] at hbit
   rw [hbit]
   refine condI (fun hb=>?_) fun hb=>?_
   ·have hb:c.2.1.toNat.testBit k=false:=by simpa using hb
    exact ⟨f4,l,tl,lfit,fun now hp=>by obtain ⟨b,_,le,_⟩:=cnd now hp; exact Z16q le (hl now hp) hb⟩
   ·have hb:c.2.1.toNat.testBit k=true:=by simpa using hb
    have ly:∀ now,PatchOk was gone come chg now→(∃ x∈l,x.1=(k:Int))∧Holds (fun x:Comp=>x.1) (l.filter fun c=>!(c.1 == (k:Int))) (lostP e c (k+1)):=fun now hp=>by
     obtain ⟨b,ce,le,lb,_⟩:=cnd now hp
     have h1:=hl now hp
     rw [ce] at h1 hb ⊢
     exact Z14m le h1 hk8 hb
    refine Z5n tl (by have:=lfit.1; show _≤_; omega) fun v5 g5=>?_
    refine condD (fun hlt=>bad ((fv3.then f4.up).then g5.up) fun now hp=>Zsp (ly now hp).1 hlt) fun _=>?_
    refine Zrg (tl.fr0 g5) (by have:=lfit.1; show _≤_; omega) fun t' v6 o6 g6=>?_
    have g46:=g5.then0 g6
    have z5:=(f4.then0 g5).size
    have z3:=fv3.size
    exact ⟨f4.then0 g46,_,o6.sl.mono fun k _ (h:v5.heap.size≤k)=>⟨by omega,fun e=>by have:=olt k e; omega⟩,⟨Nat.le_trans (List.length_filter_le _ _) lfit.1,fun x hx=>lfit.2 x (List.mem_filter.1 hx).1⟩,fun now hp=>(ly now hp).2⟩
  rintro ⟨t,_⟩ v4 ⟨-,f4,l,tl,lfit,hl⟩
  have olt:∀ k,z.v.ownBlock=some k→k < v3.heap.size:=fun k e=>o3'.lt e
  refine fldI (C3.fr f4 fun h=>h) (i:=2) (x:=q.2.2.1) rfl ?_
  have n3:=q3.len
  have n4:=q4.len
  refine forI (N:=q.2.2.1.n) (fun s:Sl × Int=>s.2) (fun k st v'=>st.2=(k:Int)∧Fr None v3 v'∧∃ l,SlT (fun k=>(k < n∨n0≤k)∧z.v.ownBlock≠some k) v' compT st.1 l∧CFit (6+18 * j+k) l∧∀ now,PatchOk was gone come chg now→Holds (fun x:Comp=>x.1) l (newP e c k))
   ⟨rfl,f4,l,tl,lfit,fun now hp=>by obtain ⟨b,_,le,_⟩:=cnd now hp; exact Z19e le (hl now hp)⟩ (fun j s w' h=>h.1) ?_ ?_
  ·clear tl lfit hl f4
   clear l v4 t
   rintro k ⟨t,_⟩ v4 K2 hk3 ⟨rfl,f4,l,tl,lfit,hl⟩ - hK2
   obtain ⟨y,hy⟩:∃ y,c.2.2.1[k]?=some y:=⟨_,List.getElem?_eq_getElem (by omega)⟩
   refine (q3.fr0 (g3.then0 f4)).get rfl rfl (by omega) fun y' hy'=>?_
   rw [hy] at hy'
   cases hy'
   refine newI fun v5 E1 g5 y5=>stoAll E1 rfl rfl fun v6 E g6 y6=>?_
   have g46:Fr None v4 v6:=g5.newer g6 fun k e=>by omega
   have gd:Fr None v6 v6.drew:=(Fr.refl _ _).drew
   have g4d:=g46.then0 gd
   have f3d:=f4.then0 g4d
   have od:=(o3'.none f3d).sl
   refine od.readK rfl rfl hre fun ad had=>(had _ od).fld (i:=1) (s:=.sl) (y:=re.2) rfl (fldI (E.fr gd fun h=>h) (i:=0) (x:=y.1) rfl ?_)
   refine Z5n (re3.fr0 f3d) (by have:=ef6.2.1; show _≤_; omega) fun v7 g7=>?_
   have ns:∀ now,PatchOk was gone come chg now→(∀ x∈e.2,x.1≠y.1)∧Holds (fun x:Comp=>x.1) (withM l y) (newP e c (k+1)):=fun now hp=>by
    obtain ⟨b,ce,le,lb,_⟩:=cnd now hp
    have h1:=hl now hp
    rw [ce] at h1 hy ⊢
    exact Z14t lb hy h1
   have f37:=f3d.then0 g7
   refine condD (fun hge=>bad (fv3.then f37.up) fun now hp=>by have:=Z148 (ns now hp).1; omega) fun _=>?_
   refine aggI ((E.fr gd fun h=>h).fr g7 fun h=>h) (x:=y) rfl ?_
   refine Zr3 (tl.fr0 (g4d.then0 g7)) (by have:=lfit.1; show _≤_; omega) fun t' v8 o8 g8=>?_
   have z7:=f37.size
   have z3:=fv3.size
   exact hK2 _ _ ⟨wsucc hk3 (by omega),f37.then0 g8,_,o8.sl.mono fun k _ (h:v7.heap.size≤k)=>⟨by omega,fun e=>by have:=olt k e; omega⟩,lfit.withM (cno y (List.mem_of_getElem? hy)),fun now hp=>(ns now hp).2⟩
  clear tl lfit hl f4
  clear l v4 t
  rintro ⟨t,_⟩ v4 ⟨-,f4,l,tl,lfit,hl⟩
  refine fldI (C3.fr f4 fun h=>h) (i:=3) (x:=q.2.2.2) rfl ?_
  refine forI (N:=q.2.2.2.n) (fun s:Sl × Int=>s.2) (fun k st v'=>st.2=(k:Int)∧Fr None v3 v'∧∃ l,SlT (fun k=>(k < n∨n0≤k)∧z.v.ownBlock≠some k) v' compT st.1 l∧CFit (6+18 * j+9+k) l∧∀ now,PatchOk was gone come chg now→Holds (fun x:Comp=>x.1) l (setP e c k))
   ⟨rfl,f4,l,tl,⟨by have:=lfit.1; omega,lfit.2⟩,fun now hp=>Z19p (by omega) (hl now hp)⟩ (fun j s w' h=>h.1) ?_ ?_
  ·clear tl lfit hl f4
   clear l v4 t
   rintro k ⟨t,_⟩ v4 K2 hk3 ⟨rfl,f4,l,tl,lfit,hl⟩ - hK2
   obtain ⟨y,hy⟩:∃ y,c.2.2.2[k]?=some y:=⟨_,List.getElem?_eq_getElem (by omega)⟩
   refine (q4.fr0 (g3.then0 f4)).get rfl rfl (by omega) fun y' hy'=>?_
   rw [hy] at hy'
   cases hy'
   refine newI fun v5 E1 g5 y5=>stoAll E1 rfl rfl fun v6 E g6 y6=>?_
   have g46:Fr None v4 v6:=g5.newer g6 fun k e=>by omega
   refine fldI E (i:=0) (x:=y.1) rfl ?_
   refine Z5n (tl.fr0 g46) (by have:=lfit.1; show _≤_; omega) fun v7 g7=>?_
   have ns:∀ now,PatchOk was gone come chg now→(∃ x∈l,x.1=y.1)∧Holds (fun x:Comp=>x.1) (withM l y) (setP e c (k+1)):=fun now hp=>by
    obtain ⟨b,ce,le,lb,_⟩:=cnd now hp
    have h1:=hl now hp
    rw [ce] at h1 hy ⊢
    exact Z15e le lb hy h1
   have f37:=(f4.then0 g46).then0 g7
   refine condD (fun hlt=>bad (fv3.then f37.up) fun now hp=>Zsp (ns now hp).1 hlt) fun _=>?_
   refine aggI (E.fr g7 fun h=>h) (x:=y) rfl ?_
   refine Zr3 (tl.fr0 (g46.then0 g7)) (by have:=lfit.1; show _≤_; omega) fun t' v8 o8 g8=>?_
   have z7:=f37.size
   have z3:=fv3.size
   exact hK2 _ _ ⟨wsucc hk3 (by omega),f37.then0 g8,_,o8.sl.mono fun k _ (h:v7.heap.size≤k)=>⟨by omega,fun e=>by have:=olt k e; omega⟩,lfit.withM (cso y (List.mem_of_getElem? hy)),fun now hp=>(ns now hp).2⟩
  clear tl lfit hl f4
  clear l v4 t
  rintro ⟨t,_⟩ v4 ⟨-,f4,l,tl,lfit,hl⟩
  refine Z19n (NowS.fr0 (NowS.fr0 (w:=v2) ⟨rs,o,eR⟩ g3) f4) he tl fun v5 ns5 g5=>?_
  refine hK _ _ ⟨wsucc hj (by omega),(fv3.then f4.up).then g5,_,ns5,Z18r lf (by omega) he ⟨by have:=lfit.1; omega,lfit.2⟩,fun now hp=>?_⟩
  obtain ⟨b,ce,le,lb,h5⟩:=cnd now hp
  have h1:=hl now hp
  have h6:l=b.2:=by
   rw [ce] at h1 n4
   exact Z179 le lb (by omega) h1
  rw [h6]
  exact h5
 clear ns lf hL'
 clear L
 rintro s v ⟨-,fv,L,ns,lf,hL'⟩
 rw [hdl] at hL' lf
 have sv:=fv.size
 have B1v:=B1.frUp fv b1n
 refine fldI B1v (i:=1) (x:=rD.2.1) rfl ?_
 refine forI (N:=rD.2.1.n) (fun s:Sl × Int=>s.2) (fun j st u=>st.2=(j:Int)∧Fr None v u∧∃ L,NowS n n0 u st.1 L∧LFit (was.length+j) 1048576 L∧∀ now,PatchOk was gone come chg now→Holds (fun x:Ent=>x.1) L (comeP was now come j))
  ⟨rfl,Fr.refl _ _,L,ns,⟨by have:=lf.1; omega,fun e he=>by have:=lf.2 e he; exact ⟨this.1,by omega,this.2.2⟩⟩,fun now hp=>Z187 hf hp (Nat.le_refl _) (hL' now hp)⟩ (fun j s w' h=>h.1) ?_ ?_
 ·clear ns lf hL'
  clear L
  rintro j ⟨y,_⟩ u1 K' hj ⟨rfl,g1,L,ns,lf,hL'⟩ - hK
  obtain ⟨e,he⟩:∃ e,come[j]?=some e:=⟨_,List.getElem?_eq_getElem (by omega)⟩
  obtain ⟨r,hr,r1,r2⟩:=dc2.get he
  have fu1:=fv.then g1.up
  refine (dc1.fr fu1 lt).get rfl rfl (List.getElem?_eq_some_iff.1 hr).1 fun r' hr'=>?_
  rw [hr] at hr'
  cases hr'
  refine newI fun u2 C1 g2 y2=>stoAll C1 rfl rfl fun u3 C g3 y3=>?_
  have g13:Fr None u1 u3:=g2.newer g3 fun k e=>by omega
  have fu3:=fu1.then g13.up
  refine fldI C (i:=0) (x:=r.1) rfl (Z47 (hS'.fr fu3 lt) (hE'.fr fu3 lt) (by omega) fun u4 g4=>?_)
  rw [r1]
  have fu4:=fu3.then g4.up
  have st:∀ now,PatchOk was gone come chg now→(∀ x∈was,x.1≠e.1)∧Holds (fun x:Ent=>x.1) (insG e false L) (comeP was now come (j+1)):=fun now hp=>Z12y hp he (hL' now hp)
  rcases Zei (L:=was) (id:=e.1) with ⟨ef,hno⟩ | ⟨i,a,ef,ha,hid⟩
  ·rw [ef]
   refine condF rfl ?_
   have s4:=fu4.size
   have ll:=lf.1
   refine Z19m ((ns.fr0 g13).fr0 g4) (by omega) (by omega) (C.fr g4 fun h=>h) r1 (r2.fr fu4 lt) hn0n fun z' u5 ns5 g5=>?_
   have:=hC e (List.mem_of_getElem? he)
   exact hK _ _ ⟨wsucc hj (by omega),((g1.then0 g13).then0 g4).then0 g5,_,ns5,Z16o lf ⟨this.1,this.2.1,this.2.2⟩,fun now hp=>(st now hp).2⟩
  ·rw [ef]
   refine condT (decide_eq_true (Int.natCast_nonneg i)) (bad fu4 fun now hp=>(st now hp).1 a (List.mem_of_getElem? ha) hid)
 clear ns lf hL'
 clear L
 rintro ⟨y,_⟩ u1 ⟨-,g1,L,⟨rs,o,eR⟩,lf,hL'⟩
 rw [hcl] at hL' lf
 have fu1:=fv.then g1.up
 have uniq:∀ now,PatchOk was gone come chg now→L=now:=fun now hp=>Z13w hp (Nat.le_refl _) (hL' now hp)
 have lfit:∀ e∈L,EntFit e:=fun e he=>lf.2 e he
 have llen:=lf.1
 have f03:Fr None w u1:=f02.thenUp fu1 (by omega)
 refine Zol (ok2:=fun _=>True) (hS'.fr fu1 lt) (hE'.fr fu1 lt) (o.sl.mono fun _ _ _=>trivial) (eR.mono fun _ _ _=>trivial) (by omega) (by omega) hL lfit (fun hbad u4 g4=>?_) fun hgood rr u4 dr g4=>?_
 ·refine newI fun u5 B5 g5 y5=>stoAll B5 rfl rfl fun u6 B6 g6 y6=>?_
  have f06:=(f03.then0 g4).then0 (g5.newer g6 fun k e=>by omega)
  refine joinI (fun z v=>z=true∧v=u6) (condT (by simpa using hbad) ⟨rfl,rfl⟩) ?_
  rintro z v ⟨rfl,rfl⟩
  refine condT rfl (h0 (fun now hp2=>?_) _ f06)
  have:=uniq now hp2
  subst this
  refine hbad ?_
  unfold diffE
  rw [if_neg (by rw [formOk.2 hf]; simp)]
  exact formOk.2 hp2.form
 ·refine newI fun u5 B5 g5 y5=>stoAll B5 rfl rfl fun u6 B6 g6 y6=>?_
  have g46:Fr None u4 u6:=g5.newer g6 fun k e=>by omega
  have g36:=g4.then0 g46
  have f06:=f03.then0 g36
  have B16:=(B1v.fr g1 fun h=>h).fr g36 fun h=>h
  refine joinI (fun z v=>(z=!decide (goneM was L=gone∧comeM was L=come∧chgsM was L=chg))∧Fr None u6 v) (condF rfl ?_) ?_
  ·refine aggI B6 (x:=rr) rfl (aggI B16 (x:=rD) rfl ?_)
   have fl:∀ e∈comeM was L,Small e.2:=fun e he=>(lfit e (List.mem_filter.1 he).1).2.1
   have cl:(comeM was L).length≤L.length:=List.length_filter_le _ _
   have gl:(goneM was L).length≤was.length:=by unfold goneM; rw [List.length_map]; exact List.length_filter_le _ _
   have dl:(chgsM was L).length≤L.length:=Za8 _ _
   have ds:∀ d∈chgsM was L,Small d.2.2.1∧Small d.2.2.2:=fun d hd=>by
    obtain ⟨b,hb,h2⟩:=List.mem_filterMap.1 hd
    obtain ⟨_,a,ha,_,h3,_⟩:=Z8i h2
    have hb2:=(lfit b hb).2.1
    rw [h3]
    exact ⟨Nat.le_trans (Zpx _ _) hb2,Nat.le_trans (Zv4 _ _) hb2⟩
   refine Zx9 (ok2:=fun k=>k < n) (DltR.st.fr0 dr g46) (DltR.st.fr0 (DltR.st (show DltR (fun k=>k < n) w2 rD gone come chg from ⟨dg,⟨rc,dc1,dc2⟩,⟨rd,dd1,dd2⟩⟩) fu1 fun k _ e=>⟨lt k e,e⟩) g36) ⟨by show _≤_; omega,by omega,by omega⟩ fl ds fun u7 g7=>⟨rfl,g7⟩
  rintro _ u7 ⟨rfl,g7⟩
  have f07:=f06.then0 g7
  have hdl:=Zpl hgood
  refine condI (fun hb=>?_) fun hb=>?_
  ·have hb:¬ (goneM was L=gone∧comeM was L=come∧chgsM was L=chg):=of_decide_eq_false (by rw [Bool.not_eq_true'] at hb; exact hb)
   refine h0 (fun now hp2=>?_) _ f07
   have:=uniq now hp2
   subst this
   exact hb ⟨hp2.gone,hp2.come,hp2.chg⟩
  ·have hb:goneM was L=gone∧comeM was L=come∧chgsM was L=chg:=of_decide_eq_true (by rw [Bool.not_eq_false'] at hb; exact hb)
   have g37:=g36.then0 g7
   refine Zk2 (ok:=fun _=>True) ((o.none g37).sl.mono fun _ _ _=>trivial) ((eR.fr g37 fun _ _ h=>h).mono fun _ _ _=>trivial) (by omega) (fun e he=>(lfit e he).2.1) fun r8 raws8 u8 o8 e8 g8=>?_
   have s7:=f07.size
   exact hk L ⟨hdl,hb.1,hb.2.1,hb.2.2⟩ lfit llen r8 raws8 u8 (o8.mono fun k _ (e:u7.heap.size≤k)=>by show w.heap.size≤k; omega) (e8.mono fun k _ (e:u7.heap.size≤k)=>by show w.heap.size≤k; omega) (f07.then0 g8)
end Go.Proofs.YtchhhjlpnecjkaaGreat
namespace Go.Proofs.YtchhhjlpnecjkaaGreat
open Go Go.RowKit Go.Proofs.YtchhhjlpnecjkaaGreat.Den
variable {R:Type} {Q:R→World→Prop} {w:World}
theorem Z11f (v:Nat):∀ n,bitsOf (v % 2 ^ n) n=bitsOf v n:=by
 intro n
 have:∀ k,k≤n→bitsOf (v % 2 ^ n) k=bitsOf v k:=by
  intro k
  induction k with
  | zero=>intro _; rfl
  | succ k ih =>
   intro hk
   rw [bitsOf,bitsOf,ih (by omega),Nat.testBit_mod_two_pow]
   simp [show k < n by omega]
 exact this n (Nat.le_refl _)
theorem freshL {ok:Nat→Prop} {s:Sl} {l:List Bool} (hS:SlT ok w boolT s l) (hm:l.length≤1048576) {K:Sl→W R} (hk:∀ r w',Own (Up w.heap.size) w' 4 boolT r l→Fr None w w'→K r Q w') :
  newW 4 [] (fun x=>rawW Tryz.prog (Builtin.append_ #[70,70] 70 #[.slice (some x) 0 0,.slice s.a s.n s.c]) [.sc .sl] K) Q w:=by
 refine newI fun w1 B1 f1 s1=>?_
 have own:=Own.mk' (S:=Up w.heap.size) (w:=w1) (E:=4) (t:=boolT) (l:=[]) (g:=w.heap.size) (c:=0) (cur:=⟨[]⟩) (Nat.le_refl _) B1 (Nat.le_refl _) (Nat.zero_le _) (by simp) (by simp)
 refine appI (s:=⟨some ⟨w.heap.size,0,none⟩,0,0⟩) (s2:=s) (S':=Up w.heap.size) Z9n own (hS.fr0 f1) (by simp; omega) (by rw [Z1j]; simp; omega) (fun _ h=>h) (by show _≤_; omega) fun r w2 o2 f2 s2=>hk r w2 (by simpa using o2) (f1.newer f2 (fun x e=>own.own x e))
theorem Z17n (v i:Nat):(Int.tmod ((v / 2 ^ i:Nat):Int) 2 == 1)=v.testBit i:=by
 rw [Nat.testBit_eq_decide_div_mod_eq]
 generalize v / 2 ^ i=q
 rw [Int.tmod_eq_emod_of_nonneg (by omega),Bool.eq_iff_iff]
 simp only [decide_eq_true_eq,beq_iff_eq]
 omega
theorem Z14c {v i:Nat} (hv:v < 18446744073709551616):IntKind.wrap .u64 (Int.tdiv ((v / 2 ^ i:Nat):Int) 2)=((v / 2 ^ (i+1):Nat):Int):=by
 have h:v / 2 ^ i≤18446744073709551615:=Nat.le_trans (Nat.div_le_self _ _) (by omega)
 rw [Nat.pow_succ,← Nat.div_div_eq_div_mul]
 generalize v / 2 ^ i=q at h
 rw [Int.tdiv_eq_ediv_of_nonneg (by omega),wU64 (by omega)]
 omega
theorem Z7v {ok:Nat→Prop} {s:Sl} {l:List Bool} (hS:SlT ok w boolT s l) {v:Nat} {n:Nat} (hn:n≤64) (hv:v < 2 ^ n) (hm:l.length+n≤1048576) {K:Res [.sc .sl,.sc (.int .i64)]→W R} (hk:∀ r w',Own (Up w.heap.size) w' 4 boolT r (l ++ bitsOf v n)→Fr None w w'→K (r,0) Q w') :
  callW Tryz.prog Zr [.slice s.a s.n s.c,.int .u64 (v:Int),.int .i64 (n:Int)] [.sc .sl,.sc (.int .i64)] K Q w:=by
 refine Zmy s _ _ K Q w ?_
 unfold Z86
 have hv64:v < 18446744073709551616:=Nat.lt_of_lt_of_le hv (Nat.le_trans (Nat.pow_le_pow_right (by decide) hn) (by decide))
 refine joinI (fun z u=>z=false∧w=u) ?_ ?_
 ·exact condF (decide_eq_false (by omega)) ⟨decide_eq_false (by omega),rfl⟩
 rintro z u ⟨rfl,rfl⟩
 refine condF rfl (freshL hS (by omega) fun x w1 o1 f1=>?_)
 refine forI (N:=n) (fun s:Int × Sl × Int=>s.2.2) (fun j st u=>st.2.2=(j:Int)∧st.1=((v / 2 ^ j:Nat):Int)∧Own (Up w.heap.size) u 4 boolT st.2.1 (l ++ bitsOf v j)∧Fr None w u) ⟨rfl,by simp,by simpa [bitsOf] using o1,f1⟩ (fun j s w' h=>h.1) ?_ ?_
 ·rintro j ⟨a,z,_⟩ u K' hj ⟨rfl,rfl,o,fu⟩ - hK
  have hz:=fu.size
  have hl:=Z4 v j
  refine appP (x:=(Int.tmod ((v / 2 ^ j:Nat):Int) 2 == 1)) Z9n rfl o (fun k e=>by show w.heap.size≤k; omega) (by simp only [List.length_append,hl]; omega) (by simp only [List.length_append,hl]; omega) fun r u2 o2 f2=>?_
  refine hK _ _ ⟨wsucc hj (by omega),Z14c hv64,?_,fu.newer f2 fun k e=>o.own k e⟩
  rw [Z17n,List.append_assoc] at o2
  exact o2
 ·rintro ⟨a,z,_⟩ u ⟨_,rfl,o,fu⟩
  have hl:=Z4 v n
  have hzn:=o.len
  rw [List.length_append,hl] at hzn
  refine condN (fun hne=>?_) fun _=>?_
  ·have:v / 2 ^ n=0:=Nat.div_eq_of_lt hv
   have hne:((v / 2 ^ n:Nat):Int)≠0:=hne
   omega
  ·refine condF (decide_eq_false ?_) (hk z u o fu)
   show ¬ (z.n:Int) > 1048576
   have hzn:z.n=l.length+n:=hzn
   omega
theorem Ztg {n:Int} (hn:-4611686018427387904≤n∧n≤4611686018427387903) {K:Res [.sc (.int .u64)]→W R} (hk:K (zigM n) Q w):callW Tryz.prog Z4z [.int .i64 n] [.sc (.int .u64)] K Q w:=by
 refine Zn1 _ K Q w ?_
 unfold Z89
 unfold zigM at hk
 refine condD (fun h=>?_) fun h=>?_
 ·rw [if_neg (by omega)] at hk
  rw [w64 (x:=-1 - n) (by omega),wU64 (x:=-1 - n) (by omega),wU64 (x:=2 * (-1 - n)) (by omega),wU64 (by omega)]
  have:2 * (-1 - n)+1=-2 * n - 1:=by omega
  rw [this]
  exact hk
 ·rw [if_pos (by omega)] at hk
  rw [wU64 (x:=n) (by omega),wU64 (by omega)]
  exact hk
theorem Zon {lo hi:Int} (h1:-9223372036854775808≤lo∧lo≤9223372036854775807) (h2:-9223372036854775808≤hi∧hi≤9223372036854775807) {K:Res [.sc (.int .i64)]→W R} (hk:K (widthM lo hi:Int) Q w):callW Tryz.prog Z3d [.int .i64 lo,.int .i64 hi] [.sc (.int .i64)] K Q w:=by
 refine Zip _ _ K Q w ?_
 unfold Z66
 refine joinI (fun z u=>z=(widthM lo hi:Int)∧w=u) ?_ fun z u ⟨hz,hu⟩=>by subst hz; subst hu; exact hk
 refine condD (fun h=>?_) fun h=>?_
 ·have h:lo≤hi:=h
  rw [Zi2 h1.1 h h2.2]
  have hw:widthM lo hi=Lib.bitLen (hi - lo).toNat:=by unfold widthM; rw [if_neg (by omega)]
  rw [hw]
  obtain ⟨D,hD⟩:∃ D,D=(hi - lo).toNat:=⟨_,rfl⟩
  have hD2:D < 18446744073709551616:=by omega
  have e:hi - lo=(D:Int):=by omega
  rw [e,Int.toNat_natCast]
  have hb:Lib.bitLen D≤64:=Lib.bitLen_le D 64 (by omega) (by omega)
  refine loopI (fun (st:Int × Int) u=>w=u∧∃ k d:Nat,st=((k:Int),(d:Int))∧d≤D∧k+Lib.bitLen d=Lib.bitLen D) (fun st _=>st.2.toNat) ⟨rfl,0,D,rfl,Nat.le_refl _,by omega⟩ ?_
  rintro st u ⟨rfl,k,d,rfl,hd,hkd⟩
  dsimp only
  refine condD (fun hp=>?_) fun hp=>?_
  ·have hp:(d:Int) > 0:=hp
   have h2:=Lib.bitLen_half d (by omega) (by omega)
   rw [Int.tdiv_eq_ediv_of_nonneg (by omega),wU64 (x:=(d:Int) / 2) (by omega),w64 (by omega)]
   refine ⟨⟨rfl,k+1,d / 2,by congr 1,by omega,by omega⟩,by omega⟩
  ·have hp:¬ (d:Int) > 0:=hp
   have:d=0:=by omega
   subst this
   have h0:Lib.bitLen 0=0:=by decide +kernel
   exact ⟨by rw [h0] at hkd; omega,rfl⟩
 ·unfold widthM
  rw [if_pos (by have h:¬ hi ≥ lo:=h; omega)]
  exact ⟨rfl,rfl⟩
theorem Zid {n lo hi:Int} (h1:-9223372036854775808≤lo) (h2:lo≤n) (h3:n≤hi) (h4:hi≤9223372036854775807) {K:Res [.sc .sl,.sc (.int .i64)]→W R} (hk:∀ r w',Own (Up w.heap.size) w' 4 boolT r (inB n lo hi)→Fr None w w'→K (r,0) Q w') :
  callW Tryz.prog Z2j [.int .i64 n,.int .i64 lo,.int .i64 hi] [.sc .sl,.sc (.int .i64)] K Q w:=by
 refine Zox _ _ _ K Q w ?_
 unfold Z9a
 refine condF (decide_eq_false (by omega)) ?_
 refine joinI (fun z u=>z=false∧w=u) ?_ ?_
 ·exact condF (decide_eq_false (by omega)) ⟨decide_eq_false (by omega),rfl⟩
 rintro z u ⟨rfl,rfl⟩
 refine condF rfl (Zon (by omega) (by omega) ?_)
 rw [Zi2 h1 h2 (by omega)]
 have hw:=Zxk h2 h3 (by omega)
 have hl:=Z49 (lo:=lo) (hi:=hi) (by omega)
 have e:n - lo=(((n - lo).toNat:Nat):Int):=by omega
 rw [e]
 exact Z7v (s:=⟨none,0,0⟩) (l:=[]) (ok:=None) (SlT.nil _) hl (by simpa using hw) (by simp; omega) fun r w' o f=>hk r w' (by simpa [inB] using o) f
theorem Zm6 {v j:Nat} (hv:v < 18446744073709551616):j+1 < groupsM v↔0 < v / 2 ^ (4 * (j+1)):=by
 unfold groupsM
 rcases Nat.eq_zero_or_pos v with rfl | hp
 ·have h0:Lib.bitLen 0=0:=by decide +kernel
  rw [h0]
  simp
 ·obtain ⟨h1,h2,h3⟩:=Lib.bitLenAux_bounds 64 v hv (by omega)
  have h1:1≤Lib.bitLen v:=h1
  have h2:2 ^ (Lib.bitLen v - 1)≤v:=h2
  have h3:v < 2 ^ Lib.bitLen v:=h3
  constructor
  ·intro h
   refine Nat.div_pos (Nat.le_trans (Nat.pow_le_pow_right (by decide) (by omega)) h2) (Nat.two_pow_pos _)
  ·intro h
   refine Classical.byContradiction fun hc=>?_
   have:v < 2 ^ (4 * (j+1)):=Nat.lt_of_lt_of_le h3 (Nat.pow_le_pow_right (by decide) (by omega))
   rw [Nat.div_eq_of_lt this] at h
   omega
theorem Z16k {v j:Nat} (hv:v < 18446744073709551616):bitsOf (grpV v (groupsM v) j) 5=bitsOf (v / 2 ^ (4 * j)) 4 ++ [decide (0 < v / 2 ^ (4 * (j+1)))]:=by
 have h5:∀ x:Nat,bitsOf x 5=bitsOf x 4 ++ [x.testBit 4]:=fun x=>rfl
 rw [h5]
 have hq:grpV v (groupsM v) j % 2 ^ 4=v / 2 ^ (4 * j) % 2 ^ 4:=by
  unfold grpV
  show _ % 16=_ % 16
  split <;> omega
 congr 1
 ·rw [← Z11f _ 4,hq,Z11f]
 ·rw [Nat.testBit_eq_decide_div_mod_eq]
  congr 1
  rw [decide_eq_decide,← Zm6 hv]
  unfold grpV
  show _ / 16 % 2=1↔_
  split <;> omega
theorem Z7w {v:Nat} (hv:v < 18446744073709551616) {K:Res [.sc .sl]→W R} (hk:∀ r w',Own (Up w.heap.size) w' 4 boolT r (varB v)→Fr None w w'→K r Q w') :
  callW Tryz.prog Zs [.int .u64 (v:Int)] [.sc .sl] K Q w:=by
 refine Zmz _ K Q w ?_
 unfold Z87
 have hg:=Z9e (v:=(v:Int)) (by omega) (by omega)
 rw [Int.toNat_natCast] at hg
 refine loopI (fun (st:Int × Sl) u=>∃ j:Nat,j < groupsM v∧st.1=((v / 2 ^ (4 * j):Nat):Int)∧Own (Up w.heap.size) u 4 boolT st.2 (varL v (groupsM v) j)∧Fr None w u) (fun st _=>st.1.toNat) ⟨0,by omega,by simp,Own.nil _ _ _ _,Fr.refl _ _⟩ ?_
 rintro ⟨a,s⟩ u ⟨j,hj,rfl,o,fu⟩
 dsimp only at o ⊢
 have hl:=Zrw v (groupsM v) j
 have hvj:v / 2 ^ (4 * j) < 18446744073709551616:=Nat.lt_of_le_of_lt (Nat.div_le_self _ _) hv
 refine forI (N:=4) (fun s:Int × Sl × Int=>s.2.2) (fun i st u=>st.2.2=(i:Int)∧st.1=((v / 2 ^ (4 * j) / 2 ^ i:Nat):Int)∧Own (Up w.heap.size) u 4 boolT st.2.1 (varL v (groupsM v) j ++ bitsOf (v / 2 ^ (4 * j)) i)∧Fr None w u) ⟨rfl,by simp,by simpa [bitsOf] using o,fu⟩ (fun j s w' h=>h.1) ?_ ?_
 ·rintro i ⟨a,z,_⟩ u K' hi ⟨rfl,rfl,o,fu⟩ - hK
  have hz:=fu.size
  have hli:=Z4 (v / 2 ^ (4 * j)) i
  refine appP (x:=(Int.tmod ((v / 2 ^ (4 * j) / 2 ^ i:Nat):Int) 2 == 1)) Z9n rfl o (fun k e=>by show w.heap.size≤k; omega) (by simp only [List.length_append,hli,hl]; omega) (by simp only [List.length_append,hli,hl]; omega) fun r u2 o2 f2=>?_
  refine hK _ _ ⟨wsucc hi (by omega),Z14c hvj,?_,fu.newer f2 fun k e=>o.own k e⟩
  rw [Z17n,List.append_assoc] at o2
  exact o2
 ·rintro ⟨a,z,_⟩ u ⟨_,rfl,o,fu⟩
  have hz:=fu.size
  have e16:v / 2 ^ (4 * j) / 2 ^ 4=v / 2 ^ (4 * (j+1)):=by rw [Nat.div_div_eq_div_mul,← Nat.pow_add]; rfl
  dsimp only
  rw [e16]
  have hli:=Z4 (v / 2 ^ (4 * j)) 4
  have eb:decide (((v / 2 ^ (4 * (j+1)):Nat):Int) > 0)=decide (0 < v / 2 ^ (4 * (j+1))):=decide_eq_decide.2 (by omega)
  rw [eb]
  refine appP (x:=decide (0 < v / 2 ^ (4 * (j+1)))) Z9n rfl o (fun k e=>by show w.heap.size≤k; omega) (by simp only [List.length_append,hli,hl]; omega) (by simp only [List.length_append,hli,hl]; omega) fun r u2 o2 f2=>?_
  rw [List.append_assoc,← Z16k hv] at o2
  have o2:Own (Up w.heap.size) u2 4 boolT r (varL v (groupsM v) (j+1)):=o2
  have f2':=fu.newer f2 fun k e=>o.own k e
  refine condE (fun h0=>?_) fun h0=>?_
  ·have hn:=Zm6 (j:=j) hv
   have:j+1=groupsM v:=by
    have h0:v / 2 ^ (4 * (j+1))=0:=by exact_mod_cast h0
    have:=fun h=>Nat.not_lt_zero 0 (h0 ▸ hn.1 h)
    omega
   rw [this] at o2
   exact hk r u2 o2 f2'
  ·have hn:=Zm6 (j:=j) hv
   have hpos:0 < v / 2 ^ (4 * (j+1)):=Nat.pos_of_ne_zero fun h=>h0 (by rw [h]; rfl)
   refine ⟨⟨j+1,hn.2 hpos,rfl,o2,f2'⟩,?_⟩
   simp only [Int.toNat_natCast]
   rw [← e16]
   have:0 < v / 2 ^ (4 * j):=by rw [← e16] at hpos; exact Nat.lt_of_lt_of_le hpos (Nat.div_le_self _ _)
   exact Nat.div_lt_self this (by decide)
end Go.Proofs.YtchhhjlpnecjkaaGreat
namespace Go.Proofs.YtchhhjlpnecjkaaGreat
open Go Go.RowKit Go.Proofs.YtchhhjlpnecjkaaGreat.Den
variable {R:Type} {Q:R→World→Prop} {w:World}
theorem appB {n:Nat} {ok:Nat→Prop} {s s2:Sl} {l l2:List Bool} (h:Own (Up n) w 4 boolT s l) (hn:n≤w.heap.size) (h2:SlT ok w boolT s2 l2) (hm:l.length+l2.length≤140737488355328) {K:Sl→W R} (hk:∀ r w',Own (Up n) w' 4 boolT r (l ++ l2)→Fr (Up n) w w'→K r Q w') :
  rawW Tryz.prog (Builtin.append_ #[70,70] 70 #[.slice s.a s.n s.c,.slice s2.a s2.n s2.c]) [.sc .sl] K Q w :=
 appI Z9n (S':=Up n) h h2 (by omega) (by rw [Z1j]; omega) (fun _ h=>h) (by show n≤_; exact hn) fun r w' o f _=>hk r w' o (f.sub fun k e=>h.own k e)
theorem Zpp (n lo hi:Int):(inB n lo hi).length=widthM lo hi:=Z4 _ _
theorem Zac (p:Part):(partB p).length=p.2.toNat:=Z4 _ _
theorem Zff {α β:Type} (f:α→List β) (m:Nat):∀ l:List α,(∀ a∈l,(f a).length≤m)→(l.flatMap f).length≤m * l.length
 | [],_=>by simp
 | a :: r,h=>by
  have h1:=h a List.mem_cons_self
  have h2:=Zff f m r fun x hx=>h x (List.mem_cons_of_mem _ hx)
  rw [List.flatMap_cons,List.length_append,List.length_cons,Nat.mul_succ]
  omega
theorem Z11c {c:Comp} (h:checkM c=0) (hc:CompOk c) {K:Res [.sc .sl,.sc (.int .i64)]→W R} (hk:∀ r w',Own (Up w.heap.size) w' 4 boolT r (compB c)→Fr None w w'→K (r,0) Q w') :
  callW Tryz.prog Z8o [.agg ⟨compC c⟩] [.sc .sl,.sc (.int .i64)] K Q w:=by
 refine Zn4 c K Q w ?_
 unfold Z8c
 have hcn:=Z5j c.1
 refine newI fun w1 B1 f1 z1=>aggI B1 (x:=c) rfl (Z8w hc.1.1 fun w2 f2=>?_)
 rw [h]
 have f02:=f1.then0 f2
 refine condF rfl (fldI (B1.fr f2 fun h=>h) (i:=0) (x:=c.1) rfl (Z48 hc.1.1 fun w3 f3=>?_))
 have f03:=f02.then0 f3
 have B3:=(B1.fr f2 fun h=>h).fr f3 fun h=>h
 have hz3:=f03.size
 refine forI (N:=cntM c.1) (fun s:Sl × Int=>s.2) (fun j st u=>st.2=(j:Int)∧Own (Up w3.heap.size) u 4 boolT st.1 ((List.range j).flatMap fun i=>partB (fieldP c i))∧Fr None w3 u) ⟨rfl,Own.nil _ _ _ _,Fr.refl _ _⟩ (fun j s w' h=>h.1) ?_ ?_
 ·rintro j ⟨a,_⟩ u K' hj ⟨rfl,o,fu⟩ - hK
  have Bu:=B3.fr fu fun h=>h
  obtain ⟨h1,h2⟩:=Zwf h hj
  obtain ⟨r1,r2⟩:=Z1p c.1 (j:Int)
  refine fldI Bu (i:=0) (x:=c.1) rfl (Z8x hc.1.1 fun u2 g2=>?_)
  refine fIdx rfl (by omega) (fld0 (Bu.fr g2 fun h=>h) (x:=fl c j) (Z2c c (by omega)) ?_)
  have hfl:=flI hc j
  rw [w64 (x:=fl c j) (by omega),w64 (x:=(rangeM c.1 (j:Int)).1) (by omega),w64 (x:=(rangeM c.1 (j:Int)).2.1) (by omega)]
  refine Zid (by omega) h1 h2 (by omega) fun r u3 o3 g3=>?_
  have g23:=g2.then0 g3
  have hzu:=fu.size
  have hz2:=g2.size
  have hz3':=g3.size
  have hl:((List.range j).flatMap fun i=>partB (fieldP c i)).length≤64 * (List.range j).length:=Zff _ 64 _ fun i hi=>by
   obtain ⟨q1,q2⟩:=Z1p c.1 (i:Int)
   have:=Z49 (lo:=(rangeM c.1 (i:Int)).1) (hi:=(rangeM c.1 (i:Int)).2.1) (by omega)
   rw [Zac]
   unfold fieldP
   rw [Int.toNat_natCast]
   exact this
  rw [List.length_range] at hl
  have hw:=Z49 (lo:=(rangeM c.1 (j:Int)).1) (hi:=(rangeM c.1 (j:Int)).2.1) (by omega)
  have hil:=Zpp (fl c j) (rangeM c.1 (j:Int)).1 (rangeM c.1 (j:Int)).2.1
  refine appB (o.none g23) (by omega) o3.sl (by omega) fun r2 u4 o4 g4=>?_
  refine hK _ _ ⟨wsucc hj (by omega),?_,(fu.then0 g23).newer g4 fun k e=>e⟩
  rw [List.range_succ,List.flatMap_append,List.flatMap_cons,List.flatMap_nil,List.append_nil,fieldB h1 h2]
  exact o4
 ·rintro ⟨a,_⟩ u ⟨_,o,fu⟩
  refine hk a u ?_ (f03.then0 fu)
  rw [Z11k]
  exact o.up hz3
theorem Zze {was c:Comp} (h:pairM was c=0) (hw:CompOk was) (hc:CompOk c) {K:Res [.sc .sl,.sc (.int .i64)]→W R} (hk:∀ r w',Own (Up w.heap.size) w' 4 boolT r (stepB2 was c)→Fr None w w'→K (r,0) Q w') :
  callW Tryz.prog Z41 [.agg ⟨compC was⟩,.agg ⟨compC c⟩] [.sc .sl,.sc (.int .i64)] K Q w:=by
 refine Zkj was c K Q w ?_
 unfold Z78
 have hcw:checkM was=0:=by unfold pairM at h; split at h <;> omega
 obtain ⟨hk1,hcc⟩:=Z153 h
 have hcn:=Z5j c.1
 refine newI fun w1 B1 f1 z1=>newI fun w2 B2 f2 z2=>?_
 have B1:=B1.fr f2 fun h=>h
 refine aggI B1 (x:=was) rfl (Z8w hw.1.1 fun w3 f3=>?_)
 rw [hcw]
 have B1:=B1.fr f3 fun h=>h
 have B2:=B2.fr f3 fun h=>h
 refine condF rfl (aggI B2 (x:=c) rfl (Z8w hc.1.1 fun w4 f4=>?_))
 rw [hcc]
 have B1:=B1.fr f4 fun h=>h
 have B2:=B2.fr f4 fun h=>h
 refine condF rfl (fldI B1 (i:=0) (x:=was.1) rfl (fldI B2 (i:=0) (x:=c.1) rfl ?_))
 refine condF (by simp [hk1]) (fldI B2 (i:=0) (x:=c.1) rfl (Z48 hc.1.1 fun w5 f5=>?_))
 have B1:=B1.fr f5 fun h=>h
 have B2:=B2.fr f5 fun h=>h
 have f05:=(((f1.then0 f2).then0 f3).then0 f4).then0 f5
 have hz5:=f05.size
 refine forI (N:=cntM c.1) (fun s:Sl × Int=>s.2) (fun j st u=>st.2=(j:Int)∧Own (Up w5.heap.size) u 4 boolT st.1 ((List.range j).flatMap fun i=>(oneP was c i).flatMap partB)∧Fr None w5 u) ⟨rfl,Own.nil _ _ _ _,Fr.refl _ _⟩ (fun j s w' h=>h.1) ?_ ?_
 ·rintro j ⟨a,_⟩ u K' hj ⟨rfl,o,fu⟩ - hK
  have fd:Fr None u u.drew:=(Fr.refl _ _).drew
  have fud:=fu.then0 fd
  have o:=o.none fd
  have B1u:=B1.fr fud fun h=>h
  have B2u:=B2.fr fud fun h=>h
  have hzu:w5.heap.size≤u.drew.heap.size:=fud.size
  obtain ⟨h1,h2⟩:=Zwf hcc hj
  obtain ⟨r1,r2⟩:=Z1p c.1 (j:Int)
  have hflc:=flI hc j
  have hflw:=flI hw j
  have hzn:=Z18y (fl c j - fl was j)
  have hwd:=Z49 (lo:=(rangeM c.1 (j:Int)).1) (hi:=(rangeM c.1 (j:Int)).2.1) (by omega)
  have hl:((List.range j).flatMap fun i=>(oneP was c i).flatMap partB).length≤1000 * (List.range j).length:=Zff _ 1000 _ fun i hi=>by
   obtain ⟨q1,q2⟩:=Z1p c.1 (i:Int)
   have:=Z49 (lo:=(rangeM c.1 (i:Int)).1) (hi:=(rangeM c.1 (i:Int)).2.1) (by omega)
   unfold oneP
   split
   ·simp [Zac]
   ·split
    ·simp [Zac]
    ·simp only [List.flatMap_cons,List.flatMap_nil,List.length_append,Zac,List.length_nil]
     unfold fieldP
     rw [Int.toNat_natCast]
     show 1+(1+(widthM (rangeM c.1 (i:Int)).1 (rangeM c.1 (i:Int)).2.1+0))≤1000
     omega
  rw [List.length_range] at hl
  refine joinI (fun z v=>Own (Up w5.heap.size) v 4 boolT z ((List.range (j+1)).flatMap fun i=>(oneP was c i).flatMap partB)∧Fr None w5 v) ?_ ?_
  ·refine fIdx rfl (by omega) (fld0 B2u (x:=fl c j) (Z2c c (by omega)) ?_)
   refine fIdx rfl (by omega) (fld0 B1u (x:=fl was j) (Z2c was (by omega)) ?_)
   rw [w64 (x:=fl c j) (by omega),w64 (x:=fl was j) (by omega),w64 (x:=fl c j - fl was j) (by omega)]
   refine Ztg (by omega) ?_
   rw [List.range_succ,List.flatMap_append,List.flatMap_cons,List.flatMap_nil,List.append_nil]
   have p1:∀ b:Bool,partB ((if b then 1 else 0:Int),1)=[b]:=fun b=>by cases b <;> rfl
   refine appP (x:=decide (zigM (fl c j - fl was j) > 0)) Z9n rfl o (fun k e=>by show w5.heap.size≤k; omega) (by omega) (by omega) fun r u2 o2 g2=>?_
   have fu2:=fud.newer g2 fun k e=>o.own k e
   refine condE (fun hz=>?_) fun hz=>?_
   ·refine ⟨?_,fu2⟩
    unfold oneP
    rw [if_pos hz]
    rw [show decide (zigM (fl c j - fl was j) > 0)=false from decide_eq_false (by omega)] at o2
    exact o2
   ·have e1:decide (zigM (fl c j - fl was j) > 0)=true:=decide_eq_true (by omega)
    rw [e1] at o2
    have hzu2:=g2.size
    have hlen2:((List.range j).flatMap fun i=>(oneP was c i).flatMap partB).length+1≤4000:=by omega
    refine appP (x:=decide (zigM (fl c j - fl was j)≤16)) Z9n rfl o2 (fun k e=>by show w5.heap.size≤k; omega) (by simp only [List.length_append,List.length_singleton]; omega) (by simp only [List.length_append,List.length_singleton]; omega) fun r3 u3 o3 g3=>?_
    have fu3:=fu2.newer g3 fun k e=>o2.own k e
    have hzu3:=g3.size
    refine condD (fun hn=>?_) fun hn=>?_
    ·have e4:IntKind.wrap .u64 (zigM (fl c j - fl was j) - 1)=(((zigM (fl c j - fl was j) - 1).toNat:Nat):Int):=by rw [wU64 (by omega)]; omega
     rw [e4]
     refine Z7v (n:=4) o3.sl (by omega) (by show _ < 16; omega) (by simp only [List.length_append,List.length_singleton]; omega) fun r4 u4 o4 g4=>⟨?_,fu3.then0 g4⟩
     have o4:=o4.up (m:=w5.heap.size) (by omega)
     unfold oneP
     rw [if_neg hz,if_pos hn]
     rw [show decide (zigM (fl c j - fl was j)≤16)=true from decide_eq_true hn] at o4
     simp only [List.append_assoc] at o4
     exact o4
    ·refine fldI (B2.fr fu3 fun h=>h) (i:=0) (x:=c.1) rfl (Z8x hc.1.1 fun u4 g4=>?_)
     refine fIdx rfl (by omega) (fld0 ((B2.fr fu3 fun h=>h).fr g4 fun h=>h) (x:=fl c j) (Z2c c (by omega)) ?_)
     rw [w64 (x:=fl c j) (by omega),w64 (x:=(rangeM c.1 (j:Int)).1) (by omega),w64 (x:=(rangeM c.1 (j:Int)).2.1) (by omega)]
     refine Zid (by omega) h1 h2 (by omega) fun r5 u5 o5 g5=>?_
     have g45:=g4.then0 g5
     have hzu4:=g4.size
     have hzu5:=g5.size
     have hil:=Zpp (fl c j) (rangeM c.1 (j:Int)).1 (rangeM c.1 (j:Int)).2.1
     refine appB (o3.none g45) (by omega) o5.sl (by simp only [List.length_append,List.length_singleton]; omega) fun r6 u6 o6 g6=>⟨?_,(fu3.then0 g45).newer g6 fun k e=>e⟩
     unfold oneP
     rw [if_neg hz,if_neg hn]
     rw [show decide (zigM (fl c j - fl was j)≤16)=false from decide_eq_false hn] at o6
     rw [← fieldB h1 h2] at o6
     simp only [List.append_assoc] at o6
     simp only [List.flatMap_cons,List.flatMap_nil,List.append_nil]
     exact o6
  ·rintro z v ⟨o2,f2⟩
   exact hK _ _ ⟨wsucc hj (by omega),o2,f2⟩
 ·rintro ⟨a,_⟩ u ⟨_,o,fu⟩
  refine hk a u ?_ (f05.then0 fu)
  have e:stepB2 was c=(List.range (cntM c.1)).flatMap fun i=>(oneP was c i).flatMap partB:=by
   unfold stepB2 partsB stepP
   rw [List.flatMap_assoc]
   rfl
  rw [e]
  exact o.up hz5
end Go.Proofs.YtchhhjlpnecjkaaGreat
namespace Go.Proofs.YtchhhjlpnecjkaaGreat
open Go Go.RowKit Go.Proofs.YtchhhjlpnecjkaaGreat.Den
variable {R:Type} {Q:R→World→Prop} {w:World}
theorem Zk3 {h:Head} (hok:HeadOk h) {K:Res [.sc (.int .i64)]→W R} (hk:∀ w',Fr None w w'→K (headE h) Q w') :
  callW Tryz.prog Z3e [.agg ⟨[.int .u8 h.1,.int .u8 h.2.1,.int .u32 h.2.2.1,.int .u32 h.2.2.2.1,.int .u32 h.2.2.2.2]⟩] [.sc (.int .i64)] K Q w:=by
 refine Ziu h K Q w ?_
 unfold Z6b
 obtain ⟨⟨k0,k1⟩,⟨c0,c1⟩,⟨e0,e1⟩,⟨t0,t1⟩,⟨b0,b1⟩⟩:=hok
 unfold headE at hk
 refine newI fun w1 B f1 s1=>?_
 have r0:∀ {σ:Type} {K:Int→W σ} {Q:σ→World→Prop},K h.1 Q w1→ld (.sc (.int .u8)) (Addr.add ⟨w.heap.size,0,none⟩ 0) K Q w1:=fun hk=>fldI B (i:=0) (x:=h.1) rfl hk
 have r1:∀ {σ:Type} {K:Int→W σ} {Q:σ→World→Prop},K h.2.1 Q w1→ld (.sc (.int .u8)) (Addr.add ⟨w.heap.size,0,none⟩ 1) K Q w1:=fun hk=>fldI B (i:=1) (x:=h.2.1) rfl hk
 have r2:∀ {σ:Type} {K:Int→W σ} {Q:σ→World→Prop},K h.2.2.1 Q w1→ld (.sc (.int .u32)) (Addr.add ⟨w.heap.size,0,none⟩ 2) K Q w1:=fun hk=>fldI B (i:=2) (x:=h.2.2.1) rfl hk
 have r3:∀ {σ:Type} {K:Int→W σ} {Q:σ→World→Prop},K h.2.2.2.1 Q w1→ld (.sc (.int .u32)) (Addr.add ⟨w.heap.size,0,none⟩ 3) K Q w1:=fun hk=>fldI B (i:=3) (x:=h.2.2.2.1) rfl hk
 have r4:∀ {σ:Type} {K:Int→W σ} {Q:σ→World→Prop},K h.2.2.2.2 Q w1→ld (.sc (.int .u32)) (Addr.add ⟨w.heap.size,0,none⟩ 4) K Q w1:=fun hk=>fldI B (i:=4) (x:=h.2.2.2.2) rfl hk
 refine joinI (fun z w'=>z=decide (h.1 < 1∨5 < h.1∨16≤h.2.1)∧w1=w') ?_ ?_
 ·refine r0 (condD (fun a=>⟨(decide_eq_true (.inl a)).symm,rfl⟩) fun a=>r0 (condD (fun b=>⟨(decide_eq_true (.inr (.inl b))).symm,rfl⟩) fun b=>r1 ⟨decide_eq_decide.2 (by omega),rfl⟩))
 rintro z w2 ⟨rfl,rfl⟩
 refine condD (fun a=>?_) fun a=>?_
 ·rw [if_pos a] at hk
  exact hk _ f1
 rw [if_neg a] at hk
 refine joinI (fun z w'=>z=decide (h.2.2.1=0∨(3 < h.1∧h.2.2.2.1≠0)∨(h.1≠2∧h.2.2.2.2≠0)∨(h.1=2∧h.2.2.2.1≤h.2.2.2.2))∧w1=w') ?_ ?_
 ·have last:∀ (_:h.2.2.1≠0) (_:¬ (3 < h.1∧h.2.2.2.1≠0)),ld (.sc (.int .u8)) (Addr.add ⟨w.heap.size,0,none⟩ 0) (fun x_19=>cond (x_19 != 2)
    (ld (.sc (.int .u32)) (Addr.add ⟨w.heap.size,0,none⟩ 4) fun (x_20:Int)=>cond (decide (x_20 > 0)) (fun (_:Int→World→Prop) w'=>true=decide (h.2.2.1=0∨(3 < h.1∧h.2.2.2.1≠0)∨(h.1≠2∧h.2.2.2.2≠0)∨(h.1=2∧h.2.2.2.1≤h.2.2.2.2))∧w1=w')
     (ld (.sc (.int .u8)) (Addr.add ⟨w.heap.size,0,none⟩ 0) fun (x_21:Int)=>cond (x_21 == 2)
      (ld (.sc (.int .u32)) (Addr.add ⟨w.heap.size,0,none⟩ 4) fun (x_22:Int)=>ld (.sc (.int .u32)) (Addr.add ⟨w.heap.size,0,none⟩ 3) fun (x_23:Int)=>fun (_:Int→World→Prop) w'=>decide (x_22 ≥ x_23)=decide (h.2.2.1=0∨(3 < h.1∧h.2.2.2.1≠0)∨(h.1≠2∧h.2.2.2.2≠0)∨(h.1=2∧h.2.2.2.1≤h.2.2.2.2))∧w1=w')
      (fun (_:Int→World→Prop) w'=>false=decide (h.2.2.1=0∨(3 < h.1∧h.2.2.2.1≠0)∨(h.1≠2∧h.2.2.2.2≠0)∨(h.1=2∧h.2.2.2.1≤h.2.2.2.2))∧w1=w')))
    (ld (.sc (.int .u8)) (Addr.add ⟨w.heap.size,0,none⟩ 0) fun (x_24:Int)=>cond (x_24 == 2)
      (ld (.sc (.int .u32)) (Addr.add ⟨w.heap.size,0,none⟩ 4) fun (x_25:Int)=>ld (.sc (.int .u32)) (Addr.add ⟨w.heap.size,0,none⟩ 3) fun (x_26:Int)=>fun (_:Int→World→Prop) w'=>decide (x_25 ≥ x_26)=decide (h.2.2.1=0∨(3 < h.1∧h.2.2.2.1≠0)∨(h.1≠2∧h.2.2.2.2≠0)∨(h.1=2∧h.2.2.2.1≤h.2.2.2.2))∧w1=w')
      (fun (_:Int→World→Prop) w'=>false=decide (h.2.2.1=0∨(3 < h.1∧h.2.2.2.1≠0)∨(h.1≠2∧h.2.2.2.2≠0)∨(h.1=2∧h.2.2.2.1≤h.2.2.2.2))∧w1=w'))) (fun r w=>K r Q w) w1:=by
   intro q1 q2
   refine r0 (condN (fun a2=>r4 (condD (fun a3=>⟨(decide_eq_true (by omega)).symm,rfl⟩) fun a3=>r0 (condE (fun a4=>absurd a4 a2) fun a4=>⟨(decide_eq_false (by omega)).symm,rfl⟩))) fun a2=>?_)
   exact r0 (condE (fun a4=>r4 (r3 ⟨decide_eq_decide.2 (by omega),rfl⟩)) fun a4=>absurd a2 a4)
  refine r2 (condE (fun q=>⟨(decide_eq_true (.inl q)).symm,rfl⟩) fun q1=>r0 (condD (fun q2=>r3 (condD (fun q3=>⟨(decide_eq_true (by omega)).symm,rfl⟩) fun q3=>?_)) fun q2=>?_))
  ·exact last q1 (by omega)
  ·exact last q1 (by omega)
 rintro z w2 ⟨rfl,rfl⟩
 refine condD (fun a=>?_) fun a=>?_
 ·rw [if_pos a] at hk
  exact hk _ f1
 ·rw [if_neg a] at hk
  exact hk _ f1
theorem Zxb {h:Head} (hok:HeadOk h) (he:headE h=0) {K:Res [.sc .sl]→W R} (hk:∀ r w',Own (Up w.heap.size) w' 4 boolT r (headB h)→Fr None w w'→K r Q w') :
  callW Tryz.prog Z7q [.agg ⟨[.int .u8 h.1,.int .u8 h.2.1,.int .u32 h.2.2.1,.int .u32 h.2.2.2.1,.int .u32 h.2.2.2.2]⟩] [.sc .sl] K Q w:=by
 refine Zkp h K Q w ?_
 unfold Z7e
 obtain ⟨⟨k0,k1⟩,⟨c0,c1⟩,⟨e0,e1⟩,⟨t0,t1⟩,⟨b0,b1⟩⟩:=hok
 unfold headE at he
 split at he
 ·cases he
 rename_i g1
 refine newI fun w1 B f1 s1=>fldI B (i:=0) (x:=h.1) rfl ?_
 rw [w64 (x:=h.1) (by omega)]
 refine Zid (by decide) (by omega) (by omega) (by decide) fun a w2 o2 f2=>?_
 have B2:=B.fr f2 fun h=>h
 refine fldI B2 (i:=1) (x:=h.2.1) rfl ?_
 rw [w64 (x:=h.2.1) (by omega)]
 refine Zid (by decide) (by omega) (by omega) (by decide) fun b w3 o3 f3=>?_
 have fd:Fr None w3 w3.drew:=(Fr.refl _ _).drew
 have f3d:=f3.then0 fd
 have B3:=B2.fr f3d fun h=>h
 have z1:=f1.size
 have z2:=f2.size
 have z3:w2.heap.size≤w3.drew.heap.size:=f3d.size
 have l1:=Zpp h.1 1 5
 have l2:=Zpp h.2.1 0 15
 have lw1:widthM 1 5≤64:=Z49 (by decide)
 have lw2:widthM 0 15≤64:=Z49 (by decide)
 have hup:∀ {k:Nat},w1.heap.size≤k→w.heap.size≤k:=fun h=>by omega
 refine fldI B3 (i:=2) (x:=h.2.2.1) rfl (appB (n:=w1.heap.size) (o2.none f3d) (by omega) (o3.none fd).sl (by omega) fun c w4 o4 f4=>?_)
 have B4:=B3.fr f4 fun e=>by have e:w1.heap.size≤w.heap.size:=e; omega
 refine andI (B4.rd (s:=.int .u32) (i:=2) (x:=h.2.2.1) rfl) ?_
 have ev:IntKind.wrap .u64 h.2.2.1=((h.2.2.1.toNat:Nat):Int):=by rw [wU64 (by omega)]; omega
 rw [ev]
 have z4:=f4.size
 refine Z7w (by omega) fun d w5 o5 f5=>?_
 have z5:=f5.size
 have lv:=Zdj h.2.2.1.toNat
 have lg:=Z9e (v:=h.2.2.1) (by omega) (by omega)
 refine appB (n:=w1.heap.size) (o4.none f5) (by omega) o5.sl (by simp only [List.length_append]; omega) fun e w6 o6 f6=>?_
 have z6:=f6.size
 have n1:∀ {u v:World},Fr (Up w1.heap.size) u v→¬ Up w1.heap.size w.heap.size:=fun _ e=>by have e:w1.heap.size≤w.heap.size:=e; omega
 have B6:=(B4.fr f5 fun h=>h).fr f6 (n1 f6)
 have F6:Fr None w w6:=((((f1.then0 f2).then0 f3d).newer f4 fun k e=>hup e).then0 f5).newer f6 fun k e=>hup e
 refine fldI B6 (i:=0) (x:=h.1) rfl ?_
 refine joinI (fun z v=>Own (Up w1.heap.size) v 4 boolT z (inB h.1 1 5 ++ inB h.2.1 0 15 ++ varB h.2.2.1.toNat ++ (if h.1≤3 then bitsOf h.2.2.2.1.toNat 32 else []))∧Fr None w v∧Blk v w.heap.size 30 [.int .u8 h.1,.int .u8 h.2.1,.int .u32 h.2.2.1,.int .u32 h.2.2.2.1,.int .u32 h.2.2.2.2]) ?_ ?_
 ·refine condD (fun h3=>?_) fun h3=>?_
  ·rw [if_pos h3]
   refine fldI B6 (i:=3) (x:=h.2.2.2.1) rfl ?_
   have et:IntKind.wrap .u64 h.2.2.2.1=((h.2.2.2.1.toNat:Nat):Int):=by rw [wU64 (by omega)]; omega
   rw [et]
   exact Z7v (n:=32) o6.sl (by decide) (by omega) (by simp only [List.length_append]; omega) fun r w7 o7 f7=>⟨o7.up (by omega),F6.then0 f7,B6.fr f7 fun h=>h⟩
  ·rw [if_neg h3,List.append_nil]
   exact ⟨o6,F6,B6⟩
 rintro z w7 ⟨o7,F7,B7⟩
 have z7:=F7.size
 have zb:=B7.lt
 refine fldI B7 (i:=0) (x:=h.1) rfl ?_
 refine joinI (fun z v=>Own (Up w1.heap.size) v 4 boolT z (headB h)∧Fr None w v) ?_ ?_
 ·unfold headB
  refine condE (fun h2=>?_) fun h2=>?_
  ·rw [if_pos h2]
   refine fldI B7 (i:=3) (x:=h.2.2.2.1) rfl (fldI B7 (i:=4) (x:=h.2.2.2.2) rfl ?_)
   have e:IntKind.wrap .u64 (IntKind.wrap .u32 (IntKind.wrap .u32 (h.2.2.2.1 - h.2.2.2.2) - 1))=((idD h.2.2.2.2 h.2.2.2.1:Nat):Int):=by
    have a:∀ x:Int,IntKind.wrap .u32 x=x % 4294967296:=fun x=>by rw [IntKind.wrap_u32]
    rw [a,a,wU64 (by omega)]
    unfold idD
    omega
   rw [e]
   have hi:idD h.2.2.2.2 h.2.2.2.1 < 4294967296:=by unfold idD; omega
   refine Z7w (by omega) fun d w8 o8 f8=>?_
   have lv2:=Zdj (idD h.2.2.2.2 h.2.2.2.1)
   have lg2:=Z9e (v:=(idD h.2.2.2.2 h.2.2.2.1:Int)) (by omega) (by omega)
   rw [Int.toNat_natCast] at lg2
   have lt32:(if h.1≤3 then bitsOf h.2.2.2.1.toNat 32 else []).length≤32:=by split <;> simp [Z4]
   refine appB (n:=w1.heap.size) (o7.none f8) (by have:=f8.size; omega) o8.sl (by simp only [List.length_append]; omega) fun r w9 o9 f9=>⟨?_,(F7.then0 f8).newer f9 fun k e=>hup e⟩
   simp only [List.append_assoc] at o9
   exact o9
  ·rw [if_neg h2,List.append_nil]
   simp only [List.append_assoc] at o7
   exact ⟨o7,F7⟩
 rintro z v ⟨o,f⟩
 exact hk z v (o.up z1) f
theorem appS {S ok:Nat→Prop} {s s2:Sl} {l l2:List Bool} (h:Own S w 4 boolT s l) (hn:∀ k,w.heap.size≤k→S k) (h2:SlT ok w boolT s2 l2) (hm:l.length+l2.length≤140737488355328) {K:Sl→W R} (hk:∀ r w',Own S w' 4 boolT r (l ++ l2)→Fr S w w'→K r Q w') :
  rawW Tryz.prog (Builtin.append_ #[70,70] 70 #[.slice s.a s.n s.c,.slice s2.a s2.n s2.c]) [.sc .sl] K Q w :=
 appI Z9n (S':=S) h h2 (by omega) (by rw [Z1j]; omega) (fun _ h=>h) (hn _ (Nat.le_refl _)) fun r w' o f _=>hk r w' o (f.sub fun k e=>h.own k e)
theorem Zmo {S:Nat→Prop} {s:Sl} {l:List Bool} {last id:Int} (o:Own S w 4 boolT s l) (hn:∀ k,w.heap.size≤k→S k) (hl:l.length≤1048576) {K:Res [.sc .sl]→W R} (hk:∀ r w',Own S w' 4 boolT r (l ++ idBits last id)→Fr S w w'→K r Q w') :
  callW Tryz.prog Z3k [.slice s.a s.n s.c,.int .u32 last,.int .u32 id] [.sc .sl] K Q w:=by
 refine Zoy s _ _ K Q w ?_
 unfold Z9b
 have e:IntKind.wrap .u64 (IntKind.wrap .u32 (IntKind.wrap .u32 (id - last) - 1))=((idD last id:Nat):Int):=by
  have a:∀ x:Int,IntKind.wrap .u32 x=x % 4294967296:=fun x=>by rw [IntKind.wrap_u32]
  rw [a,a,wU64 (by omega)]
  unfold idD
  omega
 rw [e]
 have hi:idD last id < 4294967296:=by unfold idD; omega
 refine Z7w (by omega) fun d w2 o2 f2=>?_
 have z2:=f2.size
 have lv2:=Zdj (idD last id)
 have lg2:=Z9e (v:=(idD last id:Int)) (by omega) (by omega)
 rw [Int.toNat_natCast] at lg2
 exact appS (o.none f2) (fun k e=>hn k (by omega)) o2.sl (by omega) fun r w3 o3 f3=>hk r w3 o3 (f2.any.then f3)
theorem Zo6 (last id:Int):(idBits last id).length≤80:=by
 have hi:idD last id < 4294967296:=by unfold idD; omega
 have lg2:=Z9e (v:=(idD last id:Int)) (by omega) (by omega)
 rw [Int.toNat_natCast] at lg2
 unfold idBits
 rw [Zdj]
 omega
theorem Zrl {c:Comp}:(compB c).length≤192:=by
 rw [Z11k]
 have h3:=Z5j c.1
 have:=Zff (fun i=>partB (fieldP c i)) 64 (List.range (cntM c.1)) fun i _=>by
  obtain ⟨q1,q2⟩:=Z1p c.1 (i:Int)
  have:=Z49 (lo:=(rangeM c.1 (i:Int)).1) (hi:=(rangeM c.1 (i:Int)).2.1) (by omega)
  show (partB (fieldP c i)).length≤64
  rw [Zac]
  unfold fieldP
  rw [Int.toNat_natCast]
  exact this
 rw [List.length_range] at this
 omega
theorem Zk4 {S ok:Nat→Prop} {s s2:Sl} {l:List Bool} {cs:List Comp} (o:Own S w 4 boolT s l) (hn:∀ k,w.heap.size≤k→S k) (hl:l.length+192 * cs.length≤1048576) (hS:SlT ok w compT s2 cs) (hd:∀ k,k < w.heap.size→ok k→¬ S k) (hc:∀ c∈cs,checkM c=0∧CompOk c) {K:Res [.sc .sl]→W R}
  (hk:∀ r w',Own S w' 4 boolT r (l ++ compsB cs)→Fr S w w'→K r Q w') :
  callW Tryz.prog Z3f [.slice s.a s.n s.c,.slice s2.a s2.n s2.c] [.sc .sl] K Q w:=by
 refine Ziv s s2 K Q w ?_
 unfold Z6c
 have hlen:=hS.len
 have hS:=hS.mono (ok':=fun k=>ok k∧k < w.heap.size) fun k hk e=>⟨e,hk⟩
 have nd:∀ k,ok k∧k < w.heap.size→¬ S k:=fun k e e2=>hd k e.2 e.1 e2
 refine forI (N:=s2.n) (fun s:Sl × Int=>s.2) (fun j st u=>st.2=(j:Int)∧Own S u 4 boolT st.1 (l ++ compsB (cs.take j))∧Fr S w u) ⟨rfl,by simpa [compsB] using o,Fr.refl _ _⟩ (fun j s w' h=>h.1) ?_ ?_
 ·rintro j ⟨a,_⟩ u K' hj ⟨rfl,o,fu⟩ - hK
  have zu:=fu.size
  refine (hS.fr fu nd).get rfl rfl (by omega) fun c hcj=>?_
  obtain ⟨h1,h2⟩:=hc c (List.mem_of_getElem? hcj)
  refine newI fun u1 B1 f1 z1=>stoAll B1 rfl rfl fun u2 B2 f2 z2=>aggI B2 (x:=c) rfl ?_
  have f12:Fr None u u2:=f1.newer f2 fun k e=>by omega
  refine Z11c h1 h2 fun r u3 o3 f3=>?_
  have f13:=f12.then0 f3
  have z3:=f13.size
  have l1:(compsB (cs.take j)).length≤192 * (cs.take j).length:=Zff _ 192 _ fun c _=>Zrl
  have l2:=Zrl (c:=c)
  have l3:(cs.take j).length≤cs.length:=by rw [List.length_take]; omega
  refine appS (o.none f13) (fun k e=>hn k (by omega)) o3.sl (by simp only [List.length_append]; omega) fun r2 u4 o4 f4=>?_
  refine hK _ _ ⟨wsucc hj (by omega),?_,(fu.then0 f13).then f4⟩
  have e:compsB (cs.take (j+1))=compsB (cs.take j) ++ compB c:=by unfold compsB; rw [Z8 hcj,List.flatMap_append]; simp
  rw [e,← List.append_assoc]
  exact o4
 ·rintro ⟨a,_⟩ u ⟨_,o,fu⟩
  rw [List.take_of_length_le (by omega)] at o
  exact hk a u o fu
end Go.Proofs.YtchhhjlpnecjkaaGreat
namespace Go.Proofs.YtchhhjlpnecjkaaGreat
open Go Go.RowKit Go.Proofs.YtchhhjlpnecjkaaGreat.Den
variable {R:Type} {Q:R→World→Prop} {w:World}
def lastF {α:Type} (id:α→Int) (last:Int) (l:List α):Int:=l.foldl (fun _ a=>id a) last
theorem Zpv {α:Type} (id:α→Int) (last:Int) (l:List α) (a:α):lastF id last (l ++ [a])=id a:=by unfold lastF; rw [List.foldl_append]; rfl
theorem Zwi {α:Type} (enc:Int→α→List Bool) (id:α→Int):∀ (l k:List α) (last:Int),encs enc id last (l ++ k)=encs enc id last l ++ encs enc id (lastF id last l) k
 | [],_,_=>rfl
 | a :: r,k,last=>by
  rw [List.cons_append,encs,encs,Zwi enc id r k (id a),List.append_assoc]
  rfl
theorem Zo4 {α:Type} (enc:Int→α→List Bool) (id:α→Int) (l:List α) (a:α) (last:Int):encs enc id last (l ++ [a])=encs enc id last l ++ enc (lastF id last l) a:=by
 rw [Zwi]
 simp [encs]
theorem Zso {α:Type} (enc:Int→α→List Bool) (id:α→Int) (l:List α) (last:Int) (j:Nat):(encs enc id last (l.take j)).length≤(encs enc id last l).length:=by
 have:=Zwi enc id (l.take j) (l.drop j) last
 rw [List.take_append_drop] at this
 rw [this,List.length_append]
 omega
def EntTold (e:Ent):Prop:=EntFit e∧(∀ c∈e.2,checkM c=0)∧maskN e.2 < 32∧e.2.length≤6
theorem Z18b {last:Int} {e:Ent} (h:e.2.length≤6):(entB last e).length≤1300:=by
 have h1:=Zo6 last e.1
 have h2:(compsB e.2).length≤192 * e.2.length:=Zff _ 192 _ fun c _=>Zrl
 unfold entB
 rw [List.length_append,List.length_append,Z4]
 omega
theorem Z11m {α:Type} {enc:Int→α→List Bool} {id:α→Int} (h:∀ last a,1≤(enc last a).length):∀ (l:List α) (last:Int),l.length≤(encs enc id last l).length
 | [],_=>by simp
 | a :: r,last=>by
  have h1:=Z11m (id:=id) h r (id a)
  have h2:=h last a
  rw [encs,List.length_append,List.length_cons]
  omega
theorem Z17k (v:Nat):1≤(varB v).length:=by
 rw [Zdj]
 unfold groupsM
 omega
theorem Zom {S ok:Nat→Prop} {s s2:Sl} {raws:List (Int × Sl)} {l:List Bool} {L:List Ent} (o:Own S w 4 boolT s l) (hn:∀ k,w.heap.size≤k→S k) (hS:SlT ok w entT s2 raws) (hE:EntsR ok w raws L) (hd:∀ k,k < w.heap.size→ok k→¬ S k) (hL:∀ e∈L,EntTold e) (hl:l.length+(entsB L).length≤1000000) {K:Res [.sc .sl]→W R}
  (hk:∀ r w',Own S w' 4 boolT r (l ++ entsB L)→Fr S w w'→K r Q w') :
  callW Tryz.prog Z44 [.slice s.a s.n s.c,.slice s2.a s2.n s2.c] [.sc .sl] K Q w:=by
 refine Zkt s s2 K Q w ?_
 unfold Z7i
 have hlen:=hS.len.trans hE.len
 have hS:=hS.mono (ok':=fun k=>ok k∧k < w.heap.size) fun k hk e=>⟨e,hk⟩
 have hE:=hE.mono (ok':=fun k=>ok k∧k < w.heap.size) fun k hk e=>⟨e,hk⟩
 have nd:∀ k,ok k∧k < w.heap.size→¬ S k:=fun k e e2=>hd k e.2 e.1 e2
 have heb:(entsB L).length=(varB L.length).length+(encs entB (fun e:Ent=>e.1) 0 L).length:=by unfold entsB; rw [List.length_append]
 have hLl:=Z11m (enc:=entB) (id:=fun e:Ent=>e.1) (fun last a=>by unfold entB; rw [List.length_append]; have:=Z17k (idD last a.1); unfold idBits; omega) L 0
 have ew:IntKind.wrap .u64 (s2.n:Int)=((L.length:Nat):Int):=by rw [wU64 (by omega)]; omega
 rw [ew]
 refine Z7w (by omega) fun d w2 o2 f2=>?_
 have z2:=f2.size
 refine appS (o.none f2) (fun k e=>hn k (by omega)) o2.sl (by omega) fun r w3 o3 f3=>?_
 have f03:Fr S w w3:=f2.any.then f3
 refine forI (N:=s2.n) (fun s:Sl × Int × Int=>s.2.2) (fun j st u=>st.2.2=(j:Int)∧st.2.1=lastF (fun e:Ent=>e.1) 0 (L.take j)∧Own S u 4 boolT st.1 (l ++ varB L.length ++ encs entB (fun e:Ent=>e.1) 0 (L.take j))∧Fr S w u) ⟨rfl,rfl,by simpa [encs] using o3,f03⟩ (fun j s w' h=>h.1) ?_ ?_
 ·rintro j ⟨a,la,_⟩ u K' hj ⟨rfl,rfl,o,fu⟩ - hK
  have zu:=fu.size
  obtain ⟨e,he⟩:∃ e,L[j]?=some e:=⟨_,List.getElem?_eq_getElem (by omega)⟩
  obtain ⟨r1,hr1,ha1,ha2⟩:=hE.get he
  obtain ⟨⟨⟨i0,i1⟩,hsm,hco⟩,hck,hmk,h6⟩:=hL e (List.mem_of_getElem? he)
  refine (hS.fr fu nd).get rfl rfl (by have:=hE.len; omega) fun y hy=>?_
  rw [hr1] at hy
  cases hy
  refine newI fun u1 B1 f1 z1=>stoAll B1 rfl rfl fun u2 B2 f2' z2'=>?_
  have f12:Fr None u u2:=f1.newer f2' fun k e=>by omega
  have fu2:=fu.then0 f12
  have htk:=Zso entB (fun e:Ent=>e.1) L 0 j
  have o2:Own (fun k=>S k∧k≠u.heap.size) u2 4 boolT a (l ++ varB L.length ++ encs entB (fun e:Ent=>e.1) 0 (L.take j)):=(o.mono (S':=fun k=>S k∧k≠u.heap.size) fun k hk e=>⟨e,by omega⟩).none f12
  have hn2:∀ {v:World},u2.heap.size≤v.heap.size→∀ k,v.heap.size≤k→S k∧k≠u.heap.size:=fun hv k e=>⟨hn k (by omega),by omega⟩
  refine fldI B2 (i:=0) (x:=r1.1) rfl ?_
  rw [ha1]
  refine Zmo o2 (hn2 (Nat.le_refl _)) (by simp only [List.length_append]; omega) fun r3 u3 o3 f3'=>?_
  have z3:=f3'.size
  have B3:=B2.fr f3' fun e=>e.2 rfl
  have fu3:=fu2.then (f3'.sub fun k e=>e.1)
  have li:=Zo6 (lastF (fun e:Ent=>e.1) 0 (L.take j)) e.1
  refine fldI B3 (i:=0) (x:=r1.1) rfl (fldI B3 (i:=1) (x:=r1.2) rfl ?_)
  refine Zhy (ha2.fr fu3 nd) hsm fun u4 f4=>?_
  have em:IntKind.wrap .u64 ((maskN e.2:Nat):Int)=((maskN e.2:Nat):Int):=by rw [wU64 (by omega)]
  rw [em]
  have z4:=f4.size
  refine Z7v (n:=5) (o3.none f4).sl (by decide) (by omega) (by simp only [List.length_append]; omega) fun r5 u5 o5 f5=>?_
  have z5:=f5.size
  have f45:=f4.then0 f5
  have B5:=B3.fr f45 fun h=>h
  have fu5:=fu3.then0 f45
  have o5:Own (fun k=>S k∧k≠u.heap.size) u5 4 boolT r5 _:=o5.mono fun k _ e=>by have e:u4.heap.size≤k:=e; exact ⟨hn k (by omega),by omega⟩
  refine fldI B5 (i:=1) (x:=r1.2) rfl ?_
  refine Zk4 o5 (hn2 (by omega)) (by simp only [List.length_append,Z4]; omega) (ha2.fr fu5 nd) (fun k _ e e2=>nd k e e2.1) (fun c hc=>⟨hck c hc,hco c hc⟩) fun r6 u6 o6 f6=>?_
  refine hK _ _ ⟨wsucc hj (by omega),?_,?_,fu5.then (f6.sub fun k e=>e.1)⟩
  ·rw [Z8 he,Zpv,← ha1]
  ·rw [Z8 he,Zo4]
   unfold entB
   have o7:=o6.mono (S':=S) fun k _ e=>e.1
   simp only [List.append_assoc] at o7 ⊢
   exact o7
 ·rintro ⟨a,la,_⟩ u ⟨_,_,o,fu⟩
  rw [List.take_of_length_le (by omega),List.append_assoc] at o
  exact hk a u o fu
end Go.Proofs.YtchhhjlpnecjkaaGreat
namespace Go.Proofs.YtchhhjlpnecjkaaGreat
open Go Go.RowKit Go.Proofs.YtchhhjlpnecjkaaGreat.Den
variable {R:Type} {Q:R→World→Prop} {w:World}
def padB (L:List Bool) (n:Nat):List Int:=(List.range n).map fun j=>(byteAt L j:Int)
theorem Z171 (n:Nat):padB [] n=List.replicate n (0:Int):=by
 unfold padB
 have:∀ j,((byteAt [] j:Nat):Int)=0:=fun j=>rfl
 simp only [this]
 rw [List.map_const',List.length_range]
theorem Z152 (L:List Bool) (b:Bool) {n:Nat} (h:L.length / 8 < n):padB (L ++ [b]) n=(padB L n).set (L.length / 8) ((byteAt L (L.length / 8)+bitN b * 2 ^ (L.length % 8):Nat):Int):=by
 refine List.ext_getElem? fun i=>?_
 rw [List.getElem?_set]
 unfold padB
 simp only [List.length_map,List.length_range,List.getElem?_map]
 split
 ·rename_i h
  subst h
  rw [List.getElem?_range (by omega)]
  simp only [Option.map_some]
  rw [Zch.1]
 ·rename_i h
  rcases Nat.lt_or_ge i n with hi | hi
  ·rw [List.getElem?_range hi]
   simp only [Option.map_some]
   rw [Zqq (fun h2=>h h2.symm)]
  ·rw [List.getElem?_eq_none (by simpa using hi)]
   rfl
theorem Z151 (L:List Bool) {n j:Nat} (h:j < n):(padB L n)[j]?=some (byteAt L j:Int):=by
 unfold padB
 rw [List.getElem?_map,List.getElem?_range h]
 rfl
theorem Z15u:∀ r:Fin 8,∀ x:Fin 128,x.val < 2 ^ r.val→IntKind.wrap .u8 (((x.val:Nat):Int)+shL .u8 1 ((r.val:Nat):Int))=((x.val+2 ^ r.val:Nat):Int):=by decide +kernel
theorem updI {S:Nat→Prop} {s:Sl} {l:List Int} (o:Own S w 5 u8T s l) {i:Nat} {x:Int} (hx:l[i]?=some x) {i1 i2:Int} (h1:i1=(i:Int)) (h2:i2=(i:Int)) {c:Prop} (hc:c) {f:Int→Int} {K:W R} (hk:∀ w',Own S w' 5 u8T s (l.set i (f x))→Fr (fun k=>s.v.ownBlock=some k) w w'→w'.heap.size=w.heap.size→K Q w') :
  idxW s.a s.n 1 i1 (fun a=>ld (.sc (.int .u8)) a fun b=>chkW c <| idxW s.a s.n 1 i2 fun y=>stoL y [.int .u8 (f b)] 0 K) Q w:=by
 subst h1; subst h2
 have hi:=(List.getElem?_eq_some_iff.1 hx).1
 refine o.idx rfl (by omega) (by omega) fun g y hg hy hr=>?_
 rw [Int.toNat_natCast] at hy hr ⊢
 rw [hx] at hy
 cases hy
 refine ldI x hr (chkI hc ?_)
 refine o.idx rfl (by omega) (by omega) fun g2 x2 hg2 hx2 hr2=>?_
 rw [hg] at hg2
 cases hg2
 rw [Int.toNat_natCast]
 exact o.set rfl hi hg (f x) hk
theorem Zxa {ok:Nat→Prop} {s:Sl} {L:List Bool} (hS:SlT ok w boolT s L) (hm:L.length≤140737488355000) {K:Res [.sc .sl]→W R} (hk:∀ r w',Own (Up w.heap.size) w' 5 u8T r (packM L)→Fr None w w'→K r Q w') :
  callW Tryz.prog Z6h [.slice s.a s.n s.c] [.sc .sl] K Q w:=by
 refine Zin s K Q w ?_
 unfold Z64
 have hlen:=hS.len
 obtain ⟨n,hn⟩:∃ n,n=(L.length+7) / 8:=⟨_,rfl⟩
 have hnI:IntKind.wrap .i64 (Int.tdiv (IntKind.wrap .i64 ((s.n:Int)+7)) 8)=(n:Int):=by
  rw [w64 (x:=(s.n:Int)+7) (by omega),Int.tdiv_eq_ediv_of_nonneg (by omega),w64 (by omega)]
  omega
 refine makeI Z9o (z:=(0:Int)) (zv:=.int .u8 0) (by kernel_rfl) rfl (n:=n) hnI (by omega) (by omega) fun w1 o1 f1 s1=>?_
 refine forI (N:=s.n) (fun s:Int=>s) (fun j i v=>i=(j:Int)∧Own (fun k=>k=w.heap.size) v 5 u8T ⟨some ⟨w.heap.size,0,none⟩,n,n⟩ (padB (L.take j) n)∧Fr None w v) ⟨rfl,by rw [List.take_zero,Z171]; exact o1,f1⟩ (fun j s w' h=>h.1) ?_ ?_
 ·rintro j i v K' hj ⟨rfl,o,fv⟩ - hK
  refine (hS.fr0 fv).get rfl rfl (by omega) fun b hb=>?_
  have htl:(L.take j).length=j:=by rw [List.length_take]; omega
  have hq:j / 8 < n:=by omega
  have e:=Z152 (L.take j) b (n:=n) (by rw [htl]; exact hq)
  rw [← Z8 hb,htl] at e
  have hlt:=(Zch (L:=L.take j) (b:=b)).2
  rw [htl] at hlt
  have hr8:j % 8 < 8:=Nat.mod_lt _ (by decide)
  have hp:2 ^ (j % 8)≤128:=Nat.le_trans (Nat.pow_le_pow_right (by decide) (show j % 8≤7 by omega)) (by decide)
  refine joinI (fun (_:Unit) v'=>Own (fun k=>k=w.heap.size) v' 5 u8T ⟨some ⟨w.heap.size,0,none⟩,n,n⟩ (padB (L.take (j+1)) n)∧Fr None w v') ?_ fun _ v' ⟨h1,h2⟩=>hK _ _ ⟨wsucc hj (by omega),h1,h2⟩
  have ei:IntKind.wrap .i64 (Int.tdiv (j:Int) 8)=((j / 8:Nat):Int):=by
   rw [Int.tdiv_eq_ediv_of_nonneg (by omega),w64 (by omega)]
   omega
  have em:IntKind.wrap .u64 (Int.tmod (j:Int) 8)=((j % 8:Nat):Int):=by
   rw [Int.tmod_eq_emod_of_nonneg (by omega),wU64 (by omega)]
   omega
  cases b with
  | true =>
   refine condT rfl ?_
   rw [em]
   refine updI o (i:=j / 8) (Z151 _ hq) ei ei (c:=0≤((j % 8:Nat):Int)) (by omega) (f:=fun x=>IntKind.wrap .u8 (x+shL .u8 1 ((j % 8:Nat):Int))) fun v' o' f' _=>⟨?_,fv.newer f' fun k e=>by simp only [Sl.v,Value.ownBlock,Option.some.injEq] at e; omega⟩
   have:=Z15u ⟨j % 8,hr8⟩ ⟨byteAt (L.take j) (j / 8),by omega⟩ hlt
   dsimp only at this o'
   rw [this] at o'
   rw [e]
   have eb:bitN true * 2 ^ (j % 8)=2 ^ (j % 8):=by rw [show bitN true=1 from rfl,Nat.one_mul]
   rw [eb]
   exact o'
  | false =>
   refine condF rfl ⟨?_,fv⟩
   rw [e]
   have eb:bitN false * 2 ^ (j % 8)=0:=by rw [show bitN false=0 from rfl,Nat.zero_mul]
   rw [eb,Nat.add_zero]
   have:(padB (L.take j) n).set (j / 8) ((byteAt (L.take j) (j / 8):Nat):Int)=padB (L.take j) n:=by
    have hg:=Z151 (L.take j) hq
    obtain ⟨hl,hg⟩:=List.getElem?_eq_some_iff.1 hg
    rw [← hg]
    exact List.set_getElem_self hl
   rw [this]
   exact o
 ·rintro i v ⟨_,o,fv⟩
  rw [List.take_of_length_le (by omega)] at o
  refine hk _ v ?_ fv
  have:padB L n=packM L:=by unfold padB packM; rw [hn]
  rw [this] at o
  exact o.mono fun k _ e=>by show w.heap.size≤k; omega
end Go.Proofs.YtchhhjlpnecjkaaGreat
namespace Go.Proofs.YtchhhjlpnecjkaaGreat
open Go Go.RowKit Go.Proofs.YtchhhjlpnecjkaaGreat.Den
variable {R:Type} {Q:R→World→Prop} {w:World}
def RD (b:Nat) (L:List Bool):OB:=fun F w=>F b∧∃ (s:Sl) (body:List Int) (n:Nat),Blk w b 173 [.slice s.a s.n s.c,.int .i64 (n:Int)]∧SlT (fun k=>F k∧k≠b) w u8T s body∧BytesOk body∧body.length≤1048576∧n≤8 * body.length∧L=(bitsU body).drop n
theorem RD.st {b:Nat} {L:List Bool}:St (RD b L):=fun {F F' S w w'} h f hs=>by
 obtain ⟨hb,s,body,n,B,hS,h1,h2,h3,h4⟩:=h
 have hb':=hs b B.lt hb
 exact ⟨hb'.2,s,body,n,B.fr f hb'.1,SlT.st hS f fun k hk e=>⟨(hs k hk e.1).1,(hs k hk e.1).2,e.2⟩,h1,h2,h3,h4⟩
theorem Z16h:∀ x:Fin 256,∀ r:Fin 8,IntKind.wrap .u64 (bAnd .u8 (shR .u8 ((x.val:Nat):Int) ((r.val:Nat):Int)) 1)=((bitN (x.val.testBit r.val):Nat):Int):=by decide +kernel
theorem Z16y {v i:Nat} (hi:i < 64) (hv:v < 2 ^ i) (b:Bool):bOr .u64 (v:Int) (shL .u64 ((bitN b:Nat):Int) (i:Int))=((v+bitN b * 2 ^ i:Nat):Int):=by
 have hb:=Z4t b
 have h2:2 ^ i * 2≤2 ^ 64:=by rw [← Nat.pow_succ]; exact Nat.pow_le_pow_right (by decide) hi
 have hm:bitN b * 2 ^ i≤2 ^ i:=by rcases (show bitN b=0∨bitN b=1 by omega) with e | e <;> rw [e] <;> omega
 have e1:shL .u64 ((bitN b:Nat):Int) (i:Int)=((bitN b * 2 ^ i:Nat):Int):=by
  unfold shL
  have hmin:min (i:Int).toNat (IntKind.bits .u64)=i:=by
   show min (i:Int).toNat 64=i
   omega
  have hM:(2:Int) ^ i=((2 ^ i:Nat):Int):=by rw [Int.natCast_pow]; rfl
  rw [hmin,hM,← Int.natCast_mul,wU64 (by omega)]
 rw [e1]
 unfold bOr
 have o1:∀ m:Nat,m < 18446744073709551616→(BitVec.ofInt 64 (m:Int)).toNat=m:=fun m hm=>by
  rw [BitVec.toNat_ofInt]
  omega
 have hor:v ||| bitN b * 2 ^ i=v+bitN b * 2 ^ i:=by
  have:=Nat.two_pow_add_eq_or_of_lt (a:=bitN b) hv
  rw [Nat.or_comm,Nat.mul_comm,← this,Nat.add_comm]
 show IntKind.wrap .u64 (((BitVec.ofInt 64 (v:Int) ||| BitVec.ofInt 64 ((bitN b * 2 ^ i:Nat):Int)).toNat:Nat):Int)=_
 rw [BitVec.toNat_or,o1 v (by omega),o1 _ (by omega),hor,wU64 (by omega)]
theorem Zzk:∀ (l:List Bool) (b:Bool),valB (l ++ [b])=valB l+bitN b * 2 ^ l.length
 | [],b=>by simp [valB]
 | a :: r,b=>by
  rw [List.cons_append,valB,Zzk r b,valB,List.length_cons,Nat.pow_succ,Nat.mul_add]
  have:2 * (bitN b * 2 ^ r.length)=bitN b * (2 ^ r.length * 2):=by rw [Nat.mul_comm (2 ^ r.length) 2,← Nat.mul_assoc,Nat.mul_comm 2,Nat.mul_assoc]
  omega
theorem Zie (l:List Bool):valB l < 2 ^ l.length:=by
 induction l with
 | nil=>simp [valB]
 | cons b r ih =>
  have:=Z4t b
  rw [valB,List.length_cons,Nat.pow_succ]
  omega
theorem Zug {ok:Nat→Prop} {s:Sl} {l:List Int} (hS:SlT ok w u8T s l) (hb:BytesOk l) (hm:l.length≤1048576) {K:Res [.sc .ptr]→W R} (hk:∀ b w',RD b (bitsU l) (Up w.heap.size) w'→Fr None w w'→K (some ⟨b,0,none⟩) Q w') :
  callW Tryz.prog Zm7 [.slice s.a s.n s.c] [.sc .ptr] K Q w:=by
 refine Zzn s K Q w ?_
 unfold Zln
 refine Z6t hS (by omega) fun r w1 o1 f1=>newI fun w2 B2 f2 z2=>?_
 have z1:=f1.size
 refine hk _ w2 ⟨z1,r,l,0,B2,?_,hb,hm,by omega,rfl⟩ (f1.then0 f2)
 exact SlT.st o1.sl f2 fun k hk e=>⟨fun h=>h,e,by omega⟩
theorem Zzb {b:Nat} {L:List Bool} {F:Nat→Prop} (h:RD b L F w) {K:Res [.sc (.int .i64)]→W R} (hk:∀ w',Fr None w w'→K (L.length:Int) Q w'):callW Tryz.prog Z8l [.pointer (some ⟨b,0,none⟩)] [.sc (.int .i64)] K Q w:=by
 refine Zms _ K Q w ?_
 unfold Z80
 obtain ⟨hb,s,body,n,B,hS,h1,h2,h3,rfl⟩:=h
 have fd:Fr None w w.drew:=(Fr.refl _ _).drew
 have Bd:=B.fr fd fun h=>h
 have hl:=hS.len
 refine condF rfl (ptrI (fldI Bd (i:=0) (x:=s) rfl (ptrI (fldI Bd (i:=1) (x:=(n:Int)) rfl ?_))))
 have:=hk w.drew fd
 rw [List.length_drop,Z8h] at this
 rw [w64 (x:=8 * (s.n:Int)) (by omega),w64 (by omega),show 8 * (s.n:Int) - (n:Int)=((8 * body.length - n:Nat):Int) by omega]
 exact this
theorem Z9i {b:Nat} {L:List Bool} {F:Nat→Prop} (h:RD b L F w) {n:Nat} (hn:n≤64) {K:Res [.sc (.int .u64),.sc (.int .i64)]→W R} (h0:L.length < n→∀ w',RD b L F w'→Fr None w w'→K (0,2) Q w') (hk:n≤L.length→∀ w',RD b (L.drop n) F w'→Fr (fun k=>k=b) w w'→K ((valB (L.take n):Nat),0) Q w') :
  callW Tryz.prog Z1a [.pointer (some ⟨b,0,none⟩),.int .i64 (n:Int)] [.sc (.int .u64),.sc (.int .i64)] K Q w:=by
 refine Zot _ _ K Q w ?_
 unfold Z96
 refine condF rfl (joinI (fun z v=>z=false∧v=w) (condF (decide_eq_false (by omega)) ⟨decide_eq_false (by omega),rfl⟩) ?_)
 rintro z v ⟨rfl,rfl⟩
 refine condF rfl (Zzb h fun w1 f1=>condD (fun hlt=>h0 (by omega) w1 (RD.st.fr0 h f1) f1) fun hge=>?_)
 have hge:n≤L.length:=by omega
 have hbl:∀ {F:Nat→Prop} {u:World},RD b L F u→F b:=fun h=>h.1
 refine forI (N:=n) (fun s:Int × Int=>s.2) (fun j st u=>st.2=(j:Int)∧st.1=((valB (L.take j):Nat):Int)∧RD b (L.drop j) F u∧Fr (fun k=>k=b) v u) ⟨rfl,by simp [valB],RD.st.fr0 h f1,f1.any⟩ (fun j s w' h=>h.1) ?_ ?_
 ·rintro j ⟨x,_⟩ u K' hj ⟨rfl,rfl,hr,fu⟩ - hK
  obtain ⟨hb,s,body,m,B,hS,b1,b2,b3,b4⟩:=hr
  have fd:Fr None u u.drew:=(Fr.refl _ _).drew
  have Bd:=B.fr fd fun h=>h
  have hSd:=hS.fr0 fd
  have hll:(L.drop j).length=8 * body.length - m:=by rw [b4,List.length_drop,Z8h]
  rw [List.length_drop] at hll
  have hmlt:m < 8 * body.length:=by omega
  have hq:m / 8 < body.length:=by omega
  have hx:=List.getElem?_eq_getElem hq
  have hxb:=b1 _ (List.getElem_mem hq)
  refine ptrI (fldI Bd (i:=0) (x:=s) rfl (ptrI (fldI Bd (i:=1) (x:=(m:Int)) rfl ?_)))
  have ed:IntKind.wrap .i64 (Int.tdiv (m:Int) 8)=((m / 8:Nat):Int):=by
   rw [Int.tdiv_eq_ediv_of_nonneg (by omega),w64 (by omega)]
   omega
  have em:Int.tmod (m:Int) 8=((m % 8:Nat):Int):=by
   rw [Int.tmod_eq_emod_of_nonneg (by omega)]
   omega
  rw [ed]
  refine hSd.get rfl rfl hq fun y hy=>?_
  rw [hx] at hy
  cases hy
  refine ptrI (fldI Bd (i:=1) (x:=(m:Int)) rfl ?_)
  rw [em]
  refine chkI (by omega) (chkI (by omega) (ptrI (fldI Bd (i:=1) (x:=(m:Int)) rfl (ptrI ?_))))
  rw [add_lit]
  refine setI (i:=1) Bd (by simp) rfl fun u2 B2 f2 z2=>?_
  obtain ⟨bit,hbit⟩:∃ bit,bit=(body[m / 8]).toNat.testBit (m % 8):=⟨_,rfl⟩
  have hLj:L[j]?=some bit:=by
   have e1:(L.drop j)[0]?=some bit:=by
    rw [b4,List.getElem?_drop,Nat.add_zero]
    have:=Zsl body (m / 8) (m % 8) _ hx (Nat.mod_lt _ (by decide))
    rw [show 8 * (m / 8)+m % 8=m by omega,← hbit] at this
    unfold bitAt at this
    have hml:m < (bitsU body).length:=by rw [Z8h]; exact hmlt
    rw [List.getElem?_eq_getElem hml,Option.getD_some] at this
    rw [List.getElem?_eq_getElem hml,this]
   rw [List.getElem?_drop,Nat.add_zero] at e1
   exact e1
  have hv:=Zie (L.take j)
  have htl:(L.take j).length=j:=by rw [List.length_take]; omega
  rw [htl] at hv
  refine hK _ _ ⟨wsucc hj (by omega),?_,⟨hb,s,body,m+1,?_,hSd.fr f2 fun k e=>e.2,b1,b2,by omega,?_⟩,(fu.then0 fd).then f2⟩
  ·have hg:=Z16h ⟨(body[m / 8]).toNat,by omega⟩ ⟨m % 8,Nat.mod_lt _ (by decide)⟩
   dsimp only at hg
   rw [show ((body[m / 8]).toNat:Int)=body[m / 8] by omega,← hbit] at hg
   show bOr .u64 _ (shL .u64 (IntKind.wrap .u64 (bAnd .u8 (shR .u8 body[m / 8] ((m % 8:Nat):Int)) 1)) (j:Int))=_
   rw [hg,Z16y (by omega) hv,Z8 hLj,Zzk,htl]
  ·have e:IntKind.wrap .i64 ((m:Int)+1)=((m+1:Nat):Int):=by rw [w64 (by omega)]; omega
   rw [e] at B2
   exact B2
  ·have:L.drop (j+1)=(L.drop j).drop 1:=by rw [List.drop_drop]
   rw [this,b4,List.drop_drop]
 ·rintro ⟨x,_⟩ u ⟨_,rfl,hr,fu⟩
  exact hk hge u hr fu
end Go.Proofs.YtchhhjlpnecjkaaGreat
namespace Go.Proofs.YtchhhjlpnecjkaaGreat
open Go Go.RowKit Go.Proofs.YtchhhjlpnecjkaaGreat.Den
variable {R:Type} {Q:R→World→Prop} {w:World}
theorem Z18l {v y s:Nat} (hs:s < 64) (hv:v < 2 ^ s) (hy:y * 2 ^ s+2 ^ s≤2 ^ 64):bOr .u64 (v:Int) (shL .u64 (y:Int) (s:Int))=((v+y * 2 ^ s:Nat):Int):=by
 have e1:shL .u64 (y:Int) (s:Int)=((y * 2 ^ s:Nat):Int):=by
  unfold shL
  have hmin:min (s:Int).toNat (IntKind.bits .u64)=s:=by
   show min (s:Int).toNat 64=s
   omega
  have hM:(2:Int) ^ s=((2 ^ s:Nat):Int):=by rw [Int.natCast_pow]; rfl
  rw [hmin,hM,← Int.natCast_mul,wU64 (by omega)]
 rw [e1]
 unfold bOr
 have o1:∀ m:Nat,m < 18446744073709551616→(BitVec.ofInt 64 (m:Int)).toNat=m:=fun m hm=>by
  rw [BitVec.toNat_ofInt]
  omega
 have hor:v ||| y * 2 ^ s=v+y * 2 ^ s:=by
  have:=Nat.two_pow_add_eq_or_of_lt (a:=y) hv
  rw [Nat.or_comm,Nat.mul_comm,← this,Nat.add_comm]
 show IntKind.wrap .u64 (((BitVec.ofInt 64 (v:Int) ||| BitVec.ofInt 64 ((y * 2 ^ s:Nat):Int)).toNat:Nat):Int)=_
 rw [BitVec.toNat_or,o1 v (by omega),o1 _ (by omega),hor,wU64 (by omega)]
theorem low4:∀ x:Fin 32,bAnd .u64 ((x.val:Nat):Int) 15=((x.val % 16:Nat):Int)∧shR .u64 ((x.val:Nat):Int) 4=((x.val / 16:Nat):Int):=by decide +kernel
theorem Zuf {b:Nat} {L:List Bool} {F:Nat→Prop} (h:RD b L F w) {K:Res [.sc (.int .u64),.sc (.int .i64)]→W R} (h0:getVar L=none→∀ x e L' w',e≠0→RD b L' F w'→Fr (fun k=>k=b) w w'→K (x,e) Q w') (hk:∀ v L',getVar L=some (v,L')→v < 18446744073709551616→∀ w',RD b L' F w'→Fr (fun k=>k=b) w w'→K ((v:Int),0) Q w') :
  callW Tryz.prog Zfn [.pointer (some ⟨b,0,none⟩)] [.sc (.int .u64),.sc (.int .i64)] K Q w:=by
 refine Zvs _ K Q w ?_
 unfold Zf5
 refine forI (N:=16) (fun s:Int × Int=>s.2) (fun j st u=>st.2=(j:Int)∧(∃ (v:Nat) (L':List Bool),st.1=(v:Int)∧v < 2 ^ (4 * j)∧RD b L' F u∧getVar L=varD (16 - j) j v L')∧Fr (fun k=>k=b) w u) ⟨rfl,⟨0,L,rfl,by decide,h,rfl⟩,Fr.refl _ _⟩ (fun j s w' h=>h.1) ?_ ?_
 ·rintro j ⟨_,_⟩ u K' hj ⟨rfl,⟨v,L',rfl,hv,hr,hg⟩,fu⟩ - hK
  obtain ⟨q,hq⟩:∃ q,16 - j=q+1:=⟨15 - j,by omega⟩
  rw [hq,varD] at hg
  refine Z9i hr (n:=5) (by decide) (fun hlt u2 hr2 f2=>?_) fun hge u2 hr2 f2=>?_
  ·rw [getN,if_neg (by omega)] at hg
   exact condT rfl (h0 hg _ _ _ u2 (by decide) hr2 (fu.then f2.any))
  ·rw [getN,if_pos hge] at hg
   dsimp only at hg
   have hx:=Zie (L'.take 5)
   rw [List.length_take,Nat.min_eq_left hge] at hx
   obtain ⟨x,hxe⟩:∃ x,x=valB (L'.take 5):=⟨_,rfl⟩
   rw [← hxe] at hg hx ⊢
   obtain ⟨a1,a2⟩:=low4 ⟨x,hx⟩
   dsimp only at a1 a2
   have fu2:=fu.then f2
   have e4:IntKind.wrap .i64 (4 * (j:Int))=((4 * j:Nat):Int):=by rw [w64 (by omega)]; omega
   have hp2:2 ^ (4 * j) * 16≤2 ^ 64:=by
    rw [show (16:Nat)=2 ^ 4 from rfl,← Nat.pow_add]
    exact Nat.pow_le_pow_right (by decide) (by omega)
   have hm:x % 16 * 2 ^ (4 * j)+2 ^ (4 * j)≤2 ^ (4 * j) * 16:=by
    have:x % 16+1≤16:=by omega
    calc x % 16 * 2 ^ (4 * j)+2 ^ (4 * j)=(x % 16+1) * 2 ^ (4 * j):=by rw [Nat.add_mul,Nat.one_mul]
     _≤16 * 2 ^ (4 * j):=Nat.mul_le_mul_right _ this
     _=2 ^ (4 * j) * 16:=Nat.mul_comm _ _
   have eo:bOr .u64 (v:Int) (shL .u64 (bAnd .u64 (x:Int) 15) (IntKind.wrap .i64 (4 * (j:Int))))=((v+x % 16 * 2 ^ (4 * j):Nat):Int):=by
    rw [a1,e4]
    exact Z18l (by omega) hv (Nat.le_trans hm hp2)
   have hnv:v+x % 16 * 2 ^ (4 * j) < 2 ^ (4 * (j+1)):=by
    rw [Nat.mul_add,Nat.pow_add]
    show _ < 2 ^ (4 * j) * 16
    omega
   have hn64:v+x % 16 * 2 ^ (4 * j) < 18446744073709551616:=by omega
   obtain ⟨v2,hv2⟩:∃ v2,v2=v+x % 16 * 2 ^ (4 * j):=⟨_,rfl⟩
   rw [← hv2] at eo hnv hn64 hg
   refine condF rfl (chkI (by rw [e4]; omega) ?_)
   dsimp only
   rw [eo,a2]
   refine condE (fun hz=>?_) fun hz=>?_
   ·rw [if_pos (by omega)] at hg
    refine Zg0 (by omega) (by omega) ?_
    rw [Int.toNat_natCast]
    have ej:IntKind.wrap .i64 ((j:Int)+1)=((j+1:Nat):Int):=wsucc (N:=16) hj (by decide)
    rw [ej]
    refine condN (fun hne=>?_) fun heq=>?_
    ·rw [if_neg (by omega)] at hg
     exact h0 hg _ _ _ u2 (by decide) hr2 fu2
    ·rw [if_pos (by omega)] at hg
     exact hk _ _ hg hn64 u2 hr2 fu2
   ·rw [if_neg (by omega)] at hg
    refine hK _ _ ⟨wsucc hj (by decide),⟨v2,_,rfl,hnv,hr2,?_⟩,fu2⟩
    rw [hg,show 16 - (j+1)=q by omega]
 ·rintro ⟨_,_⟩ u ⟨_,⟨v,L',rfl,hv,hr,hg⟩,fu⟩
  exact h0 hg _ _ _ u (by decide) hr fu
theorem RD.back {b:Nat} {L:List Bool} {F:Nat→Prop} (h:RD b L F w):∃ (s:Sl) (n:Int),Blk w b 173 [.slice s.a s.n s.c,.int .i64 n]∧∀ w',Fr (fun k=>k=b) w w'→Blk w' b 173 [.slice s.a s.n s.c,.int .i64 n]→RD b L F w':=by
 obtain ⟨hb,s,body,n,B,hS,h1,h2,h3,h4⟩:=h
 exact ⟨s,n,B,fun w' f B'=>⟨hb,s,body,n,B',hS.fr f fun k e=>e.2,h1,h2,h3,h4⟩⟩
theorem RD.blk {b:Nat} {L:List Bool} {F:Nat→Prop} (h:RD b L F w):∃ cs,Blk w b 173 cs∧cs.length=2:=by
 obtain ⟨hb,s,body,n,B,_⟩:=h
 exact ⟨_,B,rfl⟩
theorem Zue {b:Nat} {L:List Bool} {F:Nat→Prop} (h:RD b L F w) {K:Res [.sc (.int .u64),.sc (.int .i64)]→W R} (h0:getVar L=none→∀ e w',e≠0→RD b L F w'→Fr (fun k=>k=b) w w'→K (0,e) Q w') (hk:∀ v L',getVar L=some (v,L')→v < 18446744073709551616→∀ w',RD b L' F w'→Fr (fun k=>k=b) w w'→K ((v:Int),0) Q w') :
  callW Tryz.prog Zfm [.pointer (some ⟨b,0,none⟩)] [.sc (.int .u64),.sc (.int .i64)] K Q w:=by
 refine Zvp _ K Q w ?_
 unfold Zf2
 refine Z9x _ _ _ _ ?_
 unfold Z21
 obtain ⟨s,n,B,hback⟩:=h.back
 have hb:=B.lt
 refine condF rfl (ptrI (aggI B (x:=((s,n):Sl × Int)) rfl (newI fun w1 B1 f1 z1=>stoAll B1 rfl rfl fun w2 B2 f2 z2=>?_)))
 have f02:Fr None w w2:=f1.newer f2 fun k e=>by omega
 refine Zuf (RD.st.fr0 h f02) (fun hg x e L' w3 he hr f3=>?_) fun v L' hg hv w3 hr f3=>?_
 ·refine condT (by simpa using he) ?_
  obtain ⟨cs,B3,hl⟩:=hr.blk
  refine aggI (B2.fr f3 fun e=>by omega) (x:=((s,n):Sl × Int)) rfl (ptrI (stoAll B3 hl.symm rfl fun w4 B4 f4 z4=>?_))
  have f04:=(f02.any.then f3).then f4
  exact h0 hg e w4 he (hback w4 f04 B4) f04
 ·exact condF rfl (hk v L' hg hv w3 hr (f02.any.then f3))
theorem Z1l {b:Nat} {L:List Bool} {F:Nat→Prop} (h:RD b L F w) {lo hi:Int} (h1:-4611686018427387904≤lo) (h2:lo≤hi) (h3:hi≤4611686018427387904) {K:Res [.sc (.int .i64),.sc (.int .i64)]→W R} (h0:getIn lo hi L=none→∀ e w',e≠0→RD b L F w'→Fr (fun k=>k=b) w w'→K (0,e) Q w') (hk:∀ v L',getIn lo hi L=some (v,L')→lo≤v∧v≤hi→∀ w',RD b L' F w'→Fr (fun k=>k=b) w w'→K (v,0) Q w') :
  callW Tryz.prog Z1b [.pointer (some ⟨b,0,none⟩),.int .i64 lo,.int .i64 hi] [.sc (.int .i64),.sc (.int .i64)] K Q w:=by
 refine Zxu _ _ _ K Q w ?_
 unfold Zgy
 refine newI fun w1 B1 f1 z1=>newI fun w2 B2 f2 z2=>?_
 have Blo:=B1.fr f2 fun h=>h
 have f02:=f1.then0 f2
 obtain ⟨s,n,B,hback⟩:=h.back
 have hb:=B.lt
 refine joinI (fun z v=>z=false∧v=w2) ?_ ?_
 ·refine fld0 B2 (i:=0) (x:=hi) rfl (fld0 Blo (i:=0) (x:=lo) rfl (condF (decide_eq_false (by omega)) ⟨rfl,rfl⟩))
 rintro z v ⟨rfl,rfl⟩
 refine condF rfl ?_
 refine Z94 _ _ _ _ _ _ ?_
 unfold Z1x
 refine condF rfl (ptrI (aggI (B.fr f02 fun h=>h) (x:=((s,n):Sl × Int)) rfl (newI fun w3 B3 f3 z3=>stoAll B3 rfl rfl fun w4 B4 f4 z4=>?_)))
 have f24:Fr None v w4:=f3.newer f4 fun k e=>by omega
 have f04:=f02.then0 f24
 have Blo:=Blo.fr f24 fun h=>h
 have Bhi:=B2.fr f24 fun h=>h
 have hr4:=RD.st.fr0 h f04
 have hw:widthM lo hi≤64:=Z49 (by omega)
 refine Zrz _ _ _ _ _ _ ?_
 unfold Zbo
 refine ptrI (fld0 Blo (i:=0) (x:=lo) rfl (ptrI (fld0 Bhi (i:=0) (x:=hi) rfl ?_)))
 refine Zco (by omega) (by omega) ?_
 have bad:getIn lo hi L=none→∀ x e L' w5,e≠0→RD b L' F w5→Fr (fun k=>k=b) w4 w5 →
   cond (e != 0)
    (ld (.agg [.sl,.int .i64]) ⟨v.heap.size,0,none⟩ fun (x_5:(Sl × Int))=>ptrW (some ⟨b,0,none⟩) fun x_6 =>
    stoL x_6 [.slice x_5.1.a x_5.1.n x_5.1.c,.int .i64 x_5.2] 0 <|
    K (0,e))
    (K (x,0)) Q w5:=by
  intro hg x e L' w5 he hr f5
  refine condT (by simpa using he) ?_
  obtain ⟨cs,B5,hl⟩:=hr.blk
  refine aggI (B4.fr f5 fun e=>by omega) (x:=((s,n):Sl × Int)) rfl (ptrI (stoAll B5 hl.symm rfl fun w6 B6 f6 z6=>?_))
  have f06:=(f04.any.then f5).then f6
  exact h0 hg e w6 he (hback w6 f06 B6) f06
 refine Z9i hr4 hw (fun hlt w5 hr5 f5=>?_) fun hge w5 hr5 f5=>?_
 ·refine condT rfl ?_
  exact bad (by unfold getIn; rw [getN,if_neg (by omega)]) 0 2 L w5 (by decide) hr5 f5.any
 ·refine condF rfl ?_
  have Blo5:=Blo.fr f5 fun e=>by omega
  have Bhi5:=Bhi.fr f5 fun e=>by omega
  have hg:getIn lo hi L=if ((valB (L.take (widthM lo hi)):Nat):Int)≤hi - lo then some (lo+((valB (L.take (widthM lo hi)):Nat):Int),L.drop (widthM lo hi)) else none:=by
   unfold getIn
   rw [getN,if_pos hge]
  have hx:=Zie (L.take (widthM lo hi))
  rw [List.length_take,Nat.min_eq_left hge] at hx
  have hx64:2 ^ widthM lo hi≤2 ^ 64:=Nat.pow_le_pow_right (by decide) hw
  generalize valB (L.take (widthM lo hi))=x at hx hg
  refine ptrI (fld0 Bhi5 (i:=0) (x:=hi) rfl (ptrI (fld0 Blo5 (i:=0) (x:=lo) rfl ?_)))
  have ed:IntKind.wrap .u64 (IntKind.wrap .u64 hi - IntKind.wrap .u64 lo)=hi - lo:=by
   rw [IntKind.wrap_u64,IntKind.wrap_u64,IntKind.wrap_u64]
   omega
  rw [ed]
  refine condD (fun hgt=>?_) fun hle=>?_
  ·have hgt:(x:Int) > hi - lo:=hgt
   rw [if_neg (by omega)] at hg
   exact bad hg 0 5 _ w5 (by decide) hr5 f5
  ·have hle:¬ (x:Int) > hi - lo:=hle
   rw [if_pos (by omega)] at hg
   refine ptrI (fld0 Blo5 (i:=0) (x:=lo) rfl ?_)
   have es:IntKind.wrap .i64 (IntKind.wrap .u64 (IntKind.wrap .u64 lo+(x:Int)))=lo+(x:Int):=by
    have e1:IntKind.wrap .u64 (IntKind.wrap .u64 lo+(x:Int))=(lo+(x:Int)) % 18446744073709551616:=by
     rw [IntKind.wrap_u64,IntKind.wrap_u64]
     omega
    rw [e1,IntKind.wrap_i64]
    omega
   show K (IntKind.wrap .i64 (IntKind.wrap .u64 (IntKind.wrap .u64 lo+(x:Int))),0) Q w5
   rw [es]
   exact hk _ _ hg (by omega) w5 hr5 (f04.any.then f5)
end Go.Proofs.YtchhhjlpnecjkaaGreat
namespace Go.Proofs.YtchhhjlpnecjkaaGreat
open Go Go.RowKit Go.Proofs.YtchhhjlpnecjkaaGreat.Den
variable {R:Type} {Q:R→World→Prop} {w:World}
abbrev giveUp:List PanicEntry:=[{ v:=.iface 171 (.agg ⟨[]⟩),recovered:=false }]
section
variable [Pan R]
theorem Z6u {v e:Int} {K:Res [.sc (.int .u64)]→W R} (h0:e≠0→Pan.pan Q giveUp w) (hk:e=0→K v Q w):callP Tryz.prog Z3b [.int .u64 v,.int .i64 e] [.sc (.int .u64)] K Q w:=by
 refine Zig v e K Q w ?_
 unfold Z5x
 refine joinI (fun _ w'=>e=0∧w'=w) (condN (fun h=>h0 h) fun h=>⟨h,rfl⟩) ?_
 rintro _ w' ⟨h,rfl⟩
 exact hk h
theorem Z5 {v e:Int} {K:Res [.sc (.int .i64)]→W R} (h0:e≠0→Pan.pan Q giveUp w) (hk:e=0→K v Q w):callP Tryz.prog Z6 [.int .i64 v,.int .i64 e] [.sc (.int .i64)] K Q w:=by
 refine Zk7 v e K Q w ?_
 unfold Z6w
 refine joinI (fun _ w'=>e=0∧w'=w) (condN (fun h=>h0 h) fun h=>⟨h,rfl⟩) ?_
 rintro _ w' ⟨h,rfl⟩
 exact hk h
theorem Z8y {b:Nat} {L:List Bool} {F:Nat→Prop} (h:RD b L F w) {n:Nat} (hn:n≤64) {K:Res [.sc (.int .u64)]→W R} (h0:getN n L=none→∀ w',Fr (fun k=>k=b) w w'→Pan.pan Q giveUp w') (hk:∀ v L',getN n L=some (v,L')→v < 2 ^ n→∀ w',RD b L' F w'→Fr (fun k=>k=b) w w'→K (v:Int) Q w') :
  callP Tryz.prog Zx [.agg ⟨[.pointer (some ⟨b,0,none⟩)]⟩,.int .i64 (n:Int)] [.sc (.int .u64)] K Q w:=by
 refine Zgb _ _ K Q w ?_
 unfold Z59
 refine newI fun w1 B1 f1 z1=>fldI B1 (i:=0) (x:=some ⟨b,0,none⟩) rfl ?_
 refine Z9i (RD.st.fr0 h f1) hn (fun hlt w2 hr f2=>?_) fun hge w2 hr f2=>?_
 ·exact Z6u (fun _=>h0 (by rw [getN,if_neg (by omega)]) w2 (f1.then0 f2).any) fun h=>absurd h (by decide)
 ·refine Z6u (fun h=>absurd rfl h) fun _=>?_
  have hx:=Zie (L.take n)
  rw [List.length_take,Nat.min_eq_left hge] at hx
  exact hk _ _ (by rw [getN,if_pos hge]) hx w2 hr (f1.any.then f2)
theorem Z5r {b:Nat} {L:List Bool} {F:Nat→Prop} (h:RD b L F w) {K:Res [.sc (.int .u64)]→W R} (h0:getVar L=none→∀ w',Fr (fun k=>k=b) w w'→Pan.pan Q giveUp w') (hk:∀ v L',getVar L=some (v,L')→v < 18446744073709551616→∀ w',RD b L' F w'→Fr (fun k=>k=b) w w'→K (v:Int) Q w') :
  callP Tryz.prog Zh [.agg ⟨[.pointer (some ⟨b,0,none⟩)]⟩] [.sc (.int .u64)] K Q w:=by
 refine Zg9 _ K Q w ?_
 unfold Z57
 refine newI fun w1 B1 f1 z1=>fldI B1 (i:=0) (x:=some ⟨b,0,none⟩) rfl ?_
 refine Zue (RD.st.fr0 h f1) (fun hg e w2 he hr f2=>?_) fun v L' hg hv w2 hr f2=>?_
 ·exact Z6u (fun _=>h0 hg w2 (f1.any.then f2)) fun h=>absurd h he
 ·exact Z6u (fun h=>absurd rfl h) fun _=>hk v L' hg hv w2 hr (f1.any.then f2)
theorem Zq8 {b bl:Nat} {L:List Bool} {F:Nat→Prop} {T:TypeId} {last:Int} (h:RD b L F w) (B:Blk w bl T [.int .u32 last]) (hbl:¬ F bl) {K:Res [.sc (.int .u32)]→W R} (h0:idDec last L=none→∀ w',Fr (fun k=>k=b∨k=bl) w w'→Pan.pan Q giveUp w')
  (hk:∀ id L',idDec last L=some (id,L')→IdOk id→∀ w',RD b L' F w'→Blk w' bl T [.int .u32 id]→Fr (fun k=>k=b∨k=bl) w w'→K id Q w') :
  callP Tryz.prog Z35 [.agg ⟨[.pointer (some ⟨b,0,none⟩)]⟩,.pointer (some ⟨bl,0,none⟩)] [.sc (.int .u32)] K Q w:=by
 refine Zmv _ _ K Q w ?_
 unfold Z83
 have hbb:b≠bl:=fun e=>hbl (e ▸ h.1)
 refine newI fun w1 B1 f1 z1=>aggI B1 (x:=some ⟨b,0,none⟩) rfl ?_
 have or1:∀ {u v:World},Fr (fun k=>k=b) u v→Fr (fun k=>k=b∨k=bl) u v:=fun f=>f.sub fun k e=>.inl e
 refine Z5r (RD.st.fr0 h f1) (fun hg w2 f2=>?_) fun v L' hg hv w2 hr f2=>?_
 ·exact h0 (by unfold idDec; rw [hg]) w2 (or1 (f1.any.then f2))
 have f02:=or1 (f1.any.then f2)
 have hid:idDec last L=if 4294967296≤v then none else some ((last+(v:Int)+1) % 4294967296,L'):=by unfold idDec; rw [hg]
 refine joinI (fun _ w'=>v < 4294967296∧w'=w2) ?_ ?_
 ·refine condD (fun hge=>?_) fun hlt=>⟨by omega,rfl⟩
  exact h0 (by rw [hid,if_pos (by omega)]) w2 f02
 rintro _ w3 ⟨hlt,rfl⟩
 rw [if_neg (by omega)] at hid
 have Bl:=(B.fr f1 fun h=>h).fr f2 fun e=>hbb e.symm
 refine ptrI (fld0 Bl (i:=0) (x:=last) rfl (ptrI ?_))
 have e:IntKind.wrap .u32 (last+IntKind.wrap .u32 (IntKind.wrap .u32 (v:Int)+1))=(last+(v:Int)+1) % 4294967296:=by
  have a:∀ x:Int,IntKind.wrap .u32 x=x % 4294967296:=fun x=>by rw [IntKind.wrap_u32]
  rw [a,a,a]
  omega
 rw [e]
 refine stoAll Bl rfl rfl fun w4 B4 f4 z4=>ptrI (fld0 B4 (i:=0) (x:=(last+(v:Int)+1) % 4294967296) rfl ?_)
 refine hk _ L' hid ⟨by omega,by omega⟩ w4 (RD.st.fr hr f4 fun k e e2=>hbl (e2 ▸ e)) B4 (f02.then (f4.sub fun k e=>.inr e))
end
end Go.Proofs.YtchhhjlpnecjkaaGreat
namespace Go.Proofs.YtchhhjlpnecjkaaGreat
open Go Go.RowKit Go.Proofs.YtchhhjlpnecjkaaGreat.Den
variable {R:Type} {Q:R→World→Prop} {w:World}
theorem Zr0 {b:Nat} {L:List Bool} {F:Nat→Prop} (h:RD b L F w) {k i:Int} (hr:(rangeM k i).1≤(rangeM k i).2.1) {K:Res [.sc (.int .i32),.sc (.int .i64)]→W R} (h0:getIn (rangeM k i).1 (rangeM k i).2.1 L=none→∀ e w',e≠0→RD b L F w'→Fr (fun k=>k=b) w w'→K (0,e) Q w') (hk:∀ v L',getIn (rangeM k i).1 (rangeM k i).2.1 L=some (v,L')→(rangeM k i).1≤v∧v≤(rangeM k i).2.1→∀ w',RD b L' F w'→Fr (fun k=>k=b) w w'→K (v,0) Q w') :
  callW Tryz.prog Zo8 [.pointer (some ⟨b,0,none⟩),.int .u8 k,.int .i64 i] [.sc (.int .i32),.sc (.int .i64)] K Q w:=by
 refine Z13i _ _ _ K Q w ?_
 unfold Zs3
 refine Z9l fun w1 f1=>?_
 obtain ⟨r1,r2⟩:=Z1p k i
 rw [w64 (x:=(rangeM k i).1) (by omega),w64 (x:=(rangeM k i).2.1) (by omega)]
 refine Z1l (RD.st.fr0 h f1) (by omega) hr (by omega) (fun hg e w2 he hr2 f2=>?_) fun v L' hg hv w2 hr2 f2=>?_
 ·exact h0 hg e w2 he hr2 (f1.any.then f2)
 ·have ew:IntKind.wrap .i32 v=v:=by rw [IntKind.wrap_i32]; omega
  show K (IntKind.wrap .i32 v,0) Q w2
  rw [ew]
  exact hk v L' hg hv w2 hr2 (f1.any.then f2)
theorem Zhl (k:Int):∀ (is js:List Nat) (L:List Bool),readF k (is ++ js) L=match readF k is L with
  | none=>none
  | some (vs,L2)=>match readF k js L2 with
   | none=>none
   | some (vs2,L3)=>some (vs ++ vs2,L3)
 | [],js,L=>by
  rw [List.nil_append,readF]
  dsimp only
  cases readF k js L with
  | none=>rfl
  | some p=>rfl
 | i :: r,js,L=>by
  rw [List.cons_append,readF,readF]
  cases getIn (rangeM k (i:Int)).1 (rangeM k (i:Int)).2.1 L with
  | none=>rfl
  | some p =>
   obtain ⟨v,L2⟩:=p
   dsimp only
   rw [Zhl k r js L2]
   cases readF k r L2 with
   | none=>rfl
   | some q =>
    obtain ⟨vs,L3⟩:=q
    dsimp only
    cases readF k js L3 with
    | none=>rfl
    | some t=>rfl
theorem Z121 {k:Int} {vs:List Int} {v:Int} (h:vs.length < 3):(compC (mkC k vs)).set (1+vs.length) (.int .i32 v)=compC (mkC k (vs ++ [v])):=by
 rcases vs with _ | ⟨a,_ | ⟨b,_ | ⟨c,r⟩⟩⟩
 ·rfl
 ·rfl
 ·rfl
 ·simp at h; omega
theorem Zrt (k:Int) {i:Nat} (h:i < cntM k):(rangeM k (i:Int)).1≤(rangeM k (i:Int)).2.1:=by
 have h3:=Z5j k
 rcases Zfd k with rfl | rfl | rfl | rfl | rfl | rfl | hk
 ·rcases (show i=0∨i=1∨i=2 by omega) with rfl | rfl | rfl <;> first | decide +kernel | exact absurd h (by decide +kernel)
 ·rcases (show i=0∨i=1∨i=2 by omega) with rfl | rfl | rfl <;> first | decide +kernel | exact absurd h (by decide +kernel)
 ·rcases (show i=0∨i=1∨i=2 by omega) with rfl | rfl | rfl <;> first | decide +kernel | exact absurd h (by decide +kernel)
 ·rcases (show i=0∨i=1∨i=2 by omega) with rfl | rfl | rfl <;> first | decide +kernel | exact absurd h (by decide +kernel)
 ·rcases (show i=0∨i=1∨i=2 by omega) with rfl | rfl | rfl <;> first | decide +kernel | exact absurd h (by decide +kernel)
 ·rcases (show i=0∨i=1∨i=2 by omega) with rfl | rfl | rfl <;> first | decide +kernel | exact absurd h (by decide +kernel)
 ·have:cntM k=0:=by unfold cntM fieldsM; simp [hk]
  omega
theorem Zx6 {b:Nat} {L:List Bool} {F:Nat→Prop} (h:RD b L F w) (hF:∀ k,F k→k < w.heap.size) {k:Int} {K:Res [.agg [.int .u8,.int .i32,.int .i32,.int .i32],.sc (.int .i64)]→W R} (h0:compD k L=none→∀ e w',e≠0→RD b L F w'→Fr (fun k=>k=b) w w'→K ((0,0,0,0),e) Q w') (hk:∀ c L',compD k L=some (c,L')→∀ w',RD b L' F w'→Fr (fun k=>k=b) w w'→K (c,0) Q w') :
  callW Tryz.prog Zpr [.pointer (some ⟨b,0,none⟩),.int .u8 k] [.agg [.int .u8,.int .i32,.int .i32,.int .i32],.sc (.int .i64)] K Q w:=by
 refine Z12k _ _ K Q w ?_
 unfold Zpa
 have hbb:=hF b h.1
 have hcn:=Z5j k
 refine newI fun w1 Br f1 z1=>newI fun w2 Bk f2 z2=>newI fun w3 Bx f3 z3=>?_
 have Br:=(Br.fr f2 fun h=>h).fr f3 fun h=>h
 have Bk:=Bk.fr f3 fun h=>h
 have f03:=(f1.then0 f2).then0 f3
 refine fld0 Br (i:=0) (x:=some ⟨b,0,none⟩) rfl (condF rfl (fld0 Bk (i:=0) (x:=k) rfl (Z3n fun w4 f4=>?_)))
 have f04:=f03.then0 f4
 have Br:=Br.fr f4 fun h=>h
 have Bk:=Bk.fr f4 fun h=>h
 have Bx:=Bx.fr f4 fun h=>h
 have s4:=f4.size
 refine condE (fun hz=>?_) fun hz=>?_
 ·refine stoAll Bx rfl rfl fun w5 B5 f5 z5=>aggI B5 (x:=((0,0,0,0):Comp)) rfl ?_
  exact h0 (by unfold compD; rw [if_pos (by omega)]) 1 w5 (by decide) (RD.st.fr (RD.st.fr0 h f04) f5 fun k e e2=>by have:=hF k e; omega) (f04.newer f5 fun k e=>by omega).any
 have hD:compD k L=match readF k (List.range (cntM k)) L with
   | none=>none
   | some (vs,r)=>some (mkC k vs,r):=by unfold compD; rw [if_neg (by omega)] <;> rfl
 refine fld0 Br (i:=0) (x:=some ⟨b,0,none⟩) rfl (fld0 Bk (i:=0) (x:=k) rfl ?_)
 refine Ze6 (some ⟨b,0,none⟩) (k,0,0,0) _ _ _ _ _ ?_
 unfold Z3g
 have hr4:=RD.st.fr0 h f04
 obtain ⟨s,n,B,hback⟩:=hr4.back
 refine newI fun w5 Bc f5 z5=>newI fun w6 By f6 z6=>?_
 have Bc:=Bc.fr f6 fun h=>h
 have f46:=f5.then0 f6
 refine ptrI (aggI (B.fr f46 fun h=>h) (x:=((s,n):Sl × Int)) rfl (newI fun w7 Bw f7 z7=>stoAll Bw rfl rfl fun w8 Bw f8 z8=>?_))
 have f68:Fr None w6 w8:=f7.newer f8 fun k e=>by omega
 have f48:=f46.then0 f68
 have Bc:=Bc.fr f68 fun h=>h
 have By:=By.fr f68 fun h=>h
 refine fldI Bc (i:=0) (x:=k) rfl (Z3n fun w9 f9=>?_)
 have f49:=f48.then0 f9
 have s9:=f49.size
 have hw4:w.heap.size≤w4.heap.size:=f04.size
 have hFn:∀ {x:Nat},w.heap.size≤x→∀ k,F k→¬ k=x:=fun hx k e e2=>by have:=hF k e; omega
 refine forI (N:=cntM k) (fun s:Int=>s) (fun j i u=>i=(j:Int)∧(∃ vs L',vs.length=j∧readF k (List.range j) L=some (vs,L')∧Blk u w4.heap.size 92 (compC (mkC k vs))∧RD b L' F u)∧Fr (fun k=>k=b) w4 u∧Blk u w5.heap.size 92 (compC (0,0,0,0))∧Blk u w6.heap.size 173 [.slice s.a s.n s.c,.int .i64 n]∧Blk u w.heap.size 60 [.pointer (some ⟨b,0,none⟩)]∧Blk u w1.heap.size 5 [.int .u8 k]∧Blk u w2.heap.size 92 (compC (0,0,0,0)))
  ⟨rfl,⟨[],L,rfl,rfl,Bc.fr f9 fun h=>h,RD.st.fr0 hr4 f49⟩,f49.any,By.fr f9 fun h=>h,Bw.fr f9 fun h=>h,Br.fr f49 fun h=>h,Bk.fr f49 fun h=>h,Bx.fr f49 fun h=>h⟩ (fun j s w' h=>h.1) ?_ ?_
 ·rintro j i u K' hj ⟨rfl,⟨vs,L',hvl,hrd,Bc,hr⟩,fu,By,Bw,Br,Bk,Bx⟩ - hK
  refine Zvn _ _ _ _ _ _ ?_
  unfold Zf0
  have nb:∀ {x:Nat},w.heap.size≤x→¬ x=b:=fun hx e=>by omega
  have f0u:Fr (fun k=>k=b) w u:=f04.any.then fu
  refine ptrI (fld0 Br (i:=0) (x:=some ⟨b,0,none⟩) rfl (ptrI (fld0 Bk (i:=0) (x:=k) rfl ?_)))
  refine Zr0 hr (Zrt k hj) (fun hg e u2 he hr2 f2=>?_) fun v L2 hg hv u2 hr2 f2=>?_
  ·have hnone:compD k L=none:=by
    rw [hD]
    have e1:List.range (cntM k)=List.range j ++ (j :: List.range' (j+1) (cntM k - j - 1)):=by
     have:cntM k=j+((cntM k - j - 1)+1):=by omega
     rw [this,List.range_eq_range',List.range_eq_range',← List.range'_append_1,Nat.zero_add,List.range'_succ]
     congr 4
     omega
    rw [e1,Zhl,hrd]
    dsimp only
    rw [readF,hg]
   refine condT (by simpa using he) ?_
   obtain ⟨cs,B2,hl⟩:=hr2.blk
   refine aggI (Bw.fr f2 (nb (by omega))) (x:=((s,n):Sl × Int)) rfl (ptrI (stoAll B2 hl.symm rfl fun u3 B3 f3 y3=>?_))
   have By3:=(By.fr f2 (nb (by omega))).fr f3 (nb (by omega))
   have f43:Fr (fun k=>k=b) w4 u3:=(fu.then f2).then f3
   have hr3:=hback u3 f43 B3
   have s3:=f43.size
   refine stoAll By3 rfl rfl fun u4 B4 f4 y4=>aggI B4 (x:=((0,0,0,0):Comp)) rfl ?_
   have Bx4:=(((Bx.fr f2 (nb (by omega))).fr f3 (nb (by omega))).fr f4 fun e=>by omega)
   refine stoAll Bx4 rfl rfl fun u5 B5 f5 y5=>aggI B5 (x:=((0,0,0,0):Comp)) rfl ?_
   exact h0 hnone e u5 he (RD.st.fr (RD.st.fr hr3 f4 (hFn (by omega))) f5 (hFn (by omega))) (((f04.any.then f43).thenNew f4 fun k e=>by omega).thenNew f5 fun k e=>by omega)
  ·show idxW (some (Addr.add ⟨w4.heap.size,0,none⟩ 1)) 3 1 (j:Int) (fun x=>stoL x [.int .i32 v] 0 (K' (IntKind.wrap .i64 ((j:Int)+1)))) _ _
   refine fIdx rfl (by omega) ?_
   refine setI (i:=1+j) (Bc.fr f2 (nb (by omega))) (by simp; omega) rfl fun u3 B3 f3 y3=>?_
   subst hvl
   rw [Z121 (by omega)] at B3
   have ne:∀ {x:Nat},x≠w4.heap.size→¬ x=w4.heap.size:=fun h=>h
   refine hK _ _ ⟨wsucc hj (by omega),⟨vs ++ [v],L2,by simp,?_,B3,RD.st.fr hr2 f3 (hFn (by omega))⟩,(fu.then f2).thenNew f3 fun k e=>by omega,(By.fr f2 (nb (by omega))).fr f3 (ne (by omega)),(Bw.fr f2 (nb (by omega))).fr f3 (ne (by omega)),(Br.fr f2 (nb (by omega))).fr f3 (ne (by omega)),(Bk.fr f2 (nb (by omega))).fr f3 (ne (by omega)),(Bx.fr f2 (nb (by omega))).fr f3 (ne (by omega))⟩
   rw [List.range_succ,Zhl,hrd]
   dsimp only
   rw [readF,hg]
   rfl
 ·rintro i u ⟨_,⟨vs,L',hvl,hrd,Bc,hr⟩,fu,By,Bw,Br,Bk,Bx⟩
  rw [hrd] at hD
  dsimp only at hD
  refine aggI Bc (x:=mkC k vs) rfl (stoAll By rfl rfl fun u2 B2 f2 y2=>aggI B2 (x:=mkC k vs) rfl ?_)
  have Bx2:=Bx.fr f2 fun e=>by omega
  refine stoAll Bx2 rfl rfl fun u3 B3 f3 y3=>aggI B3 (x:=mkC k vs) rfl ?_
  exact hk _ L' hD u3 (RD.st.fr (RD.st.fr hr f2 (hFn (by omega))) f3 (hFn (by omega))) (((f04.any.then fu).thenNew f2 fun k e=>by omega).thenNew f3 fun k e=>by omega)
end Go.Proofs.YtchhhjlpnecjkaaGreat
namespace Go.Proofs.YtchhhjlpnecjkaaGreat
open Go Go.RowKit Go.Proofs.YtchhhjlpnecjkaaGreat.Den
variable {R:Type} {Q:R→World→Prop} {w:World}
theorem Z16t:∀ m:Fin 32,∀ j:Fin 5,(bAnd .u64 (shR .u64 ((m.val:Nat):Int) ((j.val:Nat):Int)) 1 == 1)=m.val.testBit j.val:=by decide +kernel
def kindsB (m j:Nat):List Int:=((List.range j).filter (Nat.testBit m)).map fun (k:Nat)=>(k:Int)
theorem Z7u (m j:Nat):kindsB m (j+1)=kindsB m j ++ if m.testBit j=true then [(j:Int)] else []:=by
 unfold kindsB
 rw [List.range_succ,List.filter_append,List.map_append]
 congr 1
 by_cases h:m.testBit j=true
 ·simp [List.filter,h]
 ·simp [List.filter,h]
theorem Z5q {m:Nat} (h:m < 32):kindsB m 5=kindsOf m:=by
 have e:kindsOf m=kindsB m 6:=rfl
 have h5:m.testBit 5=false:=by
  rw [Nat.testBit_eq_decide_div_mod_eq]
  simp
  omega
 rw [e,show (6:Nat)=5+1 from rfl,Z7u m 5,h5]
 simp
theorem Zoa (m j:Nat):(kindsB m j).length≤j:=by
 unfold kindsB
 rw [List.length_map]
 exact Nat.le_trans (List.length_filter_le _ _) (by simp)
theorem Zet {m:Nat} (hm:m < 32) {K:Res [.sc .sl]→W R} (hk:∀ r w',Own (Up w.heap.size) w' 5 u8T r (kindsOf m)→Fr None w w'→K r Q w') :
  callW Tryz.prog Z9r [.int .u64 (m:Int)] [.sc .sl] K Q w:=by
 refine Ztt _ K Q w ?_
 unfold Zds
 refine forI (N:=5) (fun s:Sl × Int=>s.2) (fun j st u=>st.2=(j:Int)∧Own (Up w.heap.size) u 5 u8T st.1 (kindsB m j)∧Fr None w u) ⟨rfl,Own.nil _ _ _ _,Fr.refl _ _⟩ (fun j s w' h=>h.1) ?_ ?_
 ·rintro j ⟨z,_⟩ u K' hj ⟨rfl,o,fu⟩ - hK
  have zu:=fu.size
  have lb:=Zoa m j
  refine chkI (by omega) ?_
  have hb:=Z16t ⟨m,hm⟩ ⟨j,hj⟩
  dsimp only at hb ⊢
  rw [hb]
  refine joinI (fun z u'=>Own (Up w.heap.size) u' 5 u8T z (kindsB m (j+1))∧Fr None w u') ?_ fun z u' ⟨h1,h2⟩=>hK _ _ ⟨by rw [wu8 (by omega)]; rfl,h1,h2⟩
  rw [Z7u]
  refine condI (fun h=>?_) fun h=>?_
  ·rw [if_pos h]
   exact appP (x:=(j:Int)) Z9o rfl o (fun k e=>by show w.heap.size≤k; omega) (by omega) (by omega) fun r u2 o2 f2=>⟨o2,fu.newer f2 fun k e=>o.own k e⟩
  ·rw [if_neg (by rw [h]; decide),List.append_nil]
   exact ⟨o,fu⟩
 ·rintro ⟨z,_⟩ u ⟨_,o,fu⟩
  rw [Z5q hm] at o
  exact hk z u o fu
theorem Z9u [Pan R] {v:Comp} {e:Int} {K:Res [.agg [.int .u8,.int .i32,.int .i32,.int .i32]]→W R} (h0:e≠0→∀ w',Fr None w w'→Pan.pan Q giveUp w') (hk:e=0→∀ w',Fr None w w'→K v Q w'):callP Tryz.prog Z4x [.agg ⟨[.int .u8 v.1,.int .i32 v.2.1,.int .i32 v.2.2.1,.int .i32 v.2.2.2]⟩,.int .i64 e] [.agg [.int .u8,.int .i32,.int .i32,.int .i32]] K Q w:=by
 refine Zmu v e K Q w ?_
 unfold Z82
 refine newI fun w1 B1 f1 z1=>newI fun w2 B2 f2 z2=>?_
 have f02:=f1.then0 f2
 refine joinI (fun _ w'=>e=0∧w'=w2) (condN (fun h=>h0 h w2 f02) fun h=>⟨h,rfl⟩) ?_
 rintro _ w' ⟨h,rfl⟩
 refine aggI (B1.fr f2 fun h=>h) (x:=v) rfl (stoAll B2 rfl rfl fun w3 B3 f3 z3=>aggI B3 (x:=v) rfl ?_)
 exact hk h w3 (f02.newer f3 fun k e=>by omega)
theorem Zoo [Pan R] {b:Nat} {L:List Bool} {F:Nat→Prop} (h:RD b L F w) (hF:∀ k,F k→k < w.heap.size) {m:Nat} (hm:m < 32) {K:Res [.sc .sl]→W R} (h0:compsD (kindsOf m) L=none→∀ w',Fr (fun k=>k=b) w w'→Pan.pan Q giveUp w') (hk:∀ cs L',compsD (kindsOf m) L=some (cs,L')→∀ r w',Own (Up w.heap.size) w' 92 compT r cs→RD b L' F w'→Fr (fun k=>k=b) w w'→K r Q w') :
  callP Tryz.prog Z34 [.agg ⟨[.pointer (some ⟨b,0,none⟩)]⟩,.int .u64 (m:Int)] [.sc .sl] K Q w:=by
 refine Zg8 _ _ K Q w ?_
 unfold Z56
 have hbb:=hF b h.1
 refine newI fun w1 B1 f1 z1=>Zet hm fun r w2 o2 f2=>?_
 have f02:=f1.then0 f2
 have z2:=f02.size
 have B2:=B1.fr f2 fun h=>h
 have hlen:=o2.len
 have hkl:(kindsOf m).length≤5:=by rw [← Z5q hm]; exact Zoa m 5
 have app:∀ (is js:List Int) (L:List Bool) cs L2,compsD is L=some (cs,L2)→compsD (is ++ js) L=match compsD js L2 with
   | none=>none
   | some (cs2,L3)=>some (cs ++ cs2,L3):=by
  intro is
  induction is with
  | nil =>
   intro js L cs L2 e
   rw [compsD] at e
   cases e
   rw [List.nil_append]
   cases compsD js L with
   | none=>rfl
   | some p=>rfl
  | cons i is ih =>
   intro js L cs L2 e
   rw [compsD] at e
   rw [List.cons_append,compsD]
   cases hi:compD i L with
   | none=>rw [hi] at e; cases e
   | some p =>
    obtain ⟨c,L1⟩:=p
    rw [hi] at e
    dsimp only at e ⊢
    cases hj:compsD is L1 with
    | none=>rw [hj] at e; cases e
    | some q =>
     obtain ⟨cs1,L3⟩:=q
     rw [hj] at e
     dsimp only at e
     cases e
     rw [ih js L1 _ _ hj]
     cases compsD js _ with
     | none=>rfl
     | some t=>rfl
 refine forI (N:=r.n) (fun s:Sl × Int=>s.2) (fun j st u=>st.2=(j:Int)∧(∃ cs L',compsD ((kindsOf m).take j) L=some (cs,L')∧cs.length=j∧Own (fun k=>w2.heap.size≤k) u 92 compT st.1 cs∧RD b L' F u)∧Fr (fun k=>k=b) w2 u) ⟨rfl,⟨[],L,rfl,rfl,Own.nil _ _ _ _,RD.st.fr0 h f02⟩,Fr.refl _ _⟩ (fun j s w' h=>h.1) ?_ ?_
 ·rintro j ⟨z,_⟩ u K' hj ⟨rfl,⟨cs,L',e,hl,o,hr⟩,fu⟩ - hK
  have zu:=fu.size
  have nbo:∀ k,Up w1.heap.size k→¬ k=b:=fun k e e2=>by have e:w1.heap.size≤k:=e; omega
  refine (o2.sl.fr fu nbo).get rfl rfl (by omega) fun k hkj=>?_
  have e1:=app _ [k] L cs L' e
  rw [← Z8 hkj] at e1
  refine fldI (B2.fr fu fun e=>by omega) (i:=0) (x:=some ⟨b,0,none⟩) rfl ?_
  refine Zx6 hr (fun k e=>by have:=hF k e; omega) (fun hg e' u2 he hr2 f2'=>?_) fun c L2 hg u2 hr2 f2'=>?_
  ·refine Z9u (v:=(0,0,0,0)) (fun _ w' f'=>h0 ?_ w' (((f02.any.then fu).then f2').then f'.any)) fun h=>absurd h he
   have:kindsOf m=(kindsOf m).take (j+1) ++ (kindsOf m).drop (j+1):=(List.take_append_drop _ _).symm
   rw [compsD,hg] at e1
   have none_app:∀ (is js:List Int) (L:List Bool),compsD is L=none→compsD (is ++ js) L=none:=by
    intro is
    induction is with
    | nil=>intro js L e; rw [compsD] at e; cases e
    | cons i is ih =>
     intro js L e
     rw [compsD] at e
     rw [List.cons_append,compsD]
     cases hi:compD i L with
     | none=>rfl
     | some p =>
      obtain ⟨c,L1⟩:=p
      rw [hi] at e
      dsimp only at e ⊢
      cases hj:compsD is L1 with
      | none=>rw [ih js L1 hj]
      | some q=>rw [hj] at e; cases e
   rw [this]
   exact none_app _ _ _ e1
  ·simp only [compsD,hg] at e1
   refine Z9u (v:=c) (fun h=>absurd rfl h) fun _ u3 f3=>?_
   have s2:=f2'.size
   have s3:=f3.size
   have o3:Own (fun k=>w2.heap.size≤k) u3 92 compT z cs:=(o.fr f2' fun k e e2=>by omega).none f3
   refine appP (x:=c) Z2u rfl o3 (fun k e=>by show w2.heap.size≤k; omega) (by omega) (by omega) fun r2 u4 o4 f4=>?_
   exact hK _ _ ⟨wsucc hj (by omega),⟨cs ++ [c],L2,e1,by simp [hl],o4,RD.st.fr (RD.st.fr0 hr2 f3) f4 fun k e e2=>by have:=o3.own k e2; have:=hF k e; omega⟩,((fu.then f2').then f3.any).thenNew f4 fun k e=>by have:=o3.own k e; omega⟩
 ·rintro ⟨z,_⟩ u ⟨_,⟨cs,L',e,hl,o,hr⟩,fu⟩
  rw [List.take_of_length_le (by omega)] at e
  exact hk cs L' e z u (o.mono fun k _ e=>by show w.heap.size≤k; omega) hr (f02.any.then fu)
end Go.Proofs.YtchhhjlpnecjkaaGreat
namespace Go.Proofs.YtchhhjlpnecjkaaGreat
open Go Go.RowKit Go.Proofs.YtchhhjlpnecjkaaGreat.Den
variable {R:Type} {Q:R→World→Prop} {w:World}
theorem Z15t:∀ z:Fin 17,bXor .i64 (IntKind.wrap .i64 (shR .u64 ((z.val:Nat):Int) 1)) (IntKind.wrap .i64 (0 - IntKind.wrap .i64 (bAnd .u64 ((z.val:Nat):Int) 1)))=zagM ((z.val:Nat):Int):=by decide +kernel
theorem Zx8 {z:Nat} (hz:z≤16) {K:Res [.sc (.int .i64)]→W R} (hk:K (zagM (z:Int)) Q w):callW Tryz.prog Zpt [.int .u64 (z:Int)] [.sc (.int .i64)] K Q w:=by
 refine Z12n _ K Q w ?_
 unfold Zpd
 have:=Z15t ⟨z,by omega⟩
 dsimp only at this
 rw [this]
 exact hk
theorem Zt8 {b:Nat} {L:List Bool} {F:Nat→Prop} (h:RD b L F w) (hF:∀ k,F k→k < w.heap.size) {was:Comp} (hc:CompOk was) {i:Nat} (hi:i < 3) (hr:(rangeM was.1 (i:Int)).1≤(rangeM was.1 (i:Int)).2.1) {K:Res [.sc (.int .i32),.sc (.int .i64)]→W R}
  (h0:movedD was i L=none→∀ v e L' w',e≠0→RD b L' F w'→Fr (fun k=>k=b) w w'→K (v,e) Q w') (hk:∀ v L',movedD was i L=some (v,L')→∀ w',RD b L' F w'→Fr (fun k=>k=b) w w'→K (v,0) Q w') :
  callW Tryz.prog Zh8 [.pointer (some ⟨b,0,none⟩),.agg ⟨compC was⟩,.int .i64 (i:Int)] [.sc (.int .i32),.sc (.int .i64)] K Q w:=by
 refine Zxn _ was _ K Q w ?_
 unfold Zgr
 have hbb:=hF b h.1
 have hfl:=flI hc i
 refine newI fun w1 B1 f1 z1=>?_
 have nb:∀ {x:Nat},w.heap.size≤x→¬ x=b:=fun hx e=>by omega
 have hm:movedD was i L=match getN 1 L with
   | none=>none
   | some (b,L1)=>if b=0 then some (fl was i,L1) else match getN 1 L1 with
    | none=>none
    | some (b2,L2)=>if b2=0 then (match getIn (rangeM was.1 (i:Int)).1 (rangeM was.1 (i:Int)).2.1 L2 with
      | none=>none
      | some (n,L3)=>if zigM (n - fl was i)≤16 then none else some (n,L3))
     else match getN 4 L2 with
      | none=>none
      | some (z,L3)=>if fl was i+zagM ((z:Int)+1) < (rangeM was.1 (i:Int)).1∨(rangeM was.1 (i:Int)).2.1 < fl was i+zagM ((z:Int)+1) then none else some (fl was i+zagM ((z:Int)+1),L3):=rfl
 refine Z9i (RD.st.fr0 h f1) (n:=1) (by decide) (fun hlt w2 hr2 f2=>?_) fun hge w2 hr2 f2=>?_
 ·refine joinI (fun z v=>z=true∧v=w2) (condT rfl ⟨rfl,rfl⟩) ?_
  rintro z v ⟨rfl,rfl⟩
  refine condT rfl (fIdx (j:=i) rfl hi (fld0 (B1.fr f2 fun h=>h) (x:=fl was i) (Z2c was hi) ?_))
  exact h0 (by rw [hm,getN,if_neg (by omega)]) _ 2 L v (by decide) hr2 (f1.then0 f2).any
 have e1:getN 1 L=some (valB (L.take 1),L.drop 1):=by rw [getN,if_pos hge]
 rw [e1] at hm
 dsimp only at hm
 have f02:Fr (fun k=>k=b) w w2:=f1.any.then f2
 have B2:=B1.fr f2 (nb (Nat.le_refl _))
 refine joinI (fun z v=>z=decide (valB (L.take 1)=0)∧v=w2) (condF rfl ⟨?_,rfl⟩) ?_
 ·by_cases c:valB (L.take 1)=0
  ·rw [c]; rfl
  ·rw [decide_eq_false c]; simpa using c
 rintro z v ⟨rfl,rfl⟩
 refine condD (fun c=>?_) fun c=>?_
 ·rw [if_pos c] at hm
  refine fIdx (j:=i) rfl hi (fld0 B2 (x:=fl was i) (Z2c was hi) ?_)
  exact hk _ _ hm v hr2 f02
 rw [if_neg c] at hm
 refine Z9i hr2 (n:=1) (by decide) (fun hlt w3 hr3 f3=>?_) fun hge2 w3 hr3 f3=>?_
 ·exact condT rfl (h0 (by rw [hm,getN,if_neg (by omega)]) _ 2 _ w3 (by decide) hr3 (f02.then f3.any))
 have e2:getN 1 (L.drop 1)=some (valB ((L.drop 1).take 1),(L.drop 1).drop 1):=by rw [getN,if_pos hge2]
 rw [e2] at hm
 dsimp only at hm
 have f03:=f02.then f3
 have B3:=B2.fr f3 (nb (Nat.le_refl _))
 refine condF rfl (condE (fun c2=>?_) fun c2=>?_)
 ·rw [if_pos (by omega)] at hm
  refine fld0 B3 (i:=0) (x:=was.1) rfl (Zr0 hr3 hr (fun hg e w4 he hr4 f4=>?_) fun v L3 hg hv w4 hr4 f4=>?_)
  ·have he':(e == 0)=false:=by simpa using he
   refine joinI (fun z v=>z=false∧v=w4) (condF he' ⟨rfl,rfl⟩) ?_
   rintro z v ⟨rfl,rfl⟩
   refine condF rfl (h0 (by rw [hm,hg]) _ e _ v he hr4 (f03.then f4))
  ·rw [hg] at hm
   dsimp only at hm
   obtain ⟨r1,r2⟩:=Z1p was.1 (i:Int)
   refine joinI (fun z u=>z=decide (zigM (v - fl was i)≤16)∧u=w4) (condT rfl ?_) ?_
   ·refine fIdx (j:=i) rfl hi (fld0 (B3.fr f4 (nb (Nat.le_refl _))) (x:=fl was i) (Z2c was hi) ?_)
    rw [w64 (x:=v) (by omega),w64 (x:=fl was i) (by omega),w64 (x:=v - fl was i) (by omega)]
    exact Zok (by omega) ⟨rfl,rfl⟩
   rintro z u ⟨rfl,rfl⟩
   refine condD (fun c3=>?_) fun c3=>?_
   ·exact h0 (by rw [hm,if_pos c3]) _ 4 _ u (by decide) hr4 (f03.then f4)
   ·rw [if_neg c3] at hm
    exact hk _ _ hm u hr4 (f03.then f4)
 ·rw [if_neg (by omega)] at hm
  refine Z9i hr3 (n:=4) (by decide) (fun hlt w4 hr4 f4=>?_) fun hge3 w4 hr4 f4=>?_
  ·exact condT rfl (h0 (by rw [hm,getN,if_neg (by omega)]) _ 2 _ w4 (by decide) hr4 (f03.then f4.any))
  have hz:=Zie (((L.drop 1).drop 1).take 4)
  rw [List.length_take,Nat.min_eq_left hge3] at hz
  have e3:getN 4 ((L.drop 1).drop 1)=some (valB (((L.drop 1).drop 1).take 4),((L.drop 1).drop 1).drop 4):=by rw [getN,if_pos hge3]
  rw [e3] at hm
  dsimp only at hm
  generalize valB (((L.drop 1).drop 1).take 4)=z at hz hm
  have hz:z < 16:=hz
  have fd:Fr None w4 w4.drew:=(Fr.refl _ _).drew
  have f0d:=(f03.then f4).then fd.any
  have B4:=(B3.fr f4 (nb (Nat.le_refl _))).fr fd fun h=>h
  refine condF rfl (fIdx (j:=i) rfl hi (fld0 B4 (x:=fl was i) (Z2c was hi) ?_))
  have ew:IntKind.wrap .u64 ((z:Int)+1)=((z+1:Nat):Int):=by rw [wU64 (by omega)]; omega
  rw [ew]
  refine Zx8 (by omega) (andI ((B4.cell (1+i)).trans (Z2c was hi)) (fld0 B4 (i:=0) (x:=was.1) rfl (Z9l fun w5 f5=>?_)))
  obtain ⟨r1,r2⟩:=Z1p was.1 (i:Int)
  rw [show ((z:Int)+1)=((z+1:Nat):Int) by omega] at hm
  have hzag:-16≤zagM ((z+1:Nat):Int)∧zagM ((z+1:Nat):Int)≤16:=by unfold zagM; split <;> omega
  generalize zagM ((z+1:Nat):Int)=g at hm hzag
  rw [w64 (x:=fl was i) (by omega),w64 (x:=fl was i+g) (by omega),w64 (x:=(rangeM was.1 (i:Int)).1) (by omega),w64 (x:=(rangeM was.1 (i:Int)).2.1) (by omega)]
  have hr5:=RD.st.fr0 (RD.st.fr0 hr4 fd) f5
  have f05:=f0d.then f5.any
  refine joinI (fun x u=>x=decide (fl was i+g < (rangeM was.1 (i:Int)).1∨(rangeM was.1 (i:Int)).2.1 < fl was i+g)∧u=w5) ?_ ?_
  ·refine condD (fun c4=>⟨(decide_eq_true (.inl c4)).symm,rfl⟩) fun c4=>⟨?_,rfl⟩
   by_cases c5:(rangeM was.1 (i:Int)).2.1 < fl was i+g
   ·rw [decide_eq_true (p:=_∨_) (.inr c5)]; exact decide_eq_true c5
   ·rw [decide_eq_false (p:=_∨_) (fun h=>h.elim c4 c5)]; exact decide_eq_false c5
  rintro x u ⟨rfl,rfl⟩
  refine condD (fun c4=>?_) fun c4=>?_
  ·exact h0 (by rw [hm,if_pos c4]) _ 5 _ u (by decide) hr5 f05
  ·rw [if_neg c4] at hm
   rw [show IntKind.wrap .i32 (fl was i+g)=fl was i+g by rw [IntKind.wrap_i32]; omega]
   exact hk _ _ hm u hr5 f05
theorem Zhm (was:Comp):∀ (is js:List Nat) (L:List Bool),readS was (is ++ js) L=match readS was is L with
  | none=>none
  | some (vs,L2)=>match readS was js L2 with
   | none=>none
   | some (vs2,L3)=>some (vs ++ vs2,L3)
 | [],js,L=>by
  rw [List.nil_append,readS]
  dsimp only
  cases readS was js L with
  | none=>rfl
  | some p=>rfl
 | i :: r,js,L=>by
  rw [List.cons_append,readS,readS]
  cases movedD was i L with
  | none=>rfl
  | some p =>
   obtain ⟨v,L2⟩:=p
   dsimp only
   rw [Zhm was r js L2]
   cases readS was r L2 with
   | none=>rfl
   | some q =>
    obtain ⟨vs,L3⟩:=q
    dsimp only
    cases readS was js L3 with
    | none=>rfl
    | some t=>rfl
def ovC (c:Comp) (vs:List Int):Comp:=(c.1,vs.getD 0 c.2.1,vs.getD 1 c.2.2.1,vs.getD 2 c.2.2.2)
theorem Z126 {c:Comp} {vs:List Int} {v:Int} (h:vs.length < 3):(compC (ovC c vs)).set (1+vs.length) (.int .i32 v)=compC (ovC c (vs ++ [v])):=by
 rcases vs with _ | ⟨a,_ | ⟨b,_ | ⟨d,r⟩⟩⟩
 ·rfl
 ·rfl
 ·rfl
 ·simp at h; omega
theorem Z14y {c:Comp} (h:checkM c=0) {vs:List Int} (hl:vs.length=cntM c.1):ovC c vs=mkC c.1 vs:=by
 have z:=fun i hi hc=>Z18f (i:=i) h hi hc
 rcases vs with _ | ⟨a,_ | ⟨b,_ | ⟨d,r⟩⟩⟩
 ·have a0:=z 0 (by decide) (by simp at hl; omega)
  have a1:=z 1 (by decide) (by simp at hl; omega)
  have a2:=z 2 (by decide) (by simp at hl; omega)
  show (c.1,c.2.1,c.2.2.1,c.2.2.2)=(c.1,(0:Int),(0:Int),(0:Int))
  rw [show c.2.1=0 from a0,show c.2.2.1=0 from a1,show c.2.2.2=0 from a2]
 ·have a1:=z 1 (by decide) (by simp at hl; omega)
  have a2:=z 2 (by decide) (by simp at hl; omega)
  show (c.1,a,c.2.2.1,c.2.2.2)=(c.1,a,(0:Int),(0:Int))
  rw [show c.2.2.1=0 from a1,show c.2.2.2=0 from a2]
 ·have a2:=z 2 (by decide) (by simp at hl; omega)
  show (c.1,a,b,c.2.2.2)=(c.1,a,b,(0:Int))
  rw [show c.2.2.2=0 from a2]
 ·rfl
theorem Zq0 {b:Nat} {L:List Bool} {F:Nat→Prop} (h:RD b L F w) (hF:∀ k,F k→k < w.heap.size) {was:Comp} (hco:CompOk was) {K:Res [.agg [.int .u8,.int .i32,.int .i32,.int .i32],.sc (.int .i64)]→W R} (h0:stepDec was L=none→∀ e w',e≠0→RD b L F w'→Fr (fun k=>k=b) w w'→K ((0,0,0,0),e) Q w') (hk:∀ c L',stepDec was L=some (c,L')→∀ w',RD b L' F w'→Fr (fun k=>k=b) w w'→K (c,0) Q w') :
  callW Tryz.prog Zdz [.pointer (some ⟨b,0,none⟩),.agg ⟨compC was⟩] [.agg [.int .u8,.int .i32,.int .i32,.int .i32],.sc (.int .i64)] K Q w:=by
 refine Ztm _ was K Q w ?_
 unfold Zdl
 have hbb:=hF b h.1
 have hcn:=Z5j was.1
 refine newI fun w1 Br f1 z1=>newI fun w2 Bk f2 z2=>newI fun w3 Bx f3 z3=>?_
 have Br:=(Br.fr f2 fun h=>h).fr f3 fun h=>h
 have Bk:=Bk.fr f3 fun h=>h
 have f03:=(f1.then0 f2).then0 f3
 refine fld0 Br (i:=0) (x:=some ⟨b,0,none⟩) rfl (condF rfl (aggI Bk (x:=was) rfl (Z3m fun w4 f4=>?_)))
 have f04:=f03.then0 f4
 have Br:=Br.fr f4 fun h=>h
 have Bk:=Bk.fr f4 fun h=>h
 have Bx:=Bx.fr f4 fun h=>h
 have s4:=f4.size
 refine condN (fun hz=>?_) fun hz=>?_
 ·refine stoAll Bx rfl rfl fun w5 B5 f5 z5=>aggI B5 (x:=((0,0,0,0):Comp)) rfl ?_
  exact h0 (by unfold stepDec; rw [if_pos hz]) _ w5 hz (RD.st.fr (RD.st.fr0 h f04) f5 fun k e e2=>by have:=hF k e; omega) (f04.newer f5 fun k e=>by omega).any
 have hD:stepDec was L=match readS was (List.range (cntM was.1)) L with
   | none=>none
   | some (vs,r)=>some (mkC was.1 vs,r):=by unfold stepDec; rw [if_neg fun h=>h hz] <;> rfl
 refine fld0 Br (i:=0) (x:=some ⟨b,0,none⟩) rfl (aggI Bk (x:=was) rfl ?_)
 refine Zb1 (some ⟨b,0,none⟩) was _ _ _ _ _ ?_
 unfold Z2b
 have hr4:=RD.st.fr0 h f04
 obtain ⟨s,n,B,hback⟩:=hr4.back
 refine newI fun w5 Bc f5 z5=>newI fun w6 By f6 z6=>?_
 have Bc:=Bc.fr f6 fun h=>h
 have f46:=f5.then0 f6
 refine ptrI (aggI (B.fr f46 fun h=>h) (x:=((s,n):Sl × Int)) rfl (newI fun w7 Bw f7 z7=>stoAll Bw rfl rfl fun w8 Bw f8 z8=>?_))
 have f68:Fr None w6 w8:=f7.newer f8 fun k e=>by omega
 have f48:=f46.then0 f68
 have Bc:=Bc.fr f68 fun h=>h
 have By:=By.fr f68 fun h=>h
 refine fldI Bc (i:=0) (x:=was.1) rfl (Z3n fun w9 f9=>?_)
 have f49:=f48.then0 f9
 have s9:=f49.size
 have hw4:w.heap.size≤w4.heap.size:=f04.size
 have hFn:∀ {x:Nat},w.heap.size≤x→∀ k,F k→¬ k=x:=fun hx k e e2=>by have:=hF k e; omega
 refine forI (N:=cntM was.1) (fun s:Int=>s) (fun j i u=>i=(j:Int)∧(∃ vs L',vs.length=j∧readS was (List.range j) L=some (vs,L')∧Blk u w4.heap.size 92 (compC (ovC was vs))∧RD b L' F u)∧Fr (fun k=>k=b) w4 u∧Blk u w5.heap.size 92 (compC (0,0,0,0))∧Blk u w6.heap.size 173 [.slice s.a s.n s.c,.int .i64 n]∧Blk u w.heap.size 60 [.pointer (some ⟨b,0,none⟩)]∧Blk u w1.heap.size 92 (compC was)∧Blk u w2.heap.size 92 (compC (0,0,0,0)))
  ⟨rfl,⟨[],L,rfl,rfl,Bc.fr f9 fun h=>h,RD.st.fr0 hr4 f49⟩,f49.any,By.fr f9 fun h=>h,Bw.fr f9 fun h=>h,Br.fr f49 fun h=>h,Bk.fr f49 fun h=>h,Bx.fr f49 fun h=>h⟩ (fun j s w' h=>h.1) ?_ ?_
 ·rintro j i u K' hj ⟨rfl,⟨vs,L',hvl,hrd,Bc,hr⟩,fu,By,Bw,Br,Bk,Bx⟩ - hK
  refine Zow _ _ _ _ _ _ ?_
  unfold Z99
  have nb:∀ {x:Nat},w.heap.size≤x→¬ x=b:=fun hx e=>by omega
  have su:=fu.size
  refine ptrI (fld0 Br (i:=0) (x:=some ⟨b,0,none⟩) rfl (ptrI (aggI Bk (x:=was) rfl ?_)))
  refine Zt8 hr (fun k e=>by have:=hF k e; omega) hco (by omega) (Zrt was.1 hj) (fun hg v e L2 u2 he hr2 f2=>?_) fun v L2 hg u2 hr2 f2=>?_
  ·have hnone:stepDec was L=none:=by
    rw [hD]
    have e1:List.range (cntM was.1)=List.range j ++ (j :: List.range' (j+1) (cntM was.1 - j - 1)):=by
     have:cntM was.1=j+((cntM was.1 - j - 1)+1):=by omega
     rw [this,List.range_eq_range',List.range_eq_range',← List.range'_append_1,Nat.zero_add,List.range'_succ]
     congr 4
     omega
    rw [e1,Zhm,hrd]
    dsimp only
    rw [readS,hg]
   refine condT (by simpa using he) ?_
   obtain ⟨cs,B2,hl⟩:=hr2.blk
   refine aggI (Bw.fr f2 (nb (by omega))) (x:=((s,n):Sl × Int)) rfl (ptrI (stoAll B2 hl.symm rfl fun u3 B3 f3 y3=>?_))
   have By3:=(By.fr f2 (nb (by omega))).fr f3 (nb (by omega))
   have f43:Fr (fun k=>k=b) w4 u3:=(fu.then f2).then f3
   have hr3:=hback u3 f43 B3
   have s3:=f43.size
   refine stoAll By3 rfl rfl fun u4 B4 f4 y4=>aggI B4 (x:=((0,0,0,0):Comp)) rfl ?_
   have Bx4:=(((Bx.fr f2 (nb (by omega))).fr f3 (nb (by omega))).fr f4 fun e=>by omega)
   refine stoAll Bx4 rfl rfl fun u5 B5 f5 y5=>aggI B5 (x:=((0,0,0,0):Comp)) rfl ?_
   exact h0 hnone e u5 he (RD.st.fr (RD.st.fr hr3 f4 (hFn (by omega))) f5 (hFn (by omega))) (((f04.any.then f43).thenNew f4 fun k e=>by omega).thenNew f5 fun k e=>by omega)
  ·show idxW (some (Addr.add ⟨w4.heap.size,0,none⟩ 1)) 3 1 (j:Int) (fun x=>stoL x [.int .i32 v] 0 (K' (IntKind.wrap .i64 ((j:Int)+1)))) _ _
   refine fIdx rfl (by omega) ?_
   refine setI (i:=1+j) (Bc.fr f2 (nb (by omega))) (by simp; omega) rfl fun u3 B3 f3 y3=>?_
   subst hvl
   rw [Z126 (by omega)] at B3
   have ne:∀ {x:Nat},x≠w4.heap.size→¬ x=w4.heap.size:=fun h=>h
   refine hK _ _ ⟨wsucc hj (by omega),⟨vs ++ [v],L2,by simp,?_,B3,RD.st.fr hr2 f3 (hFn (by omega))⟩,(fu.then f2).thenNew f3 fun k e=>by omega,(By.fr f2 (nb (by omega))).fr f3 (ne (by omega)),(Bw.fr f2 (nb (by omega))).fr f3 (ne (by omega)),(Br.fr f2 (nb (by omega))).fr f3 (ne (by omega)),(Bk.fr f2 (nb (by omega))).fr f3 (ne (by omega)),(Bx.fr f2 (nb (by omega))).fr f3 (ne (by omega))⟩
   rw [List.range_succ,Zhm,hrd]
   dsimp only
   rw [readS,hg]
   rfl
 ·rintro i u ⟨_,⟨vs,L',hvl,hrd,Bc,hr⟩,fu,By,Bw,Br,Bk,Bx⟩
  rw [hrd] at hD
  dsimp only at hD
  rw [Z14y hz hvl] at Bc
  refine aggI Bc (x:=mkC was.1 vs) rfl (stoAll By rfl rfl fun u2 B2 f2 y2=>aggI B2 (x:=mkC was.1 vs) rfl ?_)
  have Bx2:=Bx.fr f2 fun e=>by omega
  refine stoAll Bx2 rfl rfl fun u3 B3 f3 y3=>aggI B3 (x:=mkC was.1 vs) rfl ?_
  exact hk _ L' hD u3 (RD.st.fr (RD.st.fr hr f2 (hFn (by omega))) f3 (hFn (by omega))) (((f04.any.then fu).thenNew f2 fun k e=>by omega).thenNew f3 fun k e=>by omega)
end Go.Proofs.YtchhhjlpnecjkaaGreat
namespace Go.Proofs.YtchhhjlpnecjkaaGreat
open Go Go.RowKit Go.Proofs.YtchhhjlpnecjkaaGreat.Den
variable {R:Type} {Q:R→World→Prop} {w:World}
theorem Zb4 {n:Nat} {L:List Bool} {v:Nat} {r:List Bool} (h:getN n L=some (v,r)):r.length+n=L.length:=by
 unfold getN at h
 split at h
 ·cases h
  rw [List.length_drop]
  omega
 ·cases h
theorem Zdk:∀ (k i v:Nat) {L:List Bool} {x:Nat} {r:List Bool},varD k i v L=some (x,r)→r.length+5≤L.length
 | 0,_,_,_,_,_,h=>by cases h
 | k+1,i,v,L,x,r,h=>by
  rw [varD] at h
  cases hg:getN 5 L with
  | none=>rw [hg] at h; cases h
  | some p =>
   obtain ⟨y,r1⟩:=p
   rw [hg] at h
   have hl:=Zb4 hg
   dsimp only at h
   split at h
   ·split at h
    ·cases h; omega
    ·cases h
   ·have:=Zdk k _ _ h
    omega
theorem Zh7 {last:Int} {L:List Bool} {id:Int} {r:List Bool} (h:idDec last L=some (id,r)):r.length+5≤L.length:=by
 unfold idDec at h
 cases hg:getVar L with
 | none=>rw [hg] at h; cases h
 | some p =>
  obtain ⟨v,r1⟩:=p
  rw [hg] at h
  dsimp only at h
  split at h
  ·cases h
  ·cases h
   exact Zdk _ _ _ hg
theorem Z16m {last:Int} {L:List Bool} {id:Int} {r:List Bool} (h:idDec last L=some (id,r)):IdOk id:=by
 unfold idDec at h
 cases hg:getVar L with
 | none=>rw [hg] at h; cases h
 | some p =>
  obtain ⟨v,r1⟩:=p
  rw [hg] at h
  dsimp only at h
  split at h
  ·cases h
  ·cases h
   exact ⟨by omega,by omega⟩
theorem RD.len {b:Nat} {L:List Bool} {F:Nat→Prop} (h:RD b L F w):L.length≤8388608:=by
 obtain ⟨_,s,body,n,_,_,_,h2,_,rfl⟩:=h
 rw [List.length_drop,Z8h]
 omega
theorem Zsq {lo hi:Int} {L:List Bool} {v:Int} {r:List Bool} (h:getIn lo hi L=some (v,r)):r.length≤L.length∧lo≤v∧v≤hi:=by
 unfold getIn at h
 cases hg:getN (widthM lo hi) L with
 | none=>rw [hg] at h; cases h
 | some p =>
  obtain ⟨x,r1⟩:=p
  rw [hg] at h
  have:=Zb4 hg
  dsimp only at h
  split at h
  ·cases h
   exact ⟨by omega,by omega,by omega⟩
  ·cases h
theorem Zt4 (k:Int):∀ (is:List Nat) {L:List Bool} {vs:List Int} {r:List Bool},readF k is L=some (vs,r)→r.length≤L.length∧vs.length=is.length∧∀ (j i:Nat) (v:Int),is[j]?=some i→vs[j]?=some v→(rangeM k (i:Int)).1≤v∧v≤(rangeM k (i:Int)).2.1
 | [],L,vs,r,h=>by
  rw [readF] at h
  cases h
  exact ⟨Nat.le_refl _,rfl,fun j i v hj=>by simp at hj⟩
 | i :: is,L,vs,r,h=>by
  rw [readF] at h
  cases hg:getIn (rangeM k (i:Int)).1 (rangeM k (i:Int)).2.1 L with
  | none=>rw [hg] at h; cases h
  | some p =>
   obtain ⟨v,L2⟩:=p
   rw [hg] at h
   dsimp only at h
   cases hr:readF k is L2 with
   | none=>rw [hr] at h; cases h
   | some q =>
    obtain ⟨vs2,L3⟩:=q
    rw [hr] at h
    dsimp only at h
    cases h
    obtain ⟨a1,a2,a3⟩:=Zt4 k is hr
    obtain ⟨b1,b2⟩:=Zsq hg
    refine ⟨by omega,by simp [a2],fun j i' v' hj hv=>?_⟩
    rcases j with _ | j
    ·simp at hj hv
     subst hj; subst hv
     exact b2
    ·exact a3 j i' v' (by simpa using hj) (by simpa using hv)
theorem Z13x {k:Int} {L:List Bool} {c:Comp} {r:List Bool} (h:compD k L=some (c,r)):r.length≤L.length∧c.1=k:=by
 unfold compD at h
 split at h
 ·cases h
 ·cases hr:readF k (List.range (cntM k)) L with
  | none=>rw [hr] at h; cases h
  | some q =>
   obtain ⟨vs2,L3⟩:=q
   rw [hr] at h
   cases h
   exact ⟨(Zt4 k _ hr).1,rfl⟩
theorem Zi7:∀ (ks:List Int) {L:List Bool} {cs:List Comp} {r:List Bool},compsD ks L=some (cs,r)→r.length≤L.length∧cs.map (·.1)=ks∧∀ c∈cs,∃ L1 L2,compD c.1 L1=some (c,L2)
 | [],L,cs,r,h=>by
  rw [compsD] at h
  cases h
  exact ⟨Nat.le_refl _,rfl,fun c hc=>by cases hc⟩
 | k :: ks,L,cs,r,h=>by
  rw [compsD] at h
  cases hg:compD k L with
  | none=>rw [hg] at h; cases h
  | some p =>
   obtain ⟨v,L2⟩:=p
   rw [hg] at h
   dsimp only at h
   cases hr:compsD ks L2 with
   | none=>rw [hr] at h; cases h
   | some q =>
    obtain ⟨vs2,L3⟩:=q
    rw [hr] at h
    dsimp only at h
    cases h
    obtain ⟨a1,a2,a3⟩:=Zi7 ks hr
    obtain ⟨b1,b2⟩:=Z13x hg
    refine ⟨by omega,by rw [List.map_cons,a2,b2],fun c hc=>?_⟩
    rcases List.mem_cons.1 hc with rfl | hc
    ·exact ⟨L,L2,by rw [b2]; exact hg⟩
    ·exact a3 c hc
theorem Zwk {last:Int} {L:List Bool} {e:Ent} {r:List Bool} (h:entD last L=some (e,r)):r.length+10≤L.length:=by
 unfold entD at h
 cases h1:idDec last L with
 | none=>rw [h1] at h; cases h
 | some p =>
  obtain ⟨id,L1⟩:=p
  rw [h1] at h
  dsimp only at h
  cases h2:getN 5 L1 with
  | none=>rw [h2] at h; cases h
  | some p =>
   obtain ⟨m,L2⟩:=p
   rw [h2] at h
   dsimp only at h
   cases h3:compsD (kindsOf m) L2 with
   | none=>rw [h3] at h; cases h
   | some p =>
    obtain ⟨cs,L3⟩:=p
    rw [h3] at h
    cases h
    have a1:=Zh7 h1
    have a2:=Zb4 h2
    have a3:=(Zi7 _ h3).1
    omega
theorem Zru {β:Type} {f:Int→List Bool→Option (β × List Bool)} {id:β→Int} {q:Nat} (hf:∀ last L b r,f last L=some (b,r)→r.length+q≤L.length):∀ (n:Nat) (last:Int) {L:List Bool} {l:List β} {r:List Bool},repD f id n last L=some (l,r)→l.length=n∧r.length+q * n≤L.length∧∀ b∈l,∃ last L1 L2,f last L1=some (b,L2)
 | 0,last,L,l,r,h=>by
  rw [repD] at h
  cases h
  exact ⟨rfl,by omega,fun b hb=>by cases hb⟩
 | n+1,last,L,l,r,h=>by
  rw [repD] at h
  cases h1:f last L with
  | none=>rw [h1] at h; cases h
  | some p =>
   obtain ⟨b,r1⟩:=p
   rw [h1] at h
   dsimp only at h
   cases h2:repD f id n (id b) r1 with
   | none=>rw [h2] at h; cases h
   | some p =>
    obtain ⟨bs,r2⟩:=p
    rw [h2] at h
    cases h
    obtain ⟨a1,a2,a3⟩:=Zru hf n (id b) h2
    have a4:=hf _ _ _ _ h1
    refine ⟨by simp [a1],by rw [Nat.mul_succ]; omega,fun x hx=>?_⟩
    rcases List.mem_cons.1 hx with rfl | hx
    ·exact ⟨last,L,r1,h1⟩
    ·exact a3 x hx
section
variable [Pan R]
def moreD {β:Type} (done:List β):Option (List β × List Bool)→Option (List β × List Bool)
 | none=>none
 | some (bs,r)=>some (done ++ bs,r)
theorem Zcm {β:Type} {f:Int→List Bool→Option (β × List Bool)} {id:β→Int} {m:Nat} {last:Int} {L L2:List Bool} {b:β} {done:List β} (h:f last L=some (b,L2)):moreD done (repD f id (m+1) last L)=moreD (done ++ [b]) (repD f id m (id b) L2):=by
 rw [repD,h]
 dsimp only
 cases repD f id m (id b) L2 with
 | none=>rfl
 | some p =>
  obtain ⟨bs,r⟩:=p
  show some (done ++ b :: bs,r)=some (done ++ [b] ++ bs,r)
  rw [List.append_assoc]
  rfl
theorem Zr4 {b:Nat} {L:List Bool} {F:Nat→Prop} (h:RD b L F w) (hF:∀ k,F k→k < w.heap.size) {K:Res [.sc .sl]→W R} (h0:entsD L=none→∀ w',Fr (fun k=>k=b) w w'→Pan.pan Q giveUp w')
  (hk:∀ l L',entsD L=some (l,L')→∀ r raws (lab:Nat→Nat) w',Own (fun k=>lab k=2) w' 57 entT r raws→EntsR (fun k=>lab k=3) w' raws l→(∀ k,lab k≠0→w.heap.size≤k∧k < w'.heap.size)→RD b L' F w'→Fr (fun k=>k=b) w w'→K r Q w') :
  callP Tryz.prog Z6e [.agg ⟨[.pointer (some ⟨b,0,none⟩)]⟩] [.sc .sl] K Q w:=by
 refine Zih _ K Q w ?_
 unfold Z5y
 have hbb:=hF b h.1
 refine newI fun w1 Br f1 z1=>newI fun w2 Bl f2 z2=>stoAll Bl rfl rfl fun w3 Bl f3 z3=>?_
 have f02:=f1.then0 f2
 have f03:Fr None w w3:=f02.newer f3 fun k e=>by omega
 have Br:=(Br.fr f2 fun h=>h).fr f3 fun e=>by omega
 refine aggI Br (x:=some ⟨b,0,none⟩) rfl (Z5r (RD.st.fr0 h f03) (fun hg w4 f4=>?_) fun n L1 hg hn w4 hr4 f4=>?_)
 ·exact h0 (by unfold entsD; rw [hg]) w4 (f03.any.then f4)
 have f04:=f03.any.then f4
 have nb:∀ {x:Nat},w.heap.size≤x→¬ x=b:=fun hx e=>by omega
 have z4:=f4.size
 have hD:entsD L=moreD [] (repD entD (fun e:Ent=>e.1) n 0 L1):=by
  unfold entsD
  rw [hg]
  dsimp only
  cases repD entD (fun e:Ent=>e.1) n 0 L1 with
  | none=>rfl
  | some p=>rfl
 refine loopI (fun (st:Sl × Int) u=>∃ (lab:Nat→Nat) (raws:List (Int × Sl)) (done:List Ent) (L':List Bool) (last:Int) (m:Nat),st.2=((m:Nat):Int)∧m < 18446744073709551616∧Own (fun k=>lab k=2) u 57 entT st.1 raws∧EntsR (fun k=>lab k=3) u raws done∧(∀ k,lab k≠0→w.heap.size≤k∧k < u.heap.size)∧lab w.heap.size=0∧lab w1.heap.size=0 ∧
   Blk u w.heap.size 62 [.pointer (some ⟨b,0,none⟩)]∧Blk u w1.heap.size 54 [.int .u32 last]∧RD b L' F u∧Fr (fun k=>k=b) w u∧entsD L=moreD done (repD entD (fun e:Ent=>e.1) m last L')∧done.length+L'.length≤8388608)
  (fun st _=>st.2.toNat) ⟨fun _=>0,[],[],L1,0,n,rfl,hn,Own.nil _ _ _ _,EntsR.nil _ _,fun k e=>absurd rfl e,rfl,rfl,Br.fr f4 (nb (Nat.le_refl _)),Bl.fr f4 (nb (by omega)),hr4,f04,hD,by simpa using hr4.len⟩ ?_
 rintro ⟨z,c⟩ u ⟨lab,raws,done,L',last,m,hcm,hm,ho,hE,up,l1,l2,Bru,Blu,hru,fu,hI,hlen⟩
 dsimp only at hcm
 subst hcm
 have su:=fu.size
 refine condD (fun hpos=>?_) fun hpos=>?_
 ·have hpos:(m:Int) > 0:=hpos
  obtain ⟨m,rfl⟩:∃ q,m=q+1:=⟨m - 1,by omega⟩
  have hbl:¬ F w1.heap.size:=fun e=>by have:=hF _ e; omega
  refine aggI Bru (x:=some ⟨b,0,none⟩) rfl (Zq8 hru Blu hbl (fun hg v f=>?_) fun id L2 hg hid v1 hr1 Bl1 g1=>?_)
  ·exact h0 (by rw [hI,repD,entD,hg]; rfl) v (fu.trans f (fun _ h=>h) fun x hx e=>e.elim (fun e=>e) fun e=>by omega)
  have b1:=Blu.lt
  have b0:=Bru.lt
  have g01:Fr (fun k=>k=b) w v1:=fu.trans g1 (fun _ h=>h) fun x hx e=>e.elim (fun e=>e) fun e=>by omega
  have s1:=g1.size
  refine newI fun v2 Be g2 y2=>stoAll Be rfl rfl fun v3 Be g3 y3=>?_
  have gd:Fr None v3 v3.drew:=(Fr.refl _ _).drew
  have g13:Fr (fun k=>k=v1.heap.size) v1 v3.drew:=(g2.any.then g3).then0 gd
  have nb2:∀ {x:Nat},x < v1.heap.size→¬ x=v1.heap.size:=fun hx e=>by omega
  have Br3:=(Bru.fr g1 fun e=>e.elim (nb (Nat.le_refl _)) fun e=>by omega).fr g13 (nb2 (by omega))
  have Bl3:=Bl1.fr g13 (nb2 (by omega))
  have Be:=Be.fr gd fun h=>h
  have hFv:∀ k,F k→¬ k=v1.heap.size:=fun k e e2=>by have:=hF k e; omega
  have hr3:=RD.st.fr hr1 g13 hFv
  have g03:Fr (fun k=>k=b) w v3.drew:=g01.thenNew g13 fun k e=>by omega
  have y3d:v3.drew.heap.size=v1.heap.size+1:=by show v3.heap.size=_; omega
  refine aggI Br3 (x:=some ⟨b,0,none⟩) rfl (aggI Br3 (x:=some ⟨b,0,none⟩) rfl (Z8y hr3 (n:=5) (by decide) (fun hg2 v f=>?_) fun mk L3 hg2 hmk v4 hr4 g4=>?_))
  ·exact h0 (by rw [hI,repD,entD,hg]; dsimp only; rw [hg2]; rfl) v (g03.then f)
  have s4:=g4.size
  have Br4:=Br3.fr g4 (nb (Nat.le_refl _))
  have Bl4:=Bl3.fr g4 (nb (by omega))
  have Be4:=Be.fr g4 (nb (by omega))
  refine andI (fun j u hj=>(Br4.cells 0 [.pointer (some ⟨b,0,none⟩)] (fun j u hj=>by simpa using hj)) j u hj) ?_
  refine Zoo hr4 (fun k e=>by have:=hF k e; omega) hmk (fun hg3 v f=>?_) fun cs L4 hg3 r v5 o5 hr5 g5=>?_
  ·exact h0 (by rw [hI,repD,entD,hg]; dsimp only; rw [hg2]; dsimp only; rw [hg3]; rfl) v ((g03.then g4).then f)
  have s5:=g5.size
  have hent:entD last L'=some ((id,cs),L4):=by
   unfold entD
   rw [hg]
   dsimp only
   rw [hg2]
   dsimp only
   rw [hg3]
  have Be5:=Be4.fr g5 (nb (by omega))
  rw [add_lit]
  refine setI (i:=1) Be5 (by simp) rfl fun v6 Be6 g6 y6=>aggI Be6 (x:=((id,r):Int × Sl)) rfl ?_
  obtain ⟨lab1,hlab1⟩:∃ lab1,lab1=relab lab (v1.heap.size+1) v5.heap.size 3:=⟨_,rfl⟩
  have old:∀ k,k < u.heap.size→lab1 k=lab k:=fun k hk=>by rw [hlab1,Z1k (by omega)]
  have gu6:Fr (fun k=>k=b∨k=w1.heap.size) u v6:=((((g1.thenNew g13 fun k e=>by omega).then (g4.sub fun k e=>.inl e)).then (g5.sub fun k e=>.inl e)).thenNew g6 fun k e=>by omega)
  have ndis:∀ k,lab k≠0→¬ (k=b∨k=w1.heap.size):=fun k e=>by
   rintro (rfl | rfl)
   ·have:=up _ e; omega
   ·exact e l2
  have o6:Own (fun k=>lab1 k=2) v6 57 entT z raws:=Own.st ho gu6 fun k hk e=>⟨ndis k (by omega),by rw [old k hk]; exact e⟩
  have E6:EntsR (fun k=>lab1 k=3) v6 raws done:=⟨hE.len,fun i a b' ha hb'=>⟨(hE.at_ i a b' ha hb').1,SlT.st (hE.at_ i a b' ha hb').2 gu6 fun k hk e=>⟨ndis k (by omega),by rw [old k hk]; exact e⟩⟩⟩
  have S6:SlT (fun k=>lab1 k=3) v6 compT r cs:=SlT.st o5.sl g6 fun k hk e=>by
   have e:v4.heap.size≤k:=e
   exact ⟨by omega,by rw [hlab1,Z8u (by omega) hk]⟩
  have hEl:=hE.len
  have hdl:raws.length≤8388608:=by omega
  refine appLab (x:=((id,r):Int × Sl)) Z8k rfl o6 (by omega) (by omega) fun z2 v7 o7 g7=>?_
  have s7:=g7.size
  have up1:∀ k,lab1 k≠0→w.heap.size≤k∧k < v6.heap.size:=fun k e=>by
   rw [hlab1] at e
   rcases Zbb e with e | e
   ·have:=up k e.1; omega
   ·omega
  have n2:∀ {x:Nat},lab1 x=0→¬ lab1 x=2:=fun e e2=>by omega
  have l11:lab1 w.heap.size=0:=by rw [old _ b0]; exact l1
  have l12:lab1 w1.heap.size=0:=by rw [old _ b1]; exact l2
  refine ⟨⟨relab lab1 v6.heap.size v7.heap.size 2,raws ++ [(id,r)],done ++ [(id,cs)],L4,id,m,by dsimp only; rw [wU64 (by omega)]; omega,by omega,o7,?_,?_,?_,?_,?_,?_,?_,?_,?_,?_⟩,?_⟩
  ·refine EntsR.snoc ⟨E6.len,fun i a b' ha hb'=>⟨(E6.at_ i a b' ha hb').1,St.other (A:=fun F w=>SlT F w compT a.2 b'.2) (c:=2) SlT.st (E6.at_ i a b' ha hb').2 g7 (by decide)⟩⟩ rfl ?_
   exact St.other (A:=fun F w=>SlT F w compT r cs) (c:=2) SlT.st S6 g7 (by decide)
  ·intro k e
   rcases Zbb e with e | e
   ·have:=up1 k e.1; omega
   ·omega
  ·rw [Z1k (by omega)]; exact l11
  ·rw [Z1k (by omega)]; exact l12
  ·exact ((Br4.fr g5 (nb (Nat.le_refl _))).fr g6 (nb2 (by omega))).fr g7 (n2 l11)
  ·exact ((Bl4.fr g5 (nb (by omega))).fr g6 (nb2 (by omega))).fr g7 (n2 l12)
  ·refine RD.st.fr (RD.st.fr hr5 g6 hFv) g7 fun k e e2=>?_
   have:=up1 k (by omega)
   have:=hF k e
   omega
  ·exact (((g03.then g4).then g5).thenNew g6 fun k e=>by omega).thenNew g7 fun k e=>(up1 k (by omega)).1
  ·rw [hI]; exact Zcm hent
  ·have:=Zwk hent
   simp only [List.length_append,List.length_singleton]
   omega
  ·show (IntKind.wrap .u64 (((m+1:Nat):Int) - 1)).toNat < ((m+1:Nat):Int).toNat
   rw [wU64 (by omega)]
   omega
 ·have hz:m=0:=by
   have:¬ ((m:Nat):Int) > 0:=hpos
   omega
  subst hz
  have hI:entsD L=some (done,L'):=by rw [hI]; show some (done ++ [],L')=_; rw [List.append_nil]
  exact hk done L' hI z raws lab u ho hE up hru fu
end
end Go.Proofs.YtchhhjlpnecjkaaGreat
namespace Go.Proofs.YtchhhjlpnecjkaaGreat
open Go Go.RowKit Go.Proofs.YtchhhjlpnecjkaaGreat.Den
variable {R:Type} {Q:R→World→Prop} {w:World}
section
variable {n bx:Nat} {lab:Nat→Nat} {r:DRaw} {rc:List (Int × Sl)} {rd:List ChgRaw} {gone:List Int} {come:List Ent} {chg:List Chg}
theorem DltI.step (h:DltI n bx lab r rc rd gone come chg w) (hn:n≤w.heap.size) {S:Nat→Prop} {w':World} (f:Fr S w w') (hs:∀ k,lab k≠0→¬ S k) {n1:Nat} (hn1:w.heap.size≤n1) (c:Nat):DltI n bx (relab lab n1 w'.heap.size c) r rc rd gone come chg w':=by
 have hsz:=f.size
 have k1:∀ {A:OB} (_:St A) {i:Nat},i≠0→A (fun k=>lab k=i) w→A (fun k=>relab lab n1 w'.heap.size c k=i) w':=fun hA i hi a=>hA a f fun k hk e=>⟨hs k (by omega),by show relab _ _ _ _ _=_; rw [Z1k (by omega)]; exact e⟩
 have hb:=h.blk.lt
 refine ⟨h.blk.fr f (hs bx (by rw [h.lb]; decide)),by rw [Z1k (by omega)]; exact h.lb,k1 (A:=fun F w=>Own F w 54 idT r.1 gone) Own.st (by decide) h.og,k1 (A:=fun F w=>Own F w 57 entT r.2.1 rc) Own.st (by decide) h.oc,
  ⟨h.ec.len,fun i a b ha hb=>⟨(h.ec.at_ i a b ha hb).1,k1 (A:=fun F w=>SlT F w compT a.2 b.2) SlT.st (by decide) (h.ec.at_ i a b ha hb).2⟩⟩,k1 (A:=fun F w=>Own F w 86 chgT r.2.2 rd) Own.st (by decide) h.od,
  h.ed.imp fun a b hab=>k1 (A:=fun F w=>chgR F w a b) (Z3j a b) (by decide) hab,fun k e=>?_⟩
 rcases Zbb e with e | e
 ·have:=h.up k e.1; omega
 ·omega
theorem DltI.keep (h:DltI n bx lab r rc rd gone come chg w) (hn:n≤w.heap.size) {S:Nat→Prop} {w':World} (f:Fr S w w') (hs:∀ k,lab k≠0→¬ S k):DltI n bx lab r rc rd gone come chg w':=by
 have:=h.step hn f hs (Nat.le_refl _) 0
 have e:relab lab w.heap.size w'.heap.size 0=lab:=funext fun k=>by
  unfold relab
  split
  ·rfl
  ·have:lab k=0:=Classical.byContradiction fun hk=>by have:=h.up k hk; omega
   rw [this]
   split <;> rfl
 rwa [e] at this
end
theorem Z11d {was c:Comp} {L r:List Bool} (h:stepDec was L=some (c,r)):r.length≤L.length∧c.1=was.1:=by
 have mv:∀ {i:Nat} {L:List Bool} {v:Int} {r:List Bool},movedD was i L=some (v,r)→r.length≤L.length:=by
  intro i L v r h
  unfold movedD at h
  cases h1:getN 1 L with
  | none=>rw [h1] at h; cases h
  | some p =>
   obtain ⟨b,L1⟩:=p
   rw [h1] at h
   have a1:=Zb4 h1
   dsimp only at h
   split at h
   ·cases h; omega
   ·cases h2:getN 1 L1 with
    | none=>rw [h2] at h; cases h
    | some p =>
     obtain ⟨b2,L2⟩:=p
     rw [h2] at h
     have a2:=Zb4 h2
     dsimp only at h
     split at h
     ·cases h3:getIn (rangeM was.1 (i:Int)).1 (rangeM was.1 (i:Int)).2.1 L2 with
      | none=>rw [h3] at h; cases h
      | some p =>
       obtain ⟨n,L3⟩:=p
       rw [h3] at h
       have a3:=(Zsq h3).1
       dsimp only at h
       split at h
       ·cases h
       ·cases h; omega
     ·cases h3:getN 4 L2 with
      | none=>rw [h3] at h; cases h
      | some p =>
       obtain ⟨n,L3⟩:=p
       rw [h3] at h
       have a3:=Zb4 h3
       dsimp only at h
       split at h
       ·cases h
       ·cases h; omega
 have rs:∀ (is:List Nat) {L:List Bool} {vs:List Int} {r:List Bool},readS was is L=some (vs,r)→r.length≤L.length:=by
  intro is
  induction is with
  | nil=>intro L vs r h; rw [readS] at h; cases h; omega
  | cons i is ih =>
   intro L vs r h
   rw [readS] at h
   cases h1:movedD was i L with
   | none=>rw [h1] at h; cases h
   | some p =>
    obtain ⟨v,L2⟩:=p
    rw [h1] at h
    dsimp only at h
    cases h2:readS was is L2 with
    | none=>rw [h2] at h; cases h
    | some q =>
     obtain ⟨vs2,L3⟩:=q
     rw [h2] at h
     cases h
     have:=mv h1
     have:=ih h2
     omega
 unfold stepDec at h
 split at h
 ·cases h
 ·cases hr:readS was (List.range (cntM was.1)) L with
  | none=>rw [hr] at h; cases h
  | some q =>
   obtain ⟨vs2,L3⟩:=q
   rw [hr] at h
   cases h
   exact ⟨rs _ hr,rfl⟩
theorem Zhp (was:List Ent) (id:Int):∀ (ks:List Int) {L:List Bool} {cs:List Comp} {r:List Bool},setsD was id ks L=some (cs,r)→r.length≤L.length∧cs.map (·.1)=ks∧∀ c∈cs,∃ L1 L2,stepDec (oldM was id c.1) L1=some (c,L2)
 | [],L,cs,r,h=>by
  rw [setsD] at h
  cases h
  exact ⟨Nat.le_refl _,rfl,fun c hc=>by cases hc⟩
 | k :: ks,L,cs,r,h=>by
  rw [setsD] at h
  split at h
  ·cases h
  ·rename_i hk
   have hk:(oldM was id k).1=k:=Classical.byContradiction hk
   cases hg:stepDec (oldM was id k) L with
   | none=>rw [hg] at h; cases h
   | some p =>
    obtain ⟨v,L2⟩:=p
    rw [hg] at h
    dsimp only at h
    cases hr:setsD was id ks L2 with
    | none=>rw [hr] at h; cases h
    | some q =>
     obtain ⟨vs2,L3⟩:=q
     rw [hr] at h
     dsimp only at h
     cases h
     obtain ⟨a1,a2,a3⟩:=Zhp was id ks hr
     obtain ⟨b1,b2⟩:=Z11d hg
     refine ⟨by omega,by rw [List.map_cons,a2,b2,hk],fun c hc=>?_⟩
     rcases List.mem_cons.1 hc with rfl | hc
     ·exact ⟨L,L2,by rw [b2,hk]; exact hg⟩
     ·exact a3 c hc
theorem Zwg {was:List Ent} {last:Int} {L:List Bool} {d:Chg} {r:List Bool} (h:chgD was last L=some (d,r)):r.length+20≤L.length:=by
 unfold chgD at h
 cases h1:idDec last L with
 | none=>rw [h1] at h; cases h
 | some p =>
  obtain ⟨id,L1⟩:=p
  rw [h1] at h
  dsimp only at h
  cases h2:getN 5 L1 with
  | none=>rw [h2] at h; cases h
  | some p =>
   obtain ⟨lost,L2⟩:=p
   rw [h2] at h
   dsimp only at h
   cases h3:getN 5 L2 with
   | none=>rw [h3] at h; cases h
   | some p =>
    obtain ⟨fr,L3⟩:=p
    rw [h3] at h
    dsimp only at h
    cases h4:getN 5 L3 with
    | none=>rw [h4] at h; cases h
    | some p =>
     obtain ⟨st,L4⟩:=p
     rw [h4] at h
     dsimp only at h
     cases h5:compsD (kindsOf fr) L4 with
     | none=>rw [h5] at h; cases h
     | some p =>
      obtain ⟨ns,L5⟩:=p
      rw [h5] at h
      dsimp only at h
      cases h6:setsD was id (kindsOf st) L5 with
      | none=>rw [h6] at h; cases h
      | some p =>
       obtain ⟨ss,L6⟩:=p
       rw [h6] at h
       cases h
       have a1:=Zh7 h1
       have a2:=Zb4 h2
       have a3:=Zb4 h3
       have a4:=Zb4 h4
       have a5:=(Zi7 _ h5).1
       have a6:=(Zhp _ _ _ h6).1
       omega
theorem Zxg [Pan R] {b:Nat} {L:List Bool} {F:Nat→Prop} (h:RD b L F w) (hF:∀ k,F k→k < w.heap.size) {okw:Nat→Prop} {sw:Sl} {raws:List (Int × Sl)} {was:List Ent} (hS:SlT okw w entT sw raws) (hE:EntsR okw w raws was) (hr:was.Pairwise fun a b=>a.1 < b.1) (hm:was.length≤1048576) (hL:∀ e∈was,EntFit e) (hd:∀ k,okw k→k≠b) {K:Res [.agg [.sl,.sl,.sl]]→W R}
  (h0:deltaD was L=none→∀ w',Fr (fun k=>k=b) w w'→Pan.pan Q giveUp w') (hk:∀ d L',deltaD was L=some (d,L')→∀ r w',DltR (Up w.heap.size) w' r d.1 d.2.1 d.2.2→RD b L' F w'→Fr (fun k=>k=b) w w'→K r Q w') :
  callP Tryz.prog Zab [.agg ⟨[.pointer (some ⟨b,0,none⟩)]⟩,.slice sw.a sw.n sw.c] [.agg [.sl,.sl,.sl]] K Q w:=by
 refine Zga _ sw K Q w ?_
 unfold Z58
 have hbb:=hF b h.1
 have nb:∀ {x:Nat},w.heap.size≤x→¬ x=b:=fun hx e=>by omega
 refine newI fun w1 Br f1 z1=>newI fun w2 Bo f2 z2=>newI fun w3 Bx f3 z3=>newI fun w4 Bl f4 z4=>stoAll Bl rfl rfl fun w5 Bl f5 z5=>?_
 have g14:Fr None w1 w5:=((f2.then0 f3).then0 f4).newer f5 fun k e=>by omega
 have g24:Fr None w2 w5:=(f3.then0 f4).newer f5 fun k e=>by omega
 have g34:Fr None w3 w5:=f4.newer f5 fun k e=>by omega
 have g05:=f1.then0 g14
 have Br:=Br.fr g14 fun h=>h
 have Bo:=Bo.fr g24 fun h=>h
 have Bx:=Bx.fr g34 fun h=>h
 have hn0:goneD L=none→deltaD was L=none:=fun e=>by unfold deltaD; rw [e]
 refine aggI Br (x:=some ⟨b,0,none⟩) rfl (Z5r (RD.st.fr0 h g05) (fun hg w6 f6=>?_) fun n1 L1 hg hn1 w6 hr6 f6=>?_)
 ·exact h0 (hn0 (by unfold goneD; rw [hg])) w6 (g05.any.then f6)
 have hG:goneD L=moreD [] (repD idDec (fun i:Int=>i) n1 0 L1):=by
  unfold goneD
  rw [hg]
  dsimp only
  cases repD idDec (fun i:Int=>i) n1 0 L1 with
  | none=>rfl
  | some p=>rfl
 have f06:=g05.any.then f6
 have s6:=f6.size
 refine loopI (fun (st:Int) u=>∃ (lab:Nat→Nat) (r:DRaw) (gone:List Int) (L':List Bool) (last:Int) (m:Nat),st=((m:Nat):Int)∧m < 18446744073709551616∧DltI w2.heap.size w2.heap.size lab r [] [] gone [] [] u∧lab w3.heap.size=0 ∧
   Blk u w.heap.size 62 [.pointer (some ⟨b,0,none⟩)]∧Blk u w1.heap.size 80 [.slice none 0 0,.slice none 0 0,.slice none 0 0]∧Blk u w3.heap.size 54 [.int .u32 last]∧RD b L' F u∧Fr (fun k=>k=b) w u∧goneD L=moreD gone (repD idDec (fun i:Int=>i) m last L')∧5 * gone.length+L'.length≤8388608)
  (fun st _=>st.toNat) ⟨fun k=>if k=w2.heap.size then 6 else 0,(⟨none,0,0⟩,⟨none,0,0⟩,⟨none,0,0⟩),[],L1,0,n1,rfl,hn1,⟨Bx.fr f6 (nb (by omega)),by simp,Own.nil _ _ _ _,Own.nil _ _ _ _,EntsR.nil _ _,Own.nil _ _ _ _,All2.nil _,fun k e=>by
   by_cases hkb:k=w2.heap.size
   ·omega
   ·exact absurd (if_neg hkb) e⟩,if_neg (by omega),Br.fr f6 (nb (Nat.le_refl _)),Bo.fr f6 (nb (by omega)),Bl.fr f6 (nb (by omega)),hr6,f06,hG,by simpa using hr6.len⟩ ?_
 rintro st u ⟨lab,r,gone,L',last,m,rfl,hmm,D,l3,Bru,Bou,Blu,hru,fu,hI,hlen⟩
 have su:=fu.size
 have blu:=Blu.lt
 have bxu:=D.blk.lt
 have hbl:¬ F w3.heap.size:=fun e=>by have:=hF _ e; omega
 have ndis:∀ k,lab k≠0→¬ (k=b∨k=w3.heap.size):=fun k e=>by
  rintro (rfl | rfl)
  ·have:=D.up _ e; omega
  ·exact e l3
 refine condD (fun hpos=>?_) fun hpos=>?_
 ·have hpos:(m:Int) > 0:=hpos
  obtain ⟨m,rfl⟩:∃ q,m=q+1:=⟨m - 1,by omega⟩
  have fd:Fr None u u.drew:=(Fr.refl _ _).drew
  have sd:u.drew.heap.size=u.heap.size:=rfl
  refine fldI (D.blk.fr fd fun h=>h) (i:=0) (x:=r.1) rfl (aggI (Bru.fr fd fun h=>h) (x:=some ⟨b,0,none⟩) rfl (Zq8 (RD.st.fr0 hru fd) (Blu.fr fd fun h=>h) hbl (fun hg v f=>?_) fun id L2 hg hid v1 hr1 Bl1 g1=>?_))
  ·exact h0 (hn0 (by rw [hI,repD,hg]; rfl)) v ((fu.then0 fd).trans f (fun _ h=>h) fun x hx e=>e.elim (fun e=>e) fun e=>by omega)
  have g1':Fr (fun k=>k=b∨k=w3.heap.size) u v1:=fd.any.then g1
  have D1:=D.keep (by omega) g1' ndis
  have s1:=g1'.size
  refine andI (D1.blk.rd (s:=.sl) (i:=0) (x:=r.1) rfl) (D1.addGone (by omega) (by omega) fun lab' r' v2 D2 g2 hl=>?_)
  have s2:=g2.size
  have bru:=Bru.lt
  have bou:=Bou.lt
  have nl:∀ {x:Nat},x < w2.heap.size→¬ lab x≠0:=fun hx e=>by have:=D.up _ e; omega
  refine ⟨⟨lab',r',gone ++ [id],L2,id,m,by rw [wU64 (by omega)]; omega,by omega,D2,by rw [hl.1 _ (by omega)]; exact l3,(Bru.fr g1' fun e=>e.elim (nb (Nat.le_refl _)) fun e=>by omega).fr hl.2 (nl (by omega)),(Bou.fr g1' fun e=>e.elim (nb (by omega)) fun e=>by omega).fr hl.2 (nl (by omega)),
   Bl1.fr hl.2 fun e=>e l3,RD.st.fr hr1 g2 fun k e (e2:w2.heap.size≤k)=>by have:=hF k e; omega,(fu.trans g1' (fun _ h=>h) fun x hx e=>e.elim (fun e=>e) fun e=>by omega).thenNew g2 fun k (e:w2.heap.size≤k)=>by omega,?_,?_⟩,?_⟩
  ·rw [hI]; exact Zcm hg
  ·have:=Zh7 hg
   simp only [List.length_append,List.length_singleton]
   omega
  ·show (IntKind.wrap .u64 (((m+1:Nat):Int) - 1)).toNat < ((m+1:Nat):Int).toNat
   rw [wU64 (by omega)]
   omega
 have hz:m=0:=by
  have:¬ ((m:Nat):Int) > 0:=hpos
  omega
 subst hz
 have hI:goneD L=some (gone,L'):=by rw [hI]; show some (gone ++ [],L')=_; rw [List.append_nil]
 have hD2:deltaD was L=match entsD L' with
   | none=>none
   | some (c,L)=>match chgsD was L with
    | none=>none
    | some (d,L)=>some ((gone,c,d),L):=by unfold deltaD; rw [hI] <;> rfl
 refine aggI Bru (x:=some ⟨b,0,none⟩) rfl (Zr4 hru (fun k e=>by have:=hF k e; omega) (fun hg v f=>h0 (by rw [hD2,hg]) v (fu.then f)) fun come L2 hg rc' rcs labc u1 oc ec upc hr1 g1=>?_)
 rw [hg] at hD2
 dsimp only at hD2
 have s1:=g1.size
 obtain ⟨lab2,hlab2⟩:∃ lab2:Nat→Nat,lab2=fun k=>if k < u.heap.size then lab k else labc k:=⟨_,rfl⟩
 have lo:∀ k,k < u.heap.size→lab2 k=lab k:=fun k hk=>by rw [hlab2]; exact if_pos hk
 have hi:∀ k,labc k≠0→lab2 k=labc k:=fun k e=>by rw [hlab2]; exact if_neg (by have:=upc k e; omega)
 have up2:∀ k,lab2 k≠0→w2.heap.size≤k∧k < u1.heap.size:=fun k e=>by
  by_cases hk:k < u.heap.size
  ·rw [lo k hk] at e
   have:=D.up k e
   omega
  ·rw [hlab2] at e
   have:=upc k (by simpa [hk] using e)
   omega
 have nb1:∀ k,lab k≠0→¬ k=b:=fun k e e2=>ndis k e (.inl e2)
 rw [add_lit]
 refine setI (i:=1) (D.blk.fr g1 (nb (by omega))) (by simp) rfl fun u2 Bx2 f2' y2=>?_
 have D2:DltI w2.heap.size w2.heap.size lab2 (r.1,rc',r.2.2) rcs [] gone come [] u2:=DltI.turned (w:=u1) (Own.st D.og g1 fun k hk e=>⟨nb1 k (by omega),by rw [lo k hk]; exact e⟩) (oc.mono fun k _ e=>by show lab2 k=2; rw [hi k (by omega)]; exact e) (ec.mono fun k _ e=>by show lab2 k=3; rw [hi k (by omega)]; exact e)
  (Own.st D.od g1 fun k hk e=>⟨nb1 k (by omega),by rw [lo k hk]; exact e⟩) (All2.nil _) (by rw [lo _ bxu]; exact D.lb) up2 Bx2 f2'
 have l23:lab2 w3.heap.size=0:=by rw [lo _ blu]; exact l3
 have bru:=Bru.lt
 have bou:=Bou.lt
 have nbx:∀ {x:Nat},x≠w2.heap.size→¬ x=w2.heap.size:=fun h=>h
 have Bl2:=(Blu.fr g1 (nb (by omega))).fr f2' (nbx (by omega))
 refine stoAll Bl2 rfl rfl fun u3 Bl3 f3' y3=>?_
 have hFn:∀ {x:Nat},w.heap.size≤x→∀ k,F k→¬ k=x:=fun hx k e e2=>by have:=hF k e; omega
 have hr3:=RD.st.fr (RD.st.fr hr1 f2' (hFn (by omega))) f3' (hFn (by omega))
 have D3:=D2.keep (by omega) f3' fun k e e2=>e (e2 ▸ l23)
 have fu3:Fr (fun k=>k=b) w u3:=((fu.then g1).thenNew f2' fun k e=>by omega).thenNew f3' fun k e=>by omega
 have nb3:∀ {x:Nat},x≠w3.heap.size→¬ x=w3.heap.size:=fun h=>h
 have Br3:=((Bru.fr g1 (nb (Nat.le_refl _))).fr f2' (nbx (by omega))).fr f3' (nb3 (by omega))
 have Bo3:=((Bou.fr g1 (nb (by omega))).fr f2' (nbx (by omega))).fr f3' (nb3 (by omega))
 clear Bl2
 refine aggI Br3 (x:=some ⟨b,0,none⟩) rfl (Z5r hr3 (fun hg v f=>h0 (by rw [hD2,chgsD,hg]) v (fu3.then f)) fun n3 L3 hg3 hn3 u4 hr4 g4=>?_)
 have hC:chgsD was L2=moreD [] (repD (chgD was) (fun d:Chg=>d.1) n3 0 L3):=by
  unfold chgsD
  rw [hg3]
  dsimp only
  cases repD (chgD was) (fun d:Chg=>d.1) n3 0 L3 with
  | none=>rfl
  | some p=>rfl
 have hn2:chgsD was L2=none→deltaD was L=none:=fun e=>by rw [hD2,e]
 have s4:=g4.size
 refine loopI (fun (st:Int) u=>∃ (lab:Nat→Nat) (r:DRaw) (rd:List ChgRaw) (chg:List Chg) (L':List Bool) (last:Int) (m:Nat),st=((m:Nat):Int)∧m < 18446744073709551616∧DltI w2.heap.size w2.heap.size lab r rcs rd gone come chg u∧lab w3.heap.size=0 ∧
   Blk u w.heap.size 62 [.pointer (some ⟨b,0,none⟩)]∧Blk u w1.heap.size 80 [.slice none 0 0,.slice none 0 0,.slice none 0 0]∧Blk u w3.heap.size 54 [.int .u32 last]∧RD b L' F u∧Fr (fun k=>k=b) w u∧chgsD was L2=moreD chg (repD (chgD was) (fun d:Chg=>d.1) m last L')∧20 * chg.length+L'.length≤8388608)
  (fun st _=>st.toNat) ⟨lab2,_,[],[],L3,0,n3,rfl,hn3,D3.keep (by omega) g4 (fun k e e2=>by have:=up2 k e; omega),l23,Br3.fr g4 (nb (Nat.le_refl _)),Bo3.fr g4 (nb (by omega)),Bl3.fr g4 (nb (by omega)),hr4,fu3.then g4,hC,by simpa using hr4.len⟩ ?_
 clear hr4 g4 hC hr3 D3 D2 Br3 Bo3 Bl3 hr1 ec oc g1 f2' f3' y2 y3 upc hlab2 up2 lo hi nb1 hpos D ndis hru Bru Bou Blu fu3 fu bru bou blu bxu su hlen hI s1
 rintro st u ⟨lab,r,rd,chg,L',last,m,rfl,hmm,D,l3,Bru,Bou,Blu,hru,fu,hI,hlen⟩
 have su:=fu.size
 have blu:=Blu.lt
 have bxu:=D.blk.lt
 have bru:=Bru.lt
 have bou:=Bou.lt
 have ndis:∀ k,lab k≠0→¬ (k=b∨k=w3.heap.size):=fun k e=>by
  rintro (rfl | rfl)
  ·have:=D.up _ e; omega
  ·exact e l3
 refine condD (fun hpos=>?_) fun hpos=>?_
 rotate_left
 ·have hz:m=0:=by
   have:¬ ((m:Nat):Int) > 0:=hpos
   omega
  subst hz
  have hI:chgsD was L2=some (chg,L'):=by rw [hI]; show some (chg ++ [],L')=_; rw [List.append_nil]
  rw [hI] at hD2
  refine aggI D.blk (x:=r) rfl (stoAll Bou rfl rfl fun u1 C1 e1 m1=>aggI C1 (x:=r) rfl ?_)
  have nbr:∀ {i:Nat},i≠0→∀ k,k < u.heap.size→lab k=i→¬ k=w1.heap.size∧w.heap.size≤k:=fun hi k hk e=>by have:=D.up k (by omega); omega
  exact hk _ _ hD2 r u1 ⟨SlT.st D.og.sl e1 (nbr (by decide)),⟨rcs,SlT.st D.oc.sl e1 (nbr (by decide)),D.ec.len,fun i a b ha hb=>⟨(D.ec.at_ i a b ha hb).1,SlT.st (D.ec.at_ i a b ha hb).2 e1 (nbr (by decide))⟩⟩,
   ⟨rd,SlT.st D.od.sl e1 (nbr (by decide)),D.ed.imp fun a b hab=>Z3j a b hab e1 (nbr (by decide))⟩⟩ (RD.st.fr hru e1 (hFn (by omega))) (fu.thenNew e1 fun k e=>by omega)
 have hpos:(m:Int) > 0:=hpos
 obtain ⟨m,rfl⟩:∃ q,m=q+1:=⟨m - 1,by omega⟩
 have bad:chgD was last L'=none→deltaD was L=none:=fun e=>hn2 (by rw [hI,repD,e]; rfl)
 refine aggI Bru (x:=some ⟨b,0,none⟩) rfl (Zq8 hru Blu hbl (fun hg v f=>h0 (bad (by unfold chgD; rw [hg])) v (fu.trans f (fun _ h=>h) fun x hx e=>e.elim (fun e=>e) fun e=>by omega)) fun id M1 hg1 hid v1 hr1 Bl1 g1=>?_)
 have s1:=g1.size
 have t1:Fr (fun k=>k=b) w v1:=fu.trans g1 (fun _ h=>h) fun x hx e=>e.elim (fun e=>e) fun e=>by omega
 have D1:=D.keep (by omega) g1 ndis
 have Br1:=Bru.fr g1 fun e=>e.elim (nb (Nat.le_refl _)) fun e=>by omega
 have Bo1:=Bou.fr g1 fun e=>e.elim (nb (by omega)) fun e=>by omega
 refine newI fun v2 Bc g2 y2=>stoAll Bc rfl rfl fun v3 Bc g3 y3=>?_
 have g13:Fr (fun k=>k=v1.heap.size) v1 v3:=g2.any.then g3
 have nc:∀ {x:Nat},x < v1.heap.size→¬ x=v1.heap.size:=fun hx e=>by omega
 have Br3:=Br1.fr g13 (nc (by omega))
 have hr3:=RD.st.fr hr1 g13 (hFn (by omega))
 have t3:=t1.thenNew g13 fun k e=>by omega
 refine aggI Br3 (x:=some ⟨b,0,none⟩) rfl (Z8y hr3 (n:=5) (by decide) (fun hg v f=>h0 (bad (by unfold chgD; rw [hg1]; dsimp only; rw [hg])) v (t3.then f)) fun lost M2 hg2 hlo v4 hr4 g4=>?_)
 have s4:=g4.size
 have Bc4:=Bc.fr g4 (nb (by omega))
 rw [add_lit]
 refine setI (i:=1) Bc4 (by simp) rfl fun v5 Bc5 g5 y5=>?_
 have hlo:lost < 32:=hlo
 rw [wu8 (by omega)] at Bc5
 have gd:Fr None v5 v5.drew:=(Fr.refl _ _).drew
 have g35:Fr (fun k=>k=b∨k=v1.heap.size) v3 v5.drew:=((g4.sub fun k e=>.inl e).then (g5.sub fun k e=>.inr e)).then0 gd
 have nbc:∀ {x:Nat},w.heap.size≤x→x < v1.heap.size→¬ (x=b∨x=v1.heap.size):=fun h1 h2 e=>by omega
 have Br5:=Br3.fr g35 (nbc (Nat.le_refl _) (by omega))
 have Bc5:=Bc5.fr gd fun h=>h
 have hr5:=RD.st.fr0 (RD.st.fr hr4 g5 (hFn (by omega))) gd
 have t5:Fr (fun k=>k=b) w v5.drew:=((t3.then g4).thenNew g5 fun k e=>by omega).then0 gd
 refine aggI Br5 (x:=some ⟨b,0,none⟩) rfl (aggI Br5 (x:=some ⟨b,0,none⟩) rfl (Z8y hr5 (n:=5) (by decide) (fun hg v f=>h0 (bad (by unfold chgD; rw [hg1]; dsimp only; rw [hg2]; dsimp only; rw [hg])) v (t5.then f)) fun fresh M3 hg3 hfr v6 hr6 g6=>?_))
 have y5d:v5.drew.heap.size=v5.heap.size:=rfl
 have s6:=g6.size
 have Br6:=Br5.fr g6 (nb (Nat.le_refl _))
 have Bc6:=Bc5.fr g6 (nb (by omega))
 refine andI (fun j x hj=>(Br6.cells 0 [.pointer (some ⟨b,0,none⟩)] (fun j x hj=>by simpa using hj)) j x hj) ?_
 refine Z8y hr6 (n:=5) (by decide) (fun hg v f=>h0 (bad (by unfold chgD; rw [hg1]; dsimp only; rw [hg2]; dsimp only; rw [hg3]; dsimp only; rw [hg])) v ((t5.then g6).then f)) fun set M4 hg4 hse v7 hr7 g7=>?_
 have s7:=g7.size
 have Br7:=Br6.fr g7 (nb (Nat.le_refl _))
 have Bc7:=Bc6.fr g7 (nb (by omega))
 have t7:=(t5.then g6).then g7
 refine aggI Br7 (x:=some ⟨b,0,none⟩) rfl (Zoo hr7 (fun k e=>by have:=hF k e; omega) hfr (fun hg v f=>h0 (bad (by unfold chgD; rw [hg1]; dsimp only; rw [hg2]; dsimp only; rw [hg3]; dsimp only; rw [hg4]; dsimp only; rw [hg])) v (t7.then f)) fun ns M5 hg5 rn v8 o8 hr8 g8=>?_)
 have hD3:chgD was last L'=match setsD was id (kindsOf set) M5 with
   | none=>none
   | some (ss,L)=>some ((id,(lost:Int),ns,ss),L):=by
  unfold chgD
  rw [hg1]; dsimp only; rw [hg2]; dsimp only; rw [hg3]; dsimp only; rw [hg4]; dsimp only; rw [hg5] <;> rfl
 have s8:=g8.size
 have Bc8:=Bc7.fr g8 (nb (by omega))
 rw [add_lit]
 refine setI (i:=2) Bc8 (by simp) rfl fun v9 Bc9 g9 y9=>?_
 have Br9:=(Br7.fr g8 (nb (Nat.le_refl _))).fr g9 (nc (by omega))
 have hr9:=RD.st.fr hr8 g9 (hFn (by omega))
 have t9:=(t7.then g8).thenNew g9 fun k e=>by omega
 have o9:SlT (fun k=>v7.heap.size≤k) v9 compT rn ns:=o8.sl.fr g9 fun k (e:v7.heap.size≤k) e2=>by omega
 refine Zet hse fun rk v10 ok10 g10=>?_
 have s10:=g10.size
 have Br10:=Br9.fr g10 fun h=>h
 have Bc10:Blk v10 v1.heap.size 86 [.int .u32 id,.int .u8 (lost:Int),.slice rn.a rn.n rn.c,.slice none 0 0]:=Bc9.fr g10 fun h=>h
 have hr10:=RD.st.fr0 hr9 g10
 have t10:=t9.then0 g10
 have o10:=o9.fr0 g10
 have hkl:=ok10.len
 have hk6:(kindsOf set).length≤5:=by rw [← Z5q hse]; exact Zoa set 5
 refine forI (N:=rk.n) (fun s:Int=>s) (fun j i z=>i=(j:Int)∧(∃ (ss:List Comp) (rs:Sl) (M:List Bool),ss.length=j∧Blk z v1.heap.size 86 [.int .u32 id,.int .u8 (lost:Int),.slice rn.a rn.n rn.c,.slice rs.a rs.n rs.c]∧Own (fun k=>v10.heap.size≤k) z 92 compT rs ss∧RD b M F z∧setsD was id (kindsOf set) M5=moreD ss (setsD was id ((kindsOf set).drop j) M))∧Fr (fun k=>k=b∨k=v1.heap.size) v10 z)
  ⟨rfl,⟨[],⟨none,0,0⟩,M5,rfl,Bc10,Own.nil _ _ _ _,hr10,by rw [List.drop_zero]; cases setsD was id (kindsOf set) M5 with | none=>rfl | some p=>rfl⟩,Fr.refl _ _⟩ (fun j s w' h=>h.1) ?_ ?_
 ·rintro j i z K' hj ⟨rfl,⟨ss,rs,M,hsl,Bc,os,hrz,hI2⟩,gz⟩ - hK
  have sz:=gz.size
  have tz:Fr (fun k=>k=b) w z:=t10.trans gz (fun _ h=>h) fun x hx e=>e.elim (fun e=>e) fun e=>by omega
  have Brz:=Br10.fr gz (nbc (Nat.le_refl _) (by omega))
  refine (ok10.sl.fr gz fun k (e:v9.heap.size≤k) e2=>by omega).get rfl rfl (by omega) fun k hkj=>?_
  rw [Z10u hkj,setsD] at hI2
  refine fldI Bc (i:=0) (x:=id) rfl (Zhv (hS.fr tz hd) (hE.fr tz hd) hr (by omega) (fun e he=>by have:=(hL e he).2.1; omega) fun z1 e1=>?_)
  obtain ⟨oc,hoc⟩:∃ oc,oc=oldM was id k:=⟨_,rfl⟩
  rw [← hoc] at hI2 ⊢
  have tz1:=tz.then0 e1
  have bcz:=Bc.lt
  refine newI fun z2 Bx e2 x2=>stoAll Bx rfl rfl fun z3 Bx e3 x3=>fldI Bx (i:=0) (x:=oc.1) rfl ?_
  have e13:Fr None z1 z3:=e2.newer e3 fun k e=>by omega
  have e03:=e1.then0 e13
  have tz3:=tz.then0 e03
  refine joinI (fun (_:Unit) v=>oc.1=k∧v=z3) (condN (fun hne=>?_) fun heq=>⟨heq,rfl⟩) ?_
  ·exact h0 (bad (by rw [hD3,hI2,if_pos hne]; rfl)) z3 tz3
  rintro _ v ⟨hkk,rfl⟩
  rw [if_neg (fun h=>h hkk)] at hI2
  have ed:Fr None v v.drew:=(Fr.refl _ _).drew
  have e0d:=e03.then0 ed
  have Bcd:=Bc.fr e0d fun h=>h
  have Bxd:=Bx.fr ed fun h=>h
  have hrd:=RD.st.fr0 hrz e0d
  have osd:=os.none e0d
  have zs:=e0d.size
  have tzd:=tz3.then0 ed
  refine fldI Bcd (i:=3) (x:=rs) rfl (fldI (Brz.fr e0d fun h=>h) (i:=0) (x:=some ⟨b,0,none⟩) rfl (aggI Bxd (x:=oc) rfl ?_))
  refine Zq0 hrd (fun k e=>by have:=hF k e; omega) (hoc ▸ Z111 hL id k) (fun hg e' p1 he hrp q1=>?_) fun c M6 hg p1 hrp q1=>?_
  ·refine andI ((Bcd.fr q1 (nb (by omega))).rd (s:=.sl) (i:=3) (x:=rs) rfl) (Z9u (v:=(0,0,0,0)) (fun _ p2 q2=>h0 (bad ?_) p2 ((tzd.then q1).then q2.any)) fun h=>absurd h he)
   rw [hD3,hI2,hg]
   rfl
  rw [hg] at hI2
  dsimp only at hI2
  have Bc1:=Bcd.fr q1 (nb (by omega))
  refine andI (Bc1.rd (s:=.sl) (i:=3) (x:=rs) rfl) (Z9u (v:=c) (fun h=>absurd rfl h) fun _ p2 q2=>?_)
  have Bc2:=Bc1.fr q2 fun h=>h
  refine andI (Bc2.rd (s:=.sl) (i:=3) (x:=rs) rfl) ?_
  have q12:=q1.then0 q2
  have sq:=q12.size
  have osp:Own (fun k=>v10.heap.size≤k) p2 92 compT rs ss:=(osd.fr q1 fun k e e2=>by omega).none q2
  refine appP (x:=c) Z2u rfl osp (fun k e=>by show v10.heap.size≤k; omega) (by omega) (by omega) fun rs2 p3 os3 q3=>?_
  have s3:=q3.size
  have nown:∀ k,k < v10.heap.size→¬ rs.v.ownBlock=some k:=fun k hk e=>by have:=osp.own k e; omega
  rw [add_lit]
  refine setI (i:=3) (Bc2.fr q3 (nown _ (by omega))) (by simp) rfl fun p4 Bc4 q4 x4=>?_
  refine hK _ _ ⟨wsucc hj (by omega),⟨ss ++ [c],rs2,M6,by simp [hsl],Bc4,os3.fr q4 fun k e e2=>by omega,RD.st.fr (RD.st.fr (RD.st.fr0 hrp q2) q3 fun k e=>nown k (by have:=hF k e; omega)) q4 (hFn (by omega)),?_⟩,?_⟩
  ·rw [hI2]
   cases setsD was id ((kindsOf set).drop (j+1)) M6 with
   | none=>rfl
   | some p =>
    obtain ⟨bs,rr⟩:=p
    show some (ss ++ c :: bs,rr)=some (ss ++ [c] ++ bs,rr)
    rw [List.append_assoc]
    rfl
  ·exact (((gz.then0 e0d).then (q12.sub fun k e=>.inl e)).thenNew q3 fun k e=>osp.own k e).then (q4.sub fun k e=>.inr e)
 ·rintro i z ⟨_,⟨ss,rs,M,hsl,Bc,os,hrz,hI2⟩,gz⟩
  rw [List.drop_of_length_le (by omega)] at hI2
  have hI2:setsD was id (kindsOf set) M5=some (ss,M):=by rw [hI2]; show some (ss ++ [],M)=_; rw [List.append_nil]
  rw [hI2] at hD3
  dsimp only at hD3
  have sz:=gz.size
  have tz:Fr (fun k=>k=b) w z:=t10.trans gz (fun _ h=>h) fun x hx e=>e.elim (fun e=>e) fun e=>by omega
  have g1z:Fr (fun k=>k=b∨k=v1.heap.size) v1 z:=((((((g13.sub fun k e=>.inr e).then g35).then (g6.sub fun k e=>.inl e)).then (g7.sub fun k e=>.inl e)).then (g8.sub fun k e=>.inl e)).then (g9.sub fun k e=>.inr e)).then0 g10 |>.then gz
  have Dz:=D1.step (by omega) g1z (fun k e e2=>by have:=D1.up k e; rcases e2 with rfl | rfl <;> omega) (n1:=v1.heap.size+1) (by omega) 5
  obtain ⟨labz,hlz⟩:∃ labz,labz=relab lab (v1.heap.size+1) z.heap.size 5:=⟨_,rfl⟩
  rw [← hlz] at Dz
  have new5:∀ k,v1.heap.size < k→k < z.heap.size→labz k=5:=fun k h1 h2=>by rw [hlz,Z8u (by omega) h2]
  have oldz:∀ k,k≤v1.heap.size→labz k=lab k:=fun k h1=>by rw [hlz,Z1k (by omega)]
  refine fldI Dz.blk (i:=2) (x:=r.2.2) rfl (aggI Bc (x:=((id,(lost:Int),rn,rs):ChgRaw)) rfl ?_)
  have Rz:chgR (fun k=>labz k=5) z (id,(lost:Int),rn,rs) (id,(lost:Int),ns,ss):=⟨rfl,rfl,SlT.st o10 gz fun k hk (e:v7.heap.size≤k)=>⟨fun e2=>by omega,new5 k (by omega) (by omega)⟩,os.sl.mono fun k hk e=>new5 k (by omega) hk⟩
  refine Dz.addChg (by omega) (by omega) (d:=(id,(lost:Int),ns,ss)) Rz fun lab' r' z2 D2 e2 hl=>?_
  have s2:=e2.size
  have nl:∀ {x:Nat},x < u.heap.size→lab x=0→¬ labz x≠0:=fun hx e e2=>by rw [oldz _ (by omega)] at e2; exact e2 e
  have lz:∀ {x:Nat},x < w2.heap.size→lab x=0:=fun hx=>Classical.byContradiction fun e=>by have:=D.up _ e; omega
  refine ⟨⟨lab',r',rd ++ [(id,(lost:Int),rn,rs)],chg ++ [(id,(lost:Int),ns,ss)],M,id,m,by rw [wU64 (by omega)]; omega,by omega,D2,by rw [hl.1 _ (by omega),oldz _ (by omega)]; exact l3,?_,?_,?_,?_,?_,?_,?_⟩,?_⟩
  ·exact (Br10.fr gz (nbc (Nat.le_refl _) (by omega))).fr hl.2 (nl (by omega) (lz (by omega)))
  ·exact (Bo1.fr g1z (nbc (by omega) (by omega))).fr hl.2 (nl (by omega) (lz (by omega)))
  ·exact (Bl1.fr g1z (nbc (by omega) (by omega))).fr hl.2 (nl (by omega) l3)
  ·exact RD.st.fr hrz e2 fun k e (e2:w2.heap.size≤k)=>by have:=hF k e; omega
  ·exact tz.thenNew e2 fun k (e:w2.heap.size≤k)=>by omega
  ·rw [hI]; exact Zcm hD3
  ·have:=Zwg hD3
   simp only [List.length_append,List.length_singleton]
   omega
  ·show (IntKind.wrap .u64 (((m+1:Nat):Int) - 1)).toNat < ((m+1:Nat):Int).toNat
   rw [wU64 (by omega)]
   omega
end Go.Proofs.YtchhhjlpnecjkaaGreat
namespace Go.Proofs.YtchhhjlpnecjkaaGreat
open Go Go.RowKit Go.Proofs.YtchhhjlpnecjkaaGreat.Den
variable {R:Type} {Q:R→World→Prop} {w:World}
theorem downI {σ:Type} {step:(σ→W R)→σ→W R} {done:σ→W R} {s0:σ} {N:Nat} (idx:σ→Int) (P:Nat→σ→World→Prop)
  (h0:P 0 s0 w) (hi:∀ j s w',P j s w'→idx s=(N:Int) - 1 - j)
  (hs:∀ j s w' (K:σ→W R),j < N→P j s w'→idx s=(N:Int) - 1 - j→(∀ s' w'',P (j+1) s' w''→K s' Q w'')→step K s Q w') (hd:∀ s w',P N s w'→done s Q w') :
  loopW (fun K s=>cond (decide (idx s ≥ 0)) (step K s) (done s)) s0 Q w:=by
 refine loopI (fun s w'=>∃ j,j≤N∧P j s w') (fun s _=>(idx s+1).toNat) ⟨0,Nat.zero_le _,h0⟩ ?_
 rintro s w' ⟨j,hj,hp⟩
 have e:=hi j s w' hp
 rcases Nat.lt_or_ge j N with hlt | hge
 ·refine condT (by simp [e]; omega) ?_
  refine hs j s w' _ hlt hp e ?_
  intro s' w'' hp'
  refine ⟨⟨j+1,hlt,hp'⟩,?_⟩
  rw [hi _ _ _ hp',e]
  omega
 ·have:j=N:=by omega
  subst this
  exact condF (decide_eq_false (by rw [e]; omega)) (hd s w' hp)
theorem Zxj:∀ L:List Bool,valB L < 2 ^ L.length
 | []=>by simp [valB]
 | b :: r=>by
  have:=Zxj r
  rw [valB,List.length_cons,Nat.pow_succ]
  have hb:bitN b≤1:=by cases b <;> decide
  omega
theorem Z15p {L:List Bool} {i:Nat} {b:Bool} (h:L[i]?=some b):valB (L.drop i)=bitN b+2 * valB (L.drop (i+1)):=by
 obtain ⟨hh,hg⟩:=List.getElem?_eq_some_iff.1 h
 rw [List.drop_eq_getElem_cons hh,hg,valB]
theorem wrapU {n:Nat} (h:n < 18446744073709551616):IntKind.wrap .u64 (n:Int)=(n:Int):=wU64 (by omega)
theorem Z9k {ok:Nat→Prop} {s:Sl} {L:List Bool} (hS:SlT ok w boolT s L) (hm:L.length≤1048576) {n:Nat} (hn:n≤64) {K:Res [.sc (.int .u64),.sc .sl,.sc (.int .i64)]→W R} (h0:getN n L=none→K (0,s,2) Q w)
  (hk:∀ v L' r w',getN n L=some (v,L')→SlT ok w' boolT r L'→Fr None w w'→K ((v:Int),r,0) Q w'):callW Tryz.prog Z15 [.slice s.a s.n s.c,.int .i64 (n:Int)] [.sc (.int .u64),.sc .sl,.sc (.int .i64)] K Q w:=by
 refine Zmx s (n:Int) K Q w ?_
 unfold Z85
 have hl:=hS.len
 refine joinI (fun z u=>z=false∧w=u) ?_ ?_
 ·exact condF (decide_eq_false (by omega)) ⟨decide_eq_false (by omega),rfl⟩
 rintro z u ⟨rfl,rfl⟩
 refine condF rfl (condD (fun hgt=>h0 ?_) fun hle=>?_)
 ·unfold getN
  rw [if_neg (by omega)]
 have hnl:n≤L.length:=by omega
 have hg:getN n L=some (valB (L.take n),L.drop n):=if_pos hnl
 have hlen:(L.take n).length=n:=by simp; omega
 have hvl:∀ j,valB ((L.take n).drop j) < 18446744073709551616:=fun j=>by
  have:=Zxj ((L.take n).drop j)
  refine Nat.lt_of_lt_of_le this ?_
  have:2 ^ ((L.take n).drop j).length≤2 ^ 64:=Nat.pow_le_pow_right (by decide) (by rw [List.length_drop]; omega)
  exact this
 refine downI (N:=n) (fun s:Int × Int=>s.2) (fun j st u=>st.2=(n:Int) - 1 - j∧Fr None w u∧st.1=((valB ((L.take n).drop (n - j)):Nat):Int)) ⟨by show IntKind.wrap .i64 ((n:Int) - 1)=_; rw [w64 (by omega)]; omega,Fr.refl _ _,by rw [Nat.sub_zero,List.drop_of_length_le (by omega)]; rfl⟩ (fun j s w' h=>h.1) ?_ ?_
 ·rintro j ⟨v,i⟩ u K' hj ⟨hi,fu,hv⟩ - hK
  have hi:i=(n:Int) - 1 - j:=hi
  have hv:v=((valB ((L.take n).drop (n - j)):Nat):Int):=hv
  have hie:i=((n - (j+1):Nat):Int):=by omega
  obtain ⟨b,hb⟩:∃ b,L[n - (j+1)]?=some b:=⟨_,List.getElem?_eq_getElem (by omega)⟩
  refine (hS.fr0 fu).get rfl hie (by omega) fun x hx=>?_
  rw [hb] at hx
  cases hx
  have hb2:(L.take n)[n - (j+1)]?=some b:=by rw [List.getElem?_take,if_pos (by omega)]; exact hb
  have hst:=Z15p hb2
  rw [show n - (j+1)+1=n - j by omega] at hst
  have h2:=hvl (n - (j+1))
  rw [hst] at h2
  have e2:IntKind.wrap .u64 (v * 2)=((2 * valB ((L.take n).drop (n - j)):Nat):Int):=by
   rw [hv,← wrapU (n:=2 * valB ((L.take n).drop (n - j))) (by omega)]
   congr 1
   omega
  refine joinI (fun z u'=>z=((valB ((L.take n).drop (n - (j+1))):Nat):Int)∧u'=u) (condI (fun hb=>⟨?_,rfl⟩) fun hb=>⟨?_,rfl⟩) ?_
  ·subst hb
   rw [e2,hst]
   have h2:1+2 * valB ((L.take n).drop (n - j)) < 18446744073709551616:=h2
   show IntKind.wrap .u64 (_+1)=(((1+2 * valB ((L.take n).drop (n - j)):Nat):Nat):Int)
   rw [← wrapU h2]
   congr 1
   omega
  ·subst hb
   rw [e2,hst]
   show _=(((0+2 * valB ((L.take n).drop (n - j)):Nat):Nat):Int)
   rw [Nat.zero_add]
  rintro z u' ⟨rfl,rfl⟩
  exact hK _ _ ⟨by show IntKind.wrap .i64 (i - 1)=_; rw [w64 (by omega)]; omega,fu,rfl⟩
 ·rintro ⟨v,i⟩ u ⟨-,fu,hv⟩
  have hv:v=((valB ((L.take n).drop (n - n)):Nat):Int):=hv
  rw [Nat.sub_self,List.drop_zero] at hv
  have fd:Fr None u u.drew:=(Fr.refl _ _).drew
  refine (hS.fr0 (fu.then0 fd)).from rfl rfl hnl fun r hr _=>?_
  rw [hv]
  exact hk _ _ r _ hg hr (fu.then0 fd)
theorem Zft {ok:Nat→Prop} {s:Sl} {L:List Bool} (hS:SlT ok w boolT s L) (hm:L.length≤1048576) {lo hi:Int} (h1:-2147483648≤lo) (h2:lo≤hi) (h3:hi≤2147483647) {K:Res [.sc (.int .i64),.sc .sl,.sc (.int .i64)]→W R} (h0:getIn lo hi L=none→∀ e w',e≠0→Fr None w w'→K (0,s,e) Q w')
  (hk:∀ v L' r w',getIn lo hi L=some (v,L')→lo≤v→v≤hi→SlT ok w' boolT r L'→Fr None w w'→K (v,r,0) Q w'):callW Tryz.prog Z1m [.slice s.a s.n s.c,.int .i64 lo,.int .i64 hi] [.sc (.int .i64),.sc .sl,.sc (.int .i64)] K Q w:=by
 refine Zio s lo hi K Q w ?_
 unfold Z65
 refine condF (decide_eq_false (by omega)) (Zon (by omega) (by omega) ?_)
 have hwl:=Z49 (lo:=lo) (hi:=hi) (by omega)
 refine Z9k hS hm hwl (fun hn=>condT rfl (h0 (by unfold getIn; rw [hn]) 2 w (by decide) (Fr.refl _ _))) fun v L' r w1 hg hr f1=>condF rfl ?_
 have hd:IntKind.wrap .u64 (IntKind.wrap .u64 hi - IntKind.wrap .u64 lo)=hi - lo:=Zi2 (by omega) h2 (by omega)
 rw [hd]
 refine condD (fun hgt=>h0 (by unfold getIn; rw [hg]; simp only; rw [if_neg (by omega)]) 5 w1 (by decide) f1) fun hle=>?_
 have hv:IntKind.wrap .i64 (IntKind.wrap .u64 (IntKind.wrap .u64 lo+(v:Int)))=lo+(v:Int):=by
  rw [IntKind.wrap_u64,IntKind.wrap_u64,IntKind.wrap_i64]; omega
 rw [hv]
 exact hk _ L' r w1 (by unfold getIn; rw [hg]; simp only; rw [if_pos (by omega)]) (by omega) (by omega) hr f1
theorem Z119 {v:Int} (h0:0≤v) (h1:v≤1000) {K:Res [.sc (.int .i64)]→W R} (hk:K (zagM v) Q w):callW Tryz.prog Z4y [.int .u64 v] [.sc (.int .i64)] K Q w:=by
 refine Zn0 v K Q w ?_
 unfold Z88
 have e1:Int.tmod v 2=v % 2:=Int.tmod_eq_emod_of_nonneg h0
 have e2:Int.tdiv v 2=v / 2:=Int.tdiv_eq_ediv_of_nonneg h0
 rw [e1,e2,wU64 (by omega),w64 (x:=v / 2) (by omega),w64 (x:=-1 - v / 2) (by omega)]
 unfold zagM at hk
 refine condE (fun h=>?_) fun h=>?_
 ·rw [if_pos h] at hk; exact hk
 ·rw [if_neg h] at hk; exact hk
def grpAt (L:List Bool) (i:Nat):Nat:=valB ((L.drop (5 * i)).take 4)
def accV (L:List Bool):Nat→Nat
 | 0=>0
 | i+1=>accV L i+grpAt L i * 2 ^ (4 * i)
theorem Z11r (L:List Bool) (i:Nat):grpAt L i < 16:=by
 have:=Zxj ((L.drop (5 * i)).take 4)
 refine Nat.lt_of_lt_of_le this ?_
 have:2 ^ ((L.drop (5 * i)).take 4).length≤2 ^ 4:=Nat.pow_le_pow_right (by decide) (by rw [List.length_take]; omega)
 exact this
theorem Z13k (L:List Bool):∀ n,accV L n < 2 ^ (4 * n)
 | 0=>by simp [accV]
 | n+1=>by
  have:=Z13k L n
  have g:=Z11r L n
  rw [accV,show 4 * (n+1)=4 * n+4 by omega,Nat.pow_add]
  have:grpAt L n * 2 ^ (4 * n)≤15 * 2 ^ (4 * n):=Nat.mul_le_mul_right _ (by omega)
  have e:(2:Nat) ^ 4=16:=rfl
  rw [e]
  omega
theorem Z18x {L:List Bool} {i k:Nat}:varD (k+1) i (accV L i) (L.drop (5 * i))=if L.length < 5 * i+5 then none else match L[5 * i+4]? with
  | some false=>if groupsM (accV L (i+1))=i+1 then some (accV L (i+1),L.drop (5 * (i+1))) else none
  | _=>varD k (i+1) (accV L (i+1)) (L.drop (5 * (i+1))):=by
 rw [varD]
 by_cases h:L.length < 5 * i+5
 ·have:getN 5 (L.drop (5 * i))=none:=if_neg (by rw [List.length_drop]; omega)
  rw [this,if_pos h]
 ·rw [if_neg h]
  have hg:getN 5 (L.drop (5 * i))=some (valB ((L.drop (5 * i)).take 5),(L.drop (5 * i)).drop 5):=if_pos (by rw [List.length_drop]; omega)
  rw [hg,List.drop_drop,show 5 * i+5=5 * (i+1) by omega]
  obtain ⟨b,hb⟩:∃ b,L[5 * i+4]?=some b:=⟨_,List.getElem?_eq_getElem (by omega)⟩
  have hb2:(L.drop (5 * i))[4]?=some b:=by rw [List.getElem?_drop]; exact hb
  have ev:valB ((L.drop (5 * i)).take 5)=grpAt L i+16 * bitN b:=by
   unfold grpAt
   generalize L.drop (5 * i)=M at hb2
   match M,hb2 with
   | a1 :: a2 :: a3 :: a4 :: a5 :: r,hb2 =>
    have:a5=b:=by simpa using hb2
    subst this
    simp only [List.take_succ_cons,List.take_zero,valB]
    omega
  have hlt:=Z11r L i
  have e1:(grpAt L i+16 * bitN b) % 16=grpAt L i:=by omega
  have e2:(grpAt L i+16 * bitN b) / 16=bitN b:=by omega
  simp only [ev,e1,e2,hb]
  cases b
  ·rw [if_pos (show bitN false=0 from rfl)]
   rfl
  ·rw [if_neg (show ¬ bitN true=0 by decide)]
   rfl
theorem Zup {ok:Nat→Prop} {s:Sl} {L:List Bool} (hS:SlT ok w boolT s L) (hm:L.length≤1048576) {K:Res [.sc (.int .u64),.sc .sl,.sc (.int .i64)]→W R} (h0:getVar L=none→∀ e w',e≠0→Fr None w w'→K (0,s,e) Q w')
  (hk:∀ v L' r w',getVar L=some (v,L')→v < 18446744073709551616→SlT ok w' boolT r L'→Fr None w w'→K ((v:Int),r,0) Q w'):callW Tryz.prog Z5k [.slice s.a s.n s.c] [.sc (.int .u64),.sc .sl,.sc (.int .i64)] K Q w:=by
 refine Zgg s K Q w ?_
 unfold Z5e
 have hl:=hS.len
 refine loopI (fun n u=>∃ j:Nat,n=(j:Int)∧j < 16∧Fr None w u∧getVar L=varD (16 - j) j (accV L j) (L.drop (5 * j))) (fun n _=>16 - n.toNat) ⟨0,rfl,by decide,Fr.refl _ _,rfl⟩ ?_
 rintro n u ⟨j,rfl,hj,fu,hv⟩
 rw [show 16 - j=(15 - j)+1 by omega,Z18x] at hv
 have w1:IntKind.wrap .i64 (IntKind.wrap .i64 (5 * (j:Int))+5)=((5 * j+5:Nat):Int):=by rw [w64 (x:=5 * (j:Int)) (by omega),w64 (by omega)]; omega
 have w2:IntKind.wrap .i64 ((j:Int)+1)=((j+1:Nat):Int):=by rw [w64 (by omega)]; rfl
 have w3:IntKind.wrap .i64 (IntKind.wrap .i64 (5 * ((j+1:Nat):Int)) - 1)=((5 * j+4:Nat):Int):=by rw [w64 (x:=5 * ((j+1:Nat):Int)) (by omega),w64 (by omega)]; omega
 have w4:IntKind.wrap .i64 (5 * ((j+1:Nat):Int))=((5 * (j+1):Nat):Int):=by rw [w64 (by omega)]; omega
 rw [w1,w2,w3,w4]
 refine condD (fun hlt=>h0 (by rw [hv,if_pos (by omega)]) 2 u (by decide) fu) fun hge=>?_
 have hge:¬ L.length < 5 * j+5:=by omega
 rw [if_neg hge] at hv
 obtain ⟨b,hb⟩:∃ b,L[5 * j+4]?=some b:=⟨_,List.getElem?_eq_getElem (by omega)⟩
 rw [hb] at hv
 refine joinI (fun z v=>v=u∧(z=true↔(j+1=16∨b=false))) ?_ ?_
 ·refine condI (fun h=>⟨rfl,?_⟩) fun h=>?_
  ·have h2:((j+1:Nat):Int)=16:=by simpa using h
   have:j+1=16:=by omega
   simp [this]
  ·have:¬ j+1=16:=fun e=>by rw [e] at h; simp at h
   refine (hS.fr0 fu).get rfl rfl (by omega) fun x hx=>⟨rfl,?_⟩
   rw [hb] at hx
   cases hx
   simp [this]
 rintro z _ ⟨rfl,hz⟩
 refine condI (fun ht=>?_) fun hf=>?_
 ·refine (hS.fr0 fu).get rfl rfl (by omega) fun x hx=>?_
  rw [hb] at hx
  cases hx
  refine condI (fun hbt=>h0 ?_ 4 _ (by decide) fu) fun hbf=>?_
  ·subst hbt
   have:j=15:=by have:=hz.1 ht; simp at this; omega
   subst this
   rw [hv]; rfl
  subst hbf
  simp only at hv
  have alt:=Z13k L (j+1)
  have a64:accV L (j+1) < 18446744073709551616:=Nat.lt_of_lt_of_le alt (by
   have:2 ^ (4 * (j+1))≤2 ^ 64:=Nat.pow_le_pow_right (by decide) (by omega)
   exact this)
  refine downI (N:=j+1) (fun s:Int × Int=>s.2) (fun i st v=>st.2=((j+1:Nat):Int) - 1 - i∧i≤j+1∧Fr None w v∧∃ x:Nat,st.1=(x:Int)∧accV L (j+1)=accV L (j+1 - i)+x * 2 ^ (4 * (j+1 - i))) ⟨by show IntKind.wrap .i64 (((j+1:Nat):Int) - 1)=_; rw [w64 (by omega)]; omega,Nat.zero_le _,fu,0,rfl,by simp⟩ (fun j s w' h=>h.1) ?_ ?_
  ·rintro i ⟨x,q⟩ v K' hi ⟨hq,hij,fv,y,hy,hacc⟩ - hK
   have hq:q=((j+1:Nat):Int) - 1 - i:=hq
   have hy:x=(y:Int):=hy
   subst hy
   have hqn:q=((j - i:Nat):Int):=by omega
   subst hqn
   have w5:IntKind.wrap .i64 (5 * ((j - i:Nat):Int))=((5 * (j - i):Nat):Int):=by rw [w64 (by omega)]; omega
   rw [w5]
   refine (hS.fr0 fv).from rfl rfl (by omega) fun r hr _=>?_
   have hgn:getN 4 (L.drop (5 * (j - i)))=some (grpAt L (j - i),(L.drop (5 * (j - i))).drop 4):=if_pos (by rw [List.length_drop]; omega)
   refine Z9k hr (by rw [List.length_drop]; omega) (n:=4) (by decide) (fun hn=>by rw [hgn] at hn; cases hn) fun g L2 r2 v2 hg _ g2=>?_
   rw [hgn] at hg
   cases hg
   have hacc2:accV L (j+1)=accV L (j - i)+(grpAt L (j - i)+16 * y) * 2 ^ (4 * (j - i)):=by
    rw [hacc,show j+1 - i=(j - i)+1 by omega,accV,show 4 * (j - i+1)=4 * (j - i)+4 by omega,Nat.pow_add,show (2:Nat) ^ 4=16 from rfl]
    rw [Nat.add_mul,Nat.add_assoc]
    congr 2
    rw [Nat.mul_comm 16 y,Nat.mul_assoc,Nat.mul_comm 16]
   have hb64:grpAt L (j - i)+16 * y < 18446744073709551616:=by
    have:(grpAt L (j - i)+16 * y) * 1≤(grpAt L (j - i)+16 * y) * 2 ^ (4 * (j - i)):=Nat.mul_le_mul_left _ (Nat.two_pow_pos _)
    omega
   refine hK _ _ ⟨by show IntKind.wrap .i64 (((j - i:Nat):Int) - 1)=_; rw [w64 (by omega)]; omega,by omega,fv.then0 g2,grpAt L (j - i)+16 * y,?_,by rw [show j+1 - (i+1)=j - i by omega]; exact hacc2⟩
   show IntKind.wrap .u64 (IntKind.wrap .u64 (16 * (y:Int))+(grpAt L (j - i):Int))=_
   rw [wU64 (x:=16 * (y:Int)) (by omega),wU64 (by omega)]
   omega
  ·rintro ⟨x,q⟩ v ⟨-, -,fv,y,hy,hacc⟩
   have hy:x=(y:Int):=hy
   subst hy
   rw [Nat.sub_self] at hacc
   have hay:y=accV L (j+1):=by rw [hacc]; simp [accV]
   subst hay
   refine Z7w a64 fun r v2 o2 g2=>?_
   have hrn:=o2.len
   rw [Zdj] at hrn
   have f2:=fv.then0 g2
   refine condN (fun hne=>h0 ?_ 4 v2 (by decide) f2) fun he=>?_
   ·rw [hv,if_neg fun e=>hne (by rw [hrn,e])]
   ·have he:groupsM (accV L (j+1))=j+1:=by
     have he:(r.n:Int)=((5 * (j+1):Nat):Int):=he
     omega
    rw [if_pos he] at hv
    have fd:Fr None v2 v2.drew:=(Fr.refl _ _).drew
    exact (hS.fr0 (f2.then0 fd)).from rfl rfl (by omega) fun r2 hr2 _=>hk _ _ r2 _ hv a64 hr2 (f2.then0 fd)
 ·have hn:¬ (j+1=16∨b=false):=fun e=>by rw [hz.2 e] at hf; cases hf
  have hbt:b=true:=by cases b with
   | true=>rfl
   | false=>exact absurd (.inr rfl) hn
  subst hbt
  refine ⟨⟨j+1,rfl,by omega,fu,?_⟩,by omega⟩
  rw [hv]
  show varD (15 - j) _ _ _=_
  rw [show 16 - (j+1)=15 - j by omega]
end Go.Proofs.YtchhhjlpnecjkaaGreat
namespace Go.Proofs.YtchhhjlpnecjkaaGreat
open Go Go.RowKit Go.Proofs.YtchhhjlpnecjkaaGreat.Den
theorem Z17t {k:Int} (hk:0≤k∧k≤255) {vs:List Int} (h:∀ v∈vs, -2147483648≤v∧v≤2147483647):CompOk (mkC k vs):=by
 have g:∀ i:Nat,i32 (vs.getD i 0):=fun i=>by
  rw [List.getD_eq_getElem?_getD]
  cases hi:vs[i]? with
  | none=>exact ⟨by decide,by decide⟩
  | some v=>exact h v (List.mem_of_getElem? hi)
 exact ⟨hk,g 0,g 1,g 2⟩
theorem Z11l {k:Int} (hk:0≤k∧k≤255) {L:List Bool} {c:Comp} {r:List Bool} (h:compD k L=some (c,r)):CompOk c:=by
 unfold compD at h
 split at h
 ·cases h
 ·cases hr:readF k (List.range (cntM k)) L with
  | none=>rw [hr] at h; cases h
  | some q =>
   obtain ⟨vs,L3⟩:=q
   rw [hr] at h
   cases h
   refine Z17t hk fun v hv=>?_
   obtain ⟨_,a2,a3⟩:=Zt4 k _ hr
   obtain ⟨j,hj⟩:=List.mem_iff_getElem?.1 hv
   have hjl:=(List.getElem?_eq_some_iff.1 hj).1
   have hj2:(List.range (cntM k))[j]?=some j:=by
    rw [List.getElem?_range]
    rw [List.length_range] at a2
    omega
   have:=a3 j j v hj2 hj
   obtain ⟨r1,r2⟩:=Z1p k (j:Int)
   omega
theorem Zyw {was:Comp} (hw:CompOk was) {i:Nat} {L:List Bool} {v:Int} {r:List Bool} (h:movedD was i L=some (v,r)):-2147483648≤v∧v≤2147483647:=by
 obtain ⟨r1,r2⟩:=Z1p was.1 (i:Int)
 have hf:=flI hw i
 unfold movedD at h
 cases h1:getN 1 L with
 | none=>rw [h1] at h; cases h
 | some p =>
  obtain ⟨b,L1⟩:=p
  rw [h1] at h
  dsimp only at h
  split at h
  ·cases h; exact hf
  ·cases h2:getN 1 L1 with
   | none=>rw [h2] at h; cases h
   | some p =>
    obtain ⟨b2,L2⟩:=p
    rw [h2] at h
    dsimp only at h
    split at h
    ·cases h3:getIn (rangeM was.1 (i:Int)).1 (rangeM was.1 (i:Int)).2.1 L2 with
     | none=>rw [h3] at h; cases h
     | some p =>
      obtain ⟨n,L3⟩:=p
      rw [h3] at h
      have a3:=(Zsq h3).2
      dsimp only at h
      split at h
      ·cases h
      ·cases h; omega
    ·cases h3:getN 4 L2 with
     | none=>rw [h3] at h; cases h
     | some p =>
      obtain ⟨n,L3⟩:=p
      rw [h3] at h
      dsimp only at h
      split at h
      ·cases h
      ·cases h; omega
theorem Zqa {was c:Comp} (hw:CompOk was) {L r:List Bool} (h:stepDec was L=some (c,r)):CompOk c:=by
 have rs:∀ (is:List Nat) {L:List Bool} {vs:List Int} {r:List Bool},readS was is L=some (vs,r)→∀ v∈vs, -2147483648≤v∧v≤2147483647:=by
  intro is
  induction is with
  | nil=>intro L vs r h v hv; rw [readS] at h; cases h; cases hv
  | cons i is ih =>
   intro L vs r h v hv
   rw [readS] at h
   cases h1:movedD was i L with
   | none=>rw [h1] at h; cases h
   | some p =>
    obtain ⟨x,L2⟩:=p
    rw [h1] at h
    dsimp only at h
    cases h2:readS was is L2 with
    | none=>rw [h2] at h; cases h
    | some q =>
     obtain ⟨vs2,L3⟩:=q
     rw [h2] at h
     cases h
     rcases List.mem_cons.1 hv with rfl | hv
     ·exact Zyw hw h1
     ·exact ih h2 v hv
 unfold stepDec at h
 split at h
 ·cases h
 ·cases hr:readS was (List.range (cntM was.1)) L with
  | none=>rw [hr] at h; cases h
  | some q =>
   obtain ⟨vs2,L3⟩:=q
   rw [hr] at h
   cases h
   exact Z17t hw.1 (rs _ hr)
theorem Z132 {m:Nat} {k:Int} (h:k∈kindsOf m):0≤k∧k≤255:=by
 have e:kindsOf m=kindsB m 6:=rfl
 rw [e] at h
 obtain ⟨j,hj,rfl⟩:=List.mem_map.1 h
 have:=List.mem_range.1 (List.mem_filter.1 hj).1
 omega
theorem Zst {m:Nat} (hm:m < 32):(kindsOf m).length≤5:=by rw [← Z5q hm]; exact Zoa m 5
theorem Zfh {n:Nat} {L:List Bool} {v:Nat} {r:List Bool} (h:getN n L=some (v,r)):v < 2 ^ n:=by
 unfold getN at h
 split at h
 ·rename_i hn
  cases h
  have:=Zie (L.take n)
  rw [List.length_take,Nat.min_eq_left hn] at this
  exact this
 ·cases h
theorem Zyj {m:Nat} (hm:m < 32) {L:List Bool} {cs:List Comp} {r:List Bool} (h:compsD (kindsOf m) L=some (cs,r)):cs.length≤5∧∀ c∈cs,CompOk c:=by
 obtain ⟨_,h2,h3⟩:=Zi7 _ h
 have hl:cs.length=(kindsOf m).length:=by rw [← h2,List.length_map]
 refine ⟨by have:=Zst hm; omega,fun c hc=>?_⟩
 obtain ⟨L1,L2,h4⟩:=h3 c hc
 exact Z11l (Z132 (h2 ▸ List.mem_map_of_mem hc)) h4
theorem Z166 {last:Int} {L:List Bool} {e:Ent} {r:List Bool} (h:entD last L=some (e,r)):EntFit e∧e.2.length≤5:=by
 unfold entD at h
 cases h1:idDec last L with
 | none=>rw [h1] at h; cases h
 | some p =>
  obtain ⟨id,L1⟩:=p
  rw [h1] at h
  dsimp only at h
  cases h2:getN 5 L1 with
  | none=>rw [h2] at h; cases h
  | some p =>
   obtain ⟨m,L2⟩:=p
   rw [h2] at h
   dsimp only at h
   cases h3:compsD (kindsOf m) L2 with
   | none=>rw [h3] at h; cases h
   | some p =>
    obtain ⟨cs,L3⟩:=p
    rw [h3] at h
    cases h
    obtain ⟨a1,a2⟩:=Zyj (Zfh h2) h3
    exact ⟨⟨Z16m h1,by show cs.length≤_; omega,a2⟩,a1⟩
theorem Zwl {L:List Bool} {l:List Ent} {r:List Bool} (h:entsD L=some (l,r)):(∀ e∈l,EntFit e∧e.2.length≤5)∧r.length+10 * l.length≤L.length:=by
 unfold entsD at h
 cases h1:getVar L with
 | none=>rw [h1] at h; cases h
 | some p =>
  obtain ⟨n,L1⟩:=p
  rw [h1] at h
  obtain ⟨a1,a2,a3⟩:=Zru (fun _ _ _ _ h=>Zwk h) _ _ h
  have:=Zdk _ _ _ h1
  refine ⟨fun e he=>?_,by rw [a1]; omega⟩
  obtain ⟨last,L2,L3,h4⟩:=a3 e he
  exact Z166 h4
theorem Z160 {was:List Ent} (hL:∀ e∈was,EntFit e) {last:Int} {L:List Bool} {d:Chg} {r:List Bool} (h:chgD was last L=some (d,r)):ChgSm d:=by
 unfold chgD at h
 cases h1:idDec last L with
 | none=>rw [h1] at h; cases h
 | some p =>
  obtain ⟨id,L1⟩:=p
  rw [h1] at h
  dsimp only at h
  cases h2:getN 5 L1 with
  | none=>rw [h2] at h; cases h
  | some p =>
   obtain ⟨lost,L2⟩:=p
   rw [h2] at h
   dsimp only at h
   cases h3:getN 5 L2 with
   | none=>rw [h3] at h; cases h
   | some p =>
    obtain ⟨fr,L3⟩:=p
    rw [h3] at h
    dsimp only at h
    cases h4:getN 5 L3 with
    | none=>rw [h4] at h; cases h
    | some p =>
     obtain ⟨st,L4⟩:=p
     rw [h4] at h
     dsimp only at h
     cases h5:compsD (kindsOf fr) L4 with
     | none=>rw [h5] at h; cases h
     | some p =>
      obtain ⟨ns,L5⟩:=p
      rw [h5] at h
      dsimp only at h
      cases h6:setsD was id (kindsOf st) L5 with
      | none=>rw [h6] at h; cases h
      | some p =>
       obtain ⟨ss,L6⟩:=p
       rw [h6] at h
       cases h
       have b1:lost < 32:=Zfh h2
       obtain ⟨a1,a2⟩:=Zyj (Zfh h3) h5
       obtain ⟨_,c2,c3⟩:=Zhp _ _ _ h6
       have hl:ss.length=(kindsOf st).length:=by rw [← c2,List.length_map]
       have:=Zst (Zfh h4)
       refine ⟨⟨by show (0:Int)≤(lost:Int); omega,by show (lost:Int)≤255; omega⟩,by show ns.length≤9; omega,by show ss.length≤_; omega,a2,fun c hc=>?_⟩
       obtain ⟨M1,M2,hs⟩:=c3 c hc
       exact Zqa (Z111 hL _ _) hs
theorem Zyl {was:List Ent} (hL:∀ e∈was,EntFit e) {L:List Bool} {d:Delta} {r:List Bool} (h:deltaD was L=some (d,r)):d.1.length≤L.length∧(∀ e∈d.2.1,EntFit e∧e.2.length≤5)∧10 * d.2.1.length≤L.length∧d.2.2.length≤L.length∧∀ x∈d.2.2,ChgSm x:=by
 unfold deltaD at h
 cases h1:goneD L with
 | none=>rw [h1] at h; cases h
 | some p =>
  obtain ⟨g,L1⟩:=p
  rw [h1] at h
  dsimp only at h
  cases h2:entsD L1 with
  | none=>rw [h2] at h; cases h
  | some p =>
   obtain ⟨c,L2⟩:=p
   rw [h2] at h
   dsimp only at h
   cases h3:chgsD was L2 with
   | none=>rw [h3] at h; cases h
   | some p =>
    obtain ⟨ds,L3⟩:=p
    rw [h3] at h
    cases h
    have a1:L1.length+5 * g.length≤L.length:=by
     unfold goneD at h1
     cases hv:getVar L with
     | none=>rw [hv] at h1; cases h1
     | some p =>
      obtain ⟨n,M⟩:=p
      rw [hv] at h1
      obtain ⟨b1,b2,_⟩:=Zru (fun _ _ _ _ h=>Zh7 h) _ _ h1
      have:=Zdk _ _ _ hv
      rw [b1]
      omega
    obtain ⟨a2,a3⟩:=Zwl h2
    unfold chgsD at h3
    cases hv:getVar L2 with
    | none=>rw [hv] at h3; cases h3
    | some p =>
     obtain ⟨n,M⟩:=p
     rw [hv] at h3
     obtain ⟨b1,b2,b3⟩:=Zru (fun _ _ _ _ h=>Zwg h) _ _ h3
     have:=Zdk _ _ _ hv
     refine ⟨by show g.length≤_; omega,a2,by show 10 * c.length≤_; omega,by show ds.length≤_; rw [b1]; omega,fun x hx=>?_⟩
     obtain ⟨last,M1,M2,hx⟩:=b3 x hx
     exact Z160 hL hx
end Go.Proofs.YtchhhjlpnecjkaaGreat
