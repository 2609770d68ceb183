/-
  What the proof of rows:R15e,R15t,R15q,R15r leans on, laid together by a program of this session (wip/pack.py) out of its own texts; the last of these texts holds rows:R15e,R15t,R15q,R15r.
-/
import Derived.Test.YtoiahhpgkoknfaaGreatW2
set_option linter.unusedVariables false
set_option linter.unusedSimpArgs false
namespace Go.Proofs.YtoiahhpgkoknfaaGreat
open Go Go.RowKit Go.Proofs.YtoiahhpgkoknfaaGreat.Den
theorem Zq8 (k:Int):∀ p∈fieldsM k,i32 p.2.1∧i32 p.2.2:=by
 rcases Zch k with rfl | rfl | rfl | rfl | rfl | rfl | ⟨h0,h1,h2,h3,h4,h5⟩ <;> simp [fieldsM,i32, *]
theorem Z9n {c:Comp} (h:checkM c=0):CompOk c:=by
 have hk:=Z3z h
 have hall:(List.range 3).all (inR c)=true:=by
  unfold checkM at h
  split at h
  ·cases h
  ·split at h
   ·cases h
   ·split at h
    ·assumption
    ·cases h
 have key:∀ i,i < 3→i32 (fl c i):=fun i hi=>by
  have h1:=List.all_eq_true.1 hall i (List.mem_range.2 hi)
  unfold inR at h1
  split at h1
  ·rename_i p hp
   have h2:=Zq8 c.1 p (List.mem_of_getElem? hp)
   simp only [Bool.and_eq_true,decide_eq_true_eq] at h1
   unfold i32 at h2 ⊢
   omega
  ·have:fl c i=0:=by simpa using h1
   rw [this]; unfold i32; omega
 exact ⟨⟨by omega,by omega⟩,key 0 (by omega),key 1 (by omega),key 2 (by omega)⟩
structure StM where
 s:SM
 tab:Nat→List Ent
abbrev inT (T:Nat→List Ent) (m:Nat) (id:Int):Prop:=(rowM (T m) id).isSome=true
def homeT (T:Nat→List Ent) (id:Int):Option Nat:=(List.range 64).find? fun m=>(rowM (T m) id).isSome
def upd (T:Nat→List Ent) (m:Nat) (L:List Ent):Nat→List Ent:=fun k=>if k=m then L else T k
theorem Z5b (T:Nat→List Ent) (m:Nat) (L:List Ent):upd T m L m=L:=if_pos rfl
theorem Z2c {T:Nat→List Ent} {m k:Nat} {L:List Ent} (h:k≠m):upd T m L k=T k:=if_neg h
structure StOk (x:StM):Prop where
 s:SMOk x.s
 tab:∀ m,m < 64→TabOk m (x.tab m)
 uniq:∀ m m' id,m < 64→m' < 64→inT x.tab m id→inT x.tab m' id→m=m'
 live:∀ id,(∃ m,m < 64∧inT x.tab m id)↔x.s.live id=true
theorem Zb7 {T:Nat→List Ent} {m:Nat} {id:Int}:inT T m id↔∃ e∈T m,e.1=id:=by
 unfold inT
 cases h:rowM (T m) id with
 | none =>
  simp only [Option.isSome_none,Bool.false_eq_true,false_iff]
  rintro ⟨e,he,h2⟩
  exact Zks.1 h e he h2
 | some i =>
  obtain ⟨_,e,he,h2⟩:=Z51 h
  simp only [Option.isSome_some,true_iff]
  exact ⟨e,List.mem_of_getElem? he,h2⟩
theorem Z7v {T:Nat→List Ent} {id:Int} {m:Nat} (h:homeT T id=some m):m < 64∧inT T m id:=by
 unfold homeT at h
 have h1:=List.find?_some h
 have h2:=List.mem_of_find?_eq_some h
 exact ⟨by simpa using h2,h1⟩
theorem Z3q {T:Nat→List Ent} {id:Int}:homeT T id=none↔∀ m,m < 64→¬ inT T m id:=by
 unfold homeT
 rw [List.find?_eq_none]
 simp
theorem StOk.home_at {x:StM} (h:StOk x) {m:Nat} {id:Int} (hm:m < 64) (hi:inT x.tab m id):homeT x.tab id=some m:=by
 cases he:homeT x.tab id with
 | none=>exact absurd hi (Z3q.1 he m hm)
 | some k =>
  obtain ⟨h1,h2⟩:=Z7v he
  rw [h.uniq k m id h1 hm h2 hi]
theorem StOk.home_live {x:StM} (h:StOk x) (id:Int):(homeT x.tab id).isSome=x.s.live id:=by
 cases hl:x.s.live id with
 | true =>
  obtain ⟨m,h1,h2⟩:=(h.live id).2 hl
  rw [h.home_at h1 h2]; rfl
 | false =>
  cases he:homeT x.tab id with
  | none=>rfl
  | some m=>have:=(h.live id).1 ⟨m,(Z7v he).1,(Z7v he).2⟩; rw [hl] at this; cases this
theorem Zni {T:Nat→List Ent} {m:Nat} {e:Ent} (k:Nat) (id:Int):inT (upd T m (T m ++ [e])) k id↔inT T k id∨(k=m∧id=e.1):=by
 rw [Zb7,Zb7]
 by_cases h:k=m
 ·subst h
  rw [Z5b]
  simp only [List.mem_append,List.mem_singleton,true_and]
  constructor
  ·rintro ⟨x,hx | rfl,rfl⟩
   ·exact .inl ⟨x,hx,rfl⟩
   ·exact .inr rfl
  ·rintro (⟨x,hx,rfl⟩ | rfl)
   ·exact ⟨x,.inl hx,rfl⟩
   ·exact ⟨e,.inr rfl,rfl⟩
 ·rw [Z2c h]
  simp [h]
theorem Znj {T:Nat→List Ent} {m i:Nat} {e:Ent} (hn:((T m).map (·.1)).Nodup) (hi:(T m)[i]?=some e) (k:Nat) (id:Int):inT (upd T m (dropI (T m) i)) k id↔inT T k id∧¬ (k=m∧id=e.1):=by
 by_cases h:k=m
 ·subst h
  obtain ⟨hl,_⟩:=List.getElem?_eq_some_iff.1 hi
  obtain ⟨z,hz⟩:∃ z,(T k)[(T k).length - 1]?=some z:=⟨_,List.getElem?_eq_getElem (by omega)⟩
  unfold inT
  rw [Z5b,Zp4 hn hi hz]
  simp only [true_and]
  by_cases h1:id=e.1
  ·simp [h1]
  ·rw [if_neg h1]
   by_cases h2:id=z.1
   ·rw [if_pos h2,h2,Zg5 hn hz]
    simp [h2 ▸ h1]
   ·rw [if_neg h2]; simp [h1]
 ·unfold inT
  rw [Z2c h]
  simp [h]
theorem Zkg {T:Nat→List Ent} {m i:Nat} {e:Ent} {c:Comp} (hi:(T m)[i]?=some e) (k:Nat) (id:Int):inT (upd T m (setL (T m) i c)) k id↔inT T k id:=by
 unfold inT
 by_cases h:k=m
 ·subst h; rw [Z5b,Zmt (Zjp hi)]
 ·rw [Z2c h]
theorem Zr9 {T:Nat→List Ent} {m:Nat} {e:Ent} (hm:m < 64) (hno:∀ k,k < 64→¬ inT T k e.1) (id:Int):homeT (upd T m (T m ++ [e])) id=if id=e.1 then some m else homeT T id:=by
 by_cases h:id=e.1
 ·subst h
  rw [if_pos rfl]
  cases he:homeT (upd T m (T m ++ [e])) e.1 with
  | none=>exact absurd ((Zni m e.1).2 (.inr ⟨rfl,rfl⟩)) (Z3q.1 he m hm)
  | some k =>
   obtain ⟨h1,h2⟩:=Z7v he
   rcases (Zni k e.1).1 h2 with h3 | h3
   ·exact absurd h3 (hno k h1)
   ·rw [h3.1]
 ·rw [if_neg h]
  unfold homeT
  congr 1
  funext k
  rw [Bool.eq_iff_iff]
  refine (Zni k id).trans ?_
  simp [h]
theorem Zv3 {T:Nat→List Ent} {m i:Nat} {e:Ent} {c:Comp} (hi:(T m)[i]?=some e):homeT (upd T m (setL (T m) i c))=homeT T:=by
 funext id
 unfold homeT
 congr 1
 funext k
 rw [Bool.eq_iff_iff]
 exact Zkg hi k id
theorem Zc5 {x:StM} (h:StOk x) {m i:Nat} {e:Ent} (hm:m < 64) (hi:(x.tab m)[i]?=some e) (id:Int):homeT (upd x.tab m (dropI (x.tab m) i)) id=if id=e.1 then none else homeT x.tab id:=by
 have hin:inT x.tab m e.1:=Zb7.2 ⟨e,List.mem_of_getElem? hi,rfl⟩
 by_cases hid:id=e.1
 ·subst hid
  rw [if_pos rfl,Z3q]
  intro k hk hin2
  obtain ⟨h1,h2⟩:=(Znj (h.tab m hm).nodup hi k e.1).1 hin2
  exact h2 ⟨h.uniq k m _ hk hm h1 hin,rfl⟩
 ·rw [if_neg hid]
  unfold homeT
  congr 1
  funext k
  rw [Bool.eq_iff_iff]
  refine (Znj (h.tab m hm).nodup hi k id).trans ?_
  simp [hid]
theorem Zcr {s:SM} {id:Int}:s.live id=true↔∃ (i:Nat) (g:Int),id=idOf i g∧i < 1024∧s.used[i]?=some true∧s.gen[i]?=some g:=by
 rw [SM.live_iff]
 have hr:=Z7h id
 constructor
 ·rintro ⟨h1,h2⟩
  refine ⟨(slotOf id).toNat,genOf id,?_,by omega,h1,h2⟩
  rw [show (((slotOf id).toNat:Nat):Int)=slotOf id by omega,id_eq]
 ·rintro ⟨i,g,rfl,hi,h1,h2⟩
  rw [Zg6 hi,Zx2 hi]
  exact ⟨h1,h2⟩
theorem SM.live_use {s:SM} {i:Nat} {g:Int} (hs:s.used.length=s.n) (hi:i < s.n) (hn:s.n≤1024) (hu:s.used[i]?=some false) (id:Int):(s.use i g).live id=true↔s.live id=true∨id=idOf i g:=by
 rw [Zcr,Zcr]
 constructor
 ·rintro ⟨j,g',rfl,hj,h1,h2⟩
  simp only [SM.use,List.getElem?_set] at h1 h2
  by_cases e:i=j
  ·subst e
   rw [if_pos rfl,if_pos (show i < s.gen.length from hi)] at h2
   cases h2
   exact .inr rfl
  ·rw [if_neg e] at h1 h2
   exact .inl ⟨j,g',rfl,hj,h1,h2⟩
 ·rintro (⟨j,g',rfl,hj,h1,h2⟩ | rfl)
  ·have e:i≠j:=fun e=>by subst e; rw [hu] at h1; cases h1
   exact ⟨j,g',rfl,hj,by simp only [SM.use,List.getElem?_set_ne e]; exact h1,by simp only [SM.use,List.getElem?_set_ne e]; exact h2⟩
  ·exact ⟨i,g,rfl,by omega,by simp only [SM.use]; rw [List.getElem?_set_self (by omega)],by simp only [SM.use]; rw [List.getElem?_set_self hi]⟩
theorem SMOk.take_live {s s':SM} {id:Int} (h:SMOk s) (ht:s.take=some (id,s')):s.live id=false∧(∀ j,s'.live j=true↔s.live j=true∨j=id)∧IdOk id∧1024≤id:=by
 have key:∀ (i:Nat) (g:Int),i < s.n→s.used[i]?=some false→1≤g∧g≤4194303→s.live (idOf i g)=false∧(∀ j,(s.use i g).live j=true↔s.live j=true∨j=idOf i g)∧IdOk (idOf i g)∧1024≤idOf i g:=fun i g hi hu hg=>by
  have hr:=Znh (i:=i) (g:=g) (by have:=h.le; omega) hg.1 hg.2
  refine ⟨?_,SM.live_use h.len hi h.le hu,⟨by omega,by omega⟩,hr.1⟩
  have:=h.le
  simp [SM.live,Zg6 (show i < 1024 by omega),hu]
 unfold SM.take at ht
 split at ht
 ·rename_i x hx
  obtain ⟨i,rfl,hi,hu,g,hg,h1,h2⟩:=h.freeGet (List.mem_of_getLast? hx)
  rw [Int.toNat_natCast,hg] at ht
  simp only [Option.some.injEq,Prod.mk.injEq] at ht
  obtain ⟨rfl,rfl⟩:=ht
  exact key i (g+1) hi hu ⟨by omega,by omega⟩
 ·split at ht
  ·rename_i hlt
   simp only [Option.some.injEq,Prod.mk.injEq] at ht
   obtain ⟨rfl,rfl⟩:=ht
   have hl:s.fresh < s.used.length:=by rw [h.len]; exact hlt
   have hu:s.used[s.fresh]?=some false:=by
    cases hb:s.used[s.fresh] with
    | false=>rw [List.getElem?_eq_getElem hl,hb]
    | true=>exact absurd (h.unused s.fresh (by rw [List.getElem?_eq_getElem hl,hb])) (by omega)
   exact key s.fresh s.first hlt hu h.first
  ·cases ht
theorem SMOk.freed_live {s:SM} (_h:SMOk s) {id:Int} (hl:s.live id=true) (j:Int):(s.freed id).live j=true↔s.live j=true∧j≠id:=by
 obtain ⟨i,g,rfl,hi,hu,hg⟩:=Zcr.1 hl
 rw [Zcr,Zcr]
 have hul:i < s.used.length:=(List.getElem?_eq_some_iff.1 hu).1
 simp only [SM.freed,Zg6 hi,Int.toNat_natCast]
 constructor
 ·rintro ⟨q,g',rfl,hq,h1,h2⟩
  rw [List.getElem?_set] at h1
  by_cases e:i=q
  ·subst e; rw [if_pos rfl,if_pos hul] at h1; cases h1
  ·rw [if_neg e] at h1
   refine ⟨⟨q,g',rfl,hq,h1,h2⟩,fun e2=>e ?_⟩
   have:=congrArg slotOf e2
   rw [Zg6 hq,Zg6 hi] at this
   omega
 ·rintro ⟨⟨q,g',rfl,hq,h1,h2⟩,hne⟩
  have e:i≠q:=fun e=>by subst e; rw [hg] at h2; cases h2; exact hne rfl
  exact ⟨q,g',rfl,hq,by rw [List.getElem?_set_ne e]; exact h1,h2⟩
theorem SMOk.live_id {s:SM} (h:SMOk s) {id:Int} (hl:s.live id=true):IdOk id∧1024≤id:=by
 obtain ⟨i,g,rfl,hi,hu,hg⟩:=Zcr.1 hl
 have:=h.old i g hg (h.unused i hu)
 have:=Znh hi this.1 this.2
 exact ⟨⟨by omega,by omega⟩,this.1⟩
def putT (T:Nat→List Ent) (id:Int) (l:List Comp):Nat→List Ent:=upd T (maskN l) (T (maskN l) ++ [(id,l)])
def StM.spawn (x:StM) (l:List Comp):Int × Int × StM:=if listE l≠0 then (0,listE l,x) else match x.s.take with
 | none=>(0,8,x)
 | some (id,s')=>(id,0,⟨s',putT x.tab id l⟩)
def StM.at (x:StM) (id:Int):Option (Nat × Nat × Ent):=match homeT x.tab id with
 | none=>none
 | some m=>match rowM (x.tab m) id with
  | none=>none
  | some i=>match (x.tab m)[i]? with
   | none=>none
   | some e=>some (m,i,e)
def StM.despawn (x:StM) (id:Int):Int × StM:=match x.at id with
 | none=>(7,x)
 | some (m,i,_)=>(0,⟨x.s.freed id,upd x.tab m (dropI (x.tab m) i)⟩)
def StM.get (x:StM) (id k:Int):Comp × Int:=match x.at id with
 | none=>((0,0,0,0),7)
 | some (m,_,e)=>if k∈kindsOf m then ((k,fieldsOf e.2 k),0) else ((0,0,0,0),10)
def StM.set (x:StM) (id:Int) (c:Comp):Int × StM:=if checkM c≠0 then (checkM c,x) else match x.at id with
 | none=>(7,x)
 | some (m,i,_)=>if c.1∈kindsOf m then (0,⟨x.s,upd x.tab m (setL (x.tab m) i c)⟩) else (10,x)
def StM.turn (x:StM) (id:Int) (m i:Nat) (l:List Comp):StM:=⟨x.s,putT (upd x.tab m (dropI (x.tab m) i)) id l⟩
def insC (l:List Comp) (c:Comp):List Comp:=(l.takeWhile fun x=>!decide (x.1 > c.1)) ++ c :: (l.dropWhile fun x=>!decide (x.1 > c.1))
def StM.add (x:StM) (id:Int) (c:Comp):Int × StM:=if checkM c≠0 then (checkM c,x) else match x.at id with
 | none=>(7,x)
 | some (m,i,e)=>if c.1∈kindsOf m then (9,x) else (0,x.turn id m i (insC e.2 c))
def StM.remove (x:StM) (id k:Int):Int × StM:=match x.at id with
 | none=>(7,x)
 | some (m,i,e)=>if k∈kindsOf m then (0,x.turn id m i (e.2.filter fun c=>!(c.1 == k))) else (10,x)
def StM.ent (x:StM) (id:Int):Ent × Int:=match x.at id with
 | none=>((0,[]),7)
 | some (_,_,e)=>(e,0)
def StM.new (n:Nat) (first:Int):StM:=⟨SM.new n first,fun _=>[]⟩
theorem StOk.at_some {x:StM} (h:StOk x) {id:Int} {m i:Nat} {e:Ent} (ha:x.at id=some (m,i,e)):homeT x.tab id=some m∧m < 64∧rowM (x.tab m) id=some i∧(x.tab m)[i]?=some e∧e.1=id∧Valid m e.2∧x.s.live id=true:=by
 unfold StM.at at ha
 split at ha
 ·cases ha
 ·rename_i m' hm
  split at ha
  ·cases ha
  ·rename_i i' hi
   split at ha
   ·cases ha
   ·rename_i e' he
    cases ha
    obtain ⟨h1,h2⟩:=Z7v hm
    obtain ⟨_,e2,he2,h3⟩:=Z51 hi
    rw [he] at he2
    cases he2
    exact ⟨hm,h1,hi,he,h3,(h.tab m h1).valid e (List.mem_of_getElem? he),(h.live id).1 ⟨m,h1,h2⟩⟩
theorem StOk.at_none {x:StM} (_h:StOk x) {id:Int}:x.at id=none↔homeT x.tab id=none:=by
 unfold StM.at
 cases hm:homeT x.tab id with
 | none=>simp
 | some m =>
  obtain ⟨h1,h2⟩:=Z7v hm
  simp only [reduceCtorEq,iff_false]
  cases hi:rowM (x.tab m) id with
  | none=>unfold inT at h2; rw [hi] at h2; cases h2
  | some i =>
   obtain ⟨hl,e,he,_⟩:=Z51 hi
   simp [he]
theorem StOk.at_live {x:StM} (h:StOk x) (id:Int):(x.at id).isSome=x.s.live id:=by
 rw [← h.home_live]
 cases ha:x.at id with
 | none=>rw [h.at_none.1 ha]; rfl
 | some p =>
  obtain ⟨m,i,e⟩:=p
  rw [(h.at_some ha).1]; rfl
theorem Zrq {l:List Int} {s:SM} (_h:SMOk s) (hn:l.Nodup) (hl:∀ id∈l,s.live id=true):l.length≤s.n:=by
 have hm:(l.map slotOf).Nodup:=by
  rw [List.Nodup,List.pairwise_map]
  refine List.Pairwise.imp_of_mem ?_ hn
  intro a b ha hb hne e
  obtain ⟨h1,h2⟩:=SM.live_iff.1 (hl a ha)
  obtain ⟨h3,h4⟩:=SM.live_iff.1 (hl b hb)
  rw [e,h4] at h2
  have:genOf a=genOf b:=(Option.some.inj h2).symm
  have e1:=id_eq (id:=a)
  have e2:=id_eq (id:=b)
  rw [e,this] at e1
  exact hne (e1.symm.trans e2)
 have hs:(l.map slotOf) ⊆ (List.range s.n).map fun (k:Nat)=>(k:Int):=fun z hz=>by
  obtain ⟨a,ha,rfl⟩:=List.mem_map.1 hz
  obtain ⟨h1,h2⟩:=SM.live_iff.1 (hl a ha)
  have hr:=Z7h a
  have:=(List.getElem?_eq_some_iff.1 h2).1
  exact List.mem_map.2 ⟨(slotOf a).toNat,by simpa [SM.n] using this,by omega⟩
 have:=hm.length_le_of_subset hs
 simpa using this
theorem StOk.tab_le {x:StM} (h:StOk x) {m:Nat} (hm:m < 64):(x.tab m).length≤1024:=by
 have:=Zrq h.s (h.tab m hm).nodup fun id hid=>by
  obtain ⟨e,he,rfl⟩:=List.mem_map.1 hid
  exact (h.live e.1).1 ⟨m,hm,Zb7.2 ⟨e,he,rfl⟩⟩
 have h2:=h.s.le
 rw [List.length_map] at this
 omega
theorem Zrs {n:Nat} {first:Int} (h1:1≤n) (h2:n≤1024) (hf:1≤first∧first≤4194303):StOk (StM.new n first):=by
 refine ⟨Znu h1 h2 hf,fun m hm=>TabOk.nil hm,fun m m' id _ _ h=>?_,fun id=>?_⟩
 ·simp [inT,StM.new,rowM] at h
 ·constructor
  ·rintro ⟨m,_,h⟩; simp [inT,StM.new,rowM] at h
  ·intro h
   obtain ⟨i,g,_,_,hu,_⟩:=Zcr.1 h
   simp only [StM.new,SM.new,List.getElem?_replicate] at hu
   split at hu <;> cases hu
theorem Zq4 {m:Nat} {L:List Ent} {id:Int} {l:List Comp} (hv:Valid m l) (hr:rowM L id=none):addM m L id l=0:=by
 rw [addM,if_neg (by simp [hv.list]),if_neg (by simp [hv.mask]),if_neg (by simp [hr])]
theorem StOk.put {x:StM} (h:StOk x) {s':SM} {id:Int} {l:List Comp} (hs:SMOk s') (hid:IdOk id) (hv:listE l=0) (hno:homeT x.tab id=none) (hl:∀ j,s'.live j=true↔x.s.live j=true∨j=id) (hroom:(x.tab (maskN l)).length < 1048576):StOk ⟨s',putT x.tab id l⟩:=by
 have hm:=Z59 l
 have hno':=Z3q.1 hno
 have hr:rowM (x.tab (maskN l)) id=none:=by
  have:=hno' _ hm
  unfold inT at this
  simpa using this
 have hin:∀ k j,inT (putT x.tab id l) k j↔inT x.tab k j∨(k=maskN l∧j=id):=fun k j=>Zni (e:=(id,l)) k j
 refine ⟨hs,fun k hk=>?_,fun k k' j hk hk' h1 h2=>?_,fun j=>?_⟩
 ·show TabOk k (upd _ _ _ k)
  by_cases e:k=maskN l
  ·subst e
   rw [Z5b]
   exact (h.tab _ hk).add hid (Zq4 ⟨hv,rfl⟩ hr) hroom
  ·rw [Z2c e]; exact h.tab k hk
 ·rcases (hin k j).1 h1 with a | a <;> rcases (hin k' j).1 h2 with b | b
  ·exact h.uniq k k' j hk hk' a b
  ·exact absurd (b.2 ▸ a) (hno' k hk)
  ·exact absurd (a.2 ▸ b) (hno' k' hk')
  ·rw [a.1,b.1]
 ·show (∃ m,m < 64∧inT (putT x.tab id l) m j)↔s'.live j=true
  rw [hl,← h.live]
  constructor
  ·rintro ⟨k,hk,h1⟩
   rcases (hin k j).1 h1 with a | a
   ·exact .inl ⟨k,hk,a⟩
   ·exact .inr a.2
  ·rintro (⟨k,hk,a⟩ | rfl)
   ·exact ⟨k,hk,(hin k j).2 (.inl a)⟩
   ·exact ⟨maskN l,hm,(hin _ _).2 (.inr ⟨rfl,rfl⟩)⟩
theorem StOk.spawn {x:StM} (h:StOk x) (l:List Comp):StOk (x.spawn l).2.2:=by
 unfold StM.spawn
 split
 ·exact h
 ·rename_i hl
  split
  ·exact h
  ·rename_i id s' ht
   obtain ⟨h1,h2,h3,_⟩:=h.s.take_live ht
   have hh:homeT x.tab id=none:=by
    have:=h.home_live id
    rw [h1] at this
    simpa using this
   exact h.put (h.s.take ht) h3 (by simpa using hl) hh h2 (by have:=h.tab_le (Z59 l); omega)
theorem StOk.drop {x:StM} (h:StOk x) {m i:Nat} {e:Ent} (hm:m < 64) (hi:(x.tab m)[i]?=some e):StOk ⟨x.s.freed e.1,upd x.tab m (dropI (x.tab m) i)⟩:=by
 have hin0:inT x.tab m e.1:=Zb7.2 ⟨e,List.mem_of_getElem? hi,rfl⟩
 have hl:=(h.live e.1).1 ⟨m,hm,hin0⟩
 have hin:=fun k j=>Znj (T:=x.tab) (h.tab m hm).nodup hi k j
 refine ⟨h.s.freed hl,fun k hk=>?_,fun k k' j hk hk' h1 h2=>h.uniq k k' j hk hk' ((hin k j).1 h1).1 ((hin k' j).1 h2).1,fun j=>?_⟩
 ·show TabOk k (upd _ _ _ k)
  by_cases e:k=m
  ·subst e; rw [Z5b]; exact (h.tab k hk).drop (List.getElem?_eq_some_iff.1 hi).1
  ·rw [Z2c e]; exact h.tab k hk
 ·show (∃ k,k < 64∧inT (upd x.tab m (dropI (x.tab m) i)) k j)↔_
  rw [h.s.freed_live hl,← h.live]
  constructor
  ·rintro ⟨k,hk,h1⟩
   obtain ⟨a,b⟩:=(hin k j).1 h1
   exact ⟨⟨k,hk,a⟩,fun e2=>b ⟨h.uniq k m j hk hm a (e2 ▸ hin0),e2⟩⟩
  ·rintro ⟨⟨k,hk,a⟩,hne⟩
   exact ⟨k,hk,(hin k j).2 ⟨a,fun b=>hne b.2⟩⟩
theorem StOk.despawn {x:StM} (h:StOk x) (id:Int):StOk (x.despawn id).2:=by
 unfold StM.despawn
 split
 ·exact h
 ·rename_i m i e ha
  obtain ⟨_,hm,_,hi,rfl,_⟩:=h.at_some ha
  exact h.drop hm hi
theorem StOk.set {x:StM} (h:StOk x) {m i:Nat} {e:Ent} {c:Comp} (hm:m < 64) (hi:(x.tab m)[i]?=some e) (hc:checkM c=0) (hk:c.1∈kindsOf m):StOk ⟨x.s,upd x.tab m (setL (x.tab m) i c)⟩:=by
 refine ⟨h.s,fun k hk2=>?_,fun k k' j a b h1 h2=>h.uniq k k' j a b ((Zkg hi k j).1 h1) ((Zkg hi k' j).1 h2),fun j=>?_⟩
 ·show TabOk k (upd _ _ _ k)
  by_cases e:k=m
  ·subst e; rw [Z5b]; exact (h.tab k hk2).set hi hc hk
  ·rw [Z2c e]; exact h.tab k hk2
 ·rw [← h.live]
  exact ⟨fun ⟨k,a,b⟩=>⟨k,a,(Zkg hi k j).1 b⟩,fun ⟨k,a,b⟩=>⟨k,a,(Zkg hi k j).2 b⟩⟩
theorem StOk.setM {x:StM} (h:StOk x) (id:Int) (c:Comp):StOk (x.set id c).2:=by
 unfold StM.set
 split
 ·exact h
 ·rename_i hc
  split
  ·exact h
  ·rename_i m i e ha
   split
   ·rename_i hk
    obtain ⟨_,hm,_,hi,rfl,_⟩:=h.at_some ha
    exact h.set hm hi (by simpa using hc) hk
   ·exact h
theorem StOk.turn {x:StM} (h:StOk x) {m i:Nat} {e:Ent} {l:List Comp} (hm:m < 64) (hi:(x.tab m)[i]?=some e) (hv:listE l=0):StOk (x.turn e.1 m i l):=by
 have hin0:inT x.tab m e.1:=Zb7.2 ⟨e,List.mem_of_getElem? hi,rfl⟩
 have hl:=(h.live e.1).1 ⟨m,hm,hin0⟩
 have hd:=h.drop hm hi
 refine hd.put h.s (h.s.live_id hl).1 hv (by rw [Zc5 h hm hi,if_pos rfl]) (fun j=>?_) ?_
 ·show _↔(x.s.freed e.1).live j=true∨_
  rw [h.s.freed_live hl]
  constructor
  ·intro hj
   by_cases e2:j=e.1
   ·exact .inr e2
   ·exact .inl ⟨hj,e2⟩
  ·rintro (⟨a,_⟩ | rfl)
   ·exact a
   ·exact hl
 ·have:=hd.tab_le (Z59 l)
  omega
end Go.Proofs.YtoiahhpgkoknfaaGreat
namespace Go.Proofs.YtoiahhpgkoknfaaGreat
open Go Go.RowKit Go.Proofs.YtoiahhpgkoknfaaGreat.Den
variable {R:Type} {Q:R→World→Prop} {w:World}
def TabO (b m:Nat) (L:List Ent):OB:=fun F w=>∃ lab,(∀ k,lab k≠0→F k)∧Tab lab w b m L
theorem TabO.st {b m:Nat} {L:List Ent}:St (TabO b m L):=fun {_F _F' _S _w _w'} ⟨lab,hF,h⟩ fr hs =>
 ⟨lab,fun k e=>(hs k (h.lt e) (hF k e)).2,h.fr fr fun k e=>(hs k (h.lt e) (hF k e)).1⟩
section
variable {F:Nat→Prop} {b m:Nat} {L:List Ent}
theorem Zvo {m:Nat} (hm:m < 64) {K:Res [.sc .ptr,.sc (.int .i64)]→W R} (hk:∀ b w',TabO b m [] (Up w.heap.size) w'→Fr None w w'→K (some ⟨b,0,none⟩,0) Q w') :
  callW Tryz.prog Zcq [.int .u8 (m:Int)] [.sc .ptr,.sc (.int .i64)] K Q w :=
 Zpm (by omega) (fun h=>by omega) fun lab b w' _ h hn f=>hk b w' ⟨lab,fun k e=>hn k e,h⟩ f
theorem Zvm (h:TabO b m L F w) {id:Int} (hid:IdOk id) {ok:Nat→Prop} {s:Sl} {l:List Comp} (hS:SlT ok w compT s l) (hd:∀ k,k < w.heap.size→ok k→¬ F k) (hm:Small l) (hl:∀ c∈l,CompOk c) (hroom:L.length < 1048576) {K:Res [.sc (.int .i64)]→W R}
  (hk:∀ w',TabO b m (addT m L id l) (Ex F w) w'→Fr F w w'→K (addM m L id l) Q w'):callW Tryz.prog Z55 [.pointer (some ⟨b,0,none⟩),.int .u32 id,.slice s.a s.n s.c] [.sc (.int .i64)] K Q w:=by
 obtain ⟨lab,hF,h⟩:=h
 refine Zpj h hid (hS.mono (ok':=fun k=>ok k∧k < w.heap.size) fun k hk h=>⟨h,hk⟩) (fun k ⟨h1,h2⟩=>?_) hm hl hroom fun lab' w' h' hn f=>?_
 ·by_cases h0:lab k=0
  ·exact h0
  ·exact absurd (hF k h0) (hd k h2 h1)
 ·exact hk w' ⟨lab',fun k e=>(hn k e).imp (hF k) fun h=>h,h'⟩ (f.sub hF)
theorem Zg9 (h:TabO b m L F w) {id:Int} (hid:IdOk id) {i:Nat} {e:Ent} (hr:rowM L id=some i) (he:L[i]?=some e) {K:Res [.sc .sl,.sc (.int .i64)]→W R}
  (hk:∀ (s:Sl) w',TabO b m (dropI L i) F w'→Den.Own (Up w.heap.size) w' 52 compT s e.2→Fr F w w'→K (s,0) Q w'):callW Tryz.prog Z1v [.pointer (some ⟨b,0,none⟩),.int .u32 id] [.sc .sl,.sc (.int .i64)] K Q w:=by
 obtain ⟨lab,hF,h⟩:=h
 refine Zle h hid (fun h0=>by rw [hr] at h0; cases h0) fun i' e' s w' hr' he' h' o f=>?_
 rw [hr] at hr'
 cases hr'
 rw [he] at he'
 cases he'
 exact hk s w' ⟨lab,hF,h'⟩ (o.mono fun k _ h=>h.1) (f.sub hF)
theorem Zvp (h:TabO b m L F w) {id:Int} {c:Comp} (hid:IdOk id) {K:Res [.sc (.int .i64)]→W R} (hk:∀ w',TabO b m (setT m L id c) F w'→Fr F w w'→K (setM m L id c) Q w') :
  callW Tryz.prog Z58 [.pointer (some ⟨b,0,none⟩),.int .u32 id,.agg ⟨compC c⟩] [.sc (.int .i64)] K Q w:=by
 obtain ⟨lab,hF,h⟩:=h
 exact Zpn h hid fun w' h' f=>hk w' ⟨lab,hF,h'⟩ (f.sub hF)
theorem Zvn (h:TabO b m L F w) {id k:Int} (hid:IdOk id) {K:Res [.agg [.int .u8,.int .i32,.int .i32,.int .i32],.sc (.int .i64)]→W R} (hk:∀ w',Fr None w w'→K (getM m L id k) Q w') :
  callW Tryz.prog Z56 [.pointer (some ⟨b,0,none⟩),.int .u32 id,.int .u8 k] [.agg [.int .u8,.int .i32,.int .i32,.int .i32],.sc (.int .i64)] K Q w:=by
 obtain ⟨lab,hF,h⟩:=h
 exact Zpk h hid hk
end
theorem Zrw:Tryz.prog.underlying 204=some (.map 5 270):=by kernel_rfl
theorem Zke:Tryz.prog.underlying 205=some (.map 34 270):=by kernel_rfl
theorem Zp0:(Tryz.prog.info? 270).bind (·.zero)=some (.pointer none):=by kernel_rfl
theorem Zry:Go.Maps.Keyed Tryz.prog 5:=Go.Maps.int_keyed u8_und
theorem Zw4 {i:Int} (h:0≤i∧i≤255):keyOf Tryz.prog 5 (.int .u8 i)=some (.int .u8 i):=Go.Maps.keyOf_int_mk u8_und (by obtain ⟨h1,h2⟩:=h; simp [Lit.wf,IntKind.min,IntKind.max,IntKind.bits,IntKind.signed]; omega)
theorem intI (k:IntKind) (i j:Int) (h:Value.int k i=Value.int k j):i=j:=by cases h; rfl
def tabsF (tp:Nat→Nat) (D:Nat→Bool) (k:Int):Option Value:=if 0≤k∧k < 64∧D k.toNat=true then some (.pointer (some ⟨tp k.toNat,0,none⟩)) else none
theorem Zrv {tp:Nat→Nat} {D:Nat→Bool} {m:Nat} (hm:m < 64):tabsF tp D (m:Int)=if D m then some (.pointer (some ⟨tp m,0,none⟩)) else none:=by
 unfold tabsF
 rw [Int.toNat_natCast]
 have h1:(0:Int)≤(m:Int):=by omega
 have h2:(m:Int) < 64:=by omega
 cases D m <;> simp [h2]
theorem Zua {tp:Nat→Nat} {D:Nat→Bool} {m p:Nat} (hm:m < 64) (i:Int):tabsF (fun k=>if k=m then p else tp k) (fun k=>if k=m then true else D k) i=if i=(m:Int) then some (.pointer (some ⟨p,0,none⟩)) else tabsF tp D i:=by
 by_cases e:i=(m:Int)
 ·subst e
  rw [Zrv hm,if_pos rfl]
  simp
 ·rw [if_neg e]
  unfold tabsF
  by_cases h64:0≤i∧i < 64
  ·have:i.toNat≠m:=by omega
   simp only [if_neg this]
  ·rw [if_neg (fun h=>h64 ⟨h.1,h.2.1⟩),if_neg (fun h=>h64 ⟨h.1,h.2.1⟩)]
structure StoR (lab:Nat→Nat) (w:World) (b sb tb hb:Nat) (tp:Nat→Nat) (D:Nat→Bool) (s:SM) (T:Nat→List Ent) (H:Int→Option Nat):Prop where
 blk:Bl b 207 [.pointer (some ⟨sb,0,none⟩),.map (some tb),.map (some hb)] (fun k=>lab k=1) w
 slots:Slots sb s (fun k=>lab k=4) w
 tabs:Mp Tryz.prog 5 (Value.int .u8) tb (tabsF tp D) (fun k=>lab k=2) w
 home:Mp Tryz.prog 34 (Value.int .u32) hb (fun id=>(H id).map fun m=>.pointer (some ⟨tp m,0,none⟩)) (fun k=>lab k=3) w
 tab:∀ m,m < 64→D m=true→TabO (tp m) m (T m) (fun k=>lab k=5+m) w
 no:∀ m,m < 64→D m=false→T m=[]
 hm:∀ id m,H id=some m→m < 64∧D m=true
def Store (b:Nat) (x:StM):OB:=fun F w=>StOk x∧∃ lab sb tb hb tp D,(∀ k,lab k≠0→F k)∧StoR lab w b sb tb hb tp D x.s x.tab (homeT x.tab)
section
variable {lab:Nat→Nat} {b sb tb hb:Nat} {tp:Nat→Nat} {D:Nat→Bool} {s:SM} {T:Nat→List Ent} {H:Int→Option Nat}
theorem StoR.cut (h:StoR lab w b sb tb hb tp D s T H) {S:Nat→Prop} {w':World} (f:Fr S w w') (hs:∀ k,k < w.heap.size→lab k≠0→¬ S k):StoR (Den.cut lab w.heap.size) w' b sb tb hb tp D s T H :=
 ⟨Bl.st.cut h.blk f (by decide) hs,Slots.st.cut h.slots f (by decide) hs,Mp.st.cut h.tabs f (by decide) hs,Mp.st.cut h.home f (by decide) hs,fun m hm hD=>TabO.st.cut (h.tab m hm hD) f (by omega) hs,h.no,h.hm⟩
theorem StoR.fr0 (h:StoR lab w b sb tb hb tp D s T H) {w':World} (f:Fr None w w'):StoR lab w' b sb tb hb tp D s T H :=
 ⟨Bl.st.fr0 h.blk f,Slots.st.fr0 h.slots f,Mp.st.fr0 h.tabs f,Mp.st.fr0 h.home f,fun m hm hD=>TabO.st.fr0 (h.tab m hm hD) f,h.no,h.hm⟩
theorem StoR.setTab (h:StoR lab w b sb tb hb tp D s T H) {m:Nat} (hm:m < 64) (hD:D m=true) {L:List Ent} {w':World} (f:Fr (fun k=>lab k=5+m) w w') (ht:TabO (tp m) m L (Ex (fun k=>lab k=5+m) w) w') :
  StoR (relab lab w.heap.size w'.heap.size (5+m)) w' b sb tb hb tp D s (upd T m L) H:=by
 refine ⟨Bl.st.other h.blk f (by omega),Slots.st.other h.slots f (by omega),Mp.st.other h.tabs f (by omega),Mp.st.other h.home f (by omega),fun k hk hDk=>?_,fun k hk hDk=>?_,h.hm⟩
 ·by_cases e:k=m
  ·subst e; rw [Z5b]; exact TabO.st.grown ht
  ·rw [Z2c e]; exact TabO.st.other (h.tab k hk hDk) f (by omega)
 ·rw [Z2c (fun e=>by subst e; rw [hD] at hDk; cases hDk)]; exact h.no k hk hDk
theorem StoR.setSlots (h:StoR lab w b sb tb hb tp D s T H) {s':SM} {w':World} (f:Fr (fun k=>lab k=4) w w') (ht:Slots sb s' (Ex (fun k=>lab k=4) w) w') :
  StoR (relab lab w.heap.size w'.heap.size 4) w' b sb tb hb tp D s' T H :=
 ⟨Bl.st.other h.blk f (by omega),Slots.st.grown ht,Mp.st.other h.tabs f (by omega),Mp.st.other h.home f (by omega),fun k hk hDk=>TabO.st.other (h.tab k hk hDk) f (by omega),h.no,h.hm⟩
theorem StoR.ofNew (h:StoR lab w b sb tb hb tp D s T H) {w':World} (f:Fr None w w') (c:Nat):StoR (relab lab w.heap.size w'.heap.size c) w' b sb tb hb tp D s T H :=
 have g:∀ j,Fr (fun k=>lab k=j) w w':=fun j=>f.any
 ⟨Bl.st.other h.blk (g 0) (by omega),Slots.st.other h.slots (g 0) (by omega),Mp.st.other h.tabs (g 0) (by omega),Mp.st.other h.home (g 0) (by omega),fun k hk hDk=>TabO.st.other (h.tab k hk hDk) (g 0) (by omega),h.no,h.hm⟩
theorem StoR.homePut (h:StoR lab w b sb tb hb tp D s T H) {id:Int} (hid:IdOk id) {m:Nat} (hm:m < 64) (hD:D m=true) {K:W R}
  (hk:∀ w',StoR lab w' b sb tb hb tp D s T (fun j=>if j=id then some m else H j)→Fr (fun k=>lab k=3) w w'→w'.heap.size=w.heap.size→K Q w') :
  rawU Tryz.prog (Instr.mapUpdate 205 (.map (some hb)) (.int .u32 id) (.pointer (some ⟨tp m,0,none⟩))) K Q w:=by
 obtain ⟨w1,h1,h2,h3,h4⟩:=h.home.2.put Zeb (intI _) Zke (Zmd hid) (.pointer (some ⟨tp m,0,none⟩))
 have f:Fr (fun k=>lab k=3) w w1:=h3.mono fun k _ e=>by rw [e]; exact h.home.1
 refine ⟨w1,h1,hk w1 ⟨Bl.st.fr h.blk f fun k e=>by omega,Slots.st.fr h.slots f fun k e=>by omega,Mp.st.fr h.tabs f fun k e=>by omega,⟨h.home.1,h2.congr fun i=>?_⟩,fun k hk hDk=>TabO.st.fr (h.tab k hk hDk) f fun k e=>by omega,h.no,fun j q e=>?_⟩ f h4⟩
 ·by_cases e:i=id <;> simp [e]
 ·by_cases e2:j=id
  ·rw [if_pos e2] at e; cases e; exact ⟨hm,hD⟩
  ·rw [if_neg e2] at e; exact h.hm j q e
theorem StoR.homeDel (h:StoR lab w b sb tb hb tp D s T H) {id:Int} (hid:IdOk id) {ty:TypeId} {K:Res []→W R}
  (hk:∀ w',StoR lab w' b sb tb hb tp D s T (fun j=>if j=id then none else H j)→Fr (fun k=>lab k=3) w w'→w'.heap.size=w.heap.size→K () Q w') :
  rawW Tryz.prog (Builtin.delete_ #[205,34] ty #[.map (some hb),.int .u32 id]) [] K Q w:=by
 obtain ⟨w1,h1,h2,h3,h4⟩:=h.home.2.del Zeb (intI _) Zke (ty:=ty) (Zmd hid)
 have f:Fr (fun k=>lab k=3) w w1:=h3.mono fun k _ e=>by rw [e]; exact h.home.1
 refine ⟨(),w1,h1,hk w1 ⟨Bl.st.fr h.blk f fun k e=>by omega,Slots.st.fr h.slots f fun k e=>by omega,Mp.st.fr h.tabs f fun k e=>by omega,⟨h.home.1,h2.congr fun i=>?_⟩,fun k hk hDk=>TabO.st.fr (h.tab k hk hDk) f fun k e=>by omega,h.no,fun j q e=>?_⟩ f h4⟩
 ·by_cases e:i=id <;> simp [e]
 ·by_cases e2:j=id
  ·rw [if_pos e2] at e; cases e
  ·rw [if_neg e2] at e; exact h.hm j q e
theorem StoR.tabPut (h:StoR lab w b sb tb hb tp D s T H) {m:Nat} (hm:m < 64) (hD:D m=false) {p:Nat} (hp:TabO p m [] (fun k=>lab k=5+m) w) {K:W R}
  (hk:∀ w',StoR lab w' b sb tb hb (fun k=>if k=m then p else tp k) (fun k=>if k=m then true else D k) s T H→Fr (fun k=>lab k=2) w w'→w'.heap.size=w.heap.size→K Q w') :
  rawU Tryz.prog (Instr.mapUpdate 204 (.map (some tb)) (.int .u8 (m:Int)) (.pointer (some ⟨p,0,none⟩))) K Q w:=by
 obtain ⟨w1,h1,h2,h3,h4⟩:=h.tabs.2.put Zry (intI _) Zrw (Zw4 (i:=(m:Int)) ⟨by omega,by omega⟩) (.pointer (some ⟨p,0,none⟩))
 have f:Fr (fun k=>lab k=2) w w1:=h3.mono fun k _ e=>by rw [e]; exact h.tabs.1
 have hh:∀ id q,H id=some q→q≠m:=fun id q e e2=>by subst e2; have:=(h.hm id q e).2; rw [hD] at this; cases this
 refine ⟨w1,h1,hk w1 ⟨Bl.st.fr h.blk f fun k e=>by omega,Slots.st.fr h.slots f fun k e=>by omega,⟨h.tabs.1,h2.congr fun i=>?_⟩,?_,fun k hk hDk=>?_,fun k hk hDk=>?_,fun j q e=>?_⟩ f h4⟩
 ·exact Zua hm i
 ·refine ⟨h.home.1,(Mp.st.fr h.home f fun k e=>by omega).2.congr fun id=>?_⟩
  cases e:H id with
  | none=>rfl
  | some q=>simp only [Option.map_some,if_neg (hh id q e)]
 ·by_cases e:k=m
  ·subst e
   simp only [if_true]
   rw [h.no k hm hD]
   exact TabO.st.fr hp f fun k e=>by omega
  ·simp only [if_neg e] at hDk ⊢
   exact TabO.st.fr (h.tab k hk hDk) f fun k e=>by omega
 ·by_cases e:k=m
  ·simp [e] at hDk
  ·simp only [if_neg e] at hDk; exact h.no k hk hDk
 ·have:=h.hm j q e
  exact ⟨this.1,by simp only [if_neg (hh j q e)]; exact this.2⟩
theorem StoR.lookTab (h:StoR lab w b sb tb hb tp D s T H) {m:Nat} (hm:m < 64) {K:Option Addr→W R} (hk:K (if D m then some ⟨tp m,0,none⟩ else none) Q w) :
  rawQ Tryz.prog (Instr.lookup 204 (.map (some tb)) (.int .u8 (m:Int)) false) [.sc .ptr] K Q w:=by
 refine ⟨if D m then some ⟨tp m,0,none⟩ else none,?_,hk⟩
 rw [h.tabs.2.look Zry Zrw Zp0 (Zw4 (i:=(m:Int)) ⟨by omega,by omega⟩) false]
 rw [Zrv hm]
 cases D m <;> rfl
theorem StoR.lookHome (h:StoR lab w b sb tb hb tp D s T H) {id:Int} (hid:IdOk id) {K:Option Addr→W R} (hk:K ((H id).map fun m=>⟨tp m,0,none⟩) Q w) :
  rawQ Tryz.prog (Instr.lookup 205 (.map (some hb)) (.int .u32 id) false) [.sc .ptr] K Q w:=by
 refine ⟨(H id).map fun m=>⟨tp m,0,none⟩,?_,hk⟩
 rw [h.home.2.look Zeb Zke Zp0 (Zmd hid) false]
 cases H id <;> rfl
theorem Zrt (h:StoR lab w b sb tb hb tp D s T H) {id:Int} (hid:IdOk id) {ok:Nat→Prop} {r:Sl} {l:List Comp} (hS:SlT ok w compT r l) (hd:∀ k,k < w.heap.size→ok k→lab k=0) (hl:∀ c∈l,CompOk c) (hv:listE l=0) (_ht:∀ m,m < 64→TabOk m (T m)) (hno:rowM (T (maskN l)) id=none) (hroom:(T (maskN l)).length < 1048576)
  {K:Res []→W R} (hk:∀ lab' tp' D' w',(∀ k,lab' k≠0→lab k≠0∨w.heap.size≤k)→StoR lab' w' b sb tb hb tp' D' s (putT T id l) (fun j=>if j=id then some (maskN l) else H j)→Fr (fun k=>lab k≠0) w w'→K () Q w') :
  callW Tryz.prog Z2s [.pointer (some ⟨b,0,none⟩),.int .u32 id,.slice r.a r.n r.c] [] K Q w:=by
 have hval:Valid (maskN l) l:=⟨hv,rfl⟩
 have hsm:Small l:=by have:=hval.small; simp [Small]; omega
 have hm:=Z59 l
 generalize hmm:maskN l=m at *
 refine Zi6 _ _ _ K Q w ?_
 unfold Zbv
 refine Zd0 hS hsm hl fun w1 f1=>?_
 rw [hmm]
 have h1:=h.fr0 f1
 have hS1:=hS.fr0 f1
 refine ptrI (fldI h1.blk.2 (x:=some tb) rfl ?_)
 refine h1.lookTab hm ?_
 refine joinI (fun p w'=>∃ lab' tp' D',(∀ k,lab' k≠0→lab k≠0∨w.heap.size≤k)∧(∀ k,k < w.heap.size→lab' k=lab k)∧StoR lab' w' b sb tb hb tp' D' s T H∧D' m=true∧p=some ⟨tp' m,0,none⟩∧Fr (fun k=>lab k≠0) w w') ?_ ?_
 ·cases hD:D m with
  | true =>
   refine condF rfl ?_
   exact ⟨lab,tp,D,fun k e=>.inl e,fun _ _=>rfl,h1,hD,rfl,f1.any⟩
  | false =>
   refine condT rfl (Zvo hm fun p w2 t2 f2=>?_)
   have h2:=h1.ofNew f2 (5+m)
   have f02:=f1.then0 f2
   have hs1:=f1.size
   refine ptrI (fldI h2.blk.2 (x:=some tb) rfl ?_)
   refine h2.tabPut hm hD (TabO.st.mono t2 fun k hk e=>Z50 e hk) fun w3 h3 f3 s3=>?_
   have hx:∀ k,relab lab w1.heap.size w2.heap.size (5+m) k≠0→lab k≠0∨w.heap.size≤k:=fun k e=>(Zrl (F:=fun k=>lab k≠0) (fun _ e=>e) k e).imp (fun h=>h) fun h=>Nat.le_trans hs1 h
   exact ⟨_,_,_,hx,fun k hk=>Z5 (Nat.lt_of_lt_of_le hk hs1),h3,by simp,by simp,f02.any.exS f3 fun k e=>hx k (by omega)⟩
 ·rintro p w2 ⟨lab',tp',D',hex,hsame,h2,hD,rfl,f2⟩
  have hS2:SlT ok w2 compT r l:=(hS.mono (ok':=fun k=>ok k∧k < w.heap.size) fun k hk h=>⟨h,hk⟩).fr f2 (fun k e e2=>e2 (hd k e.2 e.1)) |>.mono fun k _ h=>h.1
  have hlt:∀ k,ok k→k < w.heap.size→lab' k=0:=fun k e1 e2=>by rw [hsame k e2]; exact hd k e2 e1
  refine Zvm (ok:=fun k=>ok k∧k < w.heap.size) (h2.tab m hm hD) hid ?_ (fun k _ e e2=>by have:=hlt k e.1 e.2; omega) hsm hl hroom fun w3 t3 f3=>?_
  ·exact (hS.mono (ok':=fun k=>ok k∧k < w.heap.size) fun k hk h=>⟨h,hk⟩).fr f2 (fun k e e2=>e2 (hd k e.2 e.1))
  have hadd:addM m (T m) id l=0:=Zq4 hval hno
  rw [addT,if_pos hadd] at t3
  have h3:=h2.setTab hm hD f3 t3
  have hx3:∀ k,relab lab' w2.heap.size w3.heap.size (5+m) k≠0→lab k≠0∨w.heap.size≤k:=fun k e=>by
   have:=f2.size
   rcases Z2p e with ⟨e,_⟩ | ⟨e,_⟩
   ·exact hex k e
   ·exact .inr (by omega)
  refine ptrI (fldI h3.blk.2 (x:=some hb) rfl ?_)
  refine h3.homePut hid hm hD fun w4 h4 f4 s4=>?_
  refine hk _ tp' D' w4 hx3 ?_ ((f2.exS f3 fun k e=>hex k (by omega)).exS f4 fun k e=>hx3 k (by omega))
  unfold putT
  rw [hmm]
  exact h4
theorem CompsOk.valid {l:List Comp} (hv:listE l=0):∀ c∈l,CompOk c:=fun c hc=>Z9n ((Z3s.1 hv).1 c hc)
theorem Zim (h:StoR lab w b sb tb hb tp D s T H) {id:Int} (hid:IdOk id) {K:Res [.sc .ptr,.sc (.int .i64)]→W R} (hk:K (match H id with
  | none=>(none,7)
  | some m=>(some ⟨tp m,0,none⟩,0)) Q w):callW Tryz.prog Z1w [.pointer (some ⟨b,0,none⟩),.int .u32 id] [.sc .ptr,.sc (.int .i64)] K Q w:=by
 refine Zja _ _ K Q w ?_
 unfold Zcv
 refine condF rfl (ptrI (fldI h.blk.2 (x:=some hb) rfl (h.lookHome hid ?_)))
 cases hh:H id with
 | none =>
  rw [hh] at hk
  exact condT rfl hk
 | some m =>
  rw [hh] at hk
  refine condF rfl (ptrI (fldI h.blk.2 (x:=some hb) rfl (h.lookHome hid ?_)))
  rw [hh]
  exact hk
end
theorem Store.st {b:Nat} {x:StM}:St (Store b x):=fun {_F _F' _S w _w'} ⟨ok,lab,sb,tb,hb,tp,D,hF,h⟩ fr hs =>
 ⟨ok,cut lab w.heap.size,sb,tb,hb,tp,D,fun k e=>(hs k (Zc4 e).2 (hF k (Zc4 e).1)).2,h.cut fr fun k hk e=>(hs k hk (hF k e)).1⟩
theorem Zm6 {n first:Int} {K:Res [.sc .ptr,.sc (.int .i64)]→W R} (h1:¬ (1≤n∧n≤1024∧1≤first∧first≤4194303)→K (none,1) Q w)
  (h2:∀ b w',1≤n∧n≤1024∧1≤first∧first≤4194303→Store b (StM.new n.toNat first) (Up w.heap.size) w'→Fr None w w'→K (some ⟨b,0,none⟩,0) Q w') :
  callW Tryz.prog Zg0 [.int .i64 n,.int .i64 first] [.sc .ptr,.sc (.int .i64)] K Q w:=by
 refine Zq1 n first K Q w ?_
 unfold Zk2
 refine Zm3 (fun hn=>condT rfl (h1 hn)) fun sb w1 hp hs f1=>condF rfl ?_
 refine mapNewI (mapNewI ?_)
 have e1:((w1.alloc (.map #[] 0)).heap.size)=w1.heap.size+1:=by simp
 rw [e1]
 have ft:=(Fr.refl None w1).alloc (.map #[] 0)
 have fh:=(Fr.refl None (w1.alloc (.map #[] 0))).alloc (.map #[] 0)
 have mt:=MapB.made (P:=Tryz.prog) (k:=5) (ke:=Value.int .u8) w1
 have mh:=MapB.made (P:=Tryz.prog) (k:=34) (ke:=Value.int .u32) (w1.alloc (.map #[] 0))
 rw [e1] at mh
 have s2:((w1.alloc (.map #[] 0)).alloc (.map #[] 0)).heap.size=w1.heap.size+2:=by simp
 generalize (w1.alloc (.map #[] 0)).alloc (.map #[] 0)=w2 at *
 refine newI fun w3 B3 f3 s3=>?_
 rw [s2] at B3
 have f13:Fr None w1 w3:=(ft.then0 fh).then0 f3
 have hs1:=f1.size
 rw [s2]
 refine h2 (w1.heap.size+2) w3 hp ⟨Zrs (by omega) (by omega) hp.2.2,fun k=>if k=w1.heap.size+2 then 1 else if k=w1.heap.size then 2 else if k=w1.heap.size+1 then 3 else if w.heap.size≤k then 4 else 0,sb,w1.heap.size,w1.heap.size+1,fun _=>0,fun _=>false,fun k e=>?_,
  ⟨⟨by simp,B3⟩,?_,⟨by simp,?_⟩,⟨by simp,?_⟩,fun m _ h=>by simp at h,fun m _ _=>rfl,fun id m e=>?_⟩⟩ (f1.then0 f13)
 ·show w.heap.size≤k
  by_cases a1:k=w1.heap.size+2
  ·omega
  ·by_cases a2:k=w1.heap.size
   ·omega
   ·by_cases a3:k=w1.heap.size+1
    ·omega
    ·by_cases a4:w.heap.size≤k
     ·exact a4
     ·simp [a1,a2,a3,a4] at e
 ·refine Slots.st hs f13 fun k hk e=>⟨fun h=>h,?_⟩
  have a1:¬ k=w1.heap.size+2:=by omega
  have a2:¬ k=w1.heap.size:=by omega
  have a3:¬ k=w1.heap.size+1:=by omega
  show (if _ then _ else _)=_
  rw [if_neg a1,if_neg a2,if_neg a3,if_pos e]
 ·refine ((mt.fr fh fun h=>h).fr f3 fun h=>h).congr fun i=>?_
  unfold tabsF
  rw [if_neg (by simp)]
 ·refine (mh.fr f3 fun h=>h).congr fun i=>?_
  have:homeT (StM.new n.toNat first).tab i=none:=Z3q.2 fun m _ h=>by simp [inT,StM.new,rowM] at h
  rw [this]; rfl
 ·have:homeT (StM.new n.toNat first).tab id=none:=Z3q.2 fun m _ h=>by simp [inT,StM.new,rowM] at h
  rw [this] at e; cases e
section
variable {F:Nat→Prop} {b:Nat} {x:StM}
theorem Zd1 (h:Store b x F w) {ok:Nat→Prop} {r:Sl} {l:List Comp} (hS:SlT ok w compT r l) (hd:∀ k,k < w.heap.size→ok k→¬ F k) (hsm:Small l) (hl:∀ c∈l,CompOk c) {K:Res [.sc (.int .u32),.sc (.int .i64)]→W R}
  (hk:∀ w',Store b (x.spawn l).2.2 (Ex F w) w'→Fr F w w'→K ((x.spawn l).1,(x.spawn l).2.1) Q w'):callW Tryz.prog Z49 [.pointer (some ⟨b,0,none⟩),.slice r.a r.n r.c] [.sc (.int .u32),.sc (.int .i64)] K Q w:=by
 refine Zfs _ _ K Q w ?_
 unfold Z9l
 refine condF rfl (Z86 hS hsm fun w1 f1=>?_)
 have ex:∀ {y:StM} {w':World},Store b y F w'→Store b y (Ex F w) w':=fun h=>Store.st.mono h fun _ _ e=>.inl e
 refine condN (fun hc=>?_) fun hc=>?_
 ·have e:x.spawn l=(0,listE l,x):=by rw [StM.spawn,if_pos hc]
  rw [e] at hk
  exact hk w1 (ex (Store.st.fr0 h f1)) f1.any
 have hS1:=hS.fr0 f1
 obtain ⟨ok',lab,sb,tb,hb,tp,D,hF,h1⟩:=Store.st.fr0 h f1
 refine ptrI (fldI h1.blk.2 (x:=some ⟨sb,0,none⟩) rfl ?_)
 refine Zla h1.slots (fun ht w2 f2=>?_) fun id s' w2 ht h2 f2=>?_
 ·have e:x.spawn l=(0,8,x):=by rw [StM.spawn,if_neg (by simpa using hc),ht]
  rw [e] at hk
  refine joinK (condF rfl ?_)
  exact hk w2 (ex (Store.st.fr0 (Store.st.fr0 h f1) f2)) (f1.then0 f2).any
 ·have e:x.spawn l=(id,0,⟨s',putT x.tab id l⟩):=by rw [StM.spawn,if_neg (by simpa using hc),ht]
  rw [e] at hk
  obtain ⟨hdead,hlive,hid,_⟩:=ok'.s.take_live ht
  have hh:homeT x.tab id=none:=by
   have:=ok'.home_live id
   rw [hdead] at this
   simpa using this
  have hm:=Z59 l
  have hno:rowM (x.tab (maskN l)) id=none:=by
   have:=Z3q.1 hh _ hm
   unfold inT at this
   simpa using this
  have h3:StoR lab w2 b sb tb hb tp D s' x.tab (homeT x.tab):=⟨Bl.st.fr h1.blk f2 fun k e=>by omega,h2,Mp.st.fr h1.tabs f2 fun k e=>by omega,Mp.st.fr h1.home f2 fun k e=>by omega,fun k hk hDk=>TabO.st.fr (h1.tab k hk hDk) f2 fun k e=>by omega,h1.no,h1.hm⟩
  have f02:Fr (fun k=>lab k≠0) w w2:=f1.any.then (f2.lab (by decide))
  have hs1:=f1.size
  have hS2:SlT (fun k=>ok k∧k < w.heap.size) w2 compT r l:=(hS.mono (ok':=fun k=>ok k∧k < w.heap.size) fun k hk h=>⟨h,hk⟩).fr f02 fun k e e2=>hd k e.2 e.1 (hF k e2)
  have hl0:∀ k,(ok k∧k < w.heap.size)→lab k=0:=fun k e=>by
   by_cases h0:lab k=0
   ·exact h0
   ·exact absurd (hF k h0) (hd k e.2 e.1)
  refine joinK (condT rfl (Zrt h3 hid hS2 (fun k _ e=>hl0 k e) hl (by simpa using hc) ok'.tab hno (by have:=ok'.tab_le hm; omega) fun lab' tp' D' w3 hex h4 f3=>?_))
  have hs2:=f02.size
  refine hk w3 ⟨?_,lab',sb,tb,hb,tp',D',fun k e=>?_,?_⟩ ((f02.exS f3 fun k e=>.inl e).sub hF)
  ·exact ok'.put (ok'.s.take ht) hid (by simpa using hc) hh hlive (by have:=ok'.tab_le hm; omega)
  ·rcases hex k e with e | e
   ·exact .inl (hF k e)
   ·exact .inr (by omega)
  ·have e2:homeT (putT x.tab id l)=fun j=>if j=id then some (maskN l) else homeT x.tab j:=by
    funext j
    exact Zr9 (e:=(id,l)) hm (Z3q.1 hh) j
   show StoR lab' w3 b sb tb hb tp' D' s' (putT x.tab id l) (homeT (putT x.tab id l))
   rw [e2]
   exact h4
end
end Go.Proofs.YtoiahhpgkoknfaaGreat
namespace Go.Proofs.YtoiahhpgkoknfaaGreat
open Go Go.RowKit Go.Proofs.YtoiahhpgkoknfaaGreat.Den
variable {R:Type} {Q:R→World→Prop} {w:World}
theorem Zmf {α:Type} {p:α→Bool}:∀ {l:List α} {n:Nat},(idxF p l=(n:Int)∨(idxF p l < 0∧n=l.length))→l.takeWhile (fun x=>!p x)=l.take n∧l.dropWhile (fun x=>!p x)=l.drop n∧n≤l.length
 | [],n,h=>by
  rcases h with h | ⟨_,rfl⟩
  ·simp [idxF] at h
  ·simp
 | x :: r,n,h=>by
  cases hx:p x with
  | true =>
   have e:idxF p (x :: r)=0:=by simp [idxF,List.findIdx?_cons,hx]
   rw [e] at h
   have:n=0:=by omega
   subst this
   simp [hx]
  | false =>
   have e:idxF p (x :: r)=(match idxF p r with
    | .ofNat k=>((k:Int)+1)
    | .negSucc _=>-1):=by
    unfold idxF
    rw [List.findIdx?_cons,hx]
    cases List.findIdx? p r <;> rfl
   obtain ⟨m,hm⟩:∃ m,n=m+1∧(idxF p r=(m:Int)∨(idxF p r < 0∧m=r.length)):=by
    rw [e] at h
    rcases Zme p r with ⟨h1,_⟩ | ⟨k,h1⟩
    ·rw [h1] at h
     refine ⟨r.length,?_,.inr ⟨by omega,rfl⟩⟩
     rcases h with h | ⟨_,h⟩
     ·exact absurd h (by show ¬ ((-1:Int)=_); omega)
     ·simpa using h
    ·rw [h1] at h
     refine ⟨k,?_,.inl h1⟩
     rcases h with h | ⟨h,_⟩
     ·have:((k:Int)+1)=(n:Int):=h
      omega
     ·have:((k:Int)+1) < 0:=h
      omega
   obtain ⟨rfl,hm⟩:=hm
   have ih:=Zmf hm
   simp only [List.takeWhile_cons,List.dropWhile_cons,hx,Bool.not_false,if_true,List.take_succ_cons,List.drop_succ_cons,List.length_cons]
   exact ⟨by rw [ih.1],ih.2.1,by omega⟩
theorem Zrc {l:List Comp} {c x:Comp}:x∈insC l c↔x∈l∨x=c:=by
 unfold insC
 have:=List.takeWhile_append_dropWhile (p:=fun x:Comp=>!decide (x.1 > c.1)) (l:=l)
 rw [List.mem_append,List.mem_cons]
 conv=>rhs; rw [← this,List.mem_append]
 constructor
 ·rintro (h | h | h)
  ·exact .inl (.inl h)
  ·exact .inr h
  ·exact .inl (.inr h)
 ·rintro ((h | h) | h)
  ·exact .inl h
  ·exact .inr (.inr h)
  ·exact .inr (.inl h)
theorem Zkh:∀ {l:List Comp} {c:Comp},Rising (l.map (·.1))→(∀ x∈l,x.1≠c.1)→Rising ((insC l c).map (·.1))
 | [],c,_,_=>by simp [insC,Rising]
 | x :: r,c,hr,hne=>by
  rw [List.map_cons,Rising,List.pairwise_cons] at hr
  by_cases h:x.1 > c.1
  ·have e:insC (x :: r) c=c :: x :: r:=by simp [insC,h]
   rw [e]
   simp only [List.map_cons,Rising,List.pairwise_cons]
   refine ⟨fun y hy=>?_,hr.1,hr.2⟩
   rcases List.mem_cons.1 hy with rfl | hy
   ·exact h
   ·have:=hr.1 y hy; omega
  ·have e:insC (x :: r) c=x :: insC r c:=by simp [insC,h]
   rw [e]
   simp only [List.map_cons,Rising,List.pairwise_cons]
   refine ⟨fun y hy=>?_,Zkh hr.2 fun y hy=>hne y (List.mem_cons_of_mem _ hy)⟩
   obtain ⟨z,hz,rfl⟩:=List.mem_map.1 hy
   rcases Zrc.1 hz with hz | rfl
   ·exact hr.1 _ (List.mem_map_of_mem hz)
   ·have:=hne x List.mem_cons_self; omega
theorem Valid.ins {m:Nat} {l:List Comp} {c:Comp} (h:Valid m l) (hc:checkM c=0) (hk:c.1 ∉ kindsOf m):listE (insC l c)=0:=by
 rw [Z3s]
 refine ⟨fun x hx=>?_,Zkh h.rising fun x hx e=>hk ?_⟩
 ·rcases Zrc.1 hx with hx | rfl
  ·exact (Z3s.1 h.list).1 x hx
  ·exact hc
 ·rw [← h.kinds,← e]; exact List.mem_map_of_mem hx
theorem Valid.filter {m:Nat} {l:List Comp} (h:Valid m l) (p:Comp→Bool):listE (l.filter p)=0:=by
 rw [Z3s]
 refine ⟨fun x hx=>(Z3s.1 h.list).1 x (List.mem_filter.1 hx).1,?_⟩
 have:=h.rising
 unfold Rising at this ⊢
 rw [List.pairwise_map] at this ⊢
 exact this.sublist List.filter_sublist
theorem Zte {m:Nat} {k:Int} (h:0≤k):k∈kindsOf m↔k < 6∧Nat.testBit m k.toNat=true:=by
 rw [Z1t]
 constructor
 ·rintro ⟨q,h1,h2,rfl⟩; exact ⟨by omega,by simpa using h2⟩
 ·rintro ⟨h1,h2⟩; exact ⟨k.toNat,by omega,h2,by omega⟩
section
variable {bc:Nat} {Tc:TypeId} {n:Nat} {r:Sl} {l:List Comp}
theorem Znx {x c:Comp} (B:Blk w bc Tc (compC c)) {K:Res [.sc .bool]→W R} (hk:∀ w',Fr None w w'→K (decide (x.1 > c.1)) Q w'):callW Tryz.prog Z2o [.agg ⟨compC x⟩,.pointer (some ⟨bc,0,none⟩)] [.sc .bool] K Q w:=by
 refine Zce x _ K Q w ?_
 unfold Z6c
 refine newI fun w1 B1 f1 s1=>fldI B1 (x:=x.1) rfl (ptrI (fldI (B.fr f1 fun h=>h) (x:=c.1) rfl ?_))
 exact hk w1 f1
theorem Zhn {x:Comp} {k:Int} (B:Blk w bc Tc [.int .u8 k]) {K:Res [.sc .bool]→W R} (hk:∀ w',Fr None w w'→K (x.1 == k) Q w'):callW Tryz.prog Zg [.agg ⟨compC x⟩,.pointer (some ⟨bc,0,none⟩)] [.sc .bool] K Q w:=by
 refine Za2 x _ K Q w ?_
 unfold Z5d
 refine newI fun w1 B1 f1 s1=>fldI B1 (x:=x.1) rfl (ptrI (fld0 (B.fr f1 fun h=>h) (x:=k) rfl ?_))
 exact hk w1 f1
theorem Zqp {S:Nat→Prop} (ho:Den.Own S w 52 compT r l) {vb:Nat} {Tv:TypeId} {x:Comp} (Bv:Blk w vb Tv (compC x)) (hvb:¬ S vb) {i:Nat} (hi:i≤l.length) (hsm:l.length≤1000) {K:Res [.sc .sl]→W R}
  (hk:∀ r' w',Den.Own (Ex S w) w' 52 compT r' (l.take i ++ x :: l.drop i)→Fr S w w'→K r' Q w') :
  callW Tryz.prog Z5l [.slice r.a r.n r.c,.int .i64 (i:Int),.slice (some ⟨vb,0,none⟩) 1 1] [.sc .sl] K Q w:=by
 refine Zeq r _ ⟨some ⟨vb,0,none⟩,1,1⟩ K Q w ?_
 unfold Z8i
 have hlen:=ho.len
 have hcap:=ho.cap
 refine ho.sl.from rfl rfl hi fun r1 hr1 _=>condF rfl ?_
 refine condE (fun he=>?_) fun hne=>?_
 ·have:i=l.length:=by omega
  subst this
  have e:l.take l.length ++ x :: l.drop l.length=l ++ [x]:=by simp
  rw [e] at hk
  refine app1 (x:=x) (S':=Ex S w) Z2y ho Bv rfl (by omega) (by rw [Zc]; omega) (fun _ h=>.inl h) (.inr (Nat.le_refl _)) fun r' w' o' f' _=>hk r' w' o' (f'.mono fun k _ e=>ho.own k e)
 have hil:i < l.length:=by omega
 obtain ⟨ti,z,hti,htz,hts,htb,hzs⟩:=Z2y.info
 have ht4:ti.size=4:=hts
 have lenD:((l.drop i).flatMap compT.cells).length=(l.length - i) * 4:=by have:=Z2n (t:=compT) (l.drop i); rw [List.length_drop] at this; exact this
 have lenA:((l.take i).flatMap compT.cells).length=i * 4:=by have:=Z2n (t:=compT) (l.take i); rw [List.length_take,Nat.min_eq_left hi] at this; exact this
 have flatD:(l.drop i).flatMap compT.cells=(l.flatMap compT.cells).drop (i * 4):=by
  have h2:l.flatMap compT.cells=(l.take i).flatMap compT.cells ++ (l.drop i).flatMap compT.cells:=by rw [← List.flatMap_append,List.take_append_drop]
  rw [h2,← lenA,List.drop_left]
 have oneX:∀ v∈compC x,v.oneCell'=true:=compT.one x rfl
 have oneD:∀ v∈(l.drop i).flatMap compT.cells,v.oneCell'=true:=fun u hu=>by
  obtain ⟨y,_,hy⟩:=List.mem_flatMap.1 hu
  exact compT.one y rfl u hy
 have cellsX:∀ {w':World},Blk w' vb Tv (compC x)→CellsAt w' ⟨vb,0,none⟩ (compC x):=fun B=>B.cells 0 _ fun j u h=>by rw [Nat.zero_add]; exact h
 have flatI:(l.take i ++ x :: l.drop i).flatMap compT.cells=(l.take i).flatMap compT.cells ++ compC x ++ (l.drop i).flatMap compT.cells:=by
  rw [List.flatMap_append,List.flatMap_cons,List.append_assoc]; rfl
 have lenI:(l.take i ++ x :: l.drop i).length=l.length+1:=by simp; omega
 rcases ho.cases with ⟨rfl,rfl⟩ | ⟨g,c,cur,rfl,hS,h3,h4,h5,h6,h7⟩
 ·simp at hil
 have hvg:vb≠g:=fun e=>hvb (e ▸ hS)
 have hclen:cur.toList.length=c * 4:=by rw [Array.length_toList,h6]; rfl
 have B:Blk w g 52 cur.toList:=h3
 have hl4:(l.drop i).length * 4+i * 4≤c * 4:=by simp; omega
 have cellsD:CellsAt w ⟨g,i * 4,none⟩ ((l.drop i).flatMap compT.cells):=B.cells _ _ fun j u hj=>by
  rw [flatD,List.getElem?_drop,← h7,List.getElem?_take] at hj
  split at hj
  ·exact hj
  ·cases hj
 have w1:IntKind.wrap .i64 (((l.length:Nat):Int)+((1:Nat):Int))=((l.length+1:Nat):Int):=w64 (by omega)
 have w2:IntKind.wrap .i64 (((i:Nat):Int)+((1:Nat):Int))=((i+1:Nat):Int):=w64 (by omega)
 simp only [w1,w2]
 refine condD (fun hgt=>?_) fun hle=>?_
 ·
  have hcn:c=l.length:=by have:((l.length+1:Nat):Int) > (c:Int):=hgt; omega
  subst hcn
  refine chkI (by simp only [Option.getD_some,Option.getD_none]; omega) ?_
  simp only [Option.getD_some,Option.getD_none,Int.toNat_natCast]
  have e0:(if l.length=Int.toNat 0 then some (⟨g,0,none⟩:Addr) else (some (⟨g,0,none⟩:Addr)).map (·.add (Int.toNat 0 * 4)))=some ⟨g,0,none⟩:=by
   have h0:¬ l.length=Int.toNat 0:=fun h=>by have:l.length=0:=h; omega
   rw [if_neg h0,Option.map_some,Z3,Nat.zero_add]
   rfl
  rw [e0]
  have w3:IntKind.wrap .i64 (((l.length+1:Nat):Int) - (i:Int))=((l.length+1 - i:Nat):Int):=by rw [w64 (by omega)]; omega
  rw [w3]
  have hA:((l.take i).flatMap compT.cells)=cur.toList.take (i * 4):=by
   rw [Zha,← h7,List.take_take,Nat.min_eq_left (show i * compT.size≤l.length * compT.size from Nat.mul_le_mul_right _ hi)]
   rfl
  have hr:=Ze1 (P:=Tryz.prog) (ty:=35) w 3 ti z .i64 .i64 Z2y.under (by kernel_rfl) hti htz ⟨g,0,none⟩ i l.length ((l.take i).flatMap compT.cells) (by rw [lenA,ht4]) (fun j v hj=>by
    rw [Z3,Nat.zero_add,B.cell]
    rw [hA,List.getElem?_take] at hj
    split at hj
    ·exact hj
    ·cases hj) (l.length+1 - i) (by rw [ht4]; omega) (by omega) (by omega) (by
    rw [htb]
    exact growslice_fits (by omega) (by omega)) (by rw [htb]; omega)
  have hge:=grownCap_ge w (i+(l.length+1 - i)) l.length 52
  have hmx:=grownCap_le_maxLen w (i+(l.length+1 - i)) l.length 52 (by rw [Zc]; omega)
  generalize grownCap w (i+(l.length+1 - i)) l.length 52=G at hr hge hmx
  have hn:i+(l.length+1 - i)=l.length+1:=by omega
  rw [hn] at hr hge
  refine ⟨⟨some ⟨w.heap.size,0,none⟩,l.length+1,G⟩,_,hr,?_⟩
  have f1:=(Fr.refl None w).drew.alloc (.cells (((l.take i).flatMap compT.cells).toArray ++ Builtin.zeroCells z.cells (l.length+1 - i) ++ Builtin.zeroCells z.cells (G - (l.length+1))) 52)
  have B1:Blk (w.drew.alloc (.cells (((l.take i).flatMap compT.cells).toArray ++ Builtin.zeroCells z.cells (l.length+1 - i) ++ Builtin.zeroCells z.cells (G - (l.length+1))) 52)) w.heap.size 52
    (((l.take i).flatMap compT.cells) ++ (Builtin.zeroCells z.cells (l.length+1 - i)).toList ++ (Builtin.zeroCells z.cells (G - (l.length+1))).toList):=by
   have:=heap_alloc_new w.drew (.cells (((l.take i).flatMap compT.cells).toArray ++ Builtin.zeroCells z.cells (l.length+1 - i) ++ Builtin.zeroCells z.cells (G - (l.length+1))) 52)
   unfold Blk
   rw [show (⟨((l.take i).flatMap compT.cells) ++ (Builtin.zeroCells z.cells (l.length+1 - i)).toList ++ (Builtin.zeroCells z.cells (G - (l.length+1))).toList⟩:Array Value)=((l.take i).flatMap compT.cells).toArray ++ Builtin.zeroCells z.cells (l.length+1 - i) ++ Builtin.zeroCells z.cells (G - (l.length+1)) from Array.ext' (by simp)]
   exact this
  have hs1:(w.drew.alloc (.cells (((l.take i).flatMap compT.cells).toArray ++ Builtin.zeroCells z.cells (l.length+1 - i) ++ Builtin.zeroCells z.cells (G - (l.length+1))) 52)).heap.size=w.heap.size+1:=by simp
  have hzl:z.cells.size=4:=hzs
  have hl1:(((l.take i).flatMap compT.cells) ++ (Builtin.zeroCells z.cells (l.length+1 - i)).toList ++ (Builtin.zeroCells z.cells (G - (l.length+1))).toList).length=G * 4:=by
   simp only [List.length_append,Array.length_toList,size_zeroCells,lenA,hzl]
   omega
  have hA1:(((l.take i).flatMap compT.cells) ++ (Builtin.zeroCells z.cells (l.length+1 - i)).toList ++ (Builtin.zeroCells z.cells (G - (l.length+1))).toList).take (i * 4)=(l.take i).flatMap compT.cells:=by
   rw [List.append_assoc,← lenA,List.take_left]
  generalize (((l.take i).flatMap compT.cells) ++ (Builtin.zeroCells z.cells (l.length+1 - i)).toList ++ (Builtin.zeroCells z.cells (G - (l.length+1))).toList)=cs1 at B1 hl1 hA1
  generalize w.drew.alloc (.cells (((l.take i).flatMap compT.cells).toArray ++ Builtin.zeroCells z.cells (l.length+1 - i) ++ Builtin.zeroCells z.cells (G - (l.length+1))) 52)=wa at f1 B1 hs1
  have hgl:=B.lt
  have hvl:=Bv.lt
  refine chkI (by simp only [Option.getD_some,Option.getD_none]; omega) ?_
  simp only [Option.getD_some,Option.getD_none,Int.toNat_natCast]
  rw [if_neg (by omega),Option.map_some,Z3,Nat.zero_add]
  refine copyI (vs:=compC x) (n:=1) Z2y.under hti B1 (by show 1=min 1 (l.length+1 - i); omega) (by rw [ht4]; rfl) (cellsX (Bv.fr f1 fun h=>h)) (by rw [hl1]; show i * 4+4≤_; omega) oneX fun wb B2 f2 s2=>?_
  refine chkI (by simp only [Option.getD_some,Option.getD_none]; omega) ?_
  simp only [Option.getD_some,Option.getD_none,Int.toNat_natCast]
  rw [if_neg (by omega),Option.map_some,Z3,Nat.zero_add]
  refine chkI (by simp only [Option.getD_some,Option.getD_none]; omega) ?_
  simp only [Option.getD_some,Option.getD_none,Int.toNat_natCast]
  rw [if_neg (by omega),Option.map_some,Z3,Nat.zero_add]
  have f12:=f1.newer f2 fun k e=>by omega
  have cD:CellsAt wb.drew ⟨g,i * 4,none⟩ ((l.drop i).flatMap compT.cells):=by
   have B':=(B.fr f12 fun h=>h).drew
   exact B'.cells _ _ fun j u hj=>by
    rw [flatD,List.getElem?_drop,← h7,List.getElem?_take] at hj
    split at hj
    ·exact hj
    ·cases hj
  refine copyI (vs:=(l.drop i).flatMap compT.cells) (n:=l.length - i) Z2y.under hti B2.drew (by show _=min _ _; omega) (by rw [lenD,ht4]) cD (by rw [Z2q,hl1,lenD]; omega) oneD fun wc B3 f3 s3=>?_
  have hfin:=Ztc (z:=4) (A:=(l.take i).flatMap compT.cells) (X:=compC x) (D:=(l.drop i).flatMap compT.cells) (cs:=cs1) (i:=i) (d:=l.length - i) hA1 lenA rfl lenD (by rw [hl1]; omega)
  rw [show i+1+(l.length - i)=l.length+1 by omega] at hfin
  have o3:=Den.Own.mk' (S:=Ex S w) (w:=wc) (E:=52) (t:=compT) (l:=l.take i ++ x :: l.drop i) (g:=w.heap.size) (c:=G) (cur:=⟨putAt (putAt cs1 (i * 4) (compC x)) ((i+1) * 4) ((l.drop i).flatMap compT.cells)⟩) (.inr (Nat.le_refl _)) B3 (by rw [lenI]; omega) hmx (by simp [Z2q,hl1]; rfl) (by rw [lenI,flatI]; exact hfin)
  rw [lenI] at o3
  refine hk _ wc o3 ?_
  exact ((f12.drew.newer f3 fun k e=>by omega:Fr None w wc)).any
 ·
  have hroom:l.length+1≤c:=by have:¬ ((l.length+1:Nat):Int) > (c:Int):=hle; omega
  have e0:∀ (K:Sl→W Sl) (Q:Sl→World→Prop),K ⟨some ⟨g,0,none⟩,l.length+1,c⟩ Q w→slcW (some (⟨g,0,none⟩:Addr)) l.length c 4 none (some ((l.length+1:Nat):Int)) K Q w:=fun K Q hK=>by
   refine chkI (by simp only [Option.getD_some,Option.getD_none]; omega) ?_
   simp only [Option.getD_some,Option.getD_none,Int.toNat_natCast]
   have h0:¬ c=Int.toNat 0:=fun h=>by have:c=0:=h; omega
   rw [if_neg h0,Option.map_some,Z3,Nat.zero_add]
   exact hK
  refine e0 _ _ ?_
  have from_:∀ (j:Nat) (K:Sl→W Sl) (Q:Sl→World→Prop) (w:World),j≤l.length→K ⟨some ⟨g,j * 4,none⟩,l.length+1 - j,c - j⟩ Q w→slcW (some (⟨g,0,none⟩:Addr)) (l.length+1) c 4 (some (j:Int)) none K Q w:=fun j K Q w hj hK=>by
   refine chkI (by simp only [Option.getD_some,Option.getD_none]; omega) ?_
   simp only [Option.getD_some,Option.getD_none,Int.toNat_natCast]
   rw [if_neg (by omega),Option.map_some,Z3,Nat.zero_add]
   exact hK
  refine from_ (i+1) _ _ _ (by omega) ?_
  refine ⟨false,w,?_,condT rfl ?_⟩
  ·rw [run_callFunc_extern (fn:=Tryz.f278) Tryz.func278 (by kernel_rfl) (by kernel_rfl) (by kernel_rfl) (e:=Extern.SlicesOverlaps.overlaps #[35,35] #[4]) (by kernel_rfl)]
   have hsz:∀ w,(Go.sizeOf 52).run Tryz.prog w=.ok 4 w:=fun w=>by simp [Go.sizeOf,typeInfo,hti,ht4]
   have hsh:∀ {b:Nat} {T:TypeId} {cs:List Value},Blk w b T cs→w.shape? b=some (T,cs.length):=fun B=>by unfold Blk at B; simp [World.shape?,B]
   rw [Lib.run_overlaps_apart w 35 4 52 Z2y.under 4 hsz ⟨vb,0,none⟩ ⟨g,(i+1) * 4,none⟩ 1 1 _ _ hvg Tv 52 4 cur.toList.length (hsh Bv) (hsh B) (by rw [hclen]; omega) (Bv.frozen 0) (Bv.frozen 4)]
   rfl
  have fd:=(Fr.refl None w).drew
  refine from_ (i+1) _ _ _ (by omega) (from_ i _ _ _ (by omega) ?_)
  refine copyI (vs:=(l.drop i).flatMap compT.cells) (n:=l.length - i) Z2y.under hti B.drew (by show l.length - i=min (l.length+1 - i) (l.length+1 - (i+1)); omega) (by rw [lenD,ht4]) cellsD (by rw [hclen,lenD]; omega) oneD fun wb B2 f2 s2=>?_
  refine from_ i _ _ _ (by omega) ?_
  have f02:Fr (fun k=>k=g) w wb:=fd.any.then f2
  refine copyI (vs:=compC x) (n:=1) Z2y.under hti B2 (by show 1=min 1 (l.length+1 - i); omega) (by rw [ht4]; rfl) (cellsX (Bv.fr f02 fun e=>hvg e)) (by rw [Z2q,hclen]; show i * 4+4≤_; omega) oneX fun wc B3 f3 s3=>?_
  have hA:cur.toList.take (i * 4)=(l.take i).flatMap compT.cells:=by
   rw [Zha,← h7,List.take_take,Nat.min_eq_left (show i * compT.size≤l.length * compT.size from Nat.mul_le_mul_right _ hi)]
   rfl
  have hfin:=Zs4 (z:=4) (A:=(l.take i).flatMap compT.cells) (X:=compC x) (D:=(l.drop i).flatMap compT.cells) (cs:=cur.toList) (i:=i) (d:=l.length - i) hA lenA rfl lenD (by rw [hclen]; omega)
  rw [show i+1+(l.length - i)=l.length+1 by omega] at hfin
  have o3:=Den.Own.mk' (S:=Ex S w) (w:=wc) (E:=52) (t:=compT) (l:=l.take i ++ x :: l.drop i) (g:=g) (c:=c) (cur:=⟨putAt (putAt cur.toList ((i+1) * 4) ((l.drop i).flatMap compT.cells)) (i * 4) (compC x)⟩) (.inl hS) B3 (by rw [lenI]; exact hroom) h5 (by simp [Z2q,h6]) (by rw [lenI,flatI]; exact hfin)
  rw [lenI] at o3
  exact hk _ wc o3 ((f02.then f3).mono fun k _ e=>by rw [e]; exact hS)
theorem Zqn (ho:Den.Own (Up n) w 52 compT r l) {c:Comp} (B:Blk w bc Tc (compC c)) (_hb:bc < n) (hn:n≤w.heap.size) (hsm:l.length≤1000) {K:Res [.sc .sl]→W R} (hk:∀ r' w',Den.Own (Up n) w' 52 compT r' (insC l c)→Fr (Up n) w w'→K r' Q w') :
  callW Tryz.prog Z5n [.slice r.a r.n r.c,.pointer (some ⟨bc,0,none⟩)] [.sc .sl] K Q w:=by
 refine Zes r _ K Q w ?_
 unfold Z8k
 refine Z3l r _ _ _ w ?_
 unfold Z1b
 refine idxFuncI (t:=compT) (sz:=4) (callp:=fun x K=>callW Tryz.prog Z2o [.agg ⟨compC x⟩,.pointer (some ⟨bc,0,none⟩)] [.sc .bool] K) (fun x:Comp=>decide (x.1 > c.1)) ho.sl rfl (by omega) (fun x _ X w' f hX=>Znx (B.fr f fun h=>h) hX) fun w1 f1=>?_
 have hlen:=ho.len
 refine joinI (fun i w'=>w'=w1∧∃ q:Nat,i=(q:Int)∧(idxF (fun x:Comp=>decide (x.1 > c.1)) l=(q:Int)∨(idxF (fun x:Comp=>decide (x.1 > c.1)) l < 0∧q=l.length))) ?_ ?_
 ·refine condD (fun h=>⟨rfl,l.length,by omega,.inr ⟨h,rfl⟩⟩) fun h=>⟨rfl,(idxF (fun x:Comp=>decide (x.1 > c.1)) l).toNat,by omega,.inl (by omega)⟩
 ·rintro i w2 ⟨rfl,q,rfl,hq⟩
  obtain ⟨h1,h2,h3⟩:=Zmf hq
  have B2:=B.fr f1 fun h=>h
  refine ptrI (aggI B2 (x:=c) rfl (newI fun w3 B3 f3 s3=>?_))
  have o3:Den.Own (fun k=>n≤k∧k < w2.heap.size) w3 52 compT r l:=by
   have o1:=(ho.none f1)
   have:Den.Own (fun k=>n≤k∧k < w2.heap.size) w2 52 compT r l:=o1.mono fun k hk h=>⟨h,hk⟩
   exact this.none f3
  refine Zqp o3 B3 (by omega) h3 hsm fun r' w4 o4 f4=>?_
  have hs1:=f1.size
  have hs3:=f3.size
  refine hk r' w4 ?_ ?_
  ·have:insC l c=l.take q ++ c :: l.drop q:=by unfold insC; rw [h1,h2]
   rw [this]
   exact o4.mono fun k _ h=>by rcases h with h | h; exact h.1; (show n≤k; omega)
  ·exact (f1.then0 f3).any.then (f4.mono fun k _ h=>h.1)
theorem Zlu (ho:Den.Own (Up n) w 52 compT r l) {k:Int} (B:Blk w bc Tc [.int .u8 k]) (hb:bc < n) (hn:n≤w.heap.size) (hsm:l.length≤1000) {K:Res [.sc .sl]→W R} (hk:∀ r' w',Den.Own (Up n) w' 52 compT r' (l.filter fun x=>!(x.1 == k))→Fr (Up n) w w'→K r' Q w') :
  callW Tryz.prog Z48 [.slice r.a r.n r.c,.pointer (some ⟨bc,0,none⟩)] [.sc .sl] K Q w:=by
 refine Zcf r _ K Q w ?_
 unfold Z6d
 refine Z33 r _ _ _ w ?_
 unfold Zy
 refine Z37 r _ _ _ w ?_
 unfold Z12
 refine idxFuncI (t:=compT) (sz:=4) (callp:=fun x K=>callW Tryz.prog Zg [.agg ⟨compC x⟩,.pointer (some ⟨bc,0,none⟩)] [.sc .bool] K) (fun x:Comp=>x.1 == k) ho.sl rfl (by omega) (fun x _ X w' f hX=>Zhn (B.fr f fun h=>h) hX) fun w1 f1=>?_
 rcases Zme (fun x:Comp=>x.1 == k) l with ⟨h1,hno⟩ | ⟨i,h1⟩
 ·rw [h1]
  refine condT rfl ?_
  have e:l.filter (fun x=>!(x.1 == k))=l:=List.filter_eq_self.2 fun x hx=>by rw [hno x hx]; rfl
  rw [e] at hk
  exact hk r w1 (ho.none f1) f1.any
 ·rw [h1]
  refine condF (by rw [beq_eq_false_iff_ne]; omega) ?_
  have B1:=B.fr f1 fun h=>h
  have hs1:=f1.size
  refine delFuncI (t:=compT) (sz:=4) (callp:=fun x K=>callW Tryz.prog Zg [.agg ⟨compC x⟩,.pointer (some ⟨bc,0,none⟩)] [.sc .bool] K) (z:=(0,0,0,0)) (zv:=.agg #[.int .u8 0,.int .i32 0,.int .i32 0,.int .i32 0]) (fun x:Comp=>x.1 == k) Z2y (by kernel_rfl) rfl rfl (ho.none f1) rfl (by omega) h1 (fun x _ X w' f hX=>Zhn (B1.fr f fun h=>?_) hX) fun q w2 o2 f2=>?_
  ·rcases h with h | h
   ·have:n≤bc:=h; omega
   ·have:w1.heap.size≤bc:=h; omega
  ·exact hk _ w2 o2 (f1.any.then f2)
end
end Go.Proofs.YtoiahhpgkoknfaaGreat
namespace Go.Proofs.YtoiahhpgkoknfaaGreat
open Go Go.RowKit Go.Proofs.YtoiahhpgkoknfaaGreat.Den
variable {R:Type} {Q:R→World→Prop} {w:World}
section
variable {F:Nat→Prop} {b:Nat} {x:StM}
theorem Zmy (h:StOk x) {id:Int}:(x.at id=none∧homeT x.tab id=none)∨∃ m i e,x.at id=some (m,i,e)∧homeT x.tab id=some m∧m < 64∧rowM (x.tab m) id=some i∧(x.tab m)[i]?=some e∧e.1=id∧Valid m e.2∧x.s.live id=true:=by
 cases ha:x.at id with
 | none=>exact .inl ⟨rfl,h.at_none.1 ha⟩
 | some p =>
  obtain ⟨m,i,e⟩:=p
  obtain ⟨h1,h2,h3,h4,h5,h6,h7⟩:=h.at_some ha
  exact .inr ⟨m,i,e,rfl,h1,h2,h3,h4,h5,h6,h7⟩
theorem Zb0 (h:Store b x F w) {id:Int} (hid:IdOk id) {K:Res [.sc (.int .i64)]→W R} (hk:∀ w',Store b (x.despawn id).2 (Ex F w) w'→Fr F w w'→K (x.despawn id).1 Q w') :
  callW Tryz.prog Z3e [.pointer (some ⟨b,0,none⟩),.int .u32 id] [.sc (.int .i64)] K Q w:=by
 have hst:=h
 obtain ⟨ok,lab,sb,tb,hb,tp,D,hF,h⟩:=h
 refine Zdg _ _ K Q w ?_
 unfold Z7p
 refine Zim h hid ?_
 rcases Zmy ok (id:=id) with ⟨ha,hh⟩ | ⟨m,i,e,ha,hh,hm,hr,he,rfl,hv,hl⟩
 ·rw [hh]
  have e1:x.despawn id=(7,x):=by rw [StM.despawn,ha]
  rw [e1] at hk
  exact condT rfl (hk w (Store.st.mono hst fun _ _ e=>.inl e) (Fr.refl _ _))
 ·rw [hh]
  have e1:x.despawn e.1=(0,⟨x.s.freed e.1,upd x.tab m (dropI (x.tab m) i)⟩):=by rw [StM.despawn,ha]
  rw [e1] at hk
  have hD:=(h.hm _ _ hh).2
  refine condF rfl (Zg9 (h.tab m hm hD) hid hr he fun s w1 t1 o1 f1=>?_)
  have h1:=h.setTab hm hD f1 (TabO.st.mono t1 fun _ _ e=>.inl e)
  refine ptrI (fldI h1.blk.2 (x:=some hb) rfl ?_)
  refine h1.homeDel hid fun w2 h2 f2 s2=>?_
  refine ptrI (fldI h2.blk.2 (x:=some ⟨sb,0,none⟩) rfl ?_)
  have hx:∀ k,relab lab w.heap.size w1.heap.size (5+m) k≠0→lab k≠0∨w.heap.size≤k:=Zrl fun _ e=>e
  have f02:Fr (fun k=>lab k≠0) w w2:=(f1.lab (by omega)).exS f2 fun k e=>hx k (by omega)
  refine Zl7 h2.slots hid (fun hf=>by rw [hl] at hf; cases hf) fun w3 _ sl3 f3=>?_
  have h3:=h2.setSlots f3 sl3
  have hs:=f02.size
  refine hk w3 ⟨ok.drop hm he,relab (relab lab w.heap.size w1.heap.size (5+m)) w2.heap.size w3.heap.size 4,sb,tb,hb,tp,D,fun k e=>?_,?_⟩ ((f02.exS f3 fun k e=>hx k (by omega)).sub hF)
  ·rcases Z2p e with ⟨e,_⟩ | ⟨e,_⟩
   ·exact (hx k e).imp (hF k) fun h=>h
   ·exact .inr (by omega)
  ·have e2:homeT (upd x.tab m (dropI (x.tab m) i))=fun j=>if j=e.1 then none else homeT x.tab j:=by
    funext j
    exact Zc5 ok hm he j
   show StoR _ w3 b sb tb hb tp D (x.s.freed e.1) (upd x.tab m (dropI (x.tab m) i)) (homeT (upd x.tab m (dropI (x.tab m) i)))
   rw [e2]
   exact h3
theorem Z4g (h:Store b x F w) {id k:Int} (hid:IdOk id) {K:Res [.agg [.int .u8,.int .i32,.int .i32,.int .i32],.sc (.int .i64)]→W R} (hk:∀ w',Fr None w w'→K (x.get id k) Q w') :
  callW Tryz.prog Z1h [.pointer (some ⟨b,0,none⟩),.int .u32 id,.int .u8 k] [.agg [.int .u8,.int .i32,.int .i32,.int .i32],.sc (.int .i64)] K Q w:=by
 obtain ⟨ok,lab,sb,tb,hb,tp,D,hF,h⟩:=h
 refine Zi4 _ _ _ K Q w ?_
 unfold Zbt
 refine newI fun w1 B1 f1 s1=>?_
 have h1:=h.fr0 f1
 refine Zim h1 hid ?_
 rcases Zmy ok (id:=id) with ⟨ha,hh⟩ | ⟨m,i,e,ha,hh,hm,hr,he,rfl,hv,hl⟩
 ·rw [hh]
  refine condT rfl (stoAll B1 rfl rfl fun w2 B2 f2 s2=>aggI B2 (x:=(0,0,0,0)) rfl ?_)
  have:=hk w2 (f1.newer f2 fun k e=>by omega)
  rw [StM.get,ha] at this
  exact this
 ·rw [hh]
  refine condF rfl (Zvn (h1.tab m hm (h.hm _ _ hh).2) hid fun w2 f2=>?_)
  refine stoAll (B1.fr f2 fun h=>h) rfl rfl fun w3 B3 f3 s3=>aggI B3 (x:=(getM m (x.tab m) e.1 k).1) rfl ?_
  have:=hk w3 ((f1.then0 f2).newer f3 fun k e=>by have:=B1.lt; omega)
  have eg:x.get e.1 k=getM m (x.tab m) e.1 k:=by
   rw [StM.get,ha,getM,hr]
   simp only [compM,he]
   rfl
  rw [eg] at this
  exact this
theorem Z4h (h:Store b x F w) {id:Int} (hid:IdOk id) {c:Comp} {K:Res [.sc (.int .i64)]→W R} (hk:∀ w',Store b (x.set id c).2 F w'→Fr F w w'→K (x.set id c).1 Q w') :
  callW Tryz.prog Z1i [.pointer (some ⟨b,0,none⟩),.int .u32 id,.agg ⟨compC c⟩] [.sc (.int .i64)] K Q w:=by
 refine Zi5 _ _ _ K Q w ?_
 unfold Zbu
 refine newI fun w1 B1 f1 s1=>aggI B1 (x:=c) rfl (Z3u (c:=c) fun w2 f2=>?_)
 have f02:=f1.then0 f2
 have hst:=Store.st.fr0 h f02
 refine joinI (fun z w'=>z=decide (checkM c≠0)∧w'=w2) ?_ ?_
 ·exact condN (fun h=>⟨by simp [h],rfl⟩) fun h=>⟨by simp [h],rfl⟩
 rintro z w' ⟨rfl,rfl⟩
 refine condD (fun hc=>?_) fun hc=>?_
 ·have e1:x.set id c=(checkM c,x):=by rw [StM.set,if_pos hc]
  rw [e1] at hk
  exact hk _ hst f02.any
 obtain ⟨ok,lab,sb,tb,hb,tp,D,hF,h2⟩:=hst
 have B2:=B1.fr f2 fun h=>h
 have hc0:checkM c=0:=by simpa using hc
 refine Zim h2 hid ?_
 rcases Zmy ok (id:=id) with ⟨ha,hh⟩ | ⟨m,i,e,ha,hh,hm,hr,he,rfl,hv,hl⟩
 ·rw [hh]
  have e1:x.set id c=(7,x):=by rw [StM.set,if_neg hc,ha]
  rw [e1] at hk
  exact condT rfl (hk _ (Store.st.fr0 h f02) f02.any)
 ·rw [hh]
  have hD:=(h2.hm _ _ hh).2
  refine condF rfl (aggI B2 (x:=c) rfl (Zvp (c:=c) (h2.tab m hm hD) hid fun w3 t3 f3=>?_))
  have e0:setM m (x.tab m) e.1 c=if c.1∈kindsOf m then 0 else 10:=by rw [setM,if_neg hc,hr]
  have e1:x.set e.1 c=if c.1∈kindsOf m then (0,⟨x.s,upd x.tab m (setL (x.tab m) i c)⟩) else (10,x):=by rw [StM.set,if_neg hc,ha]
  rw [setT,e0] at t3
  rw [e0]
  have keep:∀ {L:List Ent},TabO (tp m) m L (fun k=>lab k=5+m) w3→StoR lab w3 b sb tb hb tp D x.s (upd x.tab m L) (homeT x.tab):=fun {L} t=>by
   refine ⟨Bl.st.fr h2.blk f3 fun k e=>by omega,Slots.st.fr h2.slots f3 fun k e=>by omega,Mp.st.fr h2.tabs f3 fun k e=>by omega,Mp.st.fr h2.home f3 fun k e=>by omega,fun k hk hDk=>?_,fun k hk hDk=>?_,h2.hm⟩
   ·by_cases e:k=m
    ·subst e; rw [Z5b]; exact t
    ·rw [Z2c e]; exact TabO.st.fr (h2.tab k hk hDk) f3 fun k e=>by omega
   ·rw [Z2c (fun e=>by subst e; rw [hD] at hDk; cases hDk)]; exact h2.no k hk hDk
  have f03:Fr F w w3:=(f02.any.then (f3.lab (by omega))).sub hF
  by_cases hk2:c.1∈kindsOf m
  ·rw [if_pos hk2] at e1
   rw [if_pos hk2,if_pos rfl,hr] at t3
   rw [if_pos hk2]
   rw [e1] at hk
   refine hk w3 ⟨ok.set hm he hc0 hk2,lab,sb,tb,hb,tp,D,hF,?_⟩ f03
   have e2:homeT (upd x.tab m (setL (x.tab m) i c))=homeT x.tab:=Zv3 he
   show StoR lab w3 b sb tb hb tp D x.s (upd x.tab m (setL (x.tab m) i c)) (homeT (upd x.tab m (setL (x.tab m) i c)))
   rw [e2]
   exact keep t3
  ·rw [if_neg hk2] at e1
   rw [if_neg hk2,if_neg (by omega)] at t3
   rw [if_neg hk2]
   rw [e1] at hk
   refine hk w3 ⟨ok,lab,sb,tb,hb,tp,D,hF,?_⟩ f03
   have:=keep t3
   have e3:upd x.tab m (x.tab m)=x.tab:=by funext k; unfold upd; split; (rename_i e; rw [e]); rfl
   rw [e3] at this
   exact this
theorem Zho (h:Store b x F w) {K:Res [.sc .ptr]→W R} (hk:∀ sb,Slots sb x.s F w→K (some ⟨sb,0,none⟩) Q w):callW Tryz.prog Z4z [.pointer (some ⟨b,0,none⟩)] [.sc .ptr] K Q w:=by
 obtain ⟨ok,lab,sb,tb,hb,tp,D,hF,h⟩:=h
 refine Zdh _ K Q w ?_
 exact condF rfl (ptrI (fldI h.blk.2 (x:=some ⟨sb,0,none⟩) rfl (hk sb (Slots.st.mono h.slots fun k _ e=>hF k (by omega)))))
theorem Zlc (h:Store b x F w) {K:Res [.sc .sl]→W R} (hk:∀ r w',SlT (Up w.heap.size) w' idT r x.s.list→Fr None w w'→K r Q w'):callW Tryz.prog Z6u [.pointer (some ⟨b,0,none⟩)] [.sc .sl] K Q w :=
 Zgt _ K Q w (Zho h fun _sb hs=>Zl8 hs hk)
theorem Zm5 (h:Store b x F w) {id:Int} (hid:IdOk id) {K:Res [.agg [.int .u32,.sl],.sc (.int .i64)]→W R} (h0:x.at id=none→∀ w',Fr None w w'→K ((0,⟨none,0,0⟩),7) Q w')
  (hk:∀ m i e s w',x.at id=some (m,i,e)→Den.Own (Up w.heap.size) w' 52 compT s e.2→Fr None w w'→K ((e.1,s),0) Q w') :
  callW Tryz.prog Z54 [.pointer (some ⟨b,0,none⟩),.int .u32 id] [.agg [.int .u32,.sl],.sc (.int .i64)] K Q w:=by
 obtain ⟨ok,lab,sb,tb,hb,tp,D,hF,h⟩:=h
 refine Zi3 _ _ K Q w ?_
 unfold Zbs
 refine newI fun w1 B1 f1 s1=>?_
 have h1:=h.fr0 f1
 refine Zim h1 hid ?_
 rcases Zmy ok (id:=id) with ⟨ha,hh⟩ | ⟨m,i,e,ha,hh,hm,hr,he,rfl,hv,hl⟩
 ·rw [hh]
  refine condT rfl (stoAll B1 rfl rfl fun w2 B2 f2 s2=>aggI B2 (x:=(0,⟨none,0,0⟩)) rfl ?_)
  exact h0 ha w2 (f1.newer f2 fun k e=>by omega)
 ·rw [hh]
  obtain ⟨labt,_,ht⟩:=h1.tab m hm (h.hm _ _ hh).2
  refine condF rfl (Zb1 ht hid ?_)
  rw [hr]
  refine Zld ht (fun hb=>?_) fun j e' s w2 hj he' o2 f2=>?_
  ·have:=(List.getElem?_eq_some_iff.1 he).1
   simp only [Option.getD_some] at hb
   omega
  ·simp only [Option.getD_some] at hj
   have:j=i:=by omega
   subst this
   rw [he] at he'
   cases he'
   refine locI rfl rfl fun w3 B3 f3 s3=>aggI B3 (x:=(e.1,s)) rfl ?_
   have f13:=f2.then0 f3
   refine stoAll (B1.fr f13 fun h=>h) rfl rfl fun w4 B4 f4 s4=>aggI B4 (x:=(e.1,s)) rfl ?_
   have hs1:=f1.size
   refine hk m j e s w4 ha ?_ ((f1.then0 f13).newer f4 fun k e=>by omega)
   have o3:Den.Own (fun k=>w1.heap.size≤k) w3 52 compT s e.2:=o2.none f3
   exact (o3.fr f4 fun k h1 h2=>by omega).mono fun k _ h=>by show w.heap.size≤k; omega
end
end Go.Proofs.YtoiahhpgkoknfaaGreat
namespace Go.Proofs.YtoiahhpgkoknfaaGreat
open Go Go.RowKit Go.Proofs.YtoiahhpgkoknfaaGreat.Den
variable {R:Type} {Q:R→World→Prop} {w:World}
theorem Store.open_ {F:Nat→Prop} {b:Nat} {x:StM} (h:Store b x F w):StOk x∧∃ lab sb tb hb tp D,(∀ k,lab k≠0→F k∧k < w.heap.size)∧StoR lab w b sb tb hb tp D x.s x.tab (homeT x.tab):=by
 obtain ⟨ok,lab,sb,tb,hb,tp,D,hF,h⟩:=h
 exact ⟨ok,cut lab w.heap.size,sb,tb,hb,tp,D,fun k e=>⟨hF k (Zc4 e).1,(Zc4 e).2⟩,h.cut (Fr.refl None w) fun _ _ _ h=>h⟩
theorem Store.shut {F:Nat→Prop} {b:Nat} {x:StM} (h:Store b x F w):Store b x (fun k=>F k∧k < w.heap.size) w:=Store.st.mono h fun _ hk e=>⟨e,hk⟩
section
variable {lab:Nat→Nat} {b sb tb hb:Nat} {tp:Nat→Nat} {D:Nat→Bool} {x:StM}
theorem StoR.setTab0 {s:SM} {T:Nat→List Ent} {H:Int→Option Nat} (h:StoR lab w b sb tb hb tp D s T H) {m:Nat} (hD:D m=true) {L:List Ent} {w':World} (f:Fr (fun k=>lab k=5+m) w w') (ht:TabO (tp m) m L (fun k=>lab k=5+m) w'):StoR lab w' b sb tb hb tp D s (upd T m L) H:=by
 refine ⟨Bl.st.fr h.blk f fun k e=>by omega,Slots.st.fr h.slots f fun k e=>by omega,Mp.st.fr h.tabs f fun k e=>by omega,Mp.st.fr h.home f fun k e=>by omega,fun k hk hDk=>?_,fun k hk hDk=>?_,h.hm⟩
 ·by_cases e:k=m
  ·subst e; rw [Z5b]; exact ht
  ·rw [Z2c e]; exact TabO.st.fr (h.tab k hk hDk) f fun k e=>by omega
 ·rw [Z2c (fun e=>by subst e; rw [hD] at hDk; cases hDk)]; exact h.no k hk hDk
theorem Zpp {F:Nat→Prop} (ok:StOk x) (h:StoR lab w b sb tb hb tp D x.s x.tab (homeT x.tab)) (hF:∀ k,lab k≠0→F k) {m i n:Nat} {e:Ent} (hm:m < 64) (hh:homeT x.tab e.1=some m) (he:(x.tab m)[i]?=some e) (hid:IdOk e.1) {l:List Comp} (hv:listE l=0)
  {w2:World} (t:TabO (tp m) m (dropI (x.tab m) i) (fun k=>lab k=5+m) w2) (f:Fr (fun k=>lab k=5+m) w w2) {w3:World} (f3:Fr (Up n) w2 w3) (hn:∀ k,lab k≠0→k < n) (hwn:w.heap.size≤n) {r:Sl} (o:Den.Own (Up n) w3 52 compT r l)
  {K:Res []→W R} (hk:∀ w',Store b (x.turn e.1 m i l) (Ex F w) w'→Fr (Ex F w) w w'→K () Q w'):callW Tryz.prog Z2s [.pointer (some ⟨b,0,none⟩),.int .u32 e.1,.slice r.a r.n r.c] [] K Q w3:=by
 have hD:=(h.hm _ _ hh).2
 have h2:=h.setTab0 hD f t
 have nn:∀ k,lab k≠0→¬ Up n k:=fun k e h=>by have:=hn k e; have h:n≤k:=h; omega
 have h3:StoR lab w3 b sb tb hb tp D x.s (upd x.tab m (dropI (x.tab m) i)) (homeT x.tab) :=
  ⟨Bl.st.fr h2.blk f3 fun k e=>nn k (by omega),Slots.st.fr h2.slots f3 fun k e=>nn k (by omega),Mp.st.fr h2.tabs f3 fun k e=>nn k (by omega),Mp.st.fr h2.home f3 fun k e=>nn k (by omega),fun k hk hDk=>TabO.st.fr (h2.tab k hk hDk) f3 fun k e=>nn k (by omega),h2.no,h2.hm⟩
 have hd:=ok.drop hm he
 have hml:=Z59 l
 have hno:rowM (upd x.tab m (dropI (x.tab m) i) (maskN l)) e.1=none:=by
  have h0:homeT (upd x.tab m (dropI (x.tab m) i)) e.1=none:=by rw [Zc5 ok hm he,if_pos rfl]
  have:=Z3q.1 h0 _ hml
  unfold inT at this
  simpa using this
 have f13:Fr (fun k=>lab k≠0∨n≤k) w w3:=(f.lab (by omega)).trans f3 (fun _ e=>.inl e) fun _ _ e=>.inr e
 refine Zrt h3 hid o.sl (fun k _ e=>?_) (fun c hc=>Z9n ((Z3s.1 hv).1 c hc)) hv hd.tab hno (by have h:(upd x.tab m (dropI (x.tab m) i) (maskN l)).length≤1024:=hd.tab_le hml; omega) fun lab' tp' D' w4 hex h4 f4=>?_
 ·by_cases h0:lab k=0
  ·exact h0
  ·exact absurd e (nn k h0)
 ·have hs:=f13.size
  refine hk w4 ⟨ok.turn hm he hv,lab',sb,tb,hb,tp',D',fun k e=>?_,?_⟩ ?_
  ·rcases hex k e with e | e
   ·exact .inl (hF k e)
   ·exact .inr (by omega)
  ·have e2:homeT (x.turn e.1 m i l).tab=fun j=>if j=e.1 then some (maskN l) else homeT x.tab j:=by
    funext j
    have h0:homeT (upd x.tab m (dropI (x.tab m) i)) e.1=none:=by rw [Zc5 ok hm he,if_pos rfl]
    have:=Zr9 (T:=upd x.tab m (dropI (x.tab m) i)) (e:=(e.1,l)) hml (Z3q.1 h0) j
    refine this.trans ?_
    by_cases hj:j=e.1
    ·rw [if_pos hj,if_pos hj]
    ·rw [if_neg hj,if_neg hj,Zc5 ok hm he,if_neg hj]
   rw [e2]
   exact h4
  ·refine (f13.trans f4 (U:=fun k=>lab k≠0∨n≤k) (fun _ e=>e) fun _ _ e=>.inl e).mono fun k hk e=>?_
   rcases e with e | e
   ·exact .inl (hF k e)
   ·omega
end
section
variable {F:Nat→Prop} {b:Nat} {x:StM}
theorem Zrf {m:Nat} (hm:m < 64) {k:Int} (h0:0≤k) (h6:k < 6):((bAnd .u8 (shR .u8 (m:Int) k) 1) == 1)=decide (k∈kindsOf m):=by
 have:=Zr4 ⟨m,hm⟩ ⟨k.toNat,by omega⟩
 simp only [Int.toNat_of_nonneg h0] at this
 rw [this,Bool.eq_iff_iff,decide_eq_true_eq,Zte h0]
 simp [h6]
theorem Ztj {m:Nat} (hm:m < 64) {k:Int} (h0:0≤k) (h6:k < 6):((bAnd .u8 (shR .u8 (m:Int) k) 1) == 0)=!decide (k∈kindsOf m):=by
 rw [← Zrf hm h0 h6]
 have key:∀ m:Fin 64,∀ k:Fin 6,((bAnd .u8 (shR .u8 ((m.val:Nat):Int) ((k.val:Nat):Int)) 1) == 0)=!((bAnd .u8 (shR .u8 ((m.val:Nat):Int) ((k.val:Nat):Int)) 1) == 1):=by decide +kernel
 have:=key ⟨m,hm⟩ ⟨k.toNat,by omega⟩
 simp only [Int.toNat_of_nonneg h0] at this
 exact this
theorem Zf9 {m:Nat} {L:List Ent} {F:Nat→Prop} (h:TabO b m L F w) {K:Res [.sc (.int .u8)]→W R} (hk:K ((m:Nat):Int) Q w):callW Tryz.prog Z3f [.pointer (some ⟨b,0,none⟩)] [.sc (.int .u8)] K Q w:=by
 obtain ⟨lab,_,h⟩:=h
 exact Zo3 h hk
theorem Zm4 (h:Store b x F w) {id:Int} (hid:IdOk id) {c:Comp} {K:Res [.sc (.int .i64)]→W R} (hk:∀ w',Store b (x.add id c).2 (Ex F w) w'→Fr F w w'→K (x.add id c).1 Q w') :
  callW Tryz.prog Z7e [.pointer (some ⟨b,0,none⟩),.int .u32 id,.agg ⟨compC c⟩] [.sc (.int .i64)] K Q w:=by
 refine Zi2 _ _ _ K Q w ?_
 unfold Zbr
 have ex:∀ {y:StM} {w':World},Store b y F w'→Store b y (Ex F w) w':=fun h=>Store.st.mono h fun _ _ e=>.inl e
 obtain ⟨ok,lab,sb,tb,hb,tp,D,hF,h0⟩:=h.open_
 refine newI fun w1 B1 f1 s1=>aggI B1 (x:=c) rfl (Z3u (c:=c) fun w2 f2=>?_)
 have f02:=f1.then0 f2
 refine joinI (fun z w'=>z=decide (checkM c≠0)∧w'=w2) ?_ ?_
 ·exact condN (fun h=>⟨by simp [h],rfl⟩) fun h=>⟨by simp [h],rfl⟩
 rintro z w' ⟨rfl,rfl⟩
 refine condD (fun hc=>?_) fun hc=>?_
 ·have e1:x.add id c=(checkM c,x):=by rw [StM.add,if_pos hc]
  rw [e1] at hk
  exact hk _ (ex (Store.st.fr0 h f02)) f02.any
 have h2:=h0.fr0 f02
 have B2:=B1.fr f2 fun h=>h
 have hc0:checkM c=0:=by simpa using hc
 have hck:=Z3z hc0
 refine Zim h2 hid ?_
 rcases Zmy ok (id:=id) with ⟨ha,hh⟩ | ⟨m,i,e,ha,hh,hm,hr,he,rfl,hv,hl⟩
 ·rw [hh]
  have e1:x.add id c=(7,x):=by rw [StM.add,if_neg hc,ha]
  rw [e1] at hk
  exact condT rfl (hk _ (ex (Store.st.fr0 h f02)) f02.any)
 rw [hh]
 have e1:x.add e.1 c=if c.1∈kindsOf m then (9,x) else (0,x.turn e.1 m i (insC e.2 c)):=by rw [StM.add,if_neg hc,ha]
 have hD:=(h2.hm _ _ hh).2
 have fd:Fr None w w'.drew:=f02.drew
 have h2d:=h2.fr0 (Fr.refl None w').drew
 refine condF rfl (fldI B2.drew (x:=c.1) rfl (Zf9 (h2d.tab m hm hD) (andI (B2.drew.rd (s:=.int .u8) (i:=0) (x:=c.1) rfl) (chkI hck.1 ?_))))
 rw [Zrf hm hck.1 (by omega)]
 refine condD (fun hin=>?_) fun hin=>?_
 ·rw [if_pos hin] at e1
  rw [e1] at hk
  exact hk _ (ex (Store.st.fr0 h fd)) fd.any
 ·rw [if_neg hin] at e1
  rw [e1] at hk
  refine Z52 _ _ _ _ _ _ _ ?_
  unfold Z2f
  refine Zg9 (h2d.tab m hm hD) hid hr he fun s w3 t3 o3 f3=>?_
  have hs2:w.heap.size < w'.heap.size:=B2.lt
  have hd2:w'.drew.heap.size=w'.heap.size:=rfl
  refine Zqn (Tc:=52) o3 (B2.drew.fr f3 fun e=>?_) (by omega) f3.size (by have:=hv.small; omega) fun r w4 o4 f4=>?_
  ·have:=(hF _ (show lab w.heap.size≠0 by omega)).2; omega
  ·refine Zpp ok h2d (fun k e=>(hF k e).1) hm hh he hid (hv.ins hc0 hin) t3 f3 f4 (fun k e=>by have:=(hF k e).2; omega) (Nat.le_refl _) o4 fun w5 st5 f5=>?_
   refine hk w5 (Store.st.mono st5 fun k _ e=>?_) ((fd.any.trans f5 (U:=F) (fun _ e=>e) fun k hk e=>?_))
   ·rcases e with e | e
    ·exact .inl e
    ·exact .inr (by omega)
   ·rcases e with e | e
    ·exact e
    ·omega
theorem Zik (h:Store b x F w) {id:Int} (hid:IdOk id) {k:Int} (hk0:0≤k) {K:Res [.sc (.int .i64)]→W R} (hk:∀ w',Store b (x.remove id k).2 (Ex F w) w'→Fr F w w'→K (x.remove id k).1 Q w') :
  callW Tryz.prog Z5o [.pointer (some ⟨b,0,none⟩),.int .u32 id,.int .u8 k] [.sc (.int .i64)] K Q w:=by
 refine Zeu _ _ _ K Q w ?_
 unfold Z8m
 have ex:∀ {y:StM} {w':World},Store b y F w'→Store b y (Ex F w) w':=fun h=>Store.st.mono h fun _ _ e=>.inl e
 obtain ⟨ok,lab,sb,tb,hb,tp,D,hF,h0⟩:=h.open_
 refine newI fun w1 B1 f1 s1=>?_
 have h1:=h0.fr0 f1
 refine Zim h1 hid ?_
 rcases Zmy ok (id:=id) with ⟨ha,hh⟩ | ⟨m,i,e,ha,hh,hm,hr,he,rfl,hv,hl⟩
 ·rw [hh]
  have e1:x.remove id k=(7,x):=by rw [StM.remove,ha]
  rw [e1] at hk
  exact condT rfl (hk _ (ex (Store.st.fr0 h f1)) f1.any)
 rw [hh]
 have e1:x.remove e.1 k=if k∈kindsOf m then (0,x.turn e.1 m i (e.2.filter fun c=>!(c.1 == k))) else (10,x):=by rw [StM.remove,ha]
 have hD:=(h1.hm _ _ hh).2
 refine condF rfl (joinI (fun z w'=>z=!decide (k∈kindsOf m)∧w'=w1.drew) ?_ ?_)
 ·refine fld0 B1.drew (x:=k) rfl (condD (fun hge=>⟨?_,rfl⟩) fun hlt=>?_)
  ·rw [decide_eq_false (fun h=>by have:=Znl h; omega)]; rfl
  ·refine fld0 B1.drew (x:=k) rfl (Zf9 ((h1.fr0 (Fr.refl None w1).drew).tab m hm hD) (andI ((B1.drew.cell 0).trans rfl) (chkI hk0 ⟨Ztj hm hk0 (by omega),rfl⟩)))
 ·rintro z w2 ⟨rfl,rfl⟩
  have fd:Fr None w w1.drew:=f1.drew
  have h2:=h1.fr0 (Fr.refl None w1).drew
  refine condI (fun hin=>?_) fun hin=>?_
  ·have hin:k ∉ kindsOf m:=by simpa using hin
   rw [if_neg hin] at e1
   rw [e1] at hk
   exact hk _ (ex (Store.st.fr0 h fd)) fd.any
  ·have hin:k∈kindsOf m:=by simpa using hin
   rw [if_pos hin] at e1
   rw [e1] at hk
   refine Z4j _ _ _ _ _ _ _ ?_
   unfold Z20
   refine Zg9 (h2.tab m hm hD) hid hr he fun s w3 t3 o3 f3=>?_
   have hs2:w.heap.size < w1.heap.size:=B1.lt
   have hd2:w1.drew.heap.size=w1.heap.size:=rfl
   refine Zlu (Tc:=5) o3 (B1.drew.fr f3 fun e=>?_) (by omega) f3.size (by have:=hv.small; omega) fun r w4 o4 f4=>?_
   ·have:=(hF _ (show lab w.heap.size≠0 by omega)).2; omega
   ·refine Zpp ok h2 (fun k e=>(hF k e).1) hm hh he hid (hv.filter _) t3 f3 f4 (fun k e=>by have:=(hF k e).2; omega) (Nat.le_refl _) o4 fun w5 st5 f5=>?_
    refine hk w5 (Store.st.mono st5 fun k _ e=>?_) ((fd.any.trans f5 (U:=F) (fun _ e=>e) fun k hk e=>?_))
    ·rcases e with e | e
     ·exact .inl e
     ·exact .inr (by omega)
    ·rcases e with e | e
     ·exact e
     ·omega
end
theorem SM.ids_mem {s:SM} {id:Int}:∀ {n:Nat},id∈s.ids n→∃ (j:Nat) (g:Int),j < n∧s.used[j]?=some true∧s.gen[j]?=some g∧id=idOf j g
 | 0,h=>by simp [SM.ids] at h
 | n+1,h=>by
  rw [SM.ids,List.mem_append] at h
  rcases h with h | h
  ·obtain ⟨j,g,h1,h2⟩:=SM.ids_mem h
   exact ⟨j,g,by omega,h2⟩
  ·split at h
   ·rename_i g hu hg
    simp at h
    exact ⟨n,g,by omega,hu,hg,h⟩
   ·simp at h
theorem SMOk.list_id {s:SM} (h:SMOk s) {id:Int} (hl:id∈s.list):s.live id=true∧IdOk id:=by
 obtain ⟨j,g,h1,h2,h3,rfl⟩:=SM.ids_mem hl
 have:=h.le
 have e:=Zcr.2 ⟨j,g,rfl,by omega,h2,h3⟩
 exact ⟨e,(h.live_id e).1⟩
theorem SMOk.list_le {s:SM} (h:SMOk s):s.list.length≤1024:=by
 rw [SM.list_len h.len]
 have h1:s.count≤s.used.length:=List.countP_le_length
 have h2:=h.len
 have h3:=h.le
 omega
theorem Zlb {F:Nat→Prop} {b:Nat} {x:StM} (h:Store b x F w) {id:Int} (hid:IdOk id) {K:Res [.agg [.int .u32,.sl],.sc (.int .i64)]→W R}
  (hk:∀ s w',Den.Own (Up w.heap.size) w' 52 compT s (x.ent id).1.2→Fr None w w'→K (((x.ent id).1.1,s),(x.ent id).2) Q w') :
  callW Tryz.prog Z54 [.pointer (some ⟨b,0,none⟩),.int .u32 id] [.agg [.int .u32,.sl],.sc (.int .i64)] K Q w:=by
 refine Zm5 h hid (fun e w' f=>?_) fun m i e s w' ha o f=>?_
 ·have:=hk ⟨none,0,0⟩ w' (by rw [StM.ent,e]; exact Den.Own.nil _ _ _ _) f
  rw [StM.ent,e] at this
  exact this
 ·have:=hk s w' (by rw [StM.ent,ha]; exact o) f
  rw [StM.ent,ha] at this
  exact this
end Go.Proofs.YtoiahhpgkoknfaaGreat
namespace Go.Proofs.YtoiahhpgkoknfaaGreat.Seq
open Go Go.Proofs Go.RowKit Go.Maps Go.Sort Go.Shelf
abbrev encB:Int→Value:=Value.int .u8
theorem Zut {x y:Int} (h:encB x=encB y):x=y:=by simpa [encB] using h
theorem Maps.keyOf_u8 {P:Program} {k:TypeId} (hk:P.underlying k=some (.int .u8)) {key:Value} {kl:Lit} (h:keyOf P k key=some kl):∃ x:Int,key=encB x∧kl=.int .u8 x∧(Lit.int .u8 x).wf=true:=by
 cases key <;> simp [keyOf,hk,mapKey] at h
 rename_i q a
 obtain ⟨⟨rfl,hw⟩,rfl⟩:=h
 exact ⟨a,rfl,rfl,hw⟩
def KeysB {H:Type} (D0:DataW H) (ss:List Int):Prop:=ss.Nodup∧∀ x,x∈ss↔Go.Maps.has D0 (.int .u8 x)=true
def CollectedB {H:Type} (D0:DataW H) (left:Lit→Bool) (ss:List Int):Prop:=ss.Nodup∧∀ x,x∈ss↔(Go.Maps.has D0 (.int .u8 x)=true∧left (.int .u8 x)=false)
section
variable {H:Type} {D0:DataW H} {left:Lit→Bool} {ss:List Int}
theorem CollectedB.start (D0:DataW H):CollectedB D0 (Go.Maps.has D0) []:=⟨List.nodup_nil,fun x=>by cases Go.Maps.has D0 (.int .u8 x) <;> simp⟩
theorem CollectedB.step (h:CollectedB D0 left ss) {x:Int} {y:DataW H} (hlk:left (.int .u8 x)=true) (hat:∀ zd,D0.atKey (.int .u8 x) zd=y):CollectedB D0 (fun z=>left z && !z.sameKey (.int .u8 x)) (ss ++ [x]):=by
 have hhas:Go.Maps.has D0 (.int .u8 x)=true:=has_true_of_atKey hat
 have hnew:x ∉ ss:=fun hx=>by have:=((h.2 x).1 hx).2; rw [hlk] at this; cases this
 refine ⟨List.nodup_append.2 ⟨h.1,by simp,fun a ha b hb=>by simp at hb; subst hb; exact fun e=>hnew (e ▸ ha)⟩,fun y=>?_⟩
 by_cases hy:y=x
 ·subst hy; simp [hhas,Lit.sameKey]
 ·simp [h.2 y,hy,Lit.sameKey]
theorem CollectedB.all (h:CollectedB D0 left ss) (hl:∀ kl,left kl=false):KeysB D0 ss:=⟨h.1,fun x=>by rw [h.2 x,hl]; simp⟩
end
set_option maxRecDepth 100000 in
set_option maxHeartbeats 1000000 in
theorem Zoh {H:Type} {R:Value→Option (DataW H × List MemPlace)} (F:Fence) (n:Nat) (h10:F.fn 290) (hro:F.round=none) (hn:1≤n) (l Bm b nn:Nat) (D0:DataW H) (J:List Int→World→Prop)
  (hY:∀ pre x W,J pre W→pre.length < Maps.size D0→YieldAt F (n - 1) Tryz.prog l #[encB x] W fun e W'=>e=.returned (.bool true)∧J (pre ++ [x]) W'∧KeepsWalks W W')
  (W:World) (hJ:AbidesFrom W.heap.size J) (hm:W.cell? ⟨Bm,0,none⟩=some (.map (some b))) (hown:W.ownsMap Tryz.prog 5 R b nn D0) (h0:J [] W) :
  CallsIn F n Tryz.prog 290 #[.func (.yield l) #[] #[],.pointer (some ⟨Bm,0,none⟩)] W fun e W'=>(∃ v,e=.returned v)∧∃ ss:List Int,KeysB D0 ss∧J ss W':=by
 refine callsIn_of_wp Tryz.func290 rfl h10 ?_ hro
 simp only [Tryz.ntmps290,List.size_toArray,List.length_cons,List.length_nil,Nat.reduceAdd,Nat.reduceSub,Array.replicate_succ,Array.replicate_zero,List.push_toArray,List.append_toArray,List.nil_append,List.cons_append]
 gi_wp2_with (first
  | (gi_at_range; refine wpListIn_range_own _ rfl _ 204 rfl 5 270 (int_keyed Tryz.underlying5) Tryz.underlying204 _ b nn _ rfl hown ?_; intro w0 hrg0 hg0 hs0)
  | gi_in)
 go_frame
 gi_loopw [3] (fun _ wr=>∃ (left:Lit→Bool) (cnt:Nat) (ss:List Int),wr.ranges Tryz.prog 5 R b W.heap.size nn D0 left cnt∧ss.length+cnt≤Maps.size D0∧CollectedB D0 left ss∧J ss wr)
  (fun _ wr=>wr.rangeLeft b W.heap.size)
 case atStart =>
  exact ⟨_,_,[],hrg0,by simp,CollectedB.start D0,hJ [] W w0 none h0 hg0 (fun r e=>by cases e)⟩
 case round =>
  obtain ⟨left,cnt,ss,hrg,hcs,hC,hJs⟩:=hrel
  gi_wp2_with (first
   | (gi_at_next; refine wpListIn_next_ranges _ rfl _ rfl 5 (int_keyed Tryz.underlying5) R encB id (fun key kl hk=>by obtain ⟨x,hx,_⟩:=Maps.keyOf_u8 Tryz.underlying5 hk; exact ⟨x,hx⟩) (fun v _ _=>⟨v,rfl⟩) b W.heap.size nn _ _ _ rfl hrg ?_ ?_)
   | gi_in)
  ·
   intro hc0 hl0
   gi_wp2
   go_end0
   exact ⟨⟨_,rfl⟩,ss,hC.all hl0,hJs⟩
  ·
   intro x c kl yd yp w2 cnt2 hkey hlk hv hat hrg2 hlt hg2 hs2 hen
   obtain ⟨x',ex,rfl,_⟩:=Maps.keyOf_u8 Tryz.underlying5 hkey
   obtain rfl:x=x':=Zut ex
   have hJ2:J ss w2:=hJ ss wr w2 (some W.heap.size) hJs hg2 (fun r e=>by cases e; exact ⟨Nat.le_refl _,hrg.iter_walk⟩)
   obtain ⟨fn,tmps,assign,body,hy,hR⟩:=hY ss x w2 hJ2 (by omega)
   clear hs2
   gi_wp2
   refine hR.mono ?_
   rintro e W3 ⟨rfl,hJ3,hk3⟩
   gi_wp2
   have hrg3:=hrg2.of_walks hk3
   go_roundw
   case rel=>exact ⟨_,cnt2,ss ++ [x],hrg3,by simp; omega,hC.step hlk hat,hJ3⟩
   case measure=>rw [hrg3.left_eq,hrg.left_eq]; exact hlt
theorem bk_keys_gives {H:Type} {R:Value→Option (DataW H × List MemPlace)} (F:Fence) (n:Nat) (h10:F.fn 290) (hro:F.round=none) (hn:1≤n) (Bm b nn:Nat) (D0:DataW H) (w:World) (hBm:Bm < w.heap.size)
  (hm:w.cell? ⟨Bm,0,none⟩=some (.map (some b))) (hown:w.ownsMap Tryz.prog 5 R b nn D0) :
  SeqGives F n Tryz.prog 290 #[.pointer (some ⟨Bm,0,none⟩)] encB (KeysB D0) (Maps.size D0) w:=fun l J W hW hJ hY h0=>by
 have hown':W.ownsMap Tryz.prog 5 R b nn D0:=by
  have hbl:=hown.lt
  obtain ⟨es,clock,hb,Ft,hs,hD⟩:=hown
  exact ⟨es,clock,(hW.block b hbl).trans hb,Ft,hs,hD⟩
 exact Zoh F n h10 hro hn l Bm b nn D0 J hY W hJ ((hW.cell (p:=⟨Bm,0,none⟩) hBm).trans hm) hown' h0
def Zfu : Code := (Code.region 2 #[{ dst := some 5, op := Op.assign (Operand.tmp 7), type := 5, pos := "iter.go:51", after := #[], guard := none }] false)
def Zk6 : Code := (Code.block 1 (Code.region 3 #[{ dst := some 8, op := Op.load 326 (Operand.tmp 2), type := 326, pos := "iter.go:52", after := #[], guard := none }, { dst := some 9, op := Op.move (Operand.tmp 5), type := 5, pos := "iter.go:52", after := #[], guard := none }, { dst := some 10, op := Op.buildSlice 326 1 #[(0, Operand.tmp 9)], type := 326, pos := "iter.go:52", after := #[{ on := 1, ground := Ground.data }], guard := none }, { dst := some 11, op := Op.call { callee := Callee.builtin Builtin.append, args := #[Operand.tmp 8, Operand.tmp 10], argTypes := #[326, 326] }, type := 326, pos := "iter.go:52", after := #[{ on := 0, ground := Ground.data }, { on := 2, ground := Ground.data }], guard := none }, { dst := none, op := Op.store 326 (Operand.tmp 2) (Operand.tmp 11), type := 0, pos := "iter.go:52", after := #[{ on := 3, ground := Ground.data }, { on := 3, ground := Ground.chain }, { on := 0, ground := Ground.phase }, { on := 1, ground := Ground.phase }, { on := 2, ground := Ground.phase }, { on := 3, ground := Ground.phase }], guard := none }] false))
def Z6e (fn:FuncId) (sv:Value) (Bs D:Nat) (st:LoopState) (pend:Option Code):Loop :=
 {state:=st,pending:=pend,fn,tmps:=#[.slice none 0 0,sv,.pointer (some ⟨Bs,0,none⟩),undef,.slice none 0 0,undef,sv,undef,undef,undef,undef,undef,undef],params:=#[7],assign:=Zfu,body:=Zk6,defers:=D }
structure bk_ApAt (w0:World) (fn:FuncId) (sv:Value) (Bs l D:Nat) (ss:List Int) (W:World):Prop where
 box:∃ v,W.heap[Bs]?=some (.cells #[v] 326 (0,0))∧W.ownsRow w0.heap.size 5 1 v ss.length (ss.map encB)∧(v=.slice none 0 0↔ss=[])
 L:W.heap[l]?=some (.loop (Z6e fn sv Bs D .ready none))
 K:W.heap[D]?=some (.deferred (some []))
 below:Below w0.heap.size w0 W
theorem Zlt {W W':World} {row:Option Nat} {base:Nat} {e:TypeId} {size:Nat} {v:Value} {k:Nat} {xs:List Value} (h:W.ownsRow base e size v k xs) (hg:W.grownBy W' row)
  (hrow:∀ r,row=some r→∃ o:Obj,W.heap[r]?=some o∧o.isWalk=true):W'.ownsRow base e size v k xs:=by
 refine h.kept hg ?_
 rcases h.2 with ⟨rfl,_⟩ | ⟨g,cap,cur,rfl,_,hgb,_⟩
 ·exact .inl rfl
 ·refine .inr fun e'=>?_
  obtain ⟨o,ho,hw⟩:=hrow g (by simpa [Value.ownBlock] using e'.symm)
  rw [hgb] at ho; cases ho; cases hw
theorem Zog (w0:World) (fn:FuncId) (sv:Value) (Bs l D B:Nat) (hB:w0.heap.size≤B):AbidesFrom B (bk_ApAt w0 fn sv Bs l D):=fun s W W' row h hg hrow=>by
 have hrow':∀ r,row=some r→∃ o:Obj,W.heap[r]?=some o∧o.isWalk=true:=fun r e=>(hrow r e).2
 obtain ⟨v,hv,hr,hn⟩:=h.box
 exact ⟨⟨v,(grownBy_keeps hg hrow' hv rfl).trans hv,Zlt hr hg hrow',hn⟩,(grownBy_keeps hg hrow' h.L rfl).trans h.L,(grownBy_keeps hg hrow' h.K rfl).trans h.K,
  h.below.grown hg h.below.size (fun k e=>Nat.le_trans hB (hrow k e).1)⟩
theorem Z4f (W:World) (l:Nat) (o:Obj):W.grownBy (W.putObj l o) (some l) :=
 ⟨rfl,rfl,rfl,by simp,fun k _ hk=>World.putObj_heap_other (fun e=>hk (by rw [e]))⟩
theorem Zjd (W:World) (b:Nat) (v:Value):W.grownBy (W.setCell ⟨b,0,none⟩ v) (some b) :=
 ⟨rfl,rfl,rfl,(KeepsWalks.setCell W _ v).size,fun k _ hk=>Below.heap_setCell _ _ _ k (fun e=>hk (by rw [e]))⟩
theorem Z8y {W:World} {base:Nat} {e:TypeId} {size:Nat} {v:Value} {k:Nat} {xs:List Value} (h:W.ownsRow base e size v k xs) {j:Nat} {o:Obj} (hj:W.heap[j]?=some o) (hno:∀ cur,o≠.cells cur e (0,0)) :
  v.ownBlock=none∨v.ownBlock≠some j:=by
 rcases h.2 with ⟨rfl,_⟩ | ⟨g,cap,cur,rfl,_,hgb,_⟩
 ·exact .inl rfl
 ·refine .inr fun e'=>?_
  have:g=j:=by simpa [Value.ownBlock] using e'
  subst this; rw [hgb] at hj; cases hj; exact hno cur rfl
theorem Z79 {W:World} {B:Nat} {v:Value} {t:TypeId} (h:W.heap[B]?=some (.cells #[v] t (0,0))):W.cell? ⟨B,0,none⟩=some v∧W.frozen? ⟨B,0,none⟩=false:=by
 constructor <;> simp [World.cell?,World.frozen?,h]
theorem Zcx {W:World} {B:Nat} {v:Value} {t:TypeId} (v':Value) (h:W.heap[B]?=some (.cells #[v] t (0,0))):(W.setCell ⟨B,0,none⟩ v').heap[B]?=some (.cells #[v'] t (0,0)):=by
 obtain ⟨hlt,hk⟩:=Array.getElem?_eq_some_iff.1 h
 show (W.heap.modify B _)[B]?=_
 rw [Array.getElem?_eq_getElem (by rw [Array.size_modify]; exact hlt),Array.getElem_modify_self,hk]
 rfl
theorem Zje {W:World} {base:Nat} {e:TypeId} {size:Nat} {v:Value} {k:Nat} {xs:List Value} (h:W.ownsRow base e size v k xs):∀ (j:Nat) (o:Obj),v.ownBlock=some j→W.heap[j]?=some o→o.isWalk=false:=by
 intro j o hj ho
 rcases h.2 with ⟨rfl,_⟩ | ⟨g,cap,cur,rfl,_,hgb,_⟩
 ·simp [Value.ownBlock] at hj
 ·have:g=j:=by simpa [Value.ownBlock] using hj
  subst this; rw [hgb] at ho; cases ho; rfl
theorem info8:(Tryz.prog.info? 5).map (fun i=>(i.zero,i.size,i.bytes))=some (some (.int .u8 0),1,1):=by kernel_rfl
set_option maxRecDepth 100000 in
set_option maxHeartbeats 2000000 in
theorem Zrz (F:Fence) (m:Nat) (w0:World) (fn:FuncId) (hfn:F.fn fn) (sv:Value) (Bs l D:Nat) (hBl:Bs≠l) (hDl:D≠l) (hDB:D≠Bs) (h0B:w0.heap.size≤Bs) (h0l:w0.heap.size≤l)
  (N:Nat) (hN:N≤maxLen) (hNb:N * 1≤140737488355328) (ss:List Int) (x:Int) (W:World) (h:bk_ApAt w0 fn sv Bs l D ss W) (hlen:ss.length < N) :
  YieldAt F m Tryz.prog l #[encB x] W fun e W'=>e=.returned (.bool true)∧bk_ApAt w0 fn sv Bs l D (ss ++ [x]) W'∧KeepsWalks W W':=by
 obtain ⟨i0,hi,hz0,hz1,hz2⟩:=info_parts info8
 obtain ⟨v,hv,hrow,_⟩:=h.box
 refine ⟨fn,#[.slice none 0 0,sv,.pointer (some ⟨Bs,0,none⟩),undef,.slice none 0 0,undef,sv,encB x,undef,undef,undef,undef,undef],Zfu,Zk6,by simpa [Z6e] using run_yield (P:=Tryz.prog) (args:=#[encB x]) h.L rfl,roundIn_of_wpIn hfn ?_⟩
 have hl:l < W.heap.size:=(Array.getElem?_eq_some_iff.1 h.L).1
 have hbr:=run_beginRound (P:=Tryz.prog) h.L rfl
 obtain ⟨W2,hW2⟩:∃ W2,W.putObj l (.loop { Z6e fn sv Bs D .ready none with state:=.busy })=W2:=⟨_,rfl⟩
 rw [hW2] at hbr
 have hg2:W.grownBy W2 (some l):=by rw [← hW2]; exact Z4f _ _ _
 have hk2:KeepsWalks W W2:=by rw [← hW2]; exact KeepsWalks.putObj _ h.L rfl
 have hv2:W2.heap[Bs]?=some (.cells #[v] 326 (0,0)):=by rw [← hW2]; exact (World.putObj_heap_other hBl).trans hv
 have hK2:W2.heap[D]?=some (.deferred (some [])):=by rw [← hW2]; exact (World.putObj_heap_other hDl).trans h.K
 have hL2:W2.heap[l]?=some (.loop { Z6e fn sv Bs D .ready none with state:=.busy }):=by rw [← hW2]; exact World.putObj_heap_same hl
 have hrow2:W2.ownsRow w0.heap.size 5 1 v ss.length (ss.map encB):=hrow.kept hg2 (Z8y hrow h.L (fun cur e=>by cases e))
 have hb2:Below w0.heap.size w0 W2:=h.below.grown hg2 h.below.size (fun k e=>by cases e; exact h0l)
 obtain ⟨hc2,hf2⟩:=Z79 hv2
 have hBlt:Bs < W2.heap.size:=(Array.getElem?_eq_some_iff.1 hv2).1
 have hl2:l < W2.heap.size:=(Array.getElem?_eq_some_iff.1 hL2).1
 have hDlt:D < W2.heap.size:=(Array.getElem?_eq_some_iff.1 hK2).1
 have ne_of:∀ {j:Nat} {o:Obj},W2.heap[j]?=some o→(∀ cur,o≠.cells cur 5 (0,0))→some j≠v.ownBlock:=fun hj hno=>by
  rcases Z8y hrow2 hj hno with e | e
  ·rw [e]; simp
  ·exact fun e'=>e e'.symm
 clear hW2
 unfold Zfu
 gi_wp2_with (rw [Oper.semAt_eq _ _ _ (fun c h=>by cases h)]; go_simp; try go_bits)
 unfold Zk6
 gi_wp2_with (first
  | (gi_at_builtin; refine wpListIn_append_own _ rfl _ _ 326 rfl w0.heap.size 5 i0 (.int .u8 0) 1 1 Tryz.underlying326 hi hz0 hz1 hz2 rfl (by decide) _ _ _ rfl (hrow2.alloc _) ⟨W2.heap.size, 0, none⟩ 1 1 [encB x] rfl rfl (cell_one_new _ _ _) (by simp [Value.oneCell', encB]) (by omega) (by omega) (by have := hb2.size; simp; omega) ?_; intro v' w3 hown' hg3 hnil3
     have hv3:w3.heap[Bs]?=some (.cells #[v] 326 (0,0)):=(hg3.block Bs (by simp; omega) (ne_of hv2 (fun cur e=>by cases e))).trans ((Below.heap_alloc _ _ Bs hBlt).trans hv2)
     obtain ⟨hc3,hf3⟩:=Z79 hv3
     obtain ⟨g',cap',cur',rfl,hbase',hgb',hr1,hr2,hr3,hr4⟩:∃ g' cap' cur',v'=.slice (some ⟨g',0,none⟩) (ss.length+1) cap'∧w0.heap.size≤g'∧w3.heap[g']?=some (.cells cur' 5 (0,0))∧ss.length+1≤cap'∧cap'≤maxLen∧cur'.size=cap' * 1∧cur'.toList.take ((ss.length+1) * 1)=ss.map encB ++ [encB x]:=by
      rcases hown'.2 with ⟨_,h0⟩ | h'
      ·exact absurd h0 (by omega)
      ·exact h'
     go_frame)
  | (rw [Oper.semAt_eq _ _ _ (fun c h=>by cases h)]; go_simp; try go_bits))
 have hg3':(W2.alloc (.cells #[encB x] 5)).grownBy w3 v.ownBlock:=hg3
 have hL3:w3.heap[l]?=some (.loop { Z6e fn sv Bs D .ready none with state:=.busy }):=(hg3'.block l (by simp; omega) (ne_of hL2 (fun cur e=>by cases e))).trans ((Below.heap_alloc _ _ l hl2).trans hL2)
 have hK3:w3.heap[D]?=some (.deferred (some [])):=(hg3'.block D (by simp; omega) (ne_of hK2 (fun cur e=>by cases e))).trans ((Below.heap_alloc _ _ D hDlt).trans hK2)
 obtain ⟨w4,hw4⟩:∃ w4,w3.setCell ⟨Bs,0,none⟩ (.slice (some ⟨g',0,none⟩) (ss.length+1) cap')=w4:=⟨_,rfl⟩
 rw [hw4]
 have hg4:w3.grownBy w4 (some Bs):=by rw [← hw4]; exact Zjd _ _ _
 have hv4:w4.heap[Bs]?=some (.cells #[.slice (some ⟨g',0,none⟩) (ss.length+1) cap'] 326 (0,0)):=by rw [← hw4]; exact Zcx _ hv3
 have hL4:w4.heap[l]?=some (.loop { Z6e fn sv Bs D .ready none with state:=.busy }):=(hg4.block l (Array.getElem?_eq_some_iff.1 hL3).1 (fun e=>hBl (by cases e; rfl))).trans hL3
 have hK4:w4.heap[D]?=some (.deferred (some [])):=(hg4.block D (Array.getElem?_eq_some_iff.1 hK3).1 (fun e=>hDB (by cases e; rfl))).trans hK3
 have hrow4:=hown'.kept hg4 (Z8y hown' hv3 (fun cur e=>by cases e))
 have hl4:l < w4.heap.size:=(Array.getElem?_eq_some_iff.1 hL4).1
 have hb3:Below w0.heap.size w0 w3:=(hb2.alloc hb2.size _).grown hg3' (by have:=hb2.size; simp; omega) (fun k e=>(hrow2.lt k e).1)
 have hb4:Below w0.heap.size w0 w4:=hb3.grown hg4 hb3.size (fun k e=>by cases e; exact h0B)
 have hk4:KeepsWalks W w4:=((hk2.trans (KeepsWalks.alloc _ _)).trans (KeepsWalks.of_grownBy hg3' (Zje (hrow2.alloc _)))).trans (by rw [← hw4]; exact KeepsWalks.setCell _ _ _)
 clear hw4
 refine ⟨_,_,run_endRound none hL4,rfl,⟨⟨_,(World.putObj_heap_other hBl).trans hv4,?_,by simp⟩,World.putObj_heap_same hl4,(World.putObj_heap_other hDl).trans hK4,hb4.grown (Z4f _ _ _) hb4.size (fun k e=>by cases e; exact h0l)⟩,hk4.trans (KeepsWalks.putObj _ hL4 rfl)⟩
 have:=hrow4.kept (Z4f w4 l (.loop { { Z6e fn sv Bs D .ready none with state:=.busy } with state:=if (none:Option Code).isNone then .ready else .done,pending:=none })) (Z8y hrow4 hL4 (fun cur e=>by cases e))
 simpa using this
set_option maxRecDepth 100000 in
set_option maxHeartbeats 2000000 in
theorem bk_appendSeq_in (F:Fence) (n:Nat) (h11:F.fn 298) (hro:F.round=none) (hn:2≤n) (g:Nat) (lb:Array Value) (hFg:F.fn g) (eg:∀ args w,(callFunc g args).run Tryz.prog w=.ok (.enter g args) w)
  (S:List Int→Prop) (N:Nat) (hN:N≤maxLen) (hNb:N * 1≤140737488355328) (w:World) (hseq:SeqGives F (n - 1) Tryz.prog g lb encB S N w) :
  CallsIn F n Tryz.prog 298 #[.slice none 0 0,.func (.func g) #[] lb] w fun e w'=>∃ (v:Value) (ss:List Int),e=.returned v∧S ss∧w'.ownsRow w.heap.size 5 1 v ss.length (ss.map encB)∧(v=.slice none 0 0↔ss=[])∧Below w.heap.size w w':=by
 have h1:1≤n:=by omega
 refine callsIn_of_wp_marks Tryz.func298 rfl h11 ?_ hro
 simp only [Tryz.ntmps298,List.size_toArray,List.length_cons,List.length_nil,Nat.reduceAdd,Nat.reduceSub,Array.replicate_succ,Array.replicate_zero,List.push_toArray,List.append_toArray,List.nil_append,List.cons_append]
 gi_wp2
 refine wpIn_rangeFunc ?_
 intro fn hfn
 rw [hro]
 obtain ⟨W0,hW0⟩:∃ W0,w.alloc (.cells #[.slice none 0 0] 326)=W0:=⟨_,rfl⟩
 have hs0:W0.heap.size=w.heap.size+1:=by rw [← hW0]; simp
 have hv0:W0.heap[w.heap.size]?=some (.cells #[.slice none 0 0] 326 (0,0)):=by rw [← hW0]; exact World.alloc_heap_new w _
 have hb0:Below w.heap.size w W0:=by rw [← hW0]; exact (Below.refl _ w).alloc (Nat.le_refl _) _
 rw [hW0]
 obtain ⟨W1,hW1⟩:∃ W1,(W0.alloc (.deferred (some []))).alloc (.loop (Z6e fn (.func (.func g) #[] lb) w.heap.size W0.heap.size .ready none))=W1:=⟨_,rfl⟩
 have hold:∀ k,k < W0.heap.size→W1.heap[k]?=W0.heap[k]?:=fun k hk=>by
  rw [← hW1]; exact (Below.heap_alloc _ _ k (by simp; omega)).trans (Below.heap_alloc _ _ k hk)
 have hb1:Below w.heap.size w W1:=by rw [← hW1]; exact (hb0.alloc hb0.size _).alloc (by have:=hb0.size; simp; omega) _
 have hs1:W1.heap.size=W0.heap.size+2:=by rw [← hW1]; simp
 have hM:bk_ApAt w fn (.func (.func g) #[] lb) w.heap.size (W0.heap.size+1) W0.heap.size [] W1 :=
  ⟨⟨_,(hold w.heap.size (by omega)).trans hv0,⟨rfl,.inl ⟨rfl,rfl⟩⟩,by simp⟩,
   by rw [← hW1]; have:=World.alloc_heap_new (W0.alloc (.deferred (some []))) (.loop (Z6e fn (.func (.func g) #[] lb) w.heap.size W0.heap.size .ready none)); rwa [World.size_alloc] at this,
   by rw [← hW1]; exact (Below.heap_alloc _ _ _ (by simp)).trans (World.alloc_heap_new W0 _),hb1⟩
 refine ⟨W0.heap.size+1,[{ target:=.collected W0.heap.size,args:=#[] }],W1,{ target:=.fn (.func g) lb,args:=#[.func (.yield (W0.heap.size+1)) #[] #[]] },W1,g,
  #[.func (.yield (W0.heap.size+1)) #[] #[]] ++ lb,W1,?_,?_,?_,?_,fun _=>h1,?_⟩
 ·rw [← hW1]; exact run_enterLoop_outer _ _ _ _ _
 ·simp [resolve,go_sem]
 ·intro f' hf'; simp [Target.leads] at hf'; subst hf'; exact hFg
 ·simp [invoke,go_sem,eg]
 ·refine (hseq (W0.heap.size+1) (bk_ApAt w fn (.func (.func g) #[] lb) w.heap.size (W0.heap.size+1) W0.heap.size) W1 hb1 (Zog _ _ _ _ _ _ _ hb1.size)
   (fun pre x W hJ hl=>Zrz F (n - 1 - 1) w fn hfn _ w.heap.size (W0.heap.size+1) W0.heap.size (by omega) (by omega) (by omega) (Nat.le_refl _) (by omega) N hN hNb pre x W hJ hl) hM).mono ?_
  rintro e W2 ⟨⟨v0,rfl⟩,ss,hS,h2⟩
  obtain ⟨v,hv,hrow,hnil⟩:=h2.box
  have hend:=run_endLoop (P:=Tryz.prog) h2.L (by simp [Z6e])
  obtain ⟨W3,hW3⟩:∃ W3,W2.putObj (W0.heap.size+1) (.loop { Z6e fn (.func (.func g) #[] lb) w.heap.size W0.heap.size .ready none with state:=.exhausted })=W3:=⟨_,rfl⟩
  rw [hW3] at hend
  have hg3:W2.grownBy W3 (some (W0.heap.size+1)):=by rw [← hW3]; exact Z4f _ _ _
  have hv3:W3.heap[w.heap.size]?=some (.cells #[v] 326 (0,0)):=by rw [← hW3]; exact (World.putObj_heap_other (by omega)).trans hv
  have hK3:W3.heap[W0.heap.size]?=some (.deferred (some [])):=by rw [← hW3]; exact (World.putObj_heap_other (by omega)).trans h2.K
  have hrow3:=hrow.kept hg3 (Z8y hrow h2.L (fun cur e=>by cases e))
  have hb3:Below w.heap.size w W3:=h2.below.grown hg3 h2.below.size (fun k e=>by cases e; omega)
  obtain ⟨hc3,hf3⟩:=Z79 hv3
  clear hW3
  refine ⟨none,W3,hend,?_⟩
  gi_wp2
  rw [← hs0]
  refine ⟨by simp,.inl ⟨_,_,rfl,run_takeDeferred hK3,?_⟩⟩
  exact ⟨_,results_tmp rfl _ _ _,v,ss,rfl,hS,hrow3.kept (Z4f _ _ _) (Z8y hrow3 hK3 (fun cur e=>by cases e)),hnil,hb3.grown (Z4f _ _ _) hb3.size (fun k e=>by cases e; omega)⟩
end Go.Proofs.YtoiahhpgkoknfaaGreat.Seq
set_option linter.unusedVariables false
namespace Go.Proofs.YtoiahhpgkoknfaaGreat
open Go Go.Proofs.YtoiahhpgkoknfaaGreat.Den
def Z3y (length0:Int):W (Int) :=
 callW Tryz.prog Z6f [.int .u64 (IntKind.wrap .u64 length0)] [.sc (.int .i64)] fun (x_1:Int) =>
 chkW (0≤x_1) <|
 retW (shL .u64 1 x_1)
theorem Z69 {R:Type} (length0:Int) (K:Res [.sc (.int .u64)]→W R) (Q:R→World→Prop) (w:World) (h:Z3y length0 (fun r w=>K r Q w) w):callW Tryz.prog Z47 [.int .i64 length0] [.sc (.int .u64)] K Q w:=den_c (K:=K) mix Tryz.func243 {} trivial rfl (by kernel_rfl) h
def Z75 (r0:Option Addr):W (Int) :=
 drawW <|
 ptrW r0 fun x_1 =>
 ld (.sc (.int .u64)) x_1 fun (x_2:Int) =>
 ptrW r0 fun x_3 =>
 ld (.sc (.int .u64)) x_3 fun (x_4:Int) =>
 ptrW r0 fun x_5 =>
 stoL x_5 [.int .u64 (bXor .u64 x_2 (shL .u64 x_4 13))] 0 <|
 drawW <|
 ptrW r0 fun x_6 =>
 ld (.sc (.int .u64)) x_6 fun (x_7:Int) =>
 ptrW r0 fun x_8 =>
 ld (.sc (.int .u64)) x_8 fun (x_9:Int) =>
 ptrW r0 fun x_10 =>
 stoL x_10 [.int .u64 (bXor .u64 x_7 (shR .u64 x_9 7))] 0 <|
 drawW <|
 ptrW r0 fun x_11 =>
 ld (.sc (.int .u64)) x_11 fun (x_12:Int) =>
 ptrW r0 fun x_13 =>
 ld (.sc (.int .u64)) x_13 fun (x_14:Int) =>
 ptrW r0 fun x_15 =>
 stoL x_15 [.int .u64 (bXor .u64 x_12 (shL .u64 x_14 17))] 0 <|
 ptrW r0 fun x_16 =>
 ld (.sc (.int .u64)) x_16 fun (x_17:Int) =>
 retW x_17
theorem Zd7 {R:Type} (r0:Option Addr) (K:Res [.sc (.int .u64)]→W R) (Q:R→World→Prop) (w:World) (h:Z75 r0 (fun r w=>K r Q w) w):callW Tryz.prog Z30 [.pointer r0] [.sc (.int .u64)] K Q w:=den_c (K:=K) mix Tryz.func244 { dr:=[(1,([],[[(0,[]),(1,[]),(2,[]),(3,[]),(4,[]),(5,[]),(6,[]),(7,[]),(8,[]),(9,[])]])),(2,([],[[(0,[]),(1,[]),(2,[]),(3,[]),(4,[]),(5,[]),(6,[]),(7,[]),(8,[]),(9,[])]])),(3,([],[[(0,[]),(1,[]),(2,[]),(3,[]),(4,[]),(5,[]),(6,[]),(7,[]),(8,[]),(9,[])]]))] } trivial rfl (by kernel_rfl) h
def Zah (x0:Sl):W (Unit) :=
 callW Tryz.prog Z6f [.int .u64 (IntKind.wrap .u64 (x0.n:Int))] [.sc (.int .i64)] fun (x_1:Int) =>
 callW Tryz.prog Zq [.slice x0.a x0.n x0.c,.int .i64 0,.int .i64 (x0.n:Int),.int .i64 x_1] [] fun (x_2:Unit) =>
 retW ()
theorem Zgo {R:Type} (x0:Sl) (K:Res []→W R) (Q:R→World→Prop) (w:World) (h:Zah x0 (fun r w=>K r Q w) w):callW Tryz.prog Z6p [.slice x0.a x0.n x0.c] [] K Q w:=den_c (K:=K) mix Tryz.func289 {} trivial rfl (by kernel_rfl) h
def Z4n (d0:Sl) (o1:Int) (p2:Int) (p3:Int):W (Unit) :=
 loopW (σ:=Int × Int × Int × Bool × Bool) (fun K_1 s_2 =>
  joinW (σ:=Int × Int × Int × Bool × Bool) (fun J_3 =>
   cond (decide ((IntKind.wrap .i64 (s_2.2.1 - s_2.1))≤12))
    (callW Tryz.prog Z1m [.slice d0.a d0.n d0.c,.int .i64 s_2.1,.int .i64 s_2.2.1] [] fun (x_4:Unit) =>
    retW ())
    (cond (s_2.2.2.1 == 0)
    (callW Tryz.prog Z2i [.slice d0.a d0.n d0.c,.int .i64 s_2.1,.int .i64 s_2.2.1] [] fun (x_5:Unit) =>
    retW ())
    (joinW (σ:=Int) (fun J_6 =>
    cond (!s_2.2.2.2.1)
     (callW Tryz.prog Z1l [.slice d0.a d0.n d0.c,.int .i64 s_2.1,.int .i64 s_2.2.1] [] fun (x_7:Unit) =>
     J_6 (IntKind.wrap .i64 (s_2.2.2.1 - 1)))
     (J_6 s_2.2.2.1))
   <| fun s_8 =>
   callW Tryz.prog Z1x [.slice d0.a d0.n d0.c,.int .i64 s_2.1,.int .i64 s_2.2.1] [.sc (.int .i64),.sc (.int .i64)] fun (x_9:Int × Int) =>
   joinW (σ:=Int × Int) (fun J_10 =>
    cond (x_9.2 == 2)
     (callW Tryz.prog Z1s [.slice d0.a d0.n d0.c,.int .i64 s_2.1,.int .i64 s_2.2.1] [] fun (x_11:Unit) =>
     J_10 (IntKind.wrap .i64 ((IntKind.wrap .i64 (s_2.2.1 - 1)) - (IntKind.wrap .i64 (x_9.1 - s_2.1))),1))
     (J_10 (x_9.1,x_9.2)))
   <| fun s_12 =>
   joinW (σ:=Bool) (fun J_13 =>
    cond s_2.2.2.2.1
     (cond s_2.2.2.2.2
      (J_13 (s_12.2 == 1))
      (J_13 false))
     (J_13 false))
   <| fun s_14 =>
   joinW (σ:=Unit) (fun J_15 =>
    cond s_14
     (callW Tryz.prog Zn [.slice d0.a d0.n d0.c,.int .i64 s_2.1,.int .i64 s_2.2.1] [.sc .bool] fun (x_16:Bool) =>
     cond x_16
      (retW ())
      (J_15 ()))
     (J_15 ()))
   <| fun s_17 =>
   joinW (σ:=Bool) (fun J_18 =>
    drawW <|
    cond (decide (s_2.1 > 0))
     (idxW d0.a d0.n 1 (IntKind.wrap .i64 (s_2.1 - 1)) fun x_19 =>
        ld (.sc (.int .u8)) x_19 fun (x_20:Int) =>
         idxW d0.a d0.n 1 s_12.1 fun x_21 =>
            ld (.sc (.int .u8)) x_21 fun (x_22:Int) =>
             callW Tryz.prog Z7 [.int .u8 x_20,.int .u8 x_22] [.sc .bool] fun (x_23:Bool) =>
              J_18 (!x_23))
     (J_18 false))
   <| fun s_24 =>
   cond s_24
    (callW Tryz.prog Z1e [.slice d0.a d0.n d0.c,.int .i64 s_2.1,.int .i64 s_2.2.1,.int .i64 s_12.1] [.sc (.int .i64)] fun (x_25:Int) =>
    J_3 (x_25,s_2.2.1,s_8,s_2.2.2.2.1,s_2.2.2.2.2))
    (callW Tryz.prog Z2a [.slice d0.a d0.n d0.c,.int .i64 s_2.1,.int .i64 s_2.2.1,.int .i64 s_12.1] [.sc (.int .i64),.sc .bool] fun (x_26:Int × Bool) =>
   joinW (σ:=Int × Int × Bool) (fun J_27 =>
    cond (decide ((IntKind.wrap .i64 (x_26.1 - s_2.1)) < (IntKind.wrap .i64 (s_2.2.1 - x_26.1))))
     (callW Tryz.prog Zq [.slice d0.a d0.n d0.c,.int .i64 s_2.1,.int .i64 x_26.1,.int .i64 s_8] [] fun (x_28:Unit) =>
     J_27 (IntKind.wrap .i64 (x_26.1+1),s_2.2.1,decide ((IntKind.wrap .i64 (x_26.1 - s_2.1)) ≥ (IntKind.wrap .i64 (Int.tdiv (IntKind.wrap .i64 (s_2.2.1 - s_2.1)) 8)))))
     (callW Tryz.prog Zq [.slice d0.a d0.n d0.c,.int .i64 (IntKind.wrap .i64 (x_26.1+1)),.int .i64 s_2.2.1,.int .i64 s_8] [] fun (x_29:Unit) =>
     J_27 (s_2.1,x_26.1,decide ((IntKind.wrap .i64 (s_2.2.1 - x_26.1)) ≥ (IntKind.wrap .i64 (Int.tdiv (IntKind.wrap .i64 (s_2.2.1 - s_2.1)) 8))))))
   <| fun s_30 =>
   J_3 (s_30.1,s_30.2.1,s_8,s_30.2.2,x_26.2)))))
  <| fun s_31 =>
  K_1 (s_31.1,s_31.2.1,s_31.2.2.1,s_31.2.2.2.1,s_31.2.2.2.2))
  (o1,p2,p3,true,true)
theorem Z8s {R:Type} (d0:Sl) (o1:Int) (p2:Int) (p3:Int) (K:Res []→W R) (Q:R→World→Prop) (w:World) (h:Z4n d0 o1 p2 p3 (fun r w=>K r Q w) w):callW Tryz.prog Zq [.slice d0.a d0.n d0.c,.int .i64 o1,.int .i64 p2,.int .i64 p3] [] K Q w:=den_c (K:=K) mix Tryz.func299 { reg:=[(15,[(68,.sc .bool)]),(17,[(87,.sc .bool)])],con:=[(9035,[(3,.sc (.int .i64))]),(13050,[(11,.sc (.int .i64)),(12,.sc (.int .i64))]),(17068,[]),(26113,[(1,.sc (.int .i64)),(2,.sc (.int .i64)),(8,.sc .bool)])],blk:=[(1,[(1,.sc (.int .i64)),(2,.sc (.int .i64)),(3,.sc (.int .i64)),(8,.sc .bool),(9,.sc .bool)])],lop:=[(0,[(1,.sc (.int .i64)),(2,.sc (.int .i64)),(3,.sc (.int .i64)),(8,.sc .bool),(9,.sc .bool)])],dr:=[(17,([],[[(0,[]),(1,[]),(2,[]),(3,[]),(4,[]),(5,[]),(6,[]),(7,[]),(8,[]),(9,[]),(10,[]),(11,[]),(12,[]),(13,[]),(14,[])]]))] } trivial rfl (by kernel_rfl) h
def Z36 (data0:Sl) (a1:Int) (b2:Int):W (Unit) :=
 loopW (σ:=Int) (fun K_1 s_2 =>
  cond (decide (s_2 < b2))
   (loopW (σ:=Int) (fun K_3 s_4 =>
   joinW (σ:=Bool) (fun J_5 =>
    drawW <|
    cond (decide (s_4 > a1))
     (idxW data0.a data0.n 1 s_4 fun x_6 =>
       ld (.sc (.int .u8)) x_6 fun (x_7:Int) =>
        idxW data0.a data0.n 1 (IntKind.wrap .i64 (s_4 - 1)) fun x_8 =>
            ld (.sc (.int .u8)) x_8 fun (x_9:Int) =>
             callW Tryz.prog Z7 [.int .u8 x_7,.int .u8 x_9] [.sc .bool] fun (x_10:Bool) =>
              J_5 x_10)
     (J_5 false))
   <| fun s_11 =>
   cond s_11
    (drawW <|
   idxW data0.a data0.n 1 (IntKind.wrap .i64 (s_4 - 1)) fun x_12 =>
   ld (.sc (.int .u8)) x_12 fun (x_13:Int) =>
   idxW data0.a data0.n 1 s_4 fun x_14 =>
   ld (.sc (.int .u8)) x_14 fun (x_15:Int) =>
   idxW data0.a data0.n 1 s_4 fun x_16 =>
   stoL x_16 [.int .u8 x_13] 0 <|
   idxW data0.a data0.n 1 (IntKind.wrap .i64 (s_4 - 1)) fun x_17 =>
   stoL x_17 [.int .u8 x_15] 0 <|
   K_3 (IntKind.wrap .i64 (s_4 - 1)))
    (K_1 (IntKind.wrap .i64 (s_2+1))))
   s_2)
   (retW ()))
  (IntKind.wrap .i64 (a1+1))
theorem Z68 {R:Type} (data0:Sl) (a1:Int) (b2:Int) (K:Res []→W R) (Q:R→World→Prop) (w:World) (h:Z36 data0 a1 b2 (fun r w=>K r Q w) w):callW Tryz.prog Z1m [.slice data0.a data0.n data0.c,.int .i64 a1,.int .i64 b2] [] K Q w:=den_c (K:=K) mix Tryz.func302 { reg:=[(4,[(30,.sc .bool)])],lop:=[(0,[(6,.sc (.int .i64))]),(2,[(7,.sc (.int .i64))])],dr:=[(4,([],[[(0,[]),(1,[]),(2,[]),(3,[]),(4,[]),(5,[]),(6,[]),(7,[]),(8,[]),(9,[]),(10,[]),(11,[]),(12,[]),(13,[]),(14,[])]])),(6,([],[[(0,[]),(1,[]),(2,[]),(3,[]),(4,[]),(5,[]),(6,[]),(7,[]),(8,[]),(9,[]),(10,[]),(11,[]),(12,[]),(13,[]),(14,[]),(15,[]),(16,[]),(17,[])]]))] } trivial rfl (by kernel_rfl) h
def Z4d (data0:Sl) (a1:Int) (b2:Int):W (Unit) :=
 loopW (σ:=Int) (fun K_1 s_2 =>
  cond (decide (s_2 ≥ 0))
   (callW Tryz.prog Z1a [.slice data0.a data0.n data0.c,.int .i64 s_2,.int .i64 (IntKind.wrap .i64 (b2 - a1)),.int .i64 a1] [] fun (x_3:Unit) =>
  K_1 (IntKind.wrap .i64 (s_2 - 1)))
   (loopW (σ:=Int) (fun K_4 s_5 =>
  cond (decide (s_5 ≥ 0))
   (drawW <|
  idxW data0.a data0.n 1 (IntKind.wrap .i64 (a1+s_5)) fun x_6 =>
  ld (.sc (.int .u8)) x_6 fun (x_7:Int) =>
  idxW data0.a data0.n 1 a1 fun x_8 =>
  ld (.sc (.int .u8)) x_8 fun (x_9:Int) =>
  idxW data0.a data0.n 1 a1 fun x_10 =>
  stoL x_10 [.int .u8 x_7] 0 <|
  idxW data0.a data0.n 1 (IntKind.wrap .i64 (a1+s_5)) fun x_11 =>
  stoL x_11 [.int .u8 x_9] 0 <|
  callW Tryz.prog Z1a [.slice data0.a data0.n data0.c,.int .i64 0,.int .i64 s_5,.int .i64 a1] [] fun (x_12:Unit) =>
  K_4 (IntKind.wrap .i64 (s_5 - 1)))
   (retW ()))
  (IntKind.wrap .i64 ((IntKind.wrap .i64 (b2 - a1)) - 1))))
  (IntKind.wrap .i64 (Int.tdiv (IntKind.wrap .i64 ((IntKind.wrap .i64 (b2 - a1)) - 1)) 2))
theorem Z7z {R:Type} (data0:Sl) (a1:Int) (b2:Int) (K:Res []→W R) (Q:R→World→Prop) (w:World) (h:Z4d data0 a1 b2 (fun r w=>K r Q w) w):callW Tryz.prog Z2i [.slice data0.a data0.n data0.c,.int .i64 a1,.int .i64 b2] [] K Q w:=den_c (K:=K) mix Tryz.func303 { lop:=[(0,[(9,.sc (.int .i64))]),(2,[(10,.sc (.int .i64))])],dr:=[(10,([],[[(0,[]),(1,[]),(2,[]),(3,[]),(4,[]),(5,[]),(6,[]),(7,[]),(8,[]),(9,[]),(10,[]),(11,[]),(12,[]),(13,[]),(14,[]),(15,[]),(16,[]),(17,[]),(18,[]),(19,[])]]))] } trivial rfl (by kernel_rfl) h
def Z35 (d0:Sl) (o1:Int) (p2:Int):W (Unit) :=
 joinW (σ:=Unit) (fun J_1 =>
  cond (decide ((IntKind.wrap .i64 (p2 - o1)) ≥ 8))
   (newW 344 [.int .u64 0] fun x_2 =>
   stoL x_2 [.int .u64 (IntKind.wrap .u64 (IntKind.wrap .i64 (p2 - o1)))] 0 <|
   callW Tryz.prog Z47 [.int .i64 (IntKind.wrap .i64 (p2 - o1))] [.sc (.int .u64)] fun (x_3:Int) =>
   loopW (σ:=Int) (fun K_4 s_5 =>
    cond (decide (s_5≤(IntKind.wrap .i64 ((IntKind.wrap .i64 (o1+(IntKind.wrap .i64 ((IntKind.wrap .i64 (Int.tdiv (IntKind.wrap .i64 (p2 - o1)) 4)) * 2))))+1))))
     (callW Tryz.prog Z30 [.pointer (some x_2)] [.sc (.int .u64)] fun (x_6:Int) =>
    joinW (σ:=Int) (fun J_7 =>
     cond (decide ((IntKind.wrap .i64 (bAnd .u64 x_6 (IntKind.wrap .u64 (x_3 - 1)))) ≥ (IntKind.wrap .i64 (p2 - o1))))
      (J_7 (IntKind.wrap .i64 ((IntKind.wrap .i64 (bAnd .u64 x_6 (IntKind.wrap .u64 (x_3 - 1)))) - (IntKind.wrap .i64 (p2 - o1)))))
      (J_7 (IntKind.wrap .i64 (bAnd .u64 x_6 (IntKind.wrap .u64 (x_3 - 1))))))
    <| fun s_8 =>
    drawW <|
    idxW d0.a d0.n 1 (IntKind.wrap .i64 (o1+s_8)) fun x_9 =>
    ld (.sc (.int .u8)) x_9 fun (x_10:Int) =>
    idxW d0.a d0.n 1 s_5 fun x_11 =>
    ld (.sc (.int .u8)) x_11 fun (x_12:Int) =>
    idxW d0.a d0.n 1 s_5 fun x_13 =>
    stoL x_13 [.int .u8 x_10] 0 <|
    idxW d0.a d0.n 1 (IntKind.wrap .i64 (o1+s_8)) fun x_14 =>
    stoL x_14 [.int .u8 x_12] 0 <|
    K_4 (IntKind.wrap .i64 (s_5+1)))
     (J_1 ()))
    (IntKind.wrap .i64 ((IntKind.wrap .i64 (o1+(IntKind.wrap .i64 ((IntKind.wrap .i64 (Int.tdiv (IntKind.wrap .i64 (p2 - o1)) 4)) * 2)))) - 1)))
   (J_1 ()))
 <| fun s_15 =>
 retW ()
theorem Z67 {R:Type} (d0:Sl) (o1:Int) (p2:Int) (K:Res []→W R) (Q:R→World→Prop) (w:World) (h:Z35 d0 o1 p2 (fun r w=>K r Q w) w):callW Tryz.prog Z1l [.slice d0.a d0.n d0.c,.int .i64 o1,.int .i64 p2] [] K Q w:=den_c (K:=K) mix Tryz.func304 { con:=[(10043,[(10,.sc (.int .i64))]),(3015,[])],lop:=[(0,[(9,.sc (.int .i64))])],dr:=[(10,([],[[(0,[]),(1,[]),(2,[]),(3,[]),(4,[]),(5,[]),(6,[]),(7,[]),(8,[]),(9,[]),(10,[]),(11,[]),(12,[]),(13,[]),(14,[]),(15,[]),(16,[]),(17,[]),(18,[]),(19,[])]]))] } trivial rfl (by kernel_rfl) h
def Z3k (data0:Sl) (a1:Int) (b2:Int):W (Int × Int) :=
 newW 3 [.int .i64 0] fun swaps_1 =>
 joinW (σ:=Int) (fun J_2 =>
  cond (decide ((IntKind.wrap .i64 (b2 - a1)) ≥ 8))
   (joinW (σ:=Int × Int × Int) (fun J_3 =>
    cond (decide ((IntKind.wrap .i64 (b2 - a1)) ≥ 50))
     (callW Tryz.prog Za [.slice data0.a data0.n data0.c,.int .i64 (IntKind.wrap .i64 (a1+(IntKind.wrap .i64 ((IntKind.wrap .i64 (Int.tdiv (IntKind.wrap .i64 (b2 - a1)) 4)) * 1)))),.pointer (some swaps_1)] [.sc (.int .i64)] fun (x_4:Int) =>
     callW Tryz.prog Za [.slice data0.a data0.n data0.c,.int .i64 (IntKind.wrap .i64 (a1+(IntKind.wrap .i64 ((IntKind.wrap .i64 (Int.tdiv (IntKind.wrap .i64 (b2 - a1)) 4)) * 2)))),.pointer (some swaps_1)] [.sc (.int .i64)] fun (x_5:Int) =>
     callW Tryz.prog Za [.slice data0.a data0.n data0.c,.int .i64 (IntKind.wrap .i64 (a1+(IntKind.wrap .i64 ((IntKind.wrap .i64 (Int.tdiv (IntKind.wrap .i64 (b2 - a1)) 4)) * 3)))),.pointer (some swaps_1)] [.sc (.int .i64)] fun (x_6:Int) =>
     J_3 (x_4,x_5,x_6))
     (J_3 (IntKind.wrap .i64 (a1+(IntKind.wrap .i64 ((IntKind.wrap .i64 (Int.tdiv (IntKind.wrap .i64 (b2 - a1)) 4)) * 1))),IntKind.wrap .i64 (a1+(IntKind.wrap .i64 ((IntKind.wrap .i64 (Int.tdiv (IntKind.wrap .i64 (b2 - a1)) 4)) * 2))),IntKind.wrap .i64 (a1+(IntKind.wrap .i64 ((IntKind.wrap .i64 (Int.tdiv (IntKind.wrap .i64 (b2 - a1)) 4)) * 3))))))
   <| fun s_7 =>
   callW Tryz.prog Z1r [.slice data0.a data0.n data0.c,.int .i64 s_7.1,.int .i64 s_7.2.1,.int .i64 s_7.2.2,.pointer (some swaps_1)] [.sc (.int .i64)] fun (x_8:Int) =>
   J_2 x_8)
   (J_2 (IntKind.wrap .i64 (a1+(IntKind.wrap .i64 ((IntKind.wrap .i64 (Int.tdiv (IntKind.wrap .i64 (b2 - a1)) 4)) * 2))))))
 <| fun s_9 =>
 ld (.sc (.int .i64)) swaps_1 fun (x_10:Int) =>
 cond (x_10 == 0)
  (retW (s_9,1))
  (cond (x_10 == 12)
   (retW (s_9,2))
   (retW (s_9,0)))
theorem Z70 {R:Type} (data0:Sl) (a1:Int) (b2:Int) (K:Res [.sc (.int .i64),.sc (.int .i64)]→W R) (Q:R→World→Prop) (w:World) (h:Z3k data0 a1 b2 (fun r w=>K r Q w) w):callW Tryz.prog Z1x [.slice data0.a data0.n data0.c,.int .i64 a1,.int .i64 b2] [.sc (.int .i64),.sc (.int .i64)] K Q w:=den_c (K:=K) mix Tryz.func305 { con:=[(9034,[(10,.sc (.int .i64)),(11,.sc (.int .i64)),(12,.sc (.int .i64))]),(8032,[(11,.sc (.int .i64))])] } trivial rfl (by kernel_rfl) h
def Z3c (data0:Sl) (a1:Int) (b2:Int):W (Unit) :=
 loopW (σ:=Int × Int) (fun K_1 s_2 =>
  cond (decide (s_2.1 < s_2.2))
   (drawW <|
  idxW data0.a data0.n 1 s_2.2 fun x_3 =>
  ld (.sc (.int .u8)) x_3 fun (x_4:Int) =>
  idxW data0.a data0.n 1 s_2.1 fun x_5 =>
  ld (.sc (.int .u8)) x_5 fun (x_6:Int) =>
  idxW data0.a data0.n 1 s_2.1 fun x_7 =>
  stoL x_7 [.int .u8 x_4] 0 <|
  idxW data0.a data0.n 1 s_2.2 fun x_8 =>
  stoL x_8 [.int .u8 x_6] 0 <|
  K_1 (IntKind.wrap .i64 (s_2.1+1),IntKind.wrap .i64 (s_2.2 - 1)))
   (retW ()))
  (a1,IntKind.wrap .i64 (b2 - 1))
theorem Z6a {R:Type} (data0:Sl) (a1:Int) (b2:Int) (K:Res []→W R) (Q:R→World→Prop) (w:World) (h:Z3c data0 a1 b2 (fun r w=>K r Q w) w):callW Tryz.prog Z1s [.slice data0.a data0.n data0.c,.int .i64 a1,.int .i64 b2] [] K Q w:=den_c (K:=K) mix Tryz.func306 { lop:=[(0,[(6,.sc (.int .i64)),(7,.sc (.int .i64))])],dr:=[(3,([],[[(0,[]),(1,[]),(2,[]),(3,[]),(4,[]),(5,[]),(6,[]),(7,[]),(8,[]),(9,[]),(10,[]),(11,[]),(12,[]),(13,[]),(14,[]),(15,[])]]))] } trivial rfl (by kernel_rfl) h
def Z1z (d0:Sl) (o1:Int) (p2:Int):W (Bool) :=
 loopW (σ:=Int × Int) (fun K_1 s_2 =>
  cond (decide (s_2.2 < 5))
   (loopW (σ:=Int) (fun K_3 s_4 =>
   joinW (σ:=Bool) (fun J_5 =>
    drawW <|
    cond (decide (s_4 < p2))
     (idxW d0.a d0.n 1 s_4 fun x_6 =>
       ld (.sc (.int .u8)) x_6 fun (x_7:Int) =>
        idxW d0.a d0.n 1 (IntKind.wrap .i64 (s_4 - 1)) fun x_8 =>
            ld (.sc (.int .u8)) x_8 fun (x_9:Int) =>
             callW Tryz.prog Z7 [.int .u8 x_7,.int .u8 x_9] [.sc .bool] fun (x_10:Bool) =>
              J_5 (!x_10))
     (J_5 false))
   <| fun s_11 =>
   cond s_11
    (K_3 (IntKind.wrap .i64 (s_4+1)))
    (cond (s_4 == p2)
   (retW true)
   (cond (decide ((IntKind.wrap .i64 (p2 - o1)) < 50))
   (retW false)
   (drawW <|
  idxW d0.a d0.n 1 (IntKind.wrap .i64 (s_4 - 1)) fun x_12 =>
  ld (.sc (.int .u8)) x_12 fun (x_13:Int) =>
  idxW d0.a d0.n 1 s_4 fun x_14 =>
  ld (.sc (.int .u8)) x_14 fun (x_15:Int) =>
  idxW d0.a d0.n 1 s_4 fun x_16 =>
  stoL x_16 [.int .u8 x_13] 0 <|
  idxW d0.a d0.n 1 (IntKind.wrap .i64 (s_4 - 1)) fun x_17 =>
  stoL x_17 [.int .u8 x_15] 0 <|
  joinW (σ:=Unit) (fun J_18 =>
   cond (decide ((IntKind.wrap .i64 (s_4 - o1)) ≥ 2))
    (joinW (σ:=Unit) (fun J_19 =>
     loopW (σ:=Int) (fun K_20 s_21 =>
      cond (decide (s_21 ≥ 1))
       (drawW <|
      idxW d0.a d0.n 1 s_21 fun x_22 =>
      ld (.sc (.int .u8)) x_22 fun (x_23:Int) =>
      idxW d0.a d0.n 1 (IntKind.wrap .i64 (s_21 - 1)) fun x_24 =>
      ld (.sc (.int .u8)) x_24 fun (x_25:Int) =>
      callW Tryz.prog Z7 [.int .u8 x_23,.int .u8 x_25] [.sc .bool] fun (x_26:Bool) =>
      cond (!x_26)
       (J_19 ())
       (drawW <|
      idxW d0.a d0.n 1 (IntKind.wrap .i64 (s_21 - 1)) fun x_27 =>
      ld (.sc (.int .u8)) x_27 fun (x_28:Int) =>
      idxW d0.a d0.n 1 s_21 fun x_29 =>
      ld (.sc (.int .u8)) x_29 fun (x_30:Int) =>
      idxW d0.a d0.n 1 s_21 fun x_31 =>
      stoL x_31 [.int .u8 x_28] 0 <|
      idxW d0.a d0.n 1 (IntKind.wrap .i64 (s_21 - 1)) fun x_32 =>
      stoL x_32 [.int .u8 x_30] 0 <|
      K_20 (IntKind.wrap .i64 (s_21 - 1))))
       (J_19 ()))
      (IntKind.wrap .i64 (s_4 - 1)))
    <| fun s_33 =>
    J_18 ())
    (J_18 ()))
  <| fun s_34 =>
  joinW (σ:=Unit) (fun J_35 =>
   cond (decide ((IntKind.wrap .i64 (p2 - s_4)) ≥ 2))
    (joinW (σ:=Unit) (fun J_36 =>
     loopW (σ:=Int) (fun K_37 s_38 =>
      cond (decide (s_38 < p2))
       (drawW <|
      idxW d0.a d0.n 1 s_38 fun x_39 =>
      ld (.sc (.int .u8)) x_39 fun (x_40:Int) =>
      idxW d0.a d0.n 1 (IntKind.wrap .i64 (s_38 - 1)) fun x_41 =>
      ld (.sc (.int .u8)) x_41 fun (x_42:Int) =>
      callW Tryz.prog Z7 [.int .u8 x_40,.int .u8 x_42] [.sc .bool] fun (x_43:Bool) =>
      cond (!x_43)
       (J_36 ())
       (drawW <|
      idxW d0.a d0.n 1 (IntKind.wrap .i64 (s_38 - 1)) fun x_44 =>
      ld (.sc (.int .u8)) x_44 fun (x_45:Int) =>
      idxW d0.a d0.n 1 s_38 fun x_46 =>
      ld (.sc (.int .u8)) x_46 fun (x_47:Int) =>
      idxW d0.a d0.n 1 s_38 fun x_48 =>
      stoL x_48 [.int .u8 x_45] 0 <|
      idxW d0.a d0.n 1 (IntKind.wrap .i64 (s_38 - 1)) fun x_49 =>
      stoL x_49 [.int .u8 x_47] 0 <|
      K_37 (IntKind.wrap .i64 (s_38+1))))
       (J_36 ()))
      (IntKind.wrap .i64 (s_4+1)))
    <| fun s_50 =>
    J_35 ())
    (J_35 ()))
  <| fun s_51 =>
  K_1 (s_4,IntKind.wrap .i64 (s_2.2+1))))))
   s_2.1)
   (retW false))
  (IntKind.wrap .i64 (o1+1),0)
theorem Z4i {R:Type} (d0:Sl) (o1:Int) (p2:Int) (K:Res [.sc .bool]→W R) (Q:R→World→Prop) (w:World) (h:Z1z d0 o1 p2 (fun r w=>K r Q w) w):callW Tryz.prog Zn [.slice d0.a d0.n d0.c,.int .i64 o1,.int .i64 p2] [.sc .bool] K Q w:=den_c (K:=K) mix Tryz.func307 { reg:=[(5,[(32,.sc .bool)])],con:=[(14061,[]),(20098,[])],blk:=[(4,[]),(6,[])],lop:=[(0,[(7,.sc (.int .i64)),(8,.sc (.int .i64))]),(2,[(7,.sc (.int .i64))]),(4,[(9,.sc (.int .i64))]),(6,[(10,.sc (.int .i64))])],dr:=[(5,([],[[(0,[]),(1,[]),(2,[]),(3,[]),(4,[]),(5,[]),(6,[]),(7,[]),(8,[]),(9,[]),(10,[]),(11,[]),(12,[]),(13,[]),(14,[]),(15,[])]])),(11,([],[[(0,[]),(1,[]),(2,[]),(3,[]),(4,[]),(5,[]),(6,[]),(7,[]),(8,[]),(9,[]),(10,[]),(11,[]),(12,[]),(13,[]),(14,[]),(15,[]),(16,[]),(17,[])]])),(16,([],[[(0,[]),(1,[]),(2,[]),(3,[]),(4,[]),(5,[]),(6,[]),(7,[]),(8,[]),(9,[]),(10,[])]])),(17,([],[[(0,[]),(1,[]),(2,[]),(3,[]),(4,[]),(5,[]),(6,[]),(7,[]),(8,[]),(9,[]),(10,[]),(11,[]),(12,[]),(13,[]),(14,[]),(15,[]),(16,[]),(17,[])]])),(22,([],[[(0,[]),(1,[]),(2,[]),(3,[]),(4,[]),(5,[]),(6,[]),(7,[]),(8,[]),(9,[]),(10,[])]])),(23,([],[[(0,[]),(1,[]),(2,[]),(3,[]),(4,[]),(5,[]),(6,[]),(7,[]),(8,[]),(9,[]),(10,[]),(11,[]),(12,[]),(13,[]),(14,[]),(15,[]),(16,[]),(17,[])]]))] } trivial rfl (by kernel_rfl) h
def Zdm (x0:Int) (y1:Int):W (Bool) :=
 joinW (σ:=Bool) (fun J_1 =>
  callW Tryz.prog Z83 [.int .u8 x0] [.sc .bool] fun (x_2:Bool) =>
  cond x_2
   (callW Tryz.prog Z83 [.int .u8 y1] [.sc .bool] fun (x_3:Bool) =>
    cond (!x_3)
      (J_1 true)
      (J_1 (decide (x0 < y1))))
   (J_1 (decide (x0 < y1))))
 <| fun s_4 =>
 retW s_4
theorem Zjr {R:Type} (x0:Int) (y1:Int) (K:Res [.sc .bool]→W R) (Q:R→World→Prop) (w:World) (h:Zdm x0 y1 (fun r w=>K r Q w) w):callW Tryz.prog Z7 [.int .u8 x0,.int .u8 y1] [.sc .bool] K Q w:=den_c (K:=K) mix Tryz.func308 { reg:=[(1,[(4,.sc .bool)])] } trivial rfl (by kernel_rfl) h
def Z2x (d0:Sl) (o1:Int) (p2:Int) (p3:Int):W (Int) :=
 drawW <|
 idxW d0.a d0.n 1 p3 fun x_1 =>
 ld (.sc (.int .u8)) x_1 fun (x_2:Int) =>
 idxW d0.a d0.n 1 o1 fun x_3 =>
 ld (.sc (.int .u8)) x_3 fun (x_4:Int) =>
 idxW d0.a d0.n 1 o1 fun x_5 =>
 stoL x_5 [.int .u8 x_2] 0 <|
 idxW d0.a d0.n 1 p3 fun x_6 =>
 stoL x_6 [.int .u8 x_4] 0 <|
 loopW (σ:=Int × Int) (fun K_7 s_8 =>
  loopW (σ:=Int) (fun K_9 s_10 =>
   joinW (σ:=Bool) (fun J_11 =>
    drawW <|
    cond (decide (s_10≤s_8.2))
     (idxW d0.a d0.n 1 o1 fun x_12 =>
       ld (.sc (.int .u8)) x_12 fun (x_13:Int) =>
        idxW d0.a d0.n 1 s_10 fun x_14 =>
           ld (.sc (.int .u8)) x_14 fun (x_15:Int) =>
            callW Tryz.prog Z7 [.int .u8 x_13,.int .u8 x_15] [.sc .bool] fun (x_16:Bool) =>
             J_11 (!x_16))
     (J_11 false))
   <| fun s_17 =>
   cond s_17
    (K_9 (IntKind.wrap .i64 (s_10+1)))
    (loopW (σ:=Int) (fun K_18 s_19 =>
   joinW (σ:=Bool) (fun J_20 =>
    drawW <|
    cond (decide (s_10≤s_19))
     (idxW d0.a d0.n 1 o1 fun x_21 =>
       ld (.sc (.int .u8)) x_21 fun (x_22:Int) =>
        idxW d0.a d0.n 1 s_19 fun x_23 =>
           ld (.sc (.int .u8)) x_23 fun (x_24:Int) =>
            callW Tryz.prog Z7 [.int .u8 x_22,.int .u8 x_24] [.sc .bool] fun (x_25:Bool) =>
             J_20 x_25)
     (J_20 false))
   <| fun s_26 =>
   cond s_26
    (K_18 (IntKind.wrap .i64 (s_19 - 1)))
    (cond (decide (s_10 > s_19))
   (retW s_10)
   (drawW <|
  idxW d0.a d0.n 1 s_19 fun x_27 =>
  ld (.sc (.int .u8)) x_27 fun (x_28:Int) =>
  idxW d0.a d0.n 1 s_10 fun x_29 =>
  ld (.sc (.int .u8)) x_29 fun (x_30:Int) =>
  idxW d0.a d0.n 1 s_10 fun x_31 =>
  stoL x_31 [.int .u8 x_28] 0 <|
  idxW d0.a d0.n 1 s_19 fun x_32 =>
  stoL x_32 [.int .u8 x_30] 0 <|
  K_7 (IntKind.wrap .i64 (s_10+1),IntKind.wrap .i64 (s_19 - 1)))))
   s_8.2))
   s_8.1)
  (IntKind.wrap .i64 (o1+1),IntKind.wrap .i64 (p2 - 1))
theorem Z5v {R:Type} (d0:Sl) (o1:Int) (p2:Int) (p3:Int) (K:Res [.sc (.int .i64)]→W R) (Q:R→World→Prop) (w:World) (h:Z2x d0 o1 p2 p3 (fun r w=>K r Q w) w):callW Tryz.prog Z1e [.slice d0.a d0.n d0.c,.int .i64 o1,.int .i64 p2,.int .i64 p3] [.sc (.int .i64)] K Q w:=den_c (K:=K) mix Tryz.func309 { reg:=[(3,[(43,.sc .bool)]),(5,[(59,.sc .bool)])],lop:=[(0,[(9,.sc (.int .i64)),(10,.sc (.int .i64))]),(2,[(9,.sc (.int .i64))]),(4,[(10,.sc (.int .i64))])],dr:=[(1,([],[[(0,[]),(1,[]),(2,[]),(3,[]),(4,[]),(5,[]),(6,[]),(7,[]),(8,[]),(9,[]),(10,[]),(11,[]),(12,[]),(13,[]),(14,[]),(15,[])]])),(3,([],[[(0,[]),(1,[]),(2,[]),(3,[]),(4,[]),(5,[]),(6,[]),(7,[]),(8,[]),(9,[]),(10,[]),(11,[]),(12,[]),(13,[]),(14,[])]])),(5,([],[[(0,[]),(1,[]),(2,[]),(3,[]),(4,[]),(5,[]),(6,[]),(7,[]),(8,[]),(9,[]),(10,[]),(11,[]),(12,[]),(13,[])]])),(8,([],[[(0,[]),(1,[]),(2,[]),(3,[]),(4,[]),(5,[]),(6,[]),(7,[]),(8,[]),(9,[]),(10,[]),(11,[]),(12,[]),(13,[]),(14,[]),(15,[])]]))] } trivial rfl (by kernel_rfl) h
def Z3x (d0:Sl) (o1:Int) (p2:Int) (p3:Int):W (Int × Bool) :=
 drawW <|
 idxW d0.a d0.n 1 p3 fun x_1 =>
 ld (.sc (.int .u8)) x_1 fun (x_2:Int) =>
 idxW d0.a d0.n 1 o1 fun x_3 =>
 ld (.sc (.int .u8)) x_3 fun (x_4:Int) =>
 idxW d0.a d0.n 1 o1 fun x_5 =>
 stoL x_5 [.int .u8 x_2] 0 <|
 idxW d0.a d0.n 1 p3 fun x_6 =>
 stoL x_6 [.int .u8 x_4] 0 <|
 loopW (σ:=Int) (fun K_7 s_8 =>
  joinW (σ:=Bool) (fun J_9 =>
   drawW <|
   cond (decide (s_8≤(IntKind.wrap .i64 (p2 - 1))))
    (idxW d0.a d0.n 1 s_8 fun x_10 =>
      ld (.sc (.int .u8)) x_10 fun (x_11:Int) =>
       idxW d0.a d0.n 1 o1 fun x_12 =>
          ld (.sc (.int .u8)) x_12 fun (x_13:Int) =>
           callW Tryz.prog Z7 [.int .u8 x_11,.int .u8 x_13] [.sc .bool] fun (x_14:Bool) =>
            J_9 x_14)
    (J_9 false))
  <| fun s_15 =>
  cond s_15
   (K_7 (IntKind.wrap .i64 (s_8+1)))
   (loopW (σ:=Int) (fun K_16 s_17 =>
  joinW (σ:=Bool) (fun J_18 =>
   drawW <|
   cond (decide (s_8≤s_17))
    (idxW d0.a d0.n 1 s_17 fun x_19 =>
      ld (.sc (.int .u8)) x_19 fun (x_20:Int) =>
       idxW d0.a d0.n 1 o1 fun x_21 =>
          ld (.sc (.int .u8)) x_21 fun (x_22:Int) =>
           callW Tryz.prog Z7 [.int .u8 x_20,.int .u8 x_22] [.sc .bool] fun (x_23:Bool) =>
            J_18 (!x_23))
    (J_18 false))
  <| fun s_24 =>
  cond s_24
   (K_16 (IntKind.wrap .i64 (s_17 - 1)))
   (cond (decide (s_8 > s_17))
  (drawW <|
  idxW d0.a d0.n 1 o1 fun x_25 =>
  ld (.sc (.int .u8)) x_25 fun (x_26:Int) =>
  idxW d0.a d0.n 1 s_17 fun x_27 =>
  ld (.sc (.int .u8)) x_27 fun (x_28:Int) =>
  idxW d0.a d0.n 1 s_17 fun x_29 =>
  stoL x_29 [.int .u8 x_26] 0 <|
  idxW d0.a d0.n 1 o1 fun x_30 =>
  stoL x_30 [.int .u8 x_28] 0 <|
  retW (s_17,true))
  (drawW <|
 idxW d0.a d0.n 1 s_17 fun x_31 =>
 ld (.sc (.int .u8)) x_31 fun (x_32:Int) =>
 idxW d0.a d0.n 1 s_8 fun x_33 =>
 ld (.sc (.int .u8)) x_33 fun (x_34:Int) =>
 idxW d0.a d0.n 1 s_8 fun x_35 =>
 stoL x_35 [.int .u8 x_32] 0 <|
 idxW d0.a d0.n 1 s_17 fun x_36 =>
 stoL x_36 [.int .u8 x_34] 0 <|
 loopW (σ:=Int × Int) (fun K_37 s_38 =>
  loopW (σ:=Int) (fun K_39 s_40 =>
   joinW (σ:=Bool) (fun J_41 =>
    drawW <|
    cond (decide (s_40≤s_38.2))
     (idxW d0.a d0.n 1 s_40 fun x_42 =>
       ld (.sc (.int .u8)) x_42 fun (x_43:Int) =>
        idxW d0.a d0.n 1 o1 fun x_44 =>
           ld (.sc (.int .u8)) x_44 fun (x_45:Int) =>
            callW Tryz.prog Z7 [.int .u8 x_43,.int .u8 x_45] [.sc .bool] fun (x_46:Bool) =>
             J_41 x_46)
     (J_41 false))
   <| fun s_47 =>
   cond s_47
    (K_39 (IntKind.wrap .i64 (s_40+1)))
    (loopW (σ:=Int) (fun K_48 s_49 =>
   joinW (σ:=Bool) (fun J_50 =>
    drawW <|
    cond (decide (s_40≤s_49))
     (idxW d0.a d0.n 1 s_49 fun x_51 =>
       ld (.sc (.int .u8)) x_51 fun (x_52:Int) =>
        idxW d0.a d0.n 1 o1 fun x_53 =>
           ld (.sc (.int .u8)) x_53 fun (x_54:Int) =>
            callW Tryz.prog Z7 [.int .u8 x_52,.int .u8 x_54] [.sc .bool] fun (x_55:Bool) =>
             J_50 (!x_55))
     (J_50 false))
   <| fun s_56 =>
   cond s_56
    (K_48 (IntKind.wrap .i64 (s_49 - 1)))
    (cond (decide (s_40 > s_49))
   (drawW <|
 idxW d0.a d0.n 1 o1 fun x_57 =>
 ld (.sc (.int .u8)) x_57 fun (x_58:Int) =>
 idxW d0.a d0.n 1 s_49 fun x_59 =>
 ld (.sc (.int .u8)) x_59 fun (x_60:Int) =>
 idxW d0.a d0.n 1 s_49 fun x_61 =>
 stoL x_61 [.int .u8 x_58] 0 <|
 idxW d0.a d0.n 1 o1 fun x_62 =>
 stoL x_62 [.int .u8 x_60] 0 <|
 retW (s_49,false))
   (drawW <|
  idxW d0.a d0.n 1 s_49 fun x_63 =>
  ld (.sc (.int .u8)) x_63 fun (x_64:Int) =>
  idxW d0.a d0.n 1 s_40 fun x_65 =>
  ld (.sc (.int .u8)) x_65 fun (x_66:Int) =>
  idxW d0.a d0.n 1 s_40 fun x_67 =>
  stoL x_67 [.int .u8 x_64] 0 <|
  idxW d0.a d0.n 1 s_49 fun x_68 =>
  stoL x_68 [.int .u8 x_66] 0 <|
  K_37 (IntKind.wrap .i64 (s_40+1),IntKind.wrap .i64 (s_49 - 1)))))
   s_38.2))
   s_38.1)
  (IntKind.wrap .i64 (s_8+1),IntKind.wrap .i64 (s_17 - 1)))))
  (IntKind.wrap .i64 (p2 - 1))))
  (IntKind.wrap .i64 (o1+1))
theorem Z7l {R:Type} (d0:Sl) (o1:Int) (p2:Int) (p3:Int) (K:Res [.sc (.int .i64),.sc .bool]→W R) (Q:R→World→Prop) (w:World) (h:Z3x d0 o1 p2 p3 (fun r w=>K r Q w) w):callW Tryz.prog Z2a [.slice d0.a d0.n d0.c,.int .i64 o1,.int .i64 p2,.int .i64 p3] [.sc (.int .i64),.sc .bool] K Q w:=den_c (K:=K) mix Tryz.func310 { reg:=[(3,[(43,.sc .bool)]),(5,[(60,.sc .bool)]),(13,[(112,.sc .bool)]),(15,[(129,.sc .bool)])],lop:=[(0,[(10,.sc (.int .i64))]),(2,[(11,.sc (.int .i64))]),(4,[(10,.sc (.int .i64)),(11,.sc (.int .i64))]),(6,[(10,.sc (.int .i64))]),(8,[(11,.sc (.int .i64))])],dr:=[(1,([],[[(0,[]),(1,[]),(2,[]),(3,[]),(4,[]),(5,[]),(6,[]),(7,[]),(8,[]),(9,[]),(10,[]),(11,[]),(12,[]),(13,[]),(14,[]),(15,[])]])),(3,([],[[(0,[]),(1,[]),(2,[]),(3,[]),(4,[]),(5,[]),(6,[]),(7,[]),(8,[]),(9,[]),(10,[]),(11,[]),(12,[]),(13,[])]])),(5,([],[[(0,[]),(1,[]),(2,[]),(3,[]),(4,[]),(5,[]),(6,[]),(7,[]),(8,[]),(9,[]),(10,[]),(11,[]),(12,[]),(13,[]),(14,[])]])),(8,([],[[(0,[]),(1,[]),(2,[]),(3,[]),(4,[]),(5,[]),(6,[]),(7,[]),(8,[]),(9,[]),(10,[]),(11,[]),(12,[]),(13,[]),(14,[]),(15,[])]])),(10,([],[[(0,[]),(1,[]),(2,[]),(3,[]),(4,[]),(5,[]),(6,[]),(7,[]),(8,[]),(9,[]),(10,[]),(11,[]),(12,[]),(13,[]),(14,[]),(15,[])]])),(13,([],[[(0,[]),(1,[]),(2,[]),(3,[]),(4,[]),(5,[]),(6,[]),(7,[]),(8,[]),(9,[]),(10,[]),(11,[]),(12,[]),(13,[])]])),(15,([],[[(0,[]),(1,[]),(2,[]),(3,[]),(4,[]),(5,[]),(6,[]),(7,[]),(8,[]),(9,[]),(10,[]),(11,[]),(12,[]),(13,[]),(14,[])]])),(18,([],[[(0,[]),(1,[]),(2,[]),(3,[]),(4,[]),(5,[]),(6,[]),(7,[]),(8,[]),(9,[]),(10,[]),(11,[]),(12,[]),(13,[]),(14,[]),(15,[])]])),(21,([],[[(0,[]),(1,[]),(2,[]),(3,[]),(4,[]),(5,[]),(6,[]),(7,[]),(8,[]),(9,[]),(10,[]),(11,[]),(12,[]),(13,[]),(14,[]),(15,[])]]))] } trivial rfl (by kernel_rfl) h
def Z4e (d0:Sl) (o1:Int) (p2:Int) (p3:Int):W (Unit) :=
 loopW (σ:=Int) (fun K_1 s_2 =>
  cond (decide ((IntKind.wrap .i64 ((IntKind.wrap .i64 (2 * s_2))+1)) ≥ p2))
   (retW ())
   (joinW (σ:=Bool) (fun J_3 =>
   drawW <|
   cond (decide ((IntKind.wrap .i64 ((IntKind.wrap .i64 ((IntKind.wrap .i64 (2 * s_2))+1))+1)) < p2))
    (idxW d0.a d0.n 1 (IntKind.wrap .i64 (p3 + (IntKind.wrap .i64 ((IntKind.wrap .i64 (2 * s_2)) + 1)))) fun x_4 =>
        ld (.sc (.int .u8)) x_4 fun (x_5:Int) =>
         idxW d0.a d0.n 1 (IntKind.wrap .i64 ((IntKind.wrap .i64 (p3 + (IntKind.wrap .i64 ((IntKind.wrap .i64 (2 * s_2)) + 1)))) + 1)) fun x_6 =>
               ld (.sc (.int .u8)) x_6 fun (x_7:Int) =>
                callW Tryz.prog Z7 [.int .u8 x_5,.int .u8 x_7] [.sc .bool] fun (x_8:Bool) =>
                 J_3 x_8)
    (J_3 false))
  <| fun s_9 =>
  joinW (σ:=Int) (fun J_10 =>
   cond s_9
    (J_10 (IntKind.wrap .i64 ((IntKind.wrap .i64 ((IntKind.wrap .i64 (2 * s_2))+1))+1)))
    (J_10 (IntKind.wrap .i64 ((IntKind.wrap .i64 (2 * s_2))+1))))
  <| fun s_11 =>
  drawW <|
  idxW d0.a d0.n 1 (IntKind.wrap .i64 (p3+s_2)) fun x_12 =>
  ld (.sc (.int .u8)) x_12 fun (x_13:Int) =>
  idxW d0.a d0.n 1 (IntKind.wrap .i64 (p3+s_11)) fun x_14 =>
  ld (.sc (.int .u8)) x_14 fun (x_15:Int) =>
  callW Tryz.prog Z7 [.int .u8 x_13,.int .u8 x_15] [.sc .bool] fun (x_16:Bool) =>
  cond (!x_16)
   (retW ())
   (drawW <|
  idxW d0.a d0.n 1 (IntKind.wrap .i64 (p3+s_11)) fun x_17 =>
  ld (.sc (.int .u8)) x_17 fun (x_18:Int) =>
  idxW d0.a d0.n 1 (IntKind.wrap .i64 (p3+s_2)) fun x_19 =>
  ld (.sc (.int .u8)) x_19 fun (x_20:Int) =>
  idxW d0.a d0.n 1 (IntKind.wrap .i64 (p3+s_2)) fun x_21 =>
  stoL x_21 [.int .u8 x_18] 0 <|
  idxW d0.a d0.n 1 (IntKind.wrap .i64 (p3+s_11)) fun x_22 =>
  stoL x_22 [.int .u8 x_20] 0 <|
  K_1 s_11)))
  o1
theorem Z80 {R:Type} (d0:Sl) (o1:Int) (p2:Int) (p3:Int) (K:Res []→W R) (Q:R→World→Prop) (w:World) (h:Z4e d0 o1 p2 p3 (fun r w=>K r Q w) w):callW Tryz.prog Z1a [.slice d0.a d0.n d0.c,.int .i64 o1,.int .i64 p2,.int .i64 p3] [] K Q w:=den_c (K:=K) mix Tryz.func311 { reg:=[(3,[(36,.sc .bool)])],con:=[(5036,[(9,.sc (.int .i64))])],lop:=[(0,[(8,.sc (.int .i64))])],dr:=[(3,([],[[(0,[]),(1,[]),(2,[]),(3,[]),(4,[]),(5,[]),(6,[]),(7,[]),(8,[]),(9,[]),(10,[]),(11,[]),(12,[]),(13,[]),(14,[]),(15,[]),(16,[]),(17,[]),(18,[]),(19,[])]])),(5,([],[[(0,[]),(1,[]),(2,[]),(3,[]),(4,[]),(5,[]),(6,[]),(7,[]),(8,[]),(9,[]),(10,[]),(11,[]),(12,[]),(13,[])]])),(6,([],[[(0,[]),(1,[]),(2,[]),(3,[]),(4,[]),(5,[]),(6,[]),(7,[]),(8,[]),(9,[]),(10,[]),(11,[]),(12,[]),(13,[]),(14,[]),(15,[]),(16,[]),(17,[]),(18,[]),(19,[]),(20,[]),(21,[]),(22,[]),(23,[])]]))] } trivial rfl (by kernel_rfl) h
def Z2w (data0:Sl) (a1:Int) (swaps2:Option Addr):W (Int) :=
 callW Tryz.prog Z1r [.slice data0.a data0.n data0.c,.int .i64 (IntKind.wrap .i64 (a1 - 1)),.int .i64 a1,.int .i64 (IntKind.wrap .i64 (a1+1)),.pointer swaps2] [.sc (.int .i64)] fun (x_1:Int) =>
 retW x_1
theorem Z5u {R:Type} (data0:Sl) (a1:Int) (swaps2:Option Addr) (K:Res [.sc (.int .i64)]→W R) (Q:R→World→Prop) (w:World) (h:Z2w data0 a1 swaps2 (fun r w=>K r Q w) w):callW Tryz.prog Za [.slice data0.a data0.n data0.c,.int .i64 a1,.pointer swaps2] [.sc (.int .i64)] K Q w:=den_c (K:=K) mix Tryz.func312 {} trivial rfl (by kernel_rfl) h
def Z4w (data0:Sl) (a1:Int) (b2:Int) (c3:Int) (swaps4:Option Addr):W (Int) :=
 callW Tryz.prog Zv [.slice data0.a data0.n data0.c,.int .i64 a1,.int .i64 b2,.pointer swaps4] [.sc (.int .i64),.sc (.int .i64)] fun (x_1:Int × Int) =>
 callW Tryz.prog Zv [.slice data0.a data0.n data0.c,.int .i64 x_1.2,.int .i64 c3,.pointer swaps4] [.sc (.int .i64),.sc (.int .i64)] fun (x_2:Int × Int) =>
 callW Tryz.prog Zv [.slice data0.a data0.n data0.c,.int .i64 x_1.1,.int .i64 x_2.1,.pointer swaps4] [.sc (.int .i64),.sc (.int .i64)] fun (x_3:Int × Int) =>
 retW x_3.2
theorem Z90 {R:Type} (data0:Sl) (a1:Int) (b2:Int) (c3:Int) (swaps4:Option Addr) (K:Res [.sc (.int .i64)]→W R) (Q:R→World→Prop) (w:World) (h:Z4w data0 a1 b2 c3 swaps4 (fun r w=>K r Q w) w):callW Tryz.prog Z1r [.slice data0.a data0.n data0.c,.int .i64 a1,.int .i64 b2,.int .i64 c3,.pointer swaps4] [.sc (.int .i64)] K Q w:=den_c (K:=K) mix Tryz.func313 {} trivial rfl (by kernel_rfl) h
def Zcu (x0:Int):W (Bool) :=
 retW (x0 != x0)
theorem Zj8 {R:Type} (x0:Int) (K:Res [.sc .bool]→W R) (Q:R→World→Prop) (w:World) (h:Zcu x0 (fun r w=>K r Q w) w):callW Tryz.prog Z83 [.int .u8 x0] [.sc .bool] K Q w:=den_c (K:=K) mix Tryz.func314 {} trivial rfl (by kernel_rfl) h
def Z4x (data0:Sl) (a1:Int) (b2:Int) (swaps3:Option Addr):W (Int × Int) :=
 drawW <|
 idxW data0.a data0.n 1 b2 fun x_1 =>
 ld (.sc (.int .u8)) x_1 fun (x_2:Int) =>
 idxW data0.a data0.n 1 a1 fun x_3 =>
 ld (.sc (.int .u8)) x_3 fun (x_4:Int) =>
 callW Tryz.prog Z7 [.int .u8 x_2,.int .u8 x_4] [.sc .bool] fun (x_5:Bool) =>
 cond x_5
  (ptrW swaps3 fun x_6 =>
  ld (.sc (.int .i64)) x_6 fun (x_7:Int) =>
  ptrW swaps3 fun x_8 =>
  stoL x_8 [.int .i64 (IntKind.wrap .i64 (x_7+1))] 0 <|
  retW (b2,a1))
  (retW (a1,b2))
theorem Z91 {R:Type} (data0:Sl) (a1:Int) (b2:Int) (swaps3:Option Addr) (K:Res [.sc (.int .i64),.sc (.int .i64)]→W R) (Q:R→World→Prop) (w:World) (h:Z4x data0 a1 b2 swaps3 (fun r w=>K r Q w) w):callW Tryz.prog Zv [.slice data0.a data0.n data0.c,.int .i64 a1,.int .i64 b2,.pointer swaps3] [.sc (.int .i64),.sc (.int .i64)] K Q w:=den_c (K:=K) mix Tryz.func315 { dr:=[(1,([],[[(0,[]),(1,[]),(2,[]),(3,[]),(4,[]),(5,[]),(6,[]),(7,[]),(8,[])]]))] } trivial rfl (by kernel_rfl) h
end Go.Proofs.YtoiahhpgkoknfaaGreat
namespace Go.Proofs.YtoiahhpgkoknfaaGreat
open Go Go.RowKit Go.Shelf Go.Proofs.YtoiahhpgkoknfaaGreat.Den
variable {R:Type} {Q:R→World→Prop} {w:World}
def bitsRen:Ren where
 f:=fun x=>match x with
  | 125=>162
  | 128=>211
  | 129=>212
  | n=>n
 t:=fun x=>match x with
  | 46=>252
  | 3=>3
  | 51=>28
  | 53=>308
  | 4=>4
  | 5=>5
  | 9=>9
  | n=>n
 g:=fun n=>n
theorem bitsLays:Lays.n125 Tryz.prog bitsRen :=
 {mixed:=rfl,f125:=Eq.trans Tryz.func162 rfl,f128:=Eq.trans Tryz.func211 rfl,f129:=Eq.trans Tryz.func212 rfl,t3:=Tryz.underlying3,
  a3:=Tryz.isAgg3,z3:=Tryz.sizeOf3,v3:=Tryz.zeroValue3,t4:=Tryz.underlying4,a4:=Tryz.isAgg4,z4:=Tryz.sizeOf4,
  v4:=Tryz.zeroValue4,t5:=Tryz.underlying5,a5:=Tryz.isAgg5,z5:=Tryz.sizeOf5,v5:=Tryz.zeroValue5,
  t9:=Tryz.underlying9,a9:=Tryz.isAgg9,z9:=Tryz.sizeOf9,v9:=Tryz.zeroValue9,t46:=Tryz.underlying252,
  a46:=Tryz.isAgg252,z46:=Tryz.sizeOf252,v46:=Tryz.zeroValue252,t51:=Tryz.underlying28,a51:=Tryz.isAgg28,
  z51:=Tryz.sizeOf28,v51:=Tryz.zeroValue28,t53:=Tryz.underlying308,a53:=Tryz.isAgg308,z53:=Tryz.sizeOf308,
  v53:=Tryz.zeroValue308 }
theorem Z8x {x:Int} (h0:0≤x) (h1:x≤18446744073709551615) {K:Res [.sc (.int .i64)]→W R} (hk:K (Lib.bitLen x.toNat:Int) Q w):callW Tryz.prog Z6f [.int .u64 x] [.sc (.int .i64)] K Q w :=
 (Any.bits_Len bitsLays x w h0 h1).mono fun e w' ⟨h1,h2⟩=>by
  subst h2
  exact ⟨_,h1,hk⟩
end Go.Proofs.YtoiahhpgkoknfaaGreat
namespace Go.Proofs.YtoiahhpgkoknfaaGreat
open Go Go.RowKit Go.Proofs.YtoiahhpgkoknfaaGreat.Den
variable {R:Type} {Q:R→World→Prop} {w:World}
abbrev bT:Ty:=.sc (.int .u8)
def gi (m:List Int) (p:Nat):Int:=m[p]?.getD 0
theorem Zvy {m:List Int} {q:Nat} {v:Int} (hq:q < m.length) (p:Nat):gi (m.set q v) p=if p=q then v else gi m p:=by
 unfold gi
 rw [List.getElem?_set]
 by_cases e:q=p
 ·subst e; rw [if_pos rfl,if_pos hq,if_pos rfl]; rfl
 ·rw [if_neg e,if_neg (fun h=>e h.symm)]
def swapL (m:List Int) (i j:Nat):List Int:=(m.set j (gi m i)).set i (gi m j)
theorem Zvl {m:List Int} {i j:Nat} (hi:i < m.length) (hj:j < m.length) (p:Nat):gi (swapL m i j) p=if p=i then gi m j else if p=j then gi m i else gi m p:=by
 unfold swapL
 rw [Zvy (by simpa using hi),Zvy hj]
theorem Zd {x y:Int} {K:Res [.sc .bool]→W R} (hk:K (decide (x < y)) Q w):callW Tryz.prog Z7 [.int .u8 x,.int .u8 y] [.sc .bool] K Q w:=by
 refine Zjr _ _ K Q w ?_
 unfold Zdm
 refine joinK (Zj8 _ _ _ _ ?_)
 unfold Zcu
 exact condF (by simp) hk
structure Ins (m:List Int) (i j:Nat):Prop where
 a:∀ p q,p < q→q≤i→p≠j→q≠j→gi m p≤gi m q
 b:∀ q,j < q→q≤i→gi m j≤gi m q
def Srt (m:List Int) (i:Nat):Prop:=∀ p q,p < q→q < i→gi m p≤gi m q
theorem Ins.start {m:List Int} {i:Nat} (h:Srt m i):Ins m i i:=⟨fun p q h1 h2 h3 h4=>h p q h1 (by omega),fun q h1 h2=>by omega⟩
theorem Ins.swap {m:List Int} {i j:Nat} (h:Ins m i (j+1)) (hj:j+1 < m.length) (hlt:gi m (j+1) < gi m j):Ins (swapL m (j+1) j) i j:=by
 have e:=Zvl (m:=m) (i:=j+1) (j:=j) hj (by omega)
 refine ⟨fun p q h1 h2 h3 h4=>?_,fun q h1 h2=>?_⟩
 ·rw [e,e,if_neg h3,if_neg h4]
  by_cases hq:q=j+1
  ·subst hq
   rw [if_pos rfl,if_neg (by omega)]
   exact h.a p j (by omega) (by omega) (by omega) (by omega)
  ·rw [if_neg hq]
   by_cases hp:p=j+1
   ·rw [if_pos hp]
    exact h.a j q (by omega) h2 (by omega) hq
   ·rw [if_neg hp]
    exact h.a p q h1 h2 hp hq
 ·rw [e,e,if_neg (by omega),if_pos rfl,if_neg (show q≠j by omega)]
  by_cases hq:q=j+1
  ·rw [if_pos hq]; omega
  ·rw [if_neg hq]
   exact h.b q (by omega) h2
theorem Ins.done {m:List Int} {i j:Nat} (h:Ins m i j) (hd:j=0∨∃ k,j=k+1∧gi m k≤gi m j):Srt m (i+1):=by
 intro p q h1 h2
 by_cases hp:p=j
 ·subst hp; exact h.b q h1 (by omega)
 ·by_cases hq:q=j
  ·subst hq
   rcases hd with hd | ⟨k,rfl,hk⟩
   ·omega
   ·by_cases hpk:p=k
    ·subst hpk; exact hk
    ·exact Int.le_trans (h.a p k (by omega) (by omega) hp (by omega)) hk
  ·exact h.a p q h1 (by omega) hp hq
end Go.Proofs.YtoiahhpgkoknfaaGreat
namespace Go.Proofs.YtoiahhpgkoknfaaGreat
open Go Go.RowKit Go.Proofs.YtoiahhpgkoknfaaGreat.Den
open Go.Sort (swp ltInt PermIn SortedIn)
variable {R:Type} {Q:R→World→Prop} {w:World}
abbrev DA (S:Nat→Prop) (w:World) (s:Sl) (d:Array Int):Prop:=Den.Own S w 5 bT s d.toList
abbrev OwnB (s:Sl):Nat→Prop:=fun k=>s.v.ownBlock=some k
theorem swo:Go.Sort.SWO ltInt:=Go.Sort.swo_ltInt
section
variable {S:Nat→Prop} {s:Sl} {d:Array Int}
theorem DA.n (h:DA S w s d):s.n=d.size:=by rw [h.len]; rfl
theorem rdA (h:DA S w s d) {ie:Int} {j:Nat} (hi:ie=(j:Int)) (hj:j < d.size) {K:Int→W R} (hk:K d[j]! Q w):idxW s.a s.n 1 ie (fun a=>ld (.sc (.int .u8)) a K) Q w:=by
 refine h.sl.get rfl hi (by simpa using hj) fun x hx=>?_
 rw [Array.getElem?_toList] at hx
 have e:d[j]! = x:=by
  rw [getElem!_pos d j hj]
  exact (Array.getElem?_eq_some_iff.1 hx).2
 rw [e] at hk
 exact hk
theorem Zkt (d:Array Int) (i:Nat) (x:Int):(d.setIfInBounds i x).toList=d.toList.set i x:=by simp
theorem swpA (h:DA S w s d) {ie je:Int} {i j:Nat} (ei:ie=(i:Int)) (ej:je=(j:Int)) (hi:i < d.size) (hj:j < d.size) {K:W R} (hk:∀ w',DA S w' s (swp d i j)→Fr (OwnB s) w w'→K Q w') :
  (idxW s.a s.n 1 je fun a=>ld (.sc (.int .u8)) a fun (x:Int)=>idxW s.a s.n 1 ie fun b=>ld (.sc (.int .u8)) b fun (y:Int) =>
   idxW s.a s.n 1 ie fun c=>stoL c [.int .u8 x] 0 <| idxW s.a s.n 1 je fun e=>stoL e [.int .u8 y] 0 K) Q w:=by
 subst ei; subst ej
 refine rdA h rfl hj (rdA h rfl hi ?_)
 refine h.idx rfl (by omega) (by rw [Array.length_toList]; omega) fun g u hg hu _=>?_
 refine h.set rfl (by rw [Array.length_toList]; omega) hg d[j]! fun w4 o4 f4 _=>?_
 refine o4.idx rfl (by omega) (by rw [List.length_set,Array.length_toList]; omega) fun g2 u2 hg2 hu2 _=>?_
 refine o4.set rfl (by rw [List.length_set,Array.length_toList]; omega) hg2 d[i]! fun w5 o5 f5 _=>?_
 refine hk w5 ?_ (f4.then f5)
 show Den.Own S w5 5 bT s (swp d i j).toList
 rw [swp,Zkt,Zkt]
 simpa using o5
theorem szs (d:Array Int) (i j:Nat):(swp d i j).size=d.size:=Go.Sort.size_swp d i j
theorem Zvh (h:DA S w s d) (hm:d.size≤1048576) {a b:Nat} (hab:a≤b) (hb:b≤d.size) {K:Res []→W R} (hk:∀ w',DA S w' s (Go.Sort.insertionSort ltInt d a b)→Fr (OwnB s) w w'→K () Q w') :
  callW Tryz.prog Z1m [.slice s.a s.n s.c,.int .i64 (a:Int),.int .i64 (b:Int)] [] K Q w:=by
 refine Z68 _ _ _ K Q w ?_
 unfold Z36
 have hn:=h.n
 rw [show IntKind.wrap .i64 ((a:Int)+1)=((a+1:Nat):Int) by rw [w64 (by omega)]; rfl]
 refine loopI (fun i w'=>∃ (n:Nat) (d':Array Int),i=(n:Int)∧a < n∧DA S w' s d'∧d'.size=d.size∧Go.Sort.insOuter ltInt a b n d'=Go.Sort.insertionSort ltInt d a b∧Fr (OwnB s) w w') (fun i _=>b - i.toNat) ⟨a+1,d,rfl,by omega,h,rfl,rfl,Fr.refl _ _⟩ ?_
 rintro i w1 ⟨n,d',rfl,hn1,o1,hz,he,f1⟩
 refine condD (fun hlt=>?_) fun hge=>?_
 ·have hnb:n < b:=by have:(n:Int) < (b:Int):=hlt; omega
  refine loopI (fun j w'=>∃ (q:Nat) (e:Array Int),j=(q:Int)∧q≤n∧DA S w' s e∧e.size=d.size∧Go.Sort.insInner ltInt a q e=Go.Sort.insInner ltInt a n d'∧Fr (OwnB s) w w') (fun j _=>j.toNat) ⟨n,d',rfl,Nat.le_refl _,o1,hz,rfl,f1⟩ ?_
  rintro j w2 ⟨q,e,rfl,hq,o2,hz2,he2,f2⟩
  have fd:Fr None w2 w2.drew:=(Fr.refl _ _).drew
  have out:∀ {w':World},Fr None w2 w'→Go.Sort.insInner ltInt a q e=e→∃ (n':Nat) (d':Array Int),IntKind.wrap .i64 ((n:Int)+1)=(n':Int)∧a < n'∧DA S w' s d'∧d'.size=d.size∧Go.Sort.insOuter ltInt a b n' d'=Go.Sort.insertionSort ltInt d a b∧Fr (OwnB s) w w':=fun f h=>by
   refine ⟨n+1,e,wsucc hnb (by omega),by omega,o2.none f,hz2,?_,f2.then f.any⟩
   rw [← he,← h,he2]
   conv=>rhs; rw [Go.Sort.insOuter,if_pos hnb]
  have meas:b - (IntKind.wrap .i64 ((n:Int)+1)).toNat < b - (n:Int).toNat:=by rw [wsucc hnb (by omega)]; omega
  refine joinI (fun z w'=>w'=w2.drew∧((z=true∧∃ k,q=k+1∧Go.Sort.insInner ltInt a q e=Go.Sort.insInner ltInt a k (swp e (k+1) k))∨(z=false∧Go.Sort.insInner ltInt a q e=e))) ?_ ?_
  ·refine condD (fun h0=>?_) fun h0=>⟨rfl,.inr ⟨rfl,?_⟩⟩
   ·have h0:(q:Int) > (a:Int):=h0
    obtain ⟨k,rfl⟩:∃ k,q=k+1:=⟨q - 1,by omega⟩
    have e1:IntKind.wrap .i64 (((k+1:Nat):Int) - 1)=(k:Int):=by rw [w64 (by omega)]; omega
    refine rdA (o2.none fd) rfl (by omega) (rdA (o2.none fd) e1 (by omega) (Zd ⟨rfl,?_⟩))
    have hdef:Go.Sort.insInner ltInt a (k+1) e=if k+1 > a && ltInt e[k+1]! e[k]! then Go.Sort.insInner ltInt a k (swp e (k+1) k) else e:=rfl
    have hka:k+1 > a:=by omega
    by_cases hl:e[k+1]! < e[k]!
    ·refine .inl ⟨decide_eq_true hl,k,rfl,?_⟩
     rw [hdef,if_pos (by simp [ltInt,hl,hka])]
    ·refine .inr ⟨decide_eq_false hl,?_⟩
     rw [hdef,if_neg (by simp [ltInt,hl])]
   ·have h0:¬ (q:Int) > (a:Int):=h0
    cases q with
    | zero=>rfl
    | succ k =>
     have hdef:Go.Sort.insInner ltInt a (k+1) e=if k+1 > a && ltInt e[k+1]! e[k]! then Go.Sort.insInner ltInt a k (swp e (k+1) k) else e:=rfl
     rw [hdef,if_neg (by simp; omega)]
  ·rintro z w3 ⟨rfl,⟨rfl,k,rfl,hx⟩ | ⟨rfl,hx⟩⟩
   ·have e1:IntKind.wrap .i64 (((k+1:Nat):Int) - 1)=(k:Int):=by rw [w64 (by omega)]; omega
    have fdd:=fd.then0 (Fr.refl None w2.drew).drew
    refine condT rfl (swpA (o2.none fdd) rfl e1 (by omega) (by omega) fun w4 o4 f4=>?_)
    refine ⟨⟨k,_,e1,by omega,o4,by rw [szs]; exact hz2,by rw [← hx,he2],(f2.then fdd.any).then f4⟩,?_⟩
    rw [e1]; omega
   ·exact condF rfl ⟨out fd hx,meas⟩
 ·have:¬ n < b:=fun h=>hge (show (n:Int) < (b:Int) by omega)
  refine hk w1 ?_ f1
  rw [← he,Go.Sort.insOuter,if_neg this]
  exact o1
end
end Go.Proofs.YtoiahhpgkoknfaaGreat
namespace Go.Proofs.YtoiahhpgkoknfaaGreat
open Go Go.RowKit Go.Proofs.YtoiahhpgkoknfaaGreat.Den
open Go.Sort (swp ltInt PermIn SortedIn)
variable {R:Type} {Q:R→World→Prop} {w:World}
section
variable {S:Nat→Prop} {s:Sl} {d:Array Int}
theorem wn {x:Int} {n:Nat} (h:x=(n:Int)) (hn:n≤1000000000):IntKind.wrap .i64 x=(n:Int):=by rw [h,w64 (by omega)]
theorem Zpi (h:DA S w s d) (hm:d.size≤1048576) {root hi first:Nat} (hf:first+hi≤d.size) (hr:root≤1048576) (_hr2:root < hi∨2 * root+1 ≥ hi) {K:Res []→W R} (hk:∀ w',DA S w' s (Go.Sort.siftDown ltInt hi first root d)→(Go.Sort.siftDown ltInt hi first root d).size=d.size→Fr (OwnB s) w w'→K () Q w') :
  callW Tryz.prog Z1a [.slice s.a s.n s.c,.int .i64 (root:Int),.int .i64 (hi:Int),.int .i64 (first:Int)] [] K Q w:=by
 refine Z80 _ _ _ _ K Q w ?_
 unfold Z4e
 refine loopI (fun i w'=>∃ (r:Nat) (e:Array Int),i=(r:Int)∧r≤1048576∧DA S w' s e∧e.size=d.size∧Go.Sort.siftDown ltInt hi first r e=Go.Sort.siftDown ltInt hi first root d∧Fr (OwnB s) w w') (fun i _=>hi - i.toNat) ⟨root,d,rfl,hr,h,rfl,rfl,Fr.refl _ _⟩ ?_
 rintro i w1 ⟨r,e,rfl,hr,o1,hz,he,f1⟩
 have e2:IntKind.wrap .i64 (IntKind.wrap .i64 (2 * (r:Int))+1)=((2 * r+1:Nat):Int):=by rw [wn (x:=2 * (r:Int)) (n:=2 * r) (by omega) (by omega)]; exact wn (by omega) (by omega)
 have e3:IntKind.wrap .i64 (IntKind.wrap .i64 (IntKind.wrap .i64 (2 * (r:Int))+1)+1)=((2 * r+2:Nat):Int):=by rw [e2]; exact wn (by omega) (by omega)
 rw [e3,e2]
 refine condD (fun hge=>?_) fun hlt=>?_
 ·have hge:(((2 * r+1:Nat):Int)) ≥ (hi:Int):=hge
  rw [Go.Sort.siftDown,dif_pos (show 2 * r+1 ≥ hi by omega)] at he
  rw [← he] at hk
  exact hk w1 o1 hz f1
 ·have hlt:¬ (((2 * r+1:Nat):Int)) ≥ (hi:Int):=hlt
  have hr2:2 * r+1 < hi:=by omega
  have e4:IntKind.wrap .i64 ((first:Int)+((2 * r+1:Nat):Int))=((first+(2 * r+1):Nat):Int):=wn (by omega) (by omega)
  have e5:IntKind.wrap .i64 (((first+(2 * r+1):Nat):Int)+1)=((first+(2 * r+1)+1:Nat):Int):=wn (by omega) (by omega)
  have hdef:=Go.Sort.siftDown.eq_def ltInt hi first r e
  rw [dif_neg (show ¬ 2 * r+1 ≥ hi by omega)] at hdef
  have fd:Fr None w1 w1.drew:=(Fr.refl _ _).drew
  refine joinI (fun z w'=>w'=w1.drew∧z=(decide (2 * r+1+1 < hi) && ltInt e[first+(2 * r+1)]! e[first+(2 * r+1)+1]!)) ?_ ?_
  ·refine condD (fun h1=>?_) fun h1=>⟨rfl,?_⟩
   ·have h1:((2 * r+2:Nat):Int) < (hi:Int):=h1
    refine rdA (o1.none fd) e4 (by omega) (rdA (o1.none fd) (by rw [e4]; exact e5) (by omega) (Zd ⟨rfl,?_⟩))
    rw [decide_eq_true (show 2 * r+1+1 < hi by omega)]
    rfl
   ·have h1:¬ ((2 * r+2:Nat):Int) < (hi:Int):=h1
    rw [decide_eq_false (show ¬ 2 * r+1+1 < hi by omega)]
    rfl
  rintro z w2 ⟨rfl,hz1⟩
  rw [← hz1] at hdef
  refine joinI (fun (c:Int) w'=>w'=w1.drew∧∃ q:Nat,c=(q:Int)∧r < q∧q < hi∧Go.Sort.siftDown ltInt hi first r e=if !ltInt e[first+r]! e[first+q]! then e else Go.Sort.siftDown ltInt hi first q (swp e (first+r) (first+q))) ?_ ?_
  ·cases z with
   | true =>
    simp only [if_true] at hdef
    have hq:2 * r+2 < hi:=by
     have:=hz1.symm
     simp only [Bool.and_eq_true,decide_eq_true_eq] at this
     omega
    rw [dif_pos hq] at hdef
    exact ⟨rfl,2 * r+2,rfl,by omega,hq,hdef⟩
   | false =>
    simp only [Bool.false_eq_true,if_false] at hdef
    exact ⟨rfl,2 * r+1,rfl,by omega,by omega,hdef⟩
  rintro c w3 ⟨rfl,q,rfl,hrq,hq,hdef2⟩
  have e6:IntKind.wrap .i64 ((first:Int)+(r:Int))=((first+r:Nat):Int):=wn (by omega) (by omega)
  have e7:IntKind.wrap .i64 ((first:Int)+(q:Int))=((first+q:Nat):Int):=wn (by omega) (by omega)
  have fd2:=fd.then0 (Fr.refl None w1.drew).drew
  refine rdA (o1.none fd2) e6 (by omega) (rdA (o1.none fd2) e7 (by omega) (Zd ?_))
  refine condI (fun hb=>?_) fun hb=>?_
  ·rw [if_pos (show (!ltInt e[first+r]! e[first+q]!)=true from hb)] at hdef2
   rw [hdef2] at he
   rw [← he] at hk
   exact hk _ (o1.none fd2) hz (f1.then fd2.any)
  ·rw [if_neg (show ¬ (!ltInt e[first+r]! e[first+q]!)=true from fun h=>by rw [show (!ltInt e[first+r]! e[first+q]!)=false from hb] at h; cases h)] at hdef2
   have fd3:=fd2.then0 (Fr.refl None w1.drew.drew).drew
   refine swpA (o1.none fd3) e6 e7 (by omega) (by omega) fun w4 o4 f4=>⟨⟨q,_,rfl,by omega,o4,by rw [szs]; exact hz,by rw [← hdef2,he],(f1.then fd3.any).then f4⟩,by omega⟩
theorem Zu4 (h:DA S w s d) (hm:d.size≤1048576) {a b:Nat} (hab:a < b) (hb:b≤d.size) {K:Res []→W R} (hk:∀ w',DA S w' s (Go.Sort.heapSort ltInt d a b)→Fr (OwnB s) w w'→K () Q w') :
  callW Tryz.prog Z2i [.slice s.a s.n s.c,.int .i64 (a:Int),.int .i64 (b:Int)] [] K Q w:=by
 refine Z7z _ _ _ K Q w ?_
 unfold Z4d
 have e1:IntKind.wrap .i64 ((b:Int) - (a:Int))=((b - a:Nat):Int):=wn (by omega) (by omega)
 have e2:IntKind.wrap .i64 (((b - a:Nat):Int) - 1)=((b - a - 1:Nat):Int):=wn (by omega) (by omega)
 have e3:IntKind.wrap .i64 (Int.tdiv ((b - a - 1:Nat):Int) 2)=(((b - a - 1) / 2:Nat):Int):=wn (by rw [Int.tdiv_eq_ediv_of_nonneg (by omega)]; omega) (by omega)
 rw [e1,e2,e3]
 refine loopI (fun i w'=>∃ (k:Nat) (e:Array Int),i=(k:Int) - 1∧k≤(b - a - 1) / 2+1∧DA S w' s e∧e.size=d.size∧Go.Sort.heapBuild ltInt (b - a) a k e=Go.Sort.heapBuild ltInt (b - a) a ((b - a - 1) / 2+1) d∧Fr (OwnB s) w w') (fun i _=>(i+1).toNat) ⟨(b - a - 1) / 2+1,d,by omega,Nat.le_refl _,h,rfl,rfl,Fr.refl _ _⟩ ?_
 rintro i w1 ⟨k,e,rfl,hk1,o1,hz,he,f1⟩
 refine condD (fun hge=>?_) fun hlt=>?_
 ·have hge:(k:Int) - 1 ≥ 0:=hge
  obtain ⟨q,rfl⟩:∃ q,k=q+1:=⟨k - 1,by omega⟩
  rw [show (((q+1:Nat):Int) - 1)=(q:Int) by omega]
  refine Zpi o1 (by omega) (by omega) (by omega) (by omega) fun w2 o2 hz2 f2=>?_
  have e4:IntKind.wrap .i64 ((q:Int) - 1)=(q:Int) - 1:=w64 (by omega)
  rw [e4]
  exact ⟨⟨q,_,rfl,by omega,o2,by rw [hz2]; exact hz,by rw [← he]; rfl,f1.then f2⟩,by omega⟩
 ·have hlt:¬ (k:Int) - 1 ≥ 0:=hlt
  have hk0:k=0:=by omega
  subst hk0
  have he:e=Go.Sort.heapBuild ltInt (b - a) a ((b - a - 1) / 2+1) d:=he
  refine loopI (fun i w'=>∃ (k:Nat) (g:Array Int),i=(k:Int) - 1∧k≤b - a∧DA S w' s g∧g.size=d.size∧Go.Sort.heapPop ltInt a k g=Go.Sort.heapSort ltInt d a b∧Fr (OwnB s) w w') (fun i _=>(i+1).toNat) ⟨b - a,e,by omega,Nat.le_refl _,o1,hz,by rw [Go.Sort.heapSort,← he],f1⟩ ?_
  rintro i w2 ⟨k,g,rfl,hk2,o2,hz2,he2,f2⟩
  refine condD (fun hge=>?_) fun hlt=>?_
  ·have hge:(k:Int) - 1 ≥ 0:=hge
   obtain ⟨q,rfl⟩:∃ q,k=q+1:=⟨k - 1,by omega⟩
   rw [show (((q+1:Nat):Int) - 1)=(q:Int) by omega]
   have fd:Fr None w2 w2.drew:=(Fr.refl _ _).drew
   have e5:IntKind.wrap .i64 ((a:Int)+(q:Int))=((a+q:Nat):Int):=wn (by omega) (by omega)
   refine swpA (o2.none fd) rfl e5 (by omega) (by omega) fun w3 o3 f3=>?_
   refine Zpi (root:=0) (hi:=q) (first:=a) o3 (by rw [szs]; omega) (by rw [szs]; omega) (by omega) (by omega) fun w4 o4 hz4 f4=>?_
   have e4:IntKind.wrap .i64 ((q:Int) - 1)=(q:Int) - 1:=w64 (by omega)
   rw [e4]
   exact ⟨⟨q,_,rfl,by omega,o4,by rw [hz4,szs]; exact hz2,by rw [← he2]; rfl,((f2.then fd.any).then f3).then f4⟩,by omega⟩
  ·have hlt:¬ (k:Int) - 1 ≥ 0:=hlt
   have hk0:k=0:=by omega
   subst hk0
   rw [← he2] at hk
   exact hk w2 o2 f2
theorem Zph (h:DA S w s d) (hm:d.size≤1048576) {a b:Nat} (hab:a < b) (hb:b≤d.size) {K:Res []→W R} (hk:∀ d' w',DA S w' s d'→PermIn a b d d'→Fr (OwnB s) w w'→K () Q w') :
  callW Tryz.prog Z1s [.slice s.a s.n s.c,.int .i64 (a:Int),.int .i64 (b:Int)] [] K Q w:=by
 refine Z6a _ _ _ K Q w ?_
 unfold Z3c
 have e1:IntKind.wrap .i64 ((b:Int) - 1)=((b - 1:Nat):Int):=wn (by omega) (by omega)
 rw [e1]
 refine loopI (fun (st:Int × Int) w'=>∃ (i j:Nat) (e:Array Int),st=((i:Int),(j:Int))∧a≤i∧i≤b∧j < b∧DA S w' s e∧PermIn a b d e∧Fr (OwnB s) w w') (fun st _=>(st.2 - st.1).toNat) ⟨a,b - 1,d,rfl,Nat.le_refl _,by omega,by omega,h,Go.Sort.permIn_refl _ _ _,Fr.refl _ _⟩ ?_
 rintro st w1 ⟨i,j,e,rfl,h1,h2,h3,o1,hp,f1⟩
 have hz:e.size=d.size:=hp.1
 refine condD (fun hlt=>?_) fun hge=>hk e w1 o1 hp f1
 have hlt:(i:Int) < (j:Int):=hlt
 have fd:Fr None w1 w1.drew:=(Fr.refl _ _).drew
 refine swpA (o1.none fd) rfl rfl (by omega) (by omega) fun w2 o2 f2=>?_
 have e2:IntKind.wrap .i64 ((i:Int)+1)=((i+1:Nat):Int):=wn (by omega) (by omega)
 have e3:IntKind.wrap .i64 ((j:Int) - 1)=((j - 1:Nat):Int):=wn (by omega) (by omega)
 rw [e2,e3]
 refine ⟨⟨i+1,j - 1,_,rfl,by omega,by omega,by omega,o2,Go.Sort.permIn_trans _ _ _ _ _ hp (Go.Sort.swp_permIn _ _ _ _ _ (by omega) (by omega) (by omega) (by omega) (by omega)),(f1.then fd.any).then f2⟩,?_⟩
 show (((j - 1:Nat):Int) - ((i+1:Nat):Int)).toNat < ((j:Int) - (i:Int)).toNat
 omega
theorem scanUpI (p:Int→Bool) (d:Array Int) {jhi:Int} {j:Nat} (hj:jhi=(j:Int)) (hjm:j≤1048576) {body:Int→(Bool→W R)→W R} {done:Int→W R} {i0:Nat} (hi0:i0≤1048577)
  (hb:∀ i w' J,i0≤i→i≤j→Fr None w w'→J (p d[i]!) Q w'→body (i:Int) J Q w') (hd:∀ w',Fr None w w'→done ((Go.Sort.scanUp p d j i0:Nat):Int) Q w') :
  loopW (fun K i=>joinW (σ:=Bool) (fun J=>drawW (cond (decide (i≤jhi)) (body i J) (J false))) fun b=>cond b (K (IntKind.wrap .i64 (i+1))) (done i)) (i0:Int) Q w:=by
 subst hj
 refine loopI (fun i w'=>∃ q:Nat,i=(q:Int)∧i0≤q∧q≤1048577∧Go.Sort.scanUp p d j q=Go.Sort.scanUp p d j i0∧Fr None w w') (fun i _=>j+1 - i.toNat) ⟨i0,rfl,Nat.le_refl _,hi0,rfl,Fr.refl _ _⟩ ?_
 rintro i w1 ⟨q,rfl,hq0,hq,he,f1⟩
 have f1d:=f1.then0 (Fr.refl None w1).drew
 have hdef:=Go.Sort.scanUp.eq_def p d j q
 refine joinI (fun z w'=>Fr None w w'∧z=(decide (q≤j) && p d[q]!)) ?_ ?_
 ·refine condD (fun h1=>?_) fun h1=>⟨f1d,?_⟩
  ·have h1:(q:Int)≤(j:Int):=h1
   refine hb q _ _ hq0 (by omega) f1d ⟨f1d,?_⟩
   rw [decide_eq_true (show q≤j by omega)]; rfl
  ·have h1:¬ (q:Int)≤(j:Int):=h1
   rw [decide_eq_false (show ¬ q≤j by omega)]; rfl
 ·rintro z w2 ⟨f2,hz⟩
  rw [← hz] at hdef
  cases z with
  | true =>
   simp only [if_true] at hdef
   have hqj:q≤j:=by
    have:=hz.symm
    simp only [Bool.and_eq_true,decide_eq_true_eq] at this
    exact this.1
   have e1:IntKind.wrap .i64 ((q:Int)+1)=((q+1:Nat):Int):=wn (by omega) (by omega)
   exact condT rfl ⟨⟨q+1,e1,by omega,by omega,by rw [← hdef,he],f2⟩,by rw [e1]; omega⟩
  | false =>
   simp only [Bool.false_eq_true,if_false] at hdef
   have:=hd w2 f2
   rw [← he,hdef] at this
   exact condF rfl this
theorem scanDownI (p:Int→Bool) (d:Array Int) {ilo:Int} {i:Nat} (hi:ilo=(i:Int)) (hi1:1≤i) {body:Int→(Bool→W R)→W R} {done:Int→W R} {j0:Nat} (hj0:j0≤1048577)
  (hb:∀ j w' J,i≤j→j≤j0→Fr None w w'→J (p d[j]!) Q w'→body (j:Int) J Q w') (hd:∀ w',Fr None w w'→done ((Go.Sort.scanDown p d i j0:Nat):Int) Q w') :
  loopW (fun K j=>joinW (σ:=Bool) (fun J=>drawW (cond (decide (ilo≤j)) (body j J) (J false))) fun b=>cond b (K (IntKind.wrap .i64 (j - 1))) (done j)) (j0:Int) Q w:=by
 subst hi
 refine loopI (fun j w'=>∃ q:Nat,j=(q:Int)∧q≤j0∧Go.Sort.scanDown p d i q=Go.Sort.scanDown p d i j0∧Fr None w w') (fun j _=>j.toNat) ⟨j0,rfl,Nat.le_refl _,rfl,Fr.refl _ _⟩ ?_
 rintro j w1 ⟨q,rfl,hq,he,f1⟩
 have f1d:=f1.then0 (Fr.refl None w1).drew
 refine joinI (fun z w'=>Fr None w w'∧z=(decide (i≤q) && p d[q]!)) ?_ ?_
 ·refine condD (fun h1=>?_) fun h1=>⟨f1d,?_⟩
  ·have h1:(i:Int)≤(q:Int):=h1
   refine hb q _ _ (by omega) hq f1d ⟨f1d,?_⟩
   rw [decide_eq_true (show i≤q by omega)]; rfl
  ·have h1:¬ (i:Int)≤(q:Int):=h1
   rw [decide_eq_false (show ¬ i≤q by omega)]; rfl
 ·rintro z w2 ⟨f2,hz⟩
  cases q with
  | zero =>
   have:z=false:=by rw [hz,decide_eq_false (by omega)]; rfl
   subst this
   have:=hd w2 f2
   rw [← he] at this
   exact condF rfl this
  | succ q =>
   have hdef:Go.Sort.scanDown p d i (q+1)=if (decide (i≤q+1) && p d[q+1]!)=true then Go.Sort.scanDown p d i q else q+1:=rfl
   rw [← hz] at hdef
   cases z with
   | true =>
    simp only [if_true] at hdef
    have e1:IntKind.wrap .i64 (((q+1:Nat):Int) - 1)=(q:Int):=wn (by omega) (by omega)
    exact condT rfl ⟨⟨q,e1,by omega,by rw [← hdef,he],f2⟩,by rw [e1]; omega⟩
   | false =>
    simp only [Bool.false_eq_true,if_false] at hdef
    have:=hd w2 f2
    rw [← he,hdef] at this
    exact condF rfl this
end
end Go.Proofs.YtoiahhpgkoknfaaGreat
namespace Go.Proofs.YtoiahhpgkoknfaaGreat
open Go Go.RowKit Go.Proofs.YtoiahhpgkoknfaaGreat.Den
open Go.Sort (swp ltInt PermIn SortedIn)
variable {R:Type} {Q:R→World→Prop} {w:World}
section
variable {S:Nat→Prop} {s:Sl} {d:Array Int}
theorem Zqs (h:DA S w s d) (hm:d.size≤1048576) {a b pivot:Nat} (h1:a≤pivot) (h2:pivot < b) (hb:b≤d.size) {K:Res [.sc (.int .i64)]→W R}
  (hk:∀ w',DA S w' s (Go.Sort.partitionEqual ltInt d a b pivot).2→Fr (OwnB s) w w'→K ((Go.Sort.partitionEqual ltInt d a b pivot).1:Int) Q w') :
  callW Tryz.prog Z1e [.slice s.a s.n s.c,.int .i64 (a:Int),.int .i64 (b:Int),.int .i64 (pivot:Int)] [.sc (.int .i64)] K Q w:=by
 refine Z5v _ _ _ _ K Q w ?_
 unfold Z2x
 have fd:Fr None w w.drew:=(Fr.refl _ _).drew
 refine swpA (h.none fd) rfl rfl (by omega) (by omega) fun w1 o1 f1=>?_
 have e1:IntKind.wrap .i64 ((a:Int)+1)=((a+1:Nat):Int):=wn (by omega) (by omega)
 have e2:IntKind.wrap .i64 ((b:Int) - 1)=((b - 1:Nat):Int):=wn (by omega) (by omega)
 rw [e1,e2]
 generalize hr:Go.Sort.partitionEqual ltInt d a b pivot=r at hk
 refine loopI (fun (st:Int × Int) w'=>∃ (i j:Nat) (e:Array Int),st=((i:Int),(j:Int))∧a < i∧i≤b∧j < b∧DA S w' s e∧e.size=d.size∧Go.Sort.partEqLoop ltInt a i j e=r∧Fr (OwnB s) w w') (fun st _=>(st.2+1 - st.1).toNat)
  ⟨a+1,b - 1,_,rfl,by omega,by omega,by omega,o1,szs _ _ _,by rw [← hr]; rfl,fd.any.then f1⟩ ?_
 rintro st w2 ⟨i,j,e,rfl,hi,hib,hj,o2,hz,he,f2⟩
 have hdef:=Go.Sort.partEqLoop_eq ltInt a i j e
 refine scanUpI (fun x=>!ltInt e[a]! x) e (jhi:=(j:Int)) rfl (by omega) (i0:=i) (by omega) (fun q w' J h1 h2 f hJ=>?_) fun w3 f3=>?_
 ·exact rdA (o2.none f) rfl (by omega) (rdA (o2.none f) rfl (by omega) (Zd hJ))
 have hge:=Go.Sort.scanUp_ge (fun x=>!ltInt e[a]! x) e j i
 generalize Go.Sort.scanUp (fun x=>!ltInt e[a]! x) e j i=i2 at hdef hge ⊢
 refine scanDownI (fun x=>ltInt e[a]! x) e (ilo:=(i2:Int)) rfl (by omega) (j0:=j) (by omega) (fun q w' J h1 h2 f hJ=>?_) fun w4 f4=>?_
 ·exact rdA ((o2.none f3).none f) rfl (by omega) (rdA ((o2.none f3).none f) rfl (by omega) (Zd hJ))
 have hle:=Go.Sort.scanDown_le (fun x=>ltInt e[a]! x) e i2 j
 generalize Go.Sort.scanDown (fun x=>ltInt e[a]! x) e i2 j=j2 at hdef hle ⊢
 have f24:=f3.then0 f4
 refine condD (fun hgt=>?_) fun hgt=>?_
 ·have hgt:(i2:Int) > (j2:Int):=hgt
  rw [if_pos (show i2 > j2 by omega)] at hdef
  have:r=(i2,e):=by rw [← he,hdef]
  subst this
  exact hk w4 (o2.none f24) (f2.then f24.any)
 ·have hgt:¬ (i2:Int) > (j2:Int):=hgt
  rw [if_neg (show ¬ i2 > j2 by omega)] at hdef
  have fd4:Fr None w4 w4.drew:=(Fr.refl _ _).drew
  refine swpA ((o2.none f24).none fd4) rfl rfl (by omega) (by omega) fun w5 o5 f5=>?_
  have e3:IntKind.wrap .i64 ((i2:Int)+1)=((i2+1:Nat):Int):=wn (by omega) (by omega)
  have e4:IntKind.wrap .i64 ((j2:Int) - 1)=((j2 - 1:Nat):Int):=wn (by omega) (by omega)
  rw [e3,e4]
  refine ⟨⟨i2+1,j2 - 1,_,rfl,by omega,by omega,by omega,o5,by rw [szs]; exact hz,by rw [← hdef,he],(f2.then (f24.then0 fd4).any).then f5⟩,?_⟩
  show (((j2 - 1:Nat):Int)+1 - ((i2+1:Nat):Int)).toNat < ((j:Int)+1 - (i:Int)).toNat
  omega
theorem Zu6 (h:DA S w s d) (hm:d.size≤1048576) {a b pivot:Nat} (h1:a≤pivot) (h2:pivot < b) (hb:b≤d.size) {K:Res [.sc (.int .i64),.sc .bool]→W R}
  (hk:∀ w',DA S w' s (Go.Sort.partition ltInt d a b pivot).2.2→Fr (OwnB s) w w'→K (((Go.Sort.partition ltInt d a b pivot).1:Int),(Go.Sort.partition ltInt d a b pivot).2.1) Q w') :
  callW Tryz.prog Z2a [.slice s.a s.n s.c,.int .i64 (a:Int),.int .i64 (b:Int),.int .i64 (pivot:Int)] [.sc (.int .i64),.sc .bool] K Q w:=by
 refine Z7l _ _ _ _ K Q w ?_
 unfold Z3x
 have fd:Fr None w w.drew:=(Fr.refl _ _).drew
 refine swpA (h.none fd) rfl rfl (by omega) (by omega) fun w1 o1 f1=>?_
 have e1:IntKind.wrap .i64 ((a:Int)+1)=((a+1:Nat):Int):=wn (by omega) (by omega)
 have e2:IntKind.wrap .i64 ((b:Int) - 1)=((b - 1:Nat):Int):=wn (by omega) (by omega)
 rw [e1,e2]
 have hr:Go.Sort.partition ltInt d a b pivot=if Go.Sort.scanUp (fun x=>ltInt x (swp d a pivot)[a]!) (swp d a pivot) (b - 1) (a+1) > Go.Sort.scanDown (fun x=>!ltInt x (swp d a pivot)[a]!) (swp d a pivot) (Go.Sort.scanUp (fun x=>ltInt x (swp d a pivot)[a]!) (swp d a pivot) (b - 1) (a+1)) (b - 1) then _ else _:=rfl
 generalize Go.Sort.partition ltInt d a b pivot=r at hk hr
 have hze:=szs d a pivot
 generalize swp d a pivot=e at o1 hr hze
 have f01:=fd.any.then f1
 refine scanUpI (fun x=>ltInt x e[a]!) e (jhi:=((b - 1:Nat):Int)) rfl (by omega) (i0:=a+1) (by omega) (fun q w' J h1 h2 f hJ=>?_) fun w3 f3=>?_
 ·exact rdA (o1.none f) rfl (by omega) (rdA (o1.none f) rfl (by omega) (Zd hJ))
 have hge:=Go.Sort.scanUp_ge (fun x=>ltInt x e[a]!) e (b - 1) (a+1)
 generalize Go.Sort.scanUp (fun x=>ltInt x e[a]!) e (b - 1) (a+1)=i2 at hr hge ⊢
 refine scanDownI (fun x=>!ltInt x e[a]!) e (ilo:=(i2:Int)) rfl (by omega) (j0:=b - 1) (by omega) (fun q w' J h1 h2 f hJ=>?_) fun w4 f4=>?_
 ·exact rdA ((o1.none f3).none f) rfl (by omega) (rdA ((o1.none f3).none f) rfl (by omega) (Zd hJ))
 have hle:=Go.Sort.scanDown_le (fun x=>!ltInt x e[a]!) e i2 (b - 1)
 generalize Go.Sort.scanDown (fun x=>!ltInt x e[a]!) e i2 (b - 1)=j2 at hr hle ⊢
 have f14:=f3.then0 f4
 have fd4:Fr None w4 w4.drew:=(Fr.refl _ _).drew
 have o4:=(o1.none f14).none fd4
 have f04:=f01.then (f14.then0 fd4).any
 refine condD (fun hgt=>?_) fun hgt=>?_
 ·have hgt:(i2:Int) > (j2:Int):=hgt
  rw [if_pos (show i2 > j2 by omega)] at hr
  subst hr
  exact swpA o4 rfl rfl (by omega) (by omega) fun w5 o5 f5=>hk w5 o5 (f04.then f5)
 ·have hgt:¬ (i2:Int) > (j2:Int):=hgt
  rw [if_neg (show ¬ i2 > j2 by omega)] at hr
  refine swpA o4 rfl rfl (by omega) (by omega) fun w5 o5 f5=>?_
  have e3:IntKind.wrap .i64 ((i2:Int)+1)=((i2+1:Nat):Int):=wn (by omega) (by omega)
  have e4:IntKind.wrap .i64 ((j2:Int) - 1)=((j2 - 1:Nat):Int):=wn (by omega) (by omega)
  rw [e3,e4]
  generalize hrr:Go.Sort.partLoop ltInt a (i2+1) (j2 - 1) (swp e i2 j2)=rr at hr
  refine loopI (fun (st:Int × Int) w'=>∃ (i j:Nat) (g:Array Int),st=((i:Int),(j:Int))∧a < i∧i≤b∧j < b∧DA S w' s g∧g.size=d.size∧Go.Sort.partLoop ltInt a i j g=rr∧Fr (OwnB s) w w') (fun st _=>(st.2+1 - st.1).toNat)
   ⟨i2+1,j2 - 1,_,rfl,by omega,by omega,by omega,o5,by rw [szs]; exact hze,hrr,f04.then f5⟩ ?_
  rintro st w6 ⟨i,j,g,rfl,hi,hib,hj,o6,hz,he,f6⟩
  have hdef:=Go.Sort.partLoop_eq ltInt a i j g
  refine scanUpI (fun x=>ltInt x g[a]!) g (jhi:=(j:Int)) rfl (by omega) (i0:=i) (by omega) (fun q w' J h1 h2 f hJ=>?_) fun w7 f7=>?_
  ·exact rdA (o6.none f) rfl (by omega) (rdA (o6.none f) rfl (by omega) (Zd hJ))
  have hge2:=Go.Sort.scanUp_ge (fun x=>ltInt x g[a]!) g j i
  generalize Go.Sort.scanUp (fun x=>ltInt x g[a]!) g j i=i3 at hdef hge2 ⊢
  refine scanDownI (fun x=>!ltInt x g[a]!) g (ilo:=(i3:Int)) rfl (by omega) (j0:=j) (by omega) (fun q w' J h1 h2 f hJ=>?_) fun w8 f8=>?_
  ·exact rdA ((o6.none f7).none f) rfl (by omega) (rdA ((o6.none f7).none f) rfl (by omega) (Zd hJ))
  have hle2:=Go.Sort.scanDown_le (fun x=>!ltInt x g[a]!) g i3 j
  generalize Go.Sort.scanDown (fun x=>!ltInt x g[a]!) g i3 j=j3 at hdef hle2 ⊢
  have f68:=f7.then0 f8
  have fd8:Fr None w8 w8.drew:=(Fr.refl _ _).drew
  have o8:=(o6.none f68).none fd8
  have f08:=f6.then (f68.then0 fd8).any
  refine condD (fun hgt=>?_) fun hgt=>?_
  ·have hgt:(i3:Int) > (j3:Int):=hgt
   rw [if_pos (show i3 > j3 by omega)] at hdef
   have:rr=(j3,g):=by rw [← he,hdef]
   subst this
   subst hr
   exact swpA o8 rfl rfl (by omega) (by omega) fun w9 o9 f9=>hk w9 o9 (f08.then f9)
  ·have hgt:¬ (i3:Int) > (j3:Int):=hgt
   rw [if_neg (show ¬ i3 > j3 by omega)] at hdef
   refine swpA o8 rfl rfl (by omega) (by omega) fun w9 o9 f9=>?_
   have e5:IntKind.wrap .i64 ((i3:Int)+1)=((i3+1:Nat):Int):=wn (by omega) (by omega)
   have e6:IntKind.wrap .i64 ((j3:Int) - 1)=((j3 - 1:Nat):Int):=wn (by omega) (by omega)
   rw [e5,e6]
   refine ⟨⟨i3+1,j3 - 1,_,rfl,by omega,by omega,by omega,o9,by rw [szs]; exact hz,by rw [← hdef,he],f08.then f9⟩,?_⟩
   show (((j3 - 1:Nat):Int)+1 - ((i3+1:Nat):Int)).toNat < ((j:Int)+1 - (i:Int)).toNat
   omega
theorem Zhj (d:Array Int) (b:Nat):∀ (n i:Nat),b - i≤n→i≤Go.Sort.scanSorted ltInt d b i∧(i≤b→Go.Sort.scanSorted ltInt d b i≤b)
 | 0,i,hn=>by
  rw [Go.Sort.scanSorted,if_neg (by simp; omega)]; exact ⟨Nat.le_refl _,fun h=>h⟩
 | n+1,i,hn=>by
  rw [Go.Sort.scanSorted]
  split
  ·rename_i h
   have hib:i < b:=by simp only [Bool.and_eq_true,decide_eq_true_eq] at h; exact h.1
   obtain ⟨h1,h2⟩:=Zhj d b n (i+1) (by omega)
   exact ⟨by omega,fun _=>h2 (by omega)⟩
  ·exact ⟨Nat.le_refl _,fun h=>h⟩
theorem Zpa (h:DA S w s d) (hm:d.size≤1048576) {a b:Nat} (hab:a < b) (hb:b≤d.size) {K:Res [.sc .bool]→W R}
  (hk:∀ w',DA S w' s (Go.Sort.partialInsertionSort ltInt d a b).1→Fr (OwnB s) w w'→K (Go.Sort.partialInsertionSort ltInt d a b).2 Q w') :
  callW Tryz.prog Zn [.slice s.a s.n s.c,.int .i64 (a:Int),.int .i64 (b:Int)] [.sc .bool] K Q w:=by
 refine Z4i _ _ _ K Q w ?_
 unfold Z1z
 have e1:IntKind.wrap .i64 ((a:Int)+1)=((a+1:Nat):Int):=wn (by omega) (by omega)
 have e2:IntKind.wrap .i64 ((b:Int) - (a:Int))=((b - a:Nat):Int):=wn (by omega) (by omega)
 rw [e1,e2]
 generalize hr:Go.Sort.partialInsertionSort ltInt d a b=r at hk
 refine loopI (fun (st:Int × Int) w'=>∃ (i n:Nat) (e:Array Int),st=((i:Int),5 - (n:Int))∧a < i∧i≤b∧n≤5∧DA S w' s e∧e.size=d.size∧Go.Sort.partialIns ltInt a b n i e=r∧Fr (OwnB s) w w') (fun st _=>(5 - st.2).toNat)
  ⟨a+1,5,d,rfl,by omega,by omega,by omega,h,rfl,by rw [← hr]; rfl,Fr.refl _ _⟩ ?_
 rintro st w1 ⟨i,n,e,rfl,hi,hib,hn,o1,hz,he,f1⟩
 refine condD (fun hlt=>?_) fun hge=>?_
 rotate_left
 ·have hge:¬ (5 - (n:Int)) < 5:=hge
  have:n=0:=by omega
  subst this
  have he:(e,false)=r:=he
  subst he
  exact hk w1 o1 f1
 have hlt:(5 - (n:Int)) < 5:=hlt
 obtain ⟨m,rfl⟩:∃ m,n=m+1:=⟨n - 1,by omega⟩
 have hdef:=Go.Sort.partialIns_succ (lt:=ltInt) a b m i e
 have hsc:=Zhj e b (b - i) i (Nat.le_refl _)
 refine loopI (fun q w'=>∃ q':Nat,q=(q':Int)∧i≤q'∧q'≤b∧Go.Sort.scanSorted ltInt e b q'=Go.Sort.scanSorted ltInt e b i∧Fr None w1 w') (fun q _=>b - q.toNat) ⟨i,rfl,Nat.le_refl _,hib,rfl,Fr.refl _ _⟩ ?_
 rintro q w2 ⟨q',rfl,hq1,hq2,heq,f2⟩
 have f2d:=f2.then0 (Fr.refl None w2).drew
 have hdq:=Go.Sort.scanSorted.eq_def ltInt e b q'
 have e3:IntKind.wrap .i64 ((q':Int) - 1)=((q' - 1:Nat):Int):=wn (by omega) (by omega)
 refine joinI (fun z w'=>Fr None w1 w'∧z=(decide (q' < b) && !ltInt e[q']! e[q' - 1]!)) ?_ ?_
 ·refine condD (fun h1=>?_) fun h1=>⟨f2d,?_⟩
  ·have h1:(q':Int) < (b:Int):=h1
   refine rdA (o1.none f2d) rfl (by omega) (rdA (o1.none f2d) e3 (by omega) (Zd ⟨f2d,?_⟩))
   rw [decide_eq_true (show q' < b by omega)]; rfl
  ·have h1:¬ (q':Int) < (b:Int):=h1
   rw [decide_eq_false (show ¬ q' < b by omega)]; rfl
 rintro z w3 ⟨f3,hzz⟩
 rw [← hzz] at hdq
 cases z with
 | true =>
  simp only [if_true] at hdq
  have hqb:q' < b:=by
   have:=hzz.symm
   simp only [Bool.and_eq_true,decide_eq_true_eq] at this
   exact this.1
  have e4:IntKind.wrap .i64 ((q':Int)+1)=((q'+1:Nat):Int):=wn (by omega) (by omega)
  exact condT rfl ⟨⟨q'+1,e4,by omega,by omega,by rw [← hdq,heq],f3⟩,by rw [e4]; omega⟩
 | false =>
  simp only [Bool.false_eq_true,if_false] at hdq
  rw [← heq,hdq] at hdef
  refine condF rfl ?_
  have o3:=o1.none f3
  have f03:=f1.then f3.any
  refine condE (fun eqb=>?_) fun neb=>?_
  ·have eqb:q'=b:=by omega
   rw [if_pos eqb] at hdef
   have:r=(e,true):=by rw [← he,hdef]
   subst this
   exact hk w3 o3 f03
  have neb:¬ q'=b:=fun h=>neb (by rw [h])
  rw [if_neg neb] at hdef
  refine condD (fun h50=>?_) fun h50=>?_
  ·have h50:((b - a:Nat):Int) < 50:=h50
   rw [if_pos (show b - a < 50 by omega)] at hdef
   have:r=(e,false):=by rw [← he,hdef]
   subst this
   exact hk w3 o3 f03
  have h50:¬ ((b - a:Nat):Int) < 50:=h50
  rw [if_neg (show ¬ b - a < 50 by omega)] at hdef
  have fd3:Fr None w3 w3.drew:=(Fr.refl _ _).drew
  refine swpA (o3.none fd3) rfl e3 (by omega) (by omega) fun w4 o4 f4=>?_
  have f04:=(f03.then fd3.any).then f4
  have hz4:(swp e q' (q' - 1)).size=d.size:=by rw [szs]; exact hz
  generalize swp e q' (q' - 1)=g4 at hdef o4 hz4
  have e5:IntKind.wrap .i64 ((q':Int) - (a:Int))=((q' - a:Nat):Int):=wn (by omega) (by omega)
  have e6:IntKind.wrap .i64 ((b:Int) - (q':Int))=((b - q':Nat):Int):=wn (by omega) (by omega)
  have e7:IntKind.wrap .i64 ((q':Int)+1)=((q'+1:Nat):Int):=wn (by omega) (by omega)
  rw [e5,e6,e3,e7]
  refine joinI (fun (_:Unit) w'=>DA S w' s (Go.Sort.fixDown ltInt a q' g4)∧(Go.Sort.fixDown ltInt a q' g4).size=d.size∧Fr (OwnB s) w w') ?_ ?_
  ·unfold Go.Sort.fixDown
   refine condD (fun h2=>?_) fun h2=>?_
   ·have h2:((q' - a:Nat):Int) ≥ 2:=h2
    rw [if_pos (show q' - a ≥ 2 by omega)]
    refine joinK ?_
    refine loopI (fun t w'=>∃ (k:Nat) (g:Array Int),t=(k:Int)∧k < b∧DA S w' s g∧g.size=d.size∧Go.Sort.shiftDown ltInt k g=Go.Sort.shiftDown ltInt (q' - 1) g4∧Fr (OwnB s) w w') (fun t _=>t.toNat) ⟨q' - 1,g4,rfl,by omega,o4,hz4,rfl,f04⟩ ?_
    rintro t w5 ⟨k,g,rfl,hkb,o5,hz5,he5,f5⟩
    refine condD (fun hk1=>?_) fun hk1=>?_
    ·have hk1:(k:Int) ≥ 1:=hk1
     obtain ⟨k',rfl⟩:∃ k',k=k'+1:=⟨k - 1,by omega⟩
     have e8:IntKind.wrap .i64 (((k'+1:Nat):Int) - 1)=(k':Int):=wn (by omega) (by omega)
     have fd5:Fr None w5 w5.drew:=(Fr.refl _ _).drew
     have hdf:Go.Sort.shiftDown ltInt (k'+1) g=if (!ltInt g[k'+1]! g[k']!)=true then g else Go.Sort.shiftDown ltInt k' (swp g (k'+1) k'):=rfl
     refine rdA (o5.none fd5) rfl (by omega) (rdA (o5.none fd5) e8 (by omega) (Zd ?_))
     refine condI (fun hbb=>?_) fun hbb=>?_
     ·rw [if_pos (show (!ltInt g[k'+1]! g[k']!)=true from hbb)] at hdf
      rw [← he5,hdf]
      exact ⟨o5.none fd5,hz5,f5.then fd5.any⟩
     ·rw [if_neg (show ¬ (!ltInt g[k'+1]! g[k']!)=true from fun h=>by rw [show (!ltInt g[k'+1]! g[k']!)=false from hbb] at h; cases h)] at hdf
      have fd6:=fd5.then0 (Fr.refl None w5.drew).drew
      refine swpA (o5.none fd6) rfl e8 (by omega) (by omega) fun w6 o6 f6=>⟨⟨k',_,e8,by omega,o6,by rw [szs]; exact hz5,by rw [← hdf,he5],(f5.then fd6.any).then f6⟩,by rw [e8]; omega⟩
    ·have hk1:¬ (k:Int) ≥ 1:=hk1
     have:k=0:=by omega
     subst this
     have he5:g=_:=he5
     rw [← he5]
     exact ⟨o5,hz5,f5⟩
   ·have h2:¬ ((q' - a:Nat):Int) ≥ 2:=h2
    rw [if_neg (show ¬ q' - a ≥ 2 by omega)]
    exact ⟨o4,hz4,f04⟩
  rintro _ w5 ⟨o5,hz5,f5⟩
  generalize Go.Sort.fixDown ltInt a q' g4=g5 at hdef o5 hz5
  refine joinI (fun (_:Unit) w'=>DA S w' s (Go.Sort.fixUp ltInt b q' g5)∧(Go.Sort.fixUp ltInt b q' g5).size=d.size∧Fr (OwnB s) w w') ?_ ?_
  ·unfold Go.Sort.fixUp
   refine condD (fun h2=>?_) fun h2=>?_
   ·have h2:((b - q':Nat):Int) ≥ 2:=h2
    rw [if_pos (show b - q' ≥ 2 by omega)]
    refine joinK ?_
    refine loopI (fun t w'=>∃ (k:Nat) (g:Array Int),t=(k:Int)∧1≤k∧k≤b∧DA S w' s g∧g.size=d.size∧Go.Sort.shiftUp ltInt b k g=Go.Sort.shiftUp ltInt b (q'+1) g5∧Fr (OwnB s) w w') (fun t _=>b - t.toNat) ⟨q'+1,g5,rfl,by omega,by omega,o5,hz5,rfl,f5⟩ ?_
    rintro t w6 ⟨k,g,rfl,hk1,hkb,o6,hz6,he6,f6⟩
    have hdf:=Go.Sort.shiftUp.eq_def ltInt b k g
    refine condD (fun hlt2=>?_) fun hlt2=>?_
    ·have hlt2:(k:Int) < (b:Int):=hlt2
     rw [if_pos (show k < b by omega)] at hdf
     have e8:IntKind.wrap .i64 ((k:Int) - 1)=((k - 1:Nat):Int):=wn (by omega) (by omega)
     have fd5:Fr None w6 w6.drew:=(Fr.refl _ _).drew
     refine rdA (o6.none fd5) rfl (by omega) (rdA (o6.none fd5) e8 (by omega) (Zd ?_))
     refine condI (fun hbb=>?_) fun hbb=>?_
     ·rw [if_pos (show (!ltInt g[k]! g[k - 1]!)=true from hbb)] at hdf
      rw [← he6,hdf]
      exact ⟨o6.none fd5,hz6,f6.then fd5.any⟩
     ·rw [if_neg (show ¬ (!ltInt g[k]! g[k - 1]!)=true from fun h=>by rw [show (!ltInt g[k]! g[k - 1]!)=false from hbb] at h; cases h)] at hdf
      have fd6:=fd5.then0 (Fr.refl None w6.drew).drew
      have e9:IntKind.wrap .i64 ((k:Int)+1)=((k+1:Nat):Int):=wn (by omega) (by omega)
      refine swpA (o6.none fd6) rfl e8 (by omega) (by omega) fun w7 o7 f7=>⟨⟨k+1,_,e9,by omega,by omega,o7,by rw [szs]; exact hz6,by rw [← hdf,he6],(f6.then fd6.any).then f7⟩,by rw [e9]; omega⟩
    ·have hlt2:¬ (k:Int) < (b:Int):=hlt2
     rw [if_neg (show ¬ k < b by omega)] at hdf
     rw [← he6,hdf]
     exact ⟨o6,hz6,f6⟩
   ·have h2:¬ ((b - q':Nat):Int) ≥ 2:=h2
    rw [if_neg (show ¬ b - q' ≥ 2 by omega)]
    exact ⟨o5,hz5,f5⟩
  rintro _ w6 ⟨o6,hz6,f6⟩
  have e8:IntKind.wrap .i64 (5 - ((m+1:Nat):Int)+1)=5 - (m:Int):=by rw [w64 (by omega)]; omega
  exact ⟨⟨q',m,_,by rw [e8],by omega,by omega,by omega,o6,hz6,by rw [← hdef,he],f6⟩,by
   show (5 - IntKind.wrap .i64 (5 - ((m+1:Nat):Int)+1)).toNat < (5 - (5 - ((m+1:Nat):Int))).toNat
   rw [e8]; omega⟩
end
end Go.Proofs.YtoiahhpgkoknfaaGreat
namespace Go.Proofs.YtoiahhpgkoknfaaGreat
open Go Go.RowKit Go.Proofs.YtoiahhpgkoknfaaGreat.Den
open Go.Sort (swp ltInt PermIn SortedIn)
variable {R:Type} {Q:R→World→Prop} {w:World}
section
variable {ok:Nat→Prop} {S:Nat→Prop} {s:Sl} {d:Array Int}
theorem rdS (h:SlT ok w bT s d.toList) {ie:Int} {j:Nat} (hi:ie=(j:Int)) (hj:j < d.size) {K:Int→W R} (hk:K d[j]! Q w):idxW s.a s.n 1 ie (fun a=>ld (.sc (.int .u8)) a K) Q w:=by
 refine h.get rfl hi (by simpa using hj) fun x hx=>?_
 rw [Array.getElem?_toList] at hx
 have e:d[j]! = x:=by
  rw [getElem!_pos d j hj]
  exact (Array.getElem?_eq_some_iff.1 hx).2
 rw [e] at hk
 exact hk
structure Cnt (ok:Nat→Prop) (g:Nat) (s:Sl) (d:Array Int) (w:World):Prop where
 sl:SlT ok w bT s d.toList
 ne:∀ k,ok k→k≠g
 blk:∃ n:Int,Blk w g 3 [.int .i64 n]
theorem Cnt.drew {g:Nat} (h:Cnt ok g s d w) {w':World} (f:Fr None w w'):Cnt ok g s d w':=⟨h.sl.fr0 f,h.ne,by obtain ⟨n,B⟩:=h.blk; exact ⟨n,B.fr f fun h=>h⟩⟩
theorem Zg8 {g:Nat} (h:Cnt ok g s d w) {a b:Nat} (ha:a < d.size) (hb:b < d.size) {K:Res [.sc (.int .i64),.sc (.int .i64)]→W R}
  (hk:∀ p q w',(p=a∧q=b)∨(p=b∧q=a)→Cnt ok g s d w'→Fr (fun k=>k=g) w w'→K ((p:Int),(q:Int)) Q w') :
  callW Tryz.prog Zv [.slice s.a s.n s.c,.int .i64 (a:Int),.int .i64 (b:Int),.pointer (some ⟨g,0,none⟩)] [.sc (.int .i64),.sc (.int .i64)] K Q w:=by
 refine Z91 _ _ _ _ K Q w ?_
 unfold Z4x
 have fd:Fr None w w.drew:=(Fr.refl _ _).drew
 have hd:=h.drew fd
 refine rdS hd.sl rfl hb (rdS hd.sl rfl ha (Zd ?_))
 refine condI (fun _=>?_) fun _=>hk a b _ (.inl ⟨rfl,rfl⟩) hd fd.any
 obtain ⟨n,B⟩:=hd.blk
 refine ptrI (fld0 (i:=0) (x:=n) B rfl ?_)
 refine ptrI (stoAll B rfl rfl fun w2 B2 f2 s2=>?_)
 refine hk b a w2 (.inr ⟨rfl,rfl⟩) ⟨hd.sl.fr f2 fun k hk e=>hd.ne k hk e,hd.ne,_,B2⟩ (fd.any.then f2)
theorem Zl0 {g:Nat} (h:Cnt ok g s d w) {a b c:Nat} (ha:a < d.size) (hb:b < d.size) (hc:c < d.size) {K:Res [.sc (.int .i64)]→W R}
  (hk:∀ p w',(p=a∨p=b∨p=c)→Cnt ok g s d w'→Fr (fun k=>k=g) w w'→K (p:Int) Q w') :
  callW Tryz.prog Z1r [.slice s.a s.n s.c,.int .i64 (a:Int),.int .i64 (b:Int),.int .i64 (c:Int),.pointer (some ⟨g,0,none⟩)] [.sc (.int .i64)] K Q w:=by
 refine Z90 _ _ _ _ _ K Q w ?_
 unfold Z4w
 refine Zg8 h ha hb fun p q w1 h1 c1 f1=>?_
 refine Zg8 c1 (a:=q) (b:=c) (by omega) hc fun p2 q2 w2 h2 c2 f2=>?_
 refine Zg8 c2 (a:=p) (b:=p2) (by omega) (by omega) fun p3 q3 w3 h3 c3 f3=>?_
 exact hk q3 w3 (by omega) c3 ((f1.then f2).then f3)
theorem Zbg {g:Nat} (h:Cnt ok g s d w) (hm:d.size≤1048576) {a:Nat} (ha:1≤a) (hb:a+1 < d.size) {K:Res [.sc (.int .i64)]→W R}
  (hk:∀ p w',(p=a - 1∨p=a∨p=a+1)→Cnt ok g s d w'→Fr (fun k=>k=g) w w'→K (p:Int) Q w') :
  callW Tryz.prog Za [.slice s.a s.n s.c,.int .i64 (a:Int),.pointer (some ⟨g,0,none⟩)] [.sc (.int .i64)] K Q w:=by
 refine Z5u _ _ _ K Q w ?_
 unfold Z2w
 rw [show IntKind.wrap .i64 ((a:Int) - 1)=((a - 1:Nat):Int) from wn (by omega) (by omega),show IntKind.wrap .i64 ((a:Int)+1)=((a+1:Nat):Int) from wn (by omega) (by omega)]
 exact Zl0 h (by omega) (by omega) (by omega) hk
theorem Zsl (h:DA S w s d) (hm:d.size≤1048576) {a b:Nat} (hab:a < b) (hb:b≤d.size) {K:Res [.sc (.int .i64),.sc (.int .i64)]→W R}
  (hk:∀ (p:Nat) (z:Int) w',a≤p→p < b→Fr None w w'→K ((p:Int),z) Q w') :
  callW Tryz.prog Z1x [.slice s.a s.n s.c,.int .i64 (a:Int),.int .i64 (b:Int)] [.sc (.int .i64),.sc (.int .i64)] K Q w:=by
 refine Z70 _ _ _ K Q w ?_
 unfold Z3k
 have e1:IntKind.wrap .i64 ((b:Int) - (a:Int))=((b - a:Nat):Int):=wn (by omega) (by omega)
 have e2:IntKind.wrap .i64 (Int.tdiv ((b - a:Nat):Int) 4)=(((b - a) / 4:Nat):Int):=wn (by rw [Int.tdiv_eq_ediv_of_nonneg (by omega)]; omega) (by omega)
 have e3:∀ n:Nat,n≤3→IntKind.wrap .i64 ((a:Int)+IntKind.wrap .i64 ((((b - a) / 4:Nat):Int) * (n:Int)))=((a+(b - a) / 4 * n:Nat):Int):=fun n hn=>by
  have h1:(b - a) / 4 * n≤(b - a) / 4 * 3:=Nat.mul_le_mul_left _ hn
  rw [wn (x:=(((b - a) / 4:Nat):Int) * (n:Int)) (n:=(b - a) / 4 * n) (by push_cast; rfl) (by omega)]
  exact wn (by push_cast; rfl) (by omega)
 have i1:=e3 1 (by omega)
 have i2:=e3 2 (by omega)
 have i3:=e3 3 (by omega)
 rw [e1,e2]
 rw [show (((1:Nat):Int))=1 from rfl] at i1
 rw [show (((2:Nat):Int))=2 from rfl] at i2
 rw [show (((3:Nat):Int))=3 from rfl] at i3
 rw [i1,i2,i3]
 have j1:a≤a+(b - a) / 4 * 1∧a+(b - a) / 4 * 1 < b:=by omega
 have j2:a≤a+(b - a) / 4 * 2∧a+(b - a) / 4 * 2 < b:=by omega
 have j3:a≤a+(b - a) / 4 * 3∧a+(b - a) / 4 * 3 < b:=by omega
 have k1:50≤b - a→1≤a+(b - a) / 4 * 1∧a+(b - a) / 4 * 1 - 1 ≥ a∧a+(b - a) / 4 * 1+1 < b:=by omega
 have k2:50≤b - a→1≤a+(b - a) / 4 * 2∧a+(b - a) / 4 * 2 - 1 ≥ a∧a+(b - a) / 4 * 2+1 < b:=by omega
 have k3:50≤b - a→1≤a+(b - a) / 4 * 3∧a+(b - a) / 4 * 3 - 1 ≥ a∧a+(b - a) / 4 * 3+1 < b:=by omega
 generalize a+(b - a) / 4 * 1=A1 at j1 k1
 generalize a+(b - a) / 4 * 2=A2 at j2 k2
 generalize a+(b - a) / 4 * 3=A3 at j3 k3
 clear i1 i2 i3 e3
 have hsl:SlT (fun k=>k < w.heap.size) w bT s d.toList:=h.sl.mono fun k hk _=>hk
 refine newI fun w1 B1 f1 s1=>?_
 have hc:Cnt (fun k=>k < w.heap.size) w.heap.size s d w1:=⟨hsl.fr0 f1,fun k hk=>by omega,0,B1⟩
 refine joinI (fun (p:Int) w'=>∃ q:Nat,p=(q:Int)∧a≤q∧q < b∧Cnt (fun k=>k < w.heap.size) w.heap.size s d w'∧Fr (fun k=>k=w.heap.size) w1 w') ?_ ?_
 ·refine condD (fun h8=>?_) fun h8=>⟨A2,rfl,j2.1,j2.2,hc,Fr.refl _ _⟩
  have h8:((b - a:Nat):Int) ≥ 8:=h8
  refine joinI (fun (t:Int × Int × Int) w'=>∃ x y z:Nat,t=((x:Int),(y:Int),(z:Int))∧(a≤x∧x < b)∧(a≤y∧y < b)∧(a≤z∧z < b)∧Cnt (fun k=>k < w.heap.size) w.heap.size s d w'∧Fr (fun k=>k=w.heap.size) w1 w') ?_ ?_
  ·refine condD (fun h50=>?_) fun h50=>⟨A1,A2,A3,rfl,j1,j2,j3,hc,Fr.refl _ _⟩
   have h50:((b - a:Nat):Int) ≥ 50:=h50
   have k1:=k1 (by omega)
   have k2:=k2 (by omega)
   have k3:=k3 (by omega)
   refine Zbg hc hm (by omega) (by omega) fun x w2 h2 c2 f2=>?_
   refine Zbg c2 hm (by omega) (by omega) fun y w3 h3 c3 f3=>?_
   refine Zbg c3 hm (by omega) (by omega) fun z w4 h4 c4 f4=>?_
   exact ⟨x,y,z,rfl,by omega,by omega,by omega,c4,(f2.then f3).then f4⟩
  ·rintro t w2 ⟨x,y,z,rfl,h1,h2,h3,c2,f2⟩
   refine Zl0 c2 (a:=x) (b:=y) (c:=z) (by omega) (by omega) (by omega) fun p w3 h4 c3 f3=>⟨p,rfl,by omega,by omega,c3,f2.then f3⟩
 ·rintro p w2 ⟨q,rfl,h1,h2,c2,f2⟩
  obtain ⟨n,B⟩:=c2.blk
  have fin:Fr None w w2:=f1.newer f2 fun k e=>by omega
  refine fld0 (i:=0) (x:=n) B rfl ?_
  exact condI (fun _=>hk q 1 w2 h1 h2 fin) fun _=>condI (fun _=>hk q 2 w2 h1 h2 fin) fun _=>hk q 0 w2 h1 h2 fin
theorem Zst {x y:Int} (h0:0≤y) (h1:y≤18446744073709551615):0≤bAnd .u64 x y∧bAnd .u64 x y≤y:=by
 unfold bAnd
 have e:((BitVec.ofInt 64 y).toNat:Int)=y:=by
  rw [BitVec.toNat_ofInt]
  have:(2:Int) ^ 64=18446744073709551616:=by decide
  omega
 have h2:(BitVec.ofInt IntKind.u64.bits x &&& BitVec.ofInt IntKind.u64.bits y).toNat≤(BitVec.ofInt 64 y).toNat:=by
  rw [BitVec.toNat_and]; exact Nat.and_le_right
 have h3:(((BitVec.ofInt IntKind.u64.bits x &&& BitVec.ofInt IntKind.u64.bits y).toNat:Nat):Int)≤y:=by omega
 rw [IntKind.wrap_u64]
 omega
theorem Zht {g:Nat} {T:TypeId} {v:Int} (B:Blk w g T [.int .u64 v]) {K:Res [.sc (.int .u64)]→W R} (hk:∀ x w',Blk w' g T [.int .u64 x]→Fr (fun k=>k=g) w w'→K x Q w') :
  callW Tryz.prog Z30 [.pointer (some ⟨g,0,none⟩)] [.sc (.int .u64)] K Q w:=by
 refine Zd7 _ K Q w ?_
 unfold Z75
 refine ptrI (fld0 (i:=0) (x:=v) B.drew rfl (ptrI (fld0 (i:=0) (x:=v) B.drew rfl (ptrI (stoAll B.drew rfl rfl fun w1 B1 f1 _=>?_)))))
 refine ptrI (fld0 (i:=0) B1.drew rfl (ptrI (fld0 (i:=0) B1.drew rfl (ptrI (stoAll B1.drew rfl rfl fun w2 B2 f2 _=>?_)))))
 refine ptrI (fld0 (i:=0) B2.drew rfl (ptrI (fld0 (i:=0) B2.drew rfl (ptrI (stoAll B2.drew rfl rfl fun w3 B3 f3 _=>?_)))))
 have fd:∀ {v:World},Fr (fun k=>k=g) v v.drew:=fun {v}=>(Fr.refl _ v).drew
 exact ptrI (fld0 (i:=0) B3 rfl (hk _ w3 B3 (((fd.then f1).then (fd.then f2)).then (fd.then f3))))
theorem Zmp {n:Nat} (h:0 < n) (hn:n≤1048576):1≤Lib.bitLen n∧Lib.bitLen n≤21∧2 ^ Lib.bitLen n≤2 * n:=by
 obtain ⟨h1,h2,_⟩:=Lib.bitLenAux_bounds 64 n (by omega) (by omega)
 have e:Lib.bitLen n=Lib.bitLenAux 64 n:=rfl
 rw [← e] at h1 h2
 refine ⟨h1,?_,?_⟩
 ·have : 2 ^ (Lib.bitLen n - 1) ≤ 2 ^ 20 := by have : (2 : Nat) ^ 20 = 1048576 := by decide
                                               omega
  have:=(Nat.pow_le_pow_iff_right (by omega:1 < 2)).1 this
  omega
 ·have:2 ^ Lib.bitLen n=2 * 2 ^ (Lib.bitLen n - 1):=by
   rw [← Nat.pow_succ',Nat.succ_eq_add_one,Nat.sub_add_cancel h1]
  omega
theorem Zsi (h:DA S w s d) (hm:d.size≤1048576) {a b:Nat} (hab:a < b) (hb:b≤d.size) {K:Res []→W R} (hk:∀ d' w',DA S w' s d'→PermIn a b d d'→Fr (OwnB s) w w'→K () Q w') :
  callW Tryz.prog Z1l [.slice s.a s.n s.c,.int .i64 (a:Int),.int .i64 (b:Int)] [] K Q w:=by
 refine Z67 _ _ _ K Q w ?_
 unfold Z35
 have e1:IntKind.wrap .i64 ((b:Int) - (a:Int))=((b - a:Nat):Int):=wn (by omega) (by omega)
 rw [e1]
 have e2:IntKind.wrap .i64 (Int.tdiv ((b - a:Nat):Int) 4)=(((b - a) / 4:Nat):Int):=wn (by rw [Int.tdiv_eq_ediv_of_nonneg (by omega)]; omega) (by omega)
 have e3:IntKind.wrap .i64 ((((b - a) / 4:Nat):Int) * 2)=(((b - a) / 4 * 2:Nat):Int):=wn (by push_cast; rfl) (by omega)
 have e4:IntKind.wrap .i64 ((a:Int)+(((b - a) / 4 * 2:Nat):Int))=((a+(b - a) / 4 * 2:Nat):Int):=wn (by push_cast; rfl) (by omega)
 have e5:IntKind.wrap .i64 (((a+(b - a) / 4 * 2:Nat):Int)+1)=((a+(b - a) / 4 * 2+1:Nat):Int):=wn (by push_cast; rfl) (by omega)
 rw [e2,e3,e4,e5]
 refine joinI (fun (_:Unit) w'=>∃ d',DA S w' s d'∧PermIn a b d d'∧Fr (OwnB s) w w') ?_ fun _ w' ⟨d',o,p,f⟩=>hk d' w' o p f
 refine condD (fun h8=>?_) fun h8=>⟨d,h,Go.Sort.permIn_refl _ _ _,Fr.refl _ _⟩
 have h8:((b - a:Nat):Int) ≥ 8:=h8
 have e6:IntKind.wrap .i64 (((a+(b - a) / 4 * 2:Nat):Int) - 1)=((a+(b - a) / 4 * 2 - 1:Nat):Int):=wn (by omega) (by omega)
 rw [e6]
 refine newI fun w1 B1 f1 s1=>stoAll B1 rfl rfl fun w2 B2 f2 s2=>?_
 have f02:Fr None w w2:=f1.newer f2 fun k e=>by omega
 refine Z69 _ _ _ w2 ?_
 unfold Z3y
 have e7:IntKind.wrap .u64 ((b - a:Nat):Int)=((b - a:Nat):Int):=by rw [IntKind.wrap_u64]; omega
 rw [e7]
 refine Z8x (by omega) (by omega) (chkI (by omega) ?_)
 rw [Int.toNat_natCast]
 obtain ⟨l1,l2,l3⟩:=Zmp (n:=b - a) (by omega) (by omega)
 generalize hL:Lib.bitLen (b - a)=L at l1 l2 l3
 have e8:shL .u64 1 (L:Int)=((2 ^ L:Nat):Int):=by
  unfold shL
  rw [Int.toNat_natCast,show min L IntKind.u64.bits=L from Nat.min_eq_left (by show L≤64; omega),IntKind.wrap_u64]
  have:(1:Int) * 2 ^ L=((2 ^ L:Nat):Int):=by rw [Int.one_mul]; push_cast; rfl
  rw [this]
  generalize 2 ^ L=M at l3
  omega
 rw [e8]
 have hpos:0 < 2 ^ L:=Nat.pow_pos (by omega)
 generalize 2 ^ L=M at l3 hpos
 have e9:IntKind.wrap .u64 ((M:Int) - 1)=(M:Int) - 1:=by rw [IntKind.wrap_u64]; omega
 unfold retW
 dsimp only
 rw [e9]
 have o2:DA (fun k=>S k∧k < w.heap.size) w2 s d:=Den.Own.st h f02 fun k hk e=>⟨fun h=>h,e,hk⟩
 refine loopI (fun i w'=>∃ (n:Nat) (e:Array Int),i=(n:Int)∧a+(b - a) / 4 * 2 - 1≤n∧n≤a+(b - a) / 4 * 2+2∧(∃ v:Int,Blk w' w.heap.size 344 [.int .u64 v])∧DA (fun k=>S k∧k < w.heap.size) w' s e∧PermIn a b d e∧Fr (fun k=>OwnB s k∨k=w.heap.size) w2 w') (fun i _=>a+(b - a) / 4 * 2+2 - i.toNat)
  ⟨_,d,rfl,Nat.le_refl _,by omega,⟨_,B2⟩,o2,Go.Sort.permIn_refl _ _ _,Fr.refl _ _⟩ ?_
 rintro i w3 ⟨n,e,rfl,hn1,hn2,⟨v,B3⟩,o3,hp,f3⟩
 have hz:=hp.1
 refine condD (fun hle=>?_) fun hgt=>?_
 ·have hle:(n:Int)≤((a+(b - a) / 4 * 2+1:Nat):Int):=hle
  refine Zht B3 fun x w4 B4 f4=>?_
  have o4:DA (fun k=>S k∧k < w.heap.size) w4 s e:=o3.fr f4 fun k hk e=>by omega
  obtain ⟨g1,g2⟩:=Zst (x:=x) (y:=(M:Int) - 1) (by omega) (by omega)
  generalize bAnd .u64 x ((M:Int) - 1)=y at g1 g2
  have ey:IntKind.wrap .i64 y=y:=w64 (by omega)
  rw [ey]
  refine joinI (fun (z:Int) w'=>w'=w4∧∃ q:Nat,z=(q:Int)∧q < b - a) ?_ ?_
  ·refine condD (fun h1=>⟨rfl,(y - ((b - a:Nat):Int)).toNat,?_,?_⟩) fun h1=>⟨rfl,y.toNat,by omega,?_⟩
   ·have h1:y ≥ ((b - a:Nat):Int):=h1
    rw [w64 (by omega)]; omega
   ·have h1:y ≥ ((b - a:Nat):Int):=h1
    omega
   ·have h1:¬ y ≥ ((b - a:Nat):Int):=h1
    omega
  ·rintro z w5 ⟨rfl,q,rfl,hq⟩
   have fd:Fr None w5 w5.drew:=(Fr.refl _ _).drew
   have e10:IntKind.wrap .i64 ((a:Int)+(q:Int))=((a+q:Nat):Int):=wn (by push_cast; rfl) (by omega)
   refine swpA (o4.none fd) rfl e10 (by omega) (by omega) fun w6 o6 f6=>?_
   have e11:IntKind.wrap .i64 ((n:Int)+1)=((n+1:Nat):Int):=wn (by push_cast; rfl) (by omega)
   refine ⟨⟨n+1,_,e11,by omega,by omega,⟨x,(B4.fr fd fun h=>h).fr f6 fun hk=>?_⟩,o6,Go.Sort.permIn_trans _ _ _ _ _ hp (Go.Sort.swp_permIn _ _ _ _ _ (by omega) (by omega) (by omega) (by omega) (by omega)),?_⟩,by rw [e11]; omega⟩
   ·have:=(o4.own _ hk).2; omega
   ·exact ((f3.then (f4.sub fun k e=>.inr e)).then fd.any).then (f6.sub fun k e=>.inl e)
 ·refine ⟨e,o3.mono fun k _ h=>h.1,hp,?_⟩
  refine f02.trans f3 (fun _ h=>h.elim) fun k hk e=>?_
  rcases e with e | e
  ·exact e
  ·omega
end
end Go.Proofs.YtoiahhpgkoknfaaGreat
namespace Go.Proofs.YtoiahhpgkoknfaaGreat
open Go Go.RowKit Go.Proofs.YtoiahhpgkoknfaaGreat.Den
open Go.Sort (swp ltInt PermIn SortedIn)
set_option maxHeartbeats 1000000 in
theorem Zvi (n:Nat):∀ {R:Type} {Q:R→World→Prop} {w:World} {S:Nat→Prop} {s:Sl} {d:Array Int} {a b:Nat} {limit:Int} {K:Res []→W R} (_h:DA S w s d) (_hm:d.size≤1048576) (_hab:a≤b) (_hb:b≤d.size) (_hB:Go.Sort.Below ltInt a b d) (_hn:b - a≤n)
  (_hk:∀ d' w',DA S w' s d'→PermIn a b d d'→SortedIn ltInt a b d'→Fr (OwnB s) w w'→K () Q w'),
  callW Tryz.prog Zq [.slice s.a s.n s.c,.int .i64 (a:Int),.int .i64 (b:Int),.int .i64 limit] [] K Q w:=by
 induction n using Nat.strongRecOn with
 | _ n ih =>
 intro R Q w S s d a b limit K h hm hab hb hB hn hk
 refine Z8s _ _ _ _ K Q w ?_
 unfold Z4n
 refine loopI (fun st w'=>∃ (a' b':Nat) (d':Array Int),st.1=(a':Int)∧st.2.1=(b':Int)∧a≤a'∧a'≤b'∧b'≤b∧DA S w' s d'∧d'.size=d.size∧Go.Sort.Below ltInt a' b' d' ∧
  (∀ X,PermIn a' b' d' X→SortedIn ltInt a' b' X→PermIn a b d X∧SortedIn ltInt a b X)∧Fr (OwnB s) w w') (fun st _=>(st.2.1 - st.1).toNat) ⟨a,b,d,rfl,rfl,Nat.le_refl _,hab,Nat.le_refl _,h,rfl,hB,fun X h1 h2=>⟨h1,h2⟩,Fr.refl _ _⟩ ?_
 rintro ⟨sa,sb,lim,wb,wp⟩ w1 ⟨a',b',d',e1,e2,ha,hab',hb',o1,hz,hB1,cl,f1⟩
 dsimp only at e1 e2 ⊢
 subst e1; subst e2
 have em:IntKind.wrap .i64 ((b':Int) - (a':Int))=((b' - a':Nat):Int):=wn (by omega) (by omega)
 rw [em]
 refine joinK (condD (fun h12=>?_) fun h12=>?_)
 ·refine Zvh o1 (by omega) hab' (by omega) fun w2 o2 f2=>?_
  obtain ⟨p1,p2⟩:=Go.Sort.insertionSort_holds swo d' a' b' hab' (by omega)
  obtain ⟨q1,q2⟩:=cl _ p1 p2
  exact hk _ w2 o2 q1 q2 (f1.then f2)
 have h12:¬ ((b' - a':Nat):Int)≤12:=h12
 have hlt:a' < b':=by omega
 refine condI (fun _=>?_) fun _=>?_
 ·refine Zu4 o1 (by omega) hlt (by omega) fun w2 o2 f2=>?_
  obtain ⟨p1,p2⟩:=Go.Sort.heapSort_holds swo d' a' b' hab' (by omega)
  obtain ⟨q1,q2⟩:=cl _ p1 p2
  exact hk _ w2 o2 q1 q2 (f1.then f2)
 refine joinI (fun (_:Int) w'=>∃ e,DA S w' s e∧PermIn a' b' d' e∧Fr (OwnB s) w w') ?_ ?_
 ·refine condI (fun _=>?_) fun _=>⟨d',o1,Go.Sort.permIn_refl _ _ _,f1⟩
  exact Zsi o1 (by omega) hlt (by omega) fun e w2 o2 p2 f2=>⟨e,o2,p2,f1.then f2⟩
 rintro lim2 w2 ⟨e,o2,p2,f2⟩
 have hz2:=p2.1
 refine Zsl o2 (by omega) hlt (by omega) fun p z w3 hp1 hp2 f3=>?_
 have f03:=f2.then f3.any
 have o3:=o2.none f3
 refine joinI (fun (t:Int × Int) w'=>∃ (q:Nat) (e:Array Int),t.1=(q:Int)∧a'≤q∧q < b'∧DA S w' s e∧PermIn a' b' d' e∧Fr (OwnB s) w w') ?_ ?_
 ·refine condI (fun _=>?_) fun _=>⟨p,e,rfl,hp1,hp2,o3,p2,f03⟩
  refine Zph o3 (by omega) hlt (by omega) fun g w4 o4 p4 f4=>⟨(b' - 1) - (p - a'),g,?_,by omega,by omega,o4,Go.Sort.permIn_trans _ _ _ _ _ p2 p4,f03.then f4⟩
  show IntKind.wrap .i64 (IntKind.wrap .i64 ((b':Int) - 1) - IntKind.wrap .i64 ((p:Int) - (a':Int)))=_
  rw [wn (x:=(b':Int) - 1) (n:=b' - 1) (by omega) (by omega),wn (x:=(p:Int) - (a':Int)) (n:=p - a') (by omega) (by omega)]
  exact wn (by omega) (by omega)
 rintro ⟨t1,t2⟩ w4 ⟨q,g,et,hq1,hq2,o4,p4,f4⟩
 dsimp only at et ⊢
 subst et
 have hz4:=p4.1
 refine joinI (fun (_:Bool) w'=>w'=w4) ?_ ?_
 ·exact condI (fun _=>condI (fun _=>rfl) fun _=>rfl) fun _=>rfl
 rintro z14 w5 rfl
 have hB4:Go.Sort.Below ltInt a' b' g:=hB1.perm (by omega) p4
 refine joinI (fun (_:Unit) w'=>∃ e,DA S w' s e∧PermIn a' b' d' e∧Fr (OwnB s) w w') ?_ ?_
 ·refine condI (fun _=>?_) fun _=>⟨g,o4,p4,f4⟩
  refine Zpa o4 (by omega) hlt (by omega) fun w6 o6 f6=>?_
  obtain ⟨c1,c2⟩:=Go.Sort.partialInsertionSort_holds swo g a' b' hlt (by omega) hB4
  have c3:=Go.Sort.permIn_trans _ _ _ _ _ p4 c1
  refine condI (fun hx=>?_) fun _=>⟨_,o6,c3,f4.then f6⟩
  obtain ⟨q1,q2⟩:=cl _ c3 (c2 hx)
  exact hk _ w6 o6 q1 q2 (f4.then f6)
 rintro _ w6 ⟨u,o6,p6,f6⟩
 have hz6:=p6.1
 have hB6:Go.Sort.Below ltInt a' b' u:=hB1.perm (by omega) p6
 refine joinI (fun z w'=>Fr None w6 w'∧(z=true→0 < a'∧ltInt u[a' - 1]! u[q]! = false)) ?_ ?_
 ·have fd:Fr None w6 w6.drew:=(Fr.refl _ _).drew
  refine condD (fun h0=>?_) fun _=>⟨fd,fun h=>by cases h⟩
  have h0:(a':Int) > 0:=h0
  refine rdA (o6.none fd) (j:=a' - 1) (wn (by omega) (by omega)) (by omega) (rdA (o6.none fd) rfl (by omega) (Zd ⟨fd,fun h=>⟨by omega,?_⟩⟩))
  show decide (u[a' - 1]! < u[q]!)=false
  simpa using h
 rintro z24 w7 ⟨f7,hz24⟩
 have o7:=o6.none f7
 have f07:=f6.then f7.any
 refine condI (fun hz=>?_) fun _=>?_
 ·obtain ⟨h0,hnl⟩:=hz24 hz
  refine Zqs o7 (by omega) hq1 hq2 (by omega) fun w8 o8 f8=>?_
  obtain ⟨r1,r2,r3,r4,r5⟩:=Go.Sort.round_eq (d4:=(Go.Sort.partitionEqual ltInt u a' b' q).2) (mid:=(Go.Sort.partitionEqual ltInt u a' b' q).1) swo (Go.Sort.partitionEqual_holds ltInt) h0 hq1 hq2 (by omega) hB6 hnl rfl
  generalize (Go.Sort.partitionEqual ltInt u a' b' q).1=mid at r1 r2 r4 r5 ⊢
  generalize (Go.Sort.partitionEqual ltInt u a' b' q).2=v at o8 r3 r4 r5
  refine ⟨⟨mid,b',v,rfl,rfl,by omega,by omega,hb',o8,by omega,r4,fun X x1 x2=>?_,f07.then f8⟩,?_⟩
  ·obtain ⟨y1,y2⟩:=r5 X x1 x2
   exact cl X (Go.Sort.permIn_trans _ _ _ _ _ p6 y1) y2
  ·show ((b':Int) - (mid:Int)).toNat < ((b':Int) - (a':Int)).toNat
   omega
 ·refine Zu6 o7 (by omega) hq1 hq2 (by omega) fun w8 o8 f8=>?_
  obtain ⟨r1,r2,r3,r4,r5,r6,r7⟩:=Go.Sort.round_part (d4:=(Go.Sort.partition ltInt u a' b' q).2.2) (ap:=(Go.Sort.partition ltInt u a' b' q).2.1) (mid:=(Go.Sort.partition ltInt u a' b' q).1) swo (Go.Sort.partition_holds ltInt) hq1 hq2 (by omega) hB6 rfl
  generalize (Go.Sort.partition ltInt u a' b' q).1=mid at r1 r2 r4 r5 r6 r7 ⊢
  generalize (Go.Sort.partition ltInt u a' b' q).2.1=ap at ⊢
  generalize (Go.Sort.partition ltInt u a' b' q).2.2=v at o8 r3 r4 r5 r6 r7
  have f08:=f07.then f8
  have e3:IntKind.wrap .i64 ((mid:Int)+1)=((mid+1:Nat):Int):=wn (by omega) (by omega)
  dsimp only
  rw [e3]
  refine joinI (fun (t:Int × Int × Bool) w'=>∃ (a2 b2:Nat) (X:Array Int),t.1=(a2:Int)∧t.2.1=(b2:Int)∧a'≤a2∧a2≤b2∧b2≤b'∧b2 - a2 < b' - a'∧DA S w' s X∧X.size=d.size∧Go.Sort.Below ltInt a2 b2 X ∧
   (∀ Y,PermIn a2 b2 X Y→SortedIn ltInt a2 b2 Y→PermIn a b d Y∧SortedIn ltInt a b Y)∧Fr (OwnB s) w w') ?_ ?_
  ·refine condD (fun _=>?_) fun _=>?_
   ·refine ih (mid - a') (by omega) o8 (by omega) r1 (by omega) r4 (Nat.le_refl _) fun L w9 o9 p9 s9 f9=>?_
    obtain ⟨y1,y2⟩:=r6 L p9 s9
    have:=p9.1
    refine ⟨mid+1,b',L,rfl,rfl,by omega,by omega,by omega,by omega,o9,by omega,y1,fun Y z1 z2=>?_,f08.then f9⟩
    obtain ⟨x1,x2⟩:=y2 Y z1 z2
    exact cl Y (Go.Sort.permIn_trans _ _ _ _ _ p6 x1) x2
   ·refine ih (b' - (mid+1)) (by omega) o8 (by omega) (by omega) (by omega) r5 (Nat.le_refl _) fun L w9 o9 p9 s9 f9=>?_
    obtain ⟨y1,y2⟩:=r7 L p9 s9
    have:=p9.1
    refine ⟨a',mid,L,rfl,rfl,by omega,by omega,by omega,by omega,o9,by omega,y1,fun Y z1 z2=>?_,f08.then f9⟩
    obtain ⟨x1,x2⟩:=y2 Y z1 z2
    exact cl Y (Go.Sort.permIn_trans _ _ _ _ _ p6 x1) x2
  ·rintro ⟨t1,t2,t3⟩ w9 ⟨a2,b2,X,e4,e5,h1,h2,h3,h4,o9,hz9,hB9,cl9,f9⟩
   dsimp only at e4 e5 ⊢
   subst e4; subst e5
   refine ⟨⟨a2,b2,X,rfl,rfl,by omega,h2,by omega,o9,hz9,hB9,cl9,f9⟩,?_⟩
   show ((b2:Int) - (a2:Int)).toNat < ((b':Int) - (a':Int)).toNat
   omega
section
variable {R:Type} {Q:R→World→Prop} {w:World} {S:Nat→Prop} {s:Sl} {l:List Int}
theorem Zu1 (h:Den.Own S w 5 bT s l) (hm:l.length≤1048576) {K:Res []→W R} (hk:∀ l' w',Den.Own S w' 5 bT s l'→l'.Perm l→l'.Pairwise (·≤·)→Fr (OwnB s) w w'→K () Q w') :
  callW Tryz.prog Z6p [.slice s.a s.n s.c] [] K Q w:=by
 have hn:s.n=l.length:=h.len
 refine Zgo _ K Q w ?_
 unfold Zah
 have e:IntKind.wrap .u64 (s.n:Int)=(s.n:Int):=by rw [IntKind.wrap_u64]; omega
 rw [e]
 refine Z8x (by omega) (by omega) ?_
 have hd:DA S w s l.toArray:=h
 have es:(s.n:Int)=((l.toArray.size:Nat):Int):=by rw [hn]; simp
 rw [es]
 refine Zvi l.toArray.size (a:=0) (b:=l.toArray.size) hd (by simpa using hm) (Nat.zero_le _) (Nat.le_refl _) (.inl rfl) (Nat.le_refl _) fun d' w' o p sr f=>?_
 refine hk d'.toList w' o ?_ ?_ f
 ·have:=p.2.2
  have e2:d'.extract 0 l.toArray.size=d':=by rw [← p.1]; simp
  rw [e2] at this
  simpa using this
 ·rw [List.pairwise_iff_getElem]
  intro i j hi hj hij
  have hz:=p.1
  simp only [Array.length_toList] at hi hj
  have:=sr i j (Nat.zero_le _) hij (by omega)
  rw [getElem!_pos d' j hj,getElem!_pos d' i hi] at this
  simp only [ltInt,decide_eq_false_iff_not] at this
  simp only [Array.getElem_toList]
  exact Int.not_lt.1 this
end
end Go.Proofs.YtoiahhpgkoknfaaGreat
set_option linter.unusedVariables false
namespace Go.Proofs.YtoiahhpgkoknfaaGreat
open Go Go.Proofs.YtoiahhpgkoknfaaGreat.Den
def Z8j (seq0:Value):W (Sl) :=
 callW Tryz.prog Z7y [seq0] [.sc .sl] fun (x_1:Sl) =>
 callW Tryz.prog Z6p [.slice x_1.a x_1.n x_1.c] [] fun (x_2:Unit) =>
 retW x_1
theorem Zer {R:Type} (seq0:Value) (K:Res [.sc .sl]→W R) (Q:R→World→Prop) (w:World) (h:Z8j seq0 (fun r w=>K r Q w) w):callW Tryz.prog Z5m [seq0] [.sc .sl] K Q w:=den_c (K:=K) mix Tryz.func265 {} trivial rfl (by kernel_rfl) h
def Z7o (seq0:Value):W (Sl) :=
 callW Tryz.prog Z6o [.slice none 0 0,seq0] [.sc .sl] fun (x_1:Sl) =>
 retW x_1
theorem Zde {R:Type} (seq0:Value) (K:Res [.sc .sl]→W R) (Q:R→World→Prop) (w:World) (h:Z7o seq0 (fun r w=>K r Q w) w):callW Tryz.prog Z7y [seq0] [.sc .sl] K Q w:=den_c (K:=K) mix Tryz.func288 {} trivial rfl (by kernel_rfl) h
end Go.Proofs.YtoiahhpgkoknfaaGreat
namespace Go.Proofs.YtoiahhpgkoknfaaGreat.Den
open Go Go.RowKit
variable {R:Type} {Q:R→World→Prop} {w:World} {α β:Type}
structure All2 (p:α→β→Prop) (l:List α) (k:List β):Prop where
 len:l.length=k.length
 at_:∀ (i:Nat) (a:α) (b:β),l[i]?=some a→k[i]?=some b→p a b
theorem All2.nil (p:α→β→Prop):All2 p [] []:=⟨rfl,fun i a b h=>by simp at h⟩
theorem All2.imp {p q:α→β→Prop} {l:List α} {k:List β} (h:All2 p l k) (hi:∀ a b,p a b→q a b):All2 q l k:=⟨h.len,fun i a b h1 h2=>hi a b (h.at_ i a b h1 h2)⟩
theorem All2.snoc {p:α→β→Prop} {l:List α} {k:List β} {a:α} {b:β} (h:All2 p l k) (hp:p a b):All2 p (l ++ [a]) (k ++ [b]):=by
 refine ⟨by simp [h.len],fun i x y h1 h2=>?_⟩
 have hl:=h.len
 by_cases hi:i < l.length
 ·rw [List.getElem?_append_left hi] at h1
  rw [List.getElem?_append_left (by omega)] at h2
  exact h.at_ i x y h1 h2
 ·rw [List.getElem?_append_right (by omega)] at h1 h2
  have hz:i - l.length=0:=by have:=(List.getElem?_eq_some_iff.1 h1).1; simp at this; omega
  rw [hz] at h1
  rw [show i - k.length=0 by omega] at h2
  simp at h1 h2
  subst h1; subst h2
  exact hp
theorem All2.get {p:α→β→Prop} {l:List α} {k:List β} (h:All2 p l k) {i:Nat} {b:β} (hb:k[i]?=some b):∃ a,l[i]?=some a∧p a b:=by
 obtain ⟨hl,_⟩:=List.getElem?_eq_some_iff.1 hb
 have ha:=List.getElem?_eq_getElem (l:=l) (i:=i) (by rw [h.len]; exact hl)
 exact ⟨_,ha,h.at_ i _ b ha hb⟩
theorem All2.getL {p:α→β→Prop} {l:List α} {k:List β} (h:All2 p l k) {i:Nat} {a:α} (ha:l[i]?=some a):∃ b,k[i]?=some b∧p a b:=by
 obtain ⟨hl,_⟩:=List.getElem?_eq_some_iff.1 ha
 have hb:=List.getElem?_eq_getElem (l:=k) (i:=i) (by rw [← h.len]; exact hl)
 exact ⟨_,hb,h.at_ i a _ ha hb⟩
theorem All2.take {p:α→β→Prop} {l:List α} {k:List β} (h:All2 p l k) (n:Nat):All2 p (l.take n) (k.take n):=by
 refine ⟨by simp [h.len],fun i a b h1 h2=>?_⟩
 rw [List.getElem?_take] at h1 h2
 split at h1
 ·rename_i hi; rw [if_pos hi] at h2; exact h.at_ i a b h1 h2
 ·cases h1
theorem All2.drop {p:α→β→Prop} {l:List α} {k:List β} (h:All2 p l k) (n:Nat):All2 p (l.drop n) (k.drop n):=by
 refine ⟨by simp [h.len],fun i a b h1 h2=>?_⟩
 rw [List.getElem?_drop] at h1 h2
 exact h.at_ _ a b h1 h2
abbrev Rel (α β:Type):=(Nat→Prop)→World→α→β→Prop
def Rel.st (ρ:Rel α β):Prop:=∀ a b,St fun F w=>ρ F w a b
structure DR {t:Ty} (ρ:Rel t.T β) (ok:Nat→Prop) (w:World) (s:Sl) (raws:List t.T) (L:List β):Prop where
 sl:SlT ok w t s raws
 all:All2 (fun a b=>ρ ok w a b) raws L
theorem DR.st {t:Ty} {ρ:Rel t.T β} (hρ:ρ.st) {s:Sl} {raws:List t.T} {L:List β}:St fun F w=>DR ρ F w s raws L:=fun {_F _F' _S _w _w'} h f hs =>
 ⟨SlT.st h.sl f hs,h.all.imp fun a b hab=>hρ a b hab f hs⟩
structure DO {t:Ty} (ρ:Rel t.T β) (E:TypeId) (S:Nat→Prop) (w:World) (s:Sl) (raws:List t.T) (L:List β) (lab:Nat→Nat):Prop where
 own:Own (fun k=>S k∧lab k=0) w E t s raws
 len:raws.length=L.length
 at_:∀ (i:Nat) (a:t.T) (b:β),raws[i]?=some a→L[i]?=some b→ρ (fun k=>S k∧lab k=i+1) w a b
section
variable {t:Ty} {ρ:Rel t.T β} {E:TypeId} {S:Nat→Prop} {s:Sl} {raws:List t.T} {L:List β} {lab:Nat→Nat}
theorem DO.nil (S:Nat→Prop) (w:World):DO ρ E S w ⟨none,0,0⟩ [] [] (fun _=>0):=⟨Own.nil _ _ _ _,rfl,fun i a b h=>by simp at h⟩
theorem DO.read (hρ:ρ.st) (h:DO ρ E S w s raws L lab):DR ρ S w s raws L:=⟨SlT.st.mono h.own.sl fun _ _ e=>e.1,h.len,fun i a b h1 h2=>St.mono (A:=fun F w=>ρ F w a b) (hρ a b) (h.at_ i a b h1 h2) fun _ _ e=>e.1⟩
theorem DO.fr (hρ:ρ.st) (h:DO ρ E S w s raws L lab) {S' T:Nat→Prop} {w':World} (f:Fr T w w') (hs:∀ k,k < w.heap.size→S k→¬ T k∧S' k):DO ρ E S' w' s raws L lab :=
 ⟨Own.st h.own f fun k hk e=>⟨(hs k hk e.1).1,(hs k hk e.1).2,e.2⟩,h.len,fun i a b h1 h2=>hρ a b (h.at_ i a b h1 h2) f fun k hk e=>⟨(hs k hk e.1).1,(hs k hk e.1).2,e.2⟩⟩
theorem DO.fr0 (hρ:ρ.st) (h:DO ρ E S w s raws L lab) {w':World} (f:Fr None w w'):DO ρ E S w' s raws L lab:=h.fr hρ f fun _ _ e=>⟨fun h=>h,e⟩
theorem DO.app {P:Program} {T ty:TypeId} {bytes:Nat} (H:SlTy P T E t bytes) (hρ:ρ.st) {w1:World} (h:DO ρ E S w1 s raws L lab) (f:Fr None w1 w) (hS:∀ k,w1.heap.size≤k→S k) {a:t.T} {b:β} (hab:ρ (fun k=>w1.heap.size≤k) w a b)
  {cs:List Value} (hc:cs=t.cells a) (hb:(L.length+1) * bytes≤140737488355328) (hm:L.length+1≤9223372036854775807) {K:Sl→W R}
  (hk:∀ r lab' w',DO ρ E S w' r (raws ++ [a]) (L ++ [b]) lab'→Fr (fun k=>s.v.ownBlock=some k) w w'→K r Q w') :
  newW E cs (fun x=>rawW P (Builtin.append_ #[T,T] ty #[.slice s.a s.n s.c,.slice (some x) 1 1]) [.sc .sl] K) Q w:=by
 have hfs:=f.size
 have hl:=h.len
 have o1:Own (fun k=>(S k∧lab k=0∧k < w1.heap.size)∨w.heap.size≤k) w E t s raws:=Own.st h.own f fun k hk e=>⟨fun h=>h,.inl ⟨e.1,e.2,hk⟩⟩
 have own0:∀ k,s.v.ownBlock=some k→lab k=0∧k < w1.heap.size:=fun k e=>⟨(h.own.own k e).2,h.own.lt e⟩
 refine appP H hc o1 (fun k e=>.inr e) (by rw [hl]; exact hb) (by rw [hl]; exact hm) fun r w' o' f'=>?_
 have hfs':=f'.size
 refine hk r (fun k=>if k < w1.heap.size then lab k else if k < w.heap.size then L.length+1 else 0) w' ⟨?_,by simp [hl],fun i x y h1 h2=>?_⟩ f'
 ·refine o'.mono fun k _ e=>?_
  rcases e with e | e
  ·exact ⟨e.1,by simp only [if_pos e.2.2]; exact e.2.1⟩
  ·exact ⟨hS k (by omega),by simp only [if_neg (show ¬ k < w1.heap.size by omega),if_neg (show ¬ k < w.heap.size by omega)]⟩
 ·by_cases hi:i < raws.length
  ·rw [List.getElem?_append_left hi] at h1
   rw [List.getElem?_append_left (by omega)] at h2
   have h3:=h.at_ i x y h1 h2
   refine hρ x y h3 (f.any.then f') fun k hk e=>⟨fun e2=>?_,e.1,?_⟩
   ·have:=(own0 k e2).1; omega
   ·simp only [if_pos hk]; exact e.2
  ·rw [List.getElem?_append_right (by omega)] at h1 h2
   have hz:i - raws.length=0:=by have:=(List.getElem?_eq_some_iff.1 h1).1; simp at this; omega
   rw [hz] at h1
   rw [show i - L.length=0 by omega] at h2
   simp at h1 h2
   subst h1; subst h2
   refine hρ a b hab f' fun k hk e=>⟨fun e2=>?_,hS k e,?_⟩
   ·have:=(own0 k e2).2; omega
   ·have e:w1.heap.size≤k:=e
    simp only [if_neg (show ¬ k < w1.heap.size by omega),if_pos hk]
    omega
end
end Go.Proofs.YtoiahhpgkoknfaaGreat.Den
namespace Go.Proofs.YtoiahhpgkoknfaaGreat
open Go Go.RowKit Go.Proofs.YtoiahhpgkoknfaaGreat.Den
variable {R:Type} {Q:R→World→Prop} {w:World}
abbrev Rk:Value→Option (DataW Unit × List MemPlace):=fun _=>some (.lit (.bool true),[])
theorem Den.MapB.keysD {b:Nat} {f:Int→Option Value} (h:MapB Tryz.prog 5 (Value.int .u8) w b f) (hf:∀ i v,f i=some v→0≤i∧i < 64) :
  ∃ D0:DataW Unit,w.ownsMap Tryz.prog 5 Rk b 64 D0∧(∀ x,Go.Maps.has D0 (.int .u8 x)=true↔(f x).isSome=true)∧Go.Maps.size D0≤64:=by
 obtain ⟨es,clock,hb,hst,hks,hki,hpw,hff⟩:=h
 have hlen:es.toList.length≤64:=by
  have h1:(es.toList.map (·.key)).length≤((List.range 64).map fun (n:Nat)=>Value.int .u8 (n:Int)).length:=List.Nodup.length_le_of_subset hst.2.2 fun k hk=>by
   obtain ⟨x,hx,rfl⟩:=List.mem_map.1 hk
   obtain ⟨i,hi⟩:=hki x hx
   obtain ⟨h0,h1⟩:=hf i x.val ((hff i _).2 ⟨x,hx,hi,rfl⟩)
   exact List.mem_map.2 ⟨i.toNat,by simp; omega,by rw [hi]; congr 1; omega⟩
  simpa using h1
 have hrd:∀ x∈es.toList,∃ i:Int,x.key=.int .u8 i∧Go.WideElems.rg Tryz.prog 5 Rk x=(.int .u8 i,.lit (.bool true)):=fun x hx=>by
  obtain ⟨l,hl⟩:=hks x hx
  obtain ⟨i,hi,rfl,_⟩:=Seq.Maps.keyOf_u8 u8_und hl
  refine ⟨i,hi,Go.WideElems.rg_of ?_⟩
  simp [Go.WideElems.rd,hl,Rk]
 refine ⟨.map ((es.toList.map (Go.WideElems.rg Tryz.prog 5 Rk)).foldr DataW.insert []),⟨es,clock,hb,⟨?_,hst,fun x hx=>?_⟩,?_,rfl⟩,fun x=>?_,?_⟩
 ·rw [Zc]; simp at hlen; omega
 ·obtain ⟨l,hl⟩:=hks x hx
  exact ⟨_,by simp [Go.WideElems.rd,hl,Rk]; rfl⟩
 ·simpa using hlen
 ·rw [Go.Maps.has_eq,List.any_eq_true]
  constructor
  ·rintro ⟨p,hp,hs⟩
   obtain ⟨e,he,rfl⟩:=List.mem_map.1 (mem_sorted.1 hp)
   obtain ⟨i,hi,hr⟩:=hrd e he
   rw [hr] at hs
   have:i=x:=by simpa [Lit.sameKey] using hs
   subst this
   rw [(hff i e.val).2 ⟨e,he,hi,rfl⟩]; rfl
  ·intro hs
   obtain ⟨v,hv⟩:=Option.isSome_iff_exists.1 hs
   obtain ⟨e,he,hk,_⟩:=(hff x v).1 hv
   obtain ⟨i,hi,hr⟩:=hrd e he
   have:i=x:=by rw [hk] at hi; cases hi; rfl
   subst this
   exact ⟨_,mem_sorted.2 (List.mem_map.2 ⟨e,he,rfl⟩),by rw [hr]; simp [Lit.sameKey]⟩
 ·rw [Go.Maps.size_eq,(Go.WideShapes.sorted_perm _).length_eq,List.length_map]; exact hlen
theorem Zux (l:List Int):l.flatMap bT.cells=l.map Seq.encB:=by
 induction l with
 | nil=>rfl
 | cons x r ih=>rw [List.flatMap_cons,ih]; rfl
theorem Zkv {b B:Nat} {f:Int→Option Value} (h:MapB Tryz.prog 5 (Value.int .u8) w b f) (hf:∀ i v,f i=some v→0≤i∧i < 64) {T:TypeId} (hB:Blk w B T [.map (some b)]) {K:Res [.sc .sl]→W R}
  (hk:∀ s l w',Den.Own (Up w.heap.size) w' 5 bT s l→l.Nodup→(∀ x,x∈l↔(f x).isSome=true)→l.length≤64→Fr None w w'→K s Q w') :
  callW Tryz.prog Z6o [.slice none 0 0,.func (.func Z8p) #[] #[.pointer (some ⟨B,0,none⟩)]] [.sc .sl] K Q w:=by
 obtain ⟨D0,hown,hhas,hsz⟩:=h.keysD hf
 have hcell:w.cell? ⟨B,0,none⟩=some (.map (some b)):=hB.rd (s:=.map) (i:=0) (x:=some b) rfl
 have hseq:=Seq.bk_keys_gives (R:=Rk) Fence.wide (3 - 1) trivial rfl (by decide) B b 64 D0 w hB.lt hcell hown
 have:=Seq.bk_appendSeq_in Fence.wide 3 trivial rfl (by decide) Z8p #[.pointer (some ⟨B,0,none⟩)] trivial (enters_of Tryz.func290 (by kernel_rfl) rfl)
  (Seq.KeysB D0) (Go.Maps.size D0) (by rw [Zc]; omega) (by omega) w hseq
 refine (callsIn_wide.1 this).mono fun e w' ⟨v,ss,he,hK,hrow,_,hbl⟩=>?_
 have hfr:Fr None w w':=⟨hbl.os,hbl.tape,hbl.output,hbl.size,fun k hk _=>hbl.block k hk⟩
 have hlen:ss.length≤64:=by
  have h1:ss.length≤((List.range 64).map fun (n:Nat)=>(n:Int)).length:=List.Nodup.length_le_of_subset hK.1 fun k hk=>by
   obtain ⟨v,hv⟩:=Option.isSome_iff_exists.1 ((hhas k).1 ((hK.2 k).1 hk))
   obtain ⟨h0,h1⟩:=hf k v hv
   exact List.mem_map.2 ⟨k.toNat,by simp; omega,by omega⟩
  simpa using h1
 obtain ⟨s,rfl,hs⟩:∃ s:Sl,v=s.v∧Den.Own (Up w.heap.size) w' 5 bT s ss:=by
  rcases hrow.2 with ⟨rfl,h0⟩ | ⟨g,cap,cur,rfl,hg,h3,h4,h5,h6,h7⟩
  ·have:ss=[]:=List.eq_nil_of_length_eq_zero h0
   subst this
   exact ⟨⟨none,0,0⟩,rfl,Den.Own.nil _ _ _ _⟩
  ·exact ⟨⟨some ⟨g,0,none⟩,ss.length,cap⟩,rfl,Den.Own.mk' hg h3 h4 h5 h6 (by rw [Zux]; exact h7)⟩
 exact ⟨s,he,hk s ss w' hs hK.1 (fun x=>(hK.2 x).trans (hhas x)) hlen hfr⟩
theorem Zkx {b:Nat} {f:Int→Option Value} (h:MapB Tryz.prog 5 (Value.int .u8) w b f) (hf:∀ i v,f i=some v→0≤i∧i < 64) {K:Res [.sc .sl]→W R}
  (hk:∀ s l w',Den.Own (Up w.heap.size) w' 5 bT s l→l.Nodup→(∀ x,x∈l↔(f x).isSome=true)→l.length≤64→l.Pairwise (·≤·)→Fr None w w'→K s Q w') :
  callW Tryz.prog Z7b [.map (some b)] [.sc .raw] (fun v=>callW Tryz.prog Z5m [v] [.sc .sl] K) Q w:=by
 refine Zhy _ _ _ _ ?_
 unfold Zbn
 refine newI fun w1 B1 f1 s1=>?_
 refine Zer _ _ _ _ ?_
 unfold Z8j
 refine Zde _ _ _ _ ?_
 unfold Z7o
 refine Zkv (h.fr f1 fun h=>h) hf B1 fun s l w2 o2 hn hm hl f2=>?_
 have hs1:=f1.size
 refine Zu1 o2 (by omega) fun l' w3 o3 hp hpw f3=>?_
 refine hk s l' w3 (o3.up hs1) (hp.nodup_iff.2 hn) (fun x=>(hp.mem_iff).trans (hm x)) (by rw [hp.length_eq]; exact hl) hpw ?_
 exact (f1.then0 f2).newer f3 fun k e=>by have:w1.heap.size≤k:=o2.own k e; omega
abbrev grpT:Ty:=.agg [.int .u8,.sl]
theorem Zwf:SlTy Tryz.prog 318 321 grpT 32:=slTy (by kernel_rfl)
def grpO:Rel (Int × Sl) (Int × List Int):=fun F w r g=>r.1=g.1∧Den.Own F w 34 idT r.2 g.2
theorem Zta:grpO.st:=fun _ _=>fun ⟨h1,h2⟩ f hs=>⟨h1,Den.Own.st h2 f hs⟩
def grpL (T:Nat→List Ent) (l:List Int):List (Int × List Int):=(l.filter fun m=>decide (T m.toNat≠[])).map fun m=>(m,(T m.toNat).map (·.1))
def groupsM (T:Nat→List Ent):List (Int × List Int):=grpL T ((List.range 64).map fun (n:Nat)=>(n:Int))
theorem Zt9 (T:Nat→List Ent) (l:List Int) (m:Int):grpL T (l ++ [m])=if T m.toNat≠[] then grpL T l ++ [(m,(T m.toNat).map (·.1))] else grpL T l:=by
 unfold grpL
 rw [List.filter_append]
 by_cases h:T m.toNat≠[]
 ·rw [if_pos h,List.filter_cons_of_pos (by simpa using h)]; simp
 ·rw [if_neg h,List.filter_cons_of_neg (by simpa using h)]; simp
theorem Zr8 (T:Nat→List Ent) (l:List Int):(grpL T l).length≤l.length:=by
 unfold grpL; rw [List.length_map]; exact List.length_filter_le _ _
theorem Zv1 {T:Nat→List Ent} {l:List Int} (hn:l.Nodup) (hs:l.Pairwise (·≤·)) (hm:∀ x:Int,(0≤x∧x < 64∧T x.toNat≠[])→x∈l) (hb:∀ x∈l,0≤x∧x < 64):grpL T l=groupsM T:=by
 unfold groupsM grpL
 congr 1
 refine List.Perm.eq_of_pairwise (le:=fun a b=>a≤b) (fun a b _ _ h1 h2=>Int.le_antisymm h1 h2) (hs.filter _) (List.Pairwise.filter _ ?_) ?_
 ·rw [List.pairwise_map]
  exact (List.pairwise_lt_range).imp fun h=>by omega
 ·refine (List.perm_ext_iff_of_nodup (List.Pairwise.filter _ hn) (List.Pairwise.filter _ ?_)).2 fun x=>?_
  ·rw [List.pairwise_map]
   exact (List.pairwise_lt_range).imp fun h=>by omega
  ·rw [List.mem_filter,List.mem_filter]
   constructor
   ·rintro ⟨h1,h2⟩
    obtain ⟨h3,h4⟩:=hb x h1
    exact ⟨List.mem_map.2 ⟨x.toNat,by simp; omega,by omega⟩,h2⟩
   ·rintro ⟨h1,h2⟩
    obtain ⟨n,hn,rfl⟩:=List.mem_map.1 h1
    simp at hn
    exact ⟨hm _ ⟨by omega,by omega,by simpa using h2⟩,h2⟩
theorem Zij {F:Nat→Prop} {b:Nat} {x:StM} (h:Store b x F w) {K:Res [.sc .sl]→W R}
  (hk:∀ r raws lab w',DO grpO (t:=grpT) 321 (Up w.heap.size) w' r raws (groupsM x.tab) lab→Fr None w w'→K r Q w') :
  callW Tryz.prog Z8r [.pointer (some ⟨b,0,none⟩)] [.sc .sl] K Q w:=by
 obtain ⟨ok,lab,sb,tb,hb,tp,D,hF,hR⟩:=h
 refine Zet _ K Q w ?_
 unfold Z8l
 refine condF rfl (ptrI (fldI hR.blk.2 (x:=some tb) rfl ?_))
 have htf:∀ i v,tabsF tp D i=some v→0≤i∧i < 64:=fun i v hv=>by
  unfold tabsF at hv
  split at hv
  ·rename_i h; exact ⟨h.1,h.2.1⟩
  ·cases hv
 have hti:∀ i,(tabsF tp D i).isSome=true↔0≤i∧i < 64∧D i.toNat=true:=fun i=>by
  unfold tabsF
  split
  ·rename_i h; simpa using h
  ·rename_i h; simpa using h
 refine Zkx hR.tabs.2 htf fun s l w1 o1 hn hm hl hs f1=>?_
 have hs1:=f1.size
 refine rangeI (t:=bT) (ok:=Up w.heap.size) (l:=l) (fun s:Sl × Int=>s.2) (fun j st w'=>st.2=(j:Int)∧Fr None w1 w'∧∃ raws lab',DO grpO (t:=grpT) 321 (Up w1.heap.size) w' st.1 raws (grpL x.tab (l.take j)) lab') rfl ⟨rfl,Fr.refl _ _,[],_,DO.nil _ _⟩ (fun j st w' h=>h.1) (fun j st w' hp=>o1.sl.fr0 hp.2.1) ?_ ?_
 ·rintro j y ⟨out,_⟩ w2 K' hy ⟨rfl,f2,raws,lab',hD⟩ - hK
  have hjl:=(List.getElem?_eq_some_iff.1 hy).1
  have hs2:=f2.size
  have R2:=hR.fr0 (f1.then0 f2)
  obtain ⟨h0,h64,hDm⟩:=(hti y).1 ((hm y).1 (List.mem_of_getElem? hy))
  obtain ⟨m,rfl⟩:∃ m:Nat,y=(m:Int):=⟨y.toNat,(Int.toNat_of_nonneg h0).symm⟩
  rw [Int.toNat_natCast] at hDm
  have hm64:m < 64:=by omega
  refine ptrI (fldI R2.blk.2 (x:=some tb) rfl (R2.lookTab hm64 ?_))
  rw [if_pos hDm]
  obtain ⟨lt,hlt,htab⟩:=R2.tab m hm64 hDm
  have hsn:=Zt9 x.tab (l.take j) (m:Int)
  rw [Int.toNat_natCast,← Zr hy] at hsn
  have hgl:=Zr8 x.tab (l.take j)
  rw [List.length_take] at hgl
  refine Zj6 htab ?_
  refine joinI (fun (z:Sl) w'=>Fr None w1 w'∧∃ raws lab',DO grpO (t:=grpT) 321 (Up w1.heap.size) w' z raws (grpL x.tab (l.take (j+1))) lab') ?_ ?_
  ·refine condD (fun hp=>?_) fun hp=>?_
   ·have hp:((x.tab m).length:Int) > 0:=hp
    have hne:x.tab m≠[]:=fun e=>by rw [e] at hp; simp at hp
    rw [if_pos hne] at hsn
    rw [hsn]
    refine Zpl htab fun r w3 o3 f3=>?_
    refine hD.app (a:=((m:Int),r)) (b:=((m:Int),(x.tab m).map (·.1))) Zwf Zta f3 (fun k e=>Nat.le_trans hs2 e) ⟨rfl,o3⟩ rfl (by omega) (by omega) fun r' lab2 w4 hD4 f4=>?_
    exact ⟨(f2.then0 f3).newer f4 fun k e=>(hD.own.own k e).1,_,lab2,hD4⟩
   ·have hp:¬ ((x.tab m).length:Int) > 0:=hp
    have he:x.tab m=[]:=List.eq_nil_of_length_eq_zero (by omega)
    rw [if_neg (fun h=>h he)] at hsn
    rw [hsn]
    exact ⟨f2,raws,lab',hD⟩
  ·rintro z w3 ⟨f3,raws',lab2,hD3⟩
   exact hK _ _ ⟨wsucc hjl (by omega),f3,raws',lab2,hD3⟩
 ·rintro ⟨out,_⟩ w2 ⟨-,f2,raws,lab',hD⟩
  rw [List.take_length] at hD
  have e:grpL x.tab l=groupsM x.tab:=Zv1 hn hs (fun y ⟨h1,h2,h3⟩=>(hm y).2 ((hti y).2 ⟨h1,h2,by
   cases hDy:D y.toNat with
   | true=>rfl
   | false=>exact absurd (hR.no y.toNat (by omega) hDy) h3⟩)) fun y hy=>by
    have:=(hti y).1 ((hm y).1 hy)
    exact ⟨this.1,this.2.1⟩
  rw [e] at hD
  exact hk out raws lab' w2 (hD.fr Zta (Fr.refl None w2) fun k _ e=>⟨fun h=>h,Nat.le_trans hs1 e⟩) (f1.then0 f2)
end Go.Proofs.YtoiahhpgkoknfaaGreat
namespace Go.Proofs.YtoiahhpgkoknfaaGreat
open Go Go.RowKit Go.Proofs.YtoiahhpgkoknfaaGreat.Den
theorem SM.mem_ids {s:SM} (hs:s.used.length=s.n) {id:Int}:∀ {j:Nat},j≤s.n→(id∈s.ids j↔∃ (i:Nat) (g:Int),i < j∧id=idOf i g∧s.used[i]?=some true∧s.gen[i]?=some g)
 | 0,_=>by simp [SM.ids]
 | j+1,h=>by
  have hj:j < s.used.length:=by omega
  have hg:j < s.gen.length:=h
  rw [SM.ids,List.mem_append,SM.mem_ids hs (by omega),List.getElem?_eq_getElem hj,List.getElem?_eq_getElem hg]
  constructor
  ·rintro (⟨i,g,h1,h2⟩ | h1)
   ·exact ⟨i,g,by omega,h2⟩
   ·cases hu:s.used[j] with
    | true =>
     rw [hu] at h1
     simp only [List.mem_singleton] at h1
     exact ⟨j,s.gen[j],by omega,h1,by rw [List.getElem?_eq_getElem hj,hu],List.getElem?_eq_getElem hg⟩
    | false=>rw [hu] at h1; cases h1
  ·rintro ⟨i,g,h1,h2,h3,h4⟩
   by_cases hij:i=j
   ·subst hij
    rw [List.getElem?_eq_getElem hj] at h3
    rw [List.getElem?_eq_getElem hg] at h4
    simp only [Option.some.injEq] at h3 h4
    right
    rw [h3,h4]
    simpa using h2
   ·exact .inl ⟨i,g,by omega,h2,h3,h4⟩
theorem SM.ids_slots {s:SM} (hs:s.used.length=s.n) (hn:s.n≤1024):∀ {j:Nat},j≤s.n→(s.ids j).Pairwise fun a b=>slotOf a < slotOf b
 | 0,_=>List.Pairwise.nil
 | j+1,h=>by
  rw [SM.ids,List.pairwise_append]
  refine ⟨SM.ids_slots hs hn (by omega),?_,fun a ha b hb=>?_⟩
  ·split
   ·exact List.pairwise_singleton _ _
   ·exact List.Pairwise.nil
  ·obtain ⟨i,g,h1,rfl,_,_⟩:=(SM.mem_ids hs (by omega)).1 ha
   split at hb
   ·simp only [List.mem_singleton] at hb
    subst hb
    rw [Zg6 (by omega),Zg6 (by omega)]
    omega
   ·cases hb
theorem SMOk.mem_list {s:SM} (h:SMOk s) {id:Int}:id∈s.list↔s.live id=true:=by
 unfold SM.list
 rw [SM.mem_ids h.len (Nat.le_refl _),Zcr]
 constructor
 ·rintro ⟨i,g,h1,h2,h3,h4⟩
  exact ⟨i,g,h2,by have:=h.le; omega,h3,h4⟩
 ·rintro ⟨i,g,h2,_,h3,h4⟩
  exact ⟨i,g,(List.getElem?_eq_some_iff.1 h4).1,h2,h3,h4⟩
theorem SMOk.list_slots {s:SM} (h:SMOk s):s.list.Pairwise fun a b=>slotOf a < slotOf b:=SM.ids_slots h.len h.le (Nat.le_refl _)
theorem SMOk.list_nodup {s:SM} (h:SMOk s):s.list.Nodup:=h.list_slots.imp fun hab e=>by subst e; omega
def fitB (m all non:Int):Bool:=bAnd .u8 m all == all && bAnd .u8 m non == 0
def fitE (x:StM) (all non:Int) (id:Int):Bool:=match homeT x.tab id with
 | some m=>fitB (m:Int) all non
 | none=>false
def withL (x:StM) (all non:Int):List Int:=x.s.list.filter (fitE x all non)
def grpIds (_T:Nat→List Ent) (all non:Int) (l:List (Int × List Int)):List Int:=l.flatMap fun g=>if fitB g.1 all non then g.2 else []
theorem Zs7 {x:StM} (h:StOk x) (all non id:Int):id∈grpIds x.tab all non (groupsM x.tab)↔x.s.live id=true∧fitE x all non id=true:=by
 unfold grpIds groupsM grpL
 simp only [List.mem_flatMap,List.mem_map,List.mem_filter,List.mem_range]
 constructor
 ·rintro ⟨g,⟨m,⟨⟨k,hk,rfl⟩,h2⟩,rfl⟩,h3⟩
  rw [Int.toNat_natCast] at h3
  dsimp only at h3
  split at h3
  ·rename_i hf
   obtain ⟨e,he,rfl⟩:=List.mem_map.1 h3
   have hi:inT x.tab k e.1:=Zb7.2 ⟨e,he,rfl⟩
   refine ⟨(h.live _).1 ⟨k,hk,hi⟩,?_⟩
   unfold fitE
   rw [h.home_at hk hi]
   exact hf
  ·cases h3
 ·rintro ⟨h1,h2⟩
  obtain ⟨m,hm,hi⟩:=(h.live id).2 h1
  unfold fitE at h2
  rw [h.home_at hm hi] at h2
  obtain ⟨e,he,rfl⟩:=Zb7.1 hi
  refine ⟨_,⟨(m:Int),⟨⟨m,hm,rfl⟩,?_⟩,rfl⟩,?_⟩
  ·rw [Int.toNat_natCast]
   exact decide_eq_true fun e2=>by rw [e2] at he; cases he
  ·dsimp only at h2 ⊢
   rw [if_pos h2,Int.toNat_natCast]
   exact List.mem_map.2 ⟨e,he,rfl⟩
theorem Zol {x:StM} (h:StOk x) (all non:Int):(grpIds x.tab all non (groupsM x.tab)).Nodup:=by
 unfold grpIds groupsM grpL
 rw [List.flatMap]
 refine List.pairwise_flatten.2 ⟨?_,?_⟩
 ·intro l hl
  simp only [List.mem_map,List.mem_filter,List.mem_range] at hl
  obtain ⟨g,⟨m,⟨⟨k,hk,rfl⟩,h2⟩,rfl⟩,rfl⟩:=hl
  dsimp only
  split
  ·rw [Int.toNat_natCast]; exact (h.tab k hk).nodup
  ·exact List.nodup_nil
 ·rw [List.map_map,List.pairwise_map]
  refine List.Pairwise.filter _ ?_
  rw [List.pairwise_map]
  refine (List.pairwise_lt_range (n:=64)).imp_of_mem fun {a b} ha hb hab=>?_
  rw [List.mem_range] at ha hb
  intro y hy1 z hz1 e
  subst e
  simp only [Function.comp_apply,Int.toNat_natCast] at hy1 hz1
  split at hy1
  ·split at hz1
   ·obtain ⟨e1,he1,rfl⟩:=List.mem_map.1 hy1
    obtain ⟨e2,he2,h3⟩:=List.mem_map.1 hz1
    have:=h.uniq a b e1.1 ha hb (Zb7.2 ⟨e1,he1,rfl⟩) (Zb7.2 ⟨e2,he2,h3⟩)
    omega
   ·cases hz1
  ·cases hy1
theorem Zkc {x:StM} (h:StOk x) (all non:Int):(grpIds x.tab all non (groupsM x.tab)).Perm (withL x all non):=by
 refine (List.perm_ext_iff_of_nodup (Zol h all non) (List.Pairwise.filter _ h.s.list_nodup)).2 fun id=>?_
 rw [Zs7 h,List.mem_filter,h.s.mem_list]
theorem Zll {x:StM} (h:StOk x) (all non:Int):(withL x all non).Pairwise fun a b=>slotOf a < slotOf b:=List.Pairwise.filter _ h.s.list_slots
theorem Zed {x:StM} (h:StOk x) {all non id:Int} (hi:id∈withL x all non):x.s.live id=true:=h.s.mem_list.1 (List.mem_filter.1 hi).1
theorem Zo5 {x:StM} (h:StOk x) {all non id:Int} (hi:id∈withL x all non):IdOk id:=(h.s.live_id (Zed h hi)).1
theorem Zhw {x:StM} (h:StOk x) (all non:Int):(withL x all non).length≤1024:=by
 have h1:(withL x all non).length≤x.s.list.length:=List.length_filter_le _ _
 have h2:=Zrq h.s h.s.list_nodup fun id hi=>h.s.mem_list.1 hi
 have:=h.s.le
 omega
theorem Zps {x:StM} (h:StOk x) {all non:Int} {l:List Int} (hp:l.Perm (withL x all non)) (hs:l.Pairwise fun a b=>slotOf a≤slotOf b):l=withL x all non:=by
 refine List.Perm.eq_of_pairwise (le:=fun a b=>slotOf a≤slotOf b) (fun a b ha hb h1 h2=>?_) hs ((Zll h all non).imp fun h=>Int.le_of_lt h) hp
 have ha':a∈withL x all non:=hp.mem_iff.1 ha
 obtain ⟨i,hi⟩:=List.mem_iff_getElem?.1 ha'
 obtain ⟨j,hj⟩:=List.mem_iff_getElem?.1 hb
 obtain ⟨hil,hie⟩:=List.getElem?_eq_some_iff.1 hi
 obtain ⟨hjl,hje⟩:=List.getElem?_eq_some_iff.1 hj
 have hw:=List.pairwise_iff_getElem.1 (Zll h all non)
 rcases Nat.lt_trichotomy i j with hlt | rfl | hlt
 ·have:=hw i j hil hjl hlt; rw [hie,hje] at this; omega
 ·rw [hi] at hj; cases hj; rfl
 ·have:=hw j i hjl hil hlt; rw [hie,hje] at this; omega
end Go.Proofs.YtoiahhpgkoknfaaGreat
namespace Go.Proofs.YtoiahhpgkoknfaaGreat
open Go Go.RowKit Go.Proofs.YtoiahhpgkoknfaaGreat.Den
variable {R:Type} {Q:R→World→Prop} {w:World}
abbrev Ordr:=Int × Int × Int × List Comp
abbrev OrdRaw:=Int × Int × Int × Sl
abbrev ordT:Ty:=.agg [.int .u8,.int .u32,.int .u8,.sl]
abbrev ordC (r:OrdRaw):List Value:=[.int .u8 r.1,.int .u32 r.2.1,.int .u8 r.2.2.1,.slice r.2.2.2.a r.2.2.2.n r.2.2.2.c]
abbrev resT:Ty:=.agg [.int .i64,.int .u32]
theorem Zqj:SlTy Tryz.prog 30 37 ordT 40:=slTy (by kernel_rfl)
theorem Zwm:SlTy Tryz.prog 39 71 resT 16:=slTy (by kernel_rfl)
instance decIL:DecidableEq (Int × List Comp):=instDecidableEqProd
instance decIIL:DecidableEq (Int × Int × List Comp):=instDecidableEqProd
instance decIIIL:DecidableEq (Int × Int × Int × List Comp):=instDecidableEqProd
def ordR:Rel OrdRaw Ordr:=fun F w r o=>r.1=o.1∧r.2.1=o.2.1∧r.2.2.1=o.2.2.1∧SlT F w compT r.2.2.2 o.2.2.2
def ordO:Rel OrdRaw Ordr:=fun F w r o=>r.1=o.1∧r.2.1=o.2.1∧r.2.2.1=o.2.2.1∧Den.Own F w 52 compT r.2.2.2 o.2.2.2
theorem Z62:ordR.st:=fun _ _=>fun ⟨h1,h2,h3,h4⟩ f hs=>⟨h1,h2,h3,SlT.st h4 f hs⟩
theorem Zih:ordO.st:=fun _ _=>fun ⟨h1,h2,h3,h4⟩ f hs=>⟨h1,h2,h3,Den.Own.st h4 f hs⟩
theorem ordO.r {F:Nat→Prop} {r:OrdRaw} {o:Ordr} (h:ordO F w r o):ordR F w r o:=⟨h.1,h.2.1,h.2.2.1,h.2.2.2.sl⟩
structure OrdOk (o:Ordr):Prop where
 do_:0≤o.1∧o.1≤255
 id:IdOk o.2.1
 kind:0≤o.2.2.1∧o.2.2.1≤255
 comps:∀ c∈o.2.2.2,CompOk c
def chk1 (l:List Comp):Int:=match l with
 | [c]=>checkM c
 | _=>4
def chk0 (l:List Comp):Int:=match l with
 | []=>0
 | _=>4
def ochk (o:Ordr):Int:=if o.1=1 then listE o.2.2.2 else if o.1=2 then chk0 o.2.2.2 else if o.1=3∨o.1=4 then chk1 o.2.2.2 else if o.1=5∧o.2.2.1 < 6 then chk0 o.2.2.2 else 1
theorem Z9x (a b c:Int) (l:List Comp):ochk (a,b,c,l)=if a=1 then listE l else if a=2 then chk0 l else if a=3∨a=4 then chk1 l else if a=5∧c < 6 then chk0 l else 1:=rfl
section
variable {ok:Nat→Prop} {r:OrdRaw} {o:Ordr}
theorem Zcy {s:Sl} {l:List Comp} (hS:SlT ok w compT s l) {K:Res [.sc (.int .i64)]→W R} (hk:K (chk0 l) Q w):callW Tryz.prog Z8u [.slice s.a s.n s.c] [.sc (.int .i64)] K Q w:=by
 refine Zn1 _ K Q w ?_
 unfold Zh2
 have:=hS.len
 cases l with
 | nil=>exact condF (decide_eq_false (by simp at this; omega)) hk
 | cons c r=>exact condT (decide_eq_true (by simp at this; omega)) hk
theorem Zl3 {s:Sl} {l:List Comp} (hS:SlT ok w compT s l) {K:Res [.sc (.int .i64)]→W R} (hk:∀ w',Fr None w w'→K (chk1 l) Q w'):callW Tryz.prog Zdv [.slice s.a s.n s.c] [.sc (.int .i64)] K Q w:=by
 refine Zob _ K Q w ?_
 unfold Zis
 have hlen:=hS.len
 have hk':=hk w (Fr.refl _ _)
 refine condN (fun h=>?_) fun h=>?_
 ·have e:chk1 l=4:=by
   rcases l with _ | ⟨c,_ | ⟨c2,r⟩⟩
   ·rfl
   ·simp at hlen; omega
   ·rfl
  rw [e] at hk'
  exact hk'
 ·rcases l with _ | ⟨c,_ | ⟨c2,r⟩⟩
  ·simp at hlen; omega
  ·refine hS.get (j:=0) rfl rfl (by simp) fun x hx=>?_
   simp at hx
   subst hx
   exact Z3u (c:=c) hk
  ·simp at hlen; omega
theorem Zca (h:ordR ok w r o) (hsm:Small o.2.2.2) {K:Res [.sc (.int .i64)]→W R} (hk:∀ w',Fr None w w'→K (ochk o) Q w'):callW Tryz.prog Z7i [.agg ⟨ordC r⟩] [.sc (.int .i64)] K Q w:=by
 obtain ⟨a,b,c,l⟩:=o
 obtain ⟨a',b',c',s⟩:=r
 obtain ⟨h1,h2,h3,hS⟩:=h
 dsimp only at h1 h2 h3 hS hsm hk ⊢
 subst h1; subst h2; subst h3
 refine Zln _ K Q w ?_
 unfold Zey
 refine newI fun w1 B1 f1 s1=>fldI B1 (x:=a') rfl ?_
 have hS1:=hS.fr0 f1
 refine condE (fun e=>?_) fun n1=>?_
 ·refine fldI B1 (x:=s) rfl (Z86 hS1 hsm fun w2 f2=>?_)
  have:=hk w2 (f1.then0 f2)
  rw [Z9x,if_pos e] at this
  exact this
 refine condE (fun e=>?_) fun n2=>?_
 ·refine fldI B1 (x:=s) rfl (Zcy hS1 ?_)
  have:=hk w1 f1
  rw [Z9x,if_neg n1,if_pos e] at this
  exact this
 refine joinI (fun z w'=>z=decide (a'=3∨a'=4)∧w'=w1) ?_ ?_
 ·refine condE (fun e=>⟨by simp [e],rfl⟩) fun n3=>⟨?_,rfl⟩
  by_cases e:a'=4 <;> simp [n3,e]
 rintro z w' ⟨rfl,rfl⟩
 refine condD (fun e=>?_) fun n3=>?_
 ·refine fldI B1 (x:=s) rfl (Zl3 hS1 fun w2 f2=>?_)
  have:=hk w2 (f1.then0 f2)
  rw [Z9x,if_neg n1,if_neg n2,if_pos e] at this
  exact this
 have key:¬ (a'=5∧c' < 6)→K 1 Q w':=fun h=>by
  have:=hk w' f1
  rw [Z9x,if_neg n1,if_neg n2,if_neg n3,if_neg h] at this
  exact this
 refine joinI (fun _ w2=>w2=w'∧¬ (a'=5∧c' < 6)) ?_ fun _ w2 ⟨e,h⟩=>by subst e; exact key h
 refine condE (fun e=>?_) fun n5=>⟨rfl,fun h=>n5 h.1⟩
 refine fldI B1 (x:=c') rfl (condD (fun e6=>?_) fun n6=>⟨rfl,fun h=>n6 h.2⟩)
 refine fldI B1 (x:=s) rfl (Zcy hS1 ?_)
 have:=hk w' f1
 rw [Z9x,if_neg n1,if_neg n2,if_neg n3,if_pos ⟨e,e6⟩] at this
 exact this
theorem Zlz (h:ordR ok w r o) (ho:OrdOk o) (hsm:Small o.2.2.2) {K:Res [.sc (.int .i64)]→W R} (hk:∀ w',Fr None w w'→K (ochk o) Q w'):callW Tryz.prog Z5j [.agg ⟨ordC r⟩] [.sc (.int .i64)] K Q w:=by
 obtain ⟨a,b,c,l⟩:=o
 obtain ⟨a',b',c',s⟩:=r
 obtain ⟨h1,h2,h3,hS⟩:=h
 obtain ⟨hd,hid,hkd,hcs⟩:=ho
 dsimp only at h1 h2 h3 hS hsm hk hd hkd hcs ⊢
 subst h1; subst h2; subst h3
 refine Zeo _ K Q w ?_
 unfold Z8g
 have hlen:=hS.len
 refine newI fun w1 B1 f1 s1=>?_
 have hS1:=hS.fr0 f1
 have e1:=hk w1 f1
 refine joinI (fun z w'=>z=!decide (1≤a'∧a'≤5)∧w'=w1) ?_ ?_
 ·refine fldI B1 (x:=a') rfl (condD (fun h=>⟨by rw [decide_eq_false (by omega)]; rfl,rfl⟩) fun h=>fldI B1 (x:=a') rfl ⟨?_,rfl⟩)
  by_cases h2:a' > 5
  ·rw [decide_eq_true h2,decide_eq_false (by omega)]; rfl
  ·rw [decide_eq_false h2,decide_eq_true (by omega)]; rfl
 rintro z w' ⟨rfl,rfl⟩
 refine condI (fun hz=>?_) fun hz=>?_
 ·have hz:¬ (1≤a'∧a'≤5):=fun h=>by rw [decide_eq_true h] at hz; cases hz
  rw [Z9x,if_neg (by omega),if_neg (by omega),if_neg (by omega),if_neg (by omega)] at e1
  exact e1
 have hz:1≤a'∧a'≤5:=by simpa using hz
 refine fldI B1 (x:=a') rfl (condE (fun e=>?_) fun n1=>?_)
 ·refine fldI B1 (x:=s) rfl (Ze3 hS1 hsm hcs fun w2 f2=>?_)
  have:=hk w2 (f1.then0 f2)
  rw [Z9x,if_pos e] at this
  exact this
 refine joinI (fun z w2=>z=decide (a'=5∧c' > 5)∧w2=w') ?_ ?_
 ·refine fldI B1 (x:=a') rfl (condE (fun e=>fldI B1 (x:=c') rfl ⟨by simp [e],rfl⟩) fun e=>⟨by simp [e],rfl⟩)
 rintro z w2 ⟨rfl,rfl⟩
 refine condD (fun e=>?_) fun n5=>?_
 ·rw [Z9x,if_neg n1,if_neg (by omega),if_neg (by omega),if_neg (by omega)] at e1
  exact e1
 refine joinI (fun z w3=>z=decide (a'=3∨a'=4)∧w3=w2) ?_ ?_
 ·refine fldI B1 (x:=a') rfl (condE (fun e=>⟨by simp [e],rfl⟩) fun n3=>fldI B1 (x:=a') rfl ⟨?_,rfl⟩)
  by_cases e:a'=4 <;> simp [n3,e]
 rintro z w3 ⟨rfl,rfl⟩
 refine joinI (fun z w4=>z=(if a'=3∨a'=4 then 1 else 0)∧w4=w3) ?_ ?_
 ·exact condD (fun e=>⟨by rw [if_pos e],rfl⟩) fun e=>⟨by rw [if_neg e],rfl⟩
 rintro z w4 ⟨rfl,rfl⟩
 refine fldI B1 (x:=s) rfl ?_
 by_cases h34:a'=3∨a'=4
 ·rw [if_pos h34]
  rw [Z9x,if_neg n1,if_neg (by omega),if_pos h34] at e1
  refine condN (fun hne=>?_) fun heq=>condT rfl ?_
  ·have e:chk1 l=4:=by
    rcases l with _ | ⟨c,_ | ⟨c2,r⟩⟩
    ·rfl
    ·simp at hlen; omega
    ·rfl
   rw [e] at e1
   exact e1
  ·rcases l with _ | ⟨c,_ | ⟨c2,r⟩⟩
   ·simp at hlen; omega
   ·refine fldI B1 (x:=s) rfl (hS1.get (j:=0) rfl rfl (by simp) fun x hx=>?_)
    simp at hx
    subst hx
    refine Z6y (c:=c) (hcs c (by simp)).1.1 fun w5 f5=>?_
    have:=hk w5 (f1.then0 f5)
    rw [Z9x,if_neg n1,if_neg (by omega),if_pos h34] at this
    exact this
   ·simp at hlen; omega
 ·rw [if_neg h34]
  have e2:ochk (a',b',c',l)=chk0 l:=by
   rw [Z9x]
   by_cases h2:a'=2
   ·rw [if_neg n1,if_pos h2]
   ·rw [if_neg n1,if_neg h2,if_neg h34,if_pos ⟨by omega,by omega⟩]
  rw [e2] at e1
  refine condN (fun hne=>?_) fun heq=>condF rfl ?_
  ·cases l with
   | nil=>simp at hlen; omega
   | cons c r=>exact e1
  ·cases l with
   | nil=>exact e1
   | cons c r=>simp at hlen; omega
end
theorem Zwi {a b:Operand} {x y:Int × Int} {K:Bool→W R} (hk:K (!decide (x=y)) Q w):rawQ Tryz.prog (do Go.eqGuard .neq 71 a b (.agg ⟨[.int .i64 x.1,.int .u32 x.2]⟩) (.agg ⟨[.int .i64 y.1,.int .u32 y.2]⟩); Go.binOp .neq 71 (.agg ⟨[.int .i64 x.1,.int .u32 x.2]⟩) (.agg ⟨[.int .i64 y.1,.int .u32 y.2]⟩)) [.sc .bool] K Q w:=by
 have e:((x.1 == y.1) && ((x.2 == y.2) && true))=decide (x=y):=by
  obtain ⟨a,b⟩:=x; obtain ⟨c,d⟩:=y
  rw [Bool.eq_iff_iff]
  simp
 refine neqI (r:=((x.1 == y.1) && ((x.2 == y.2) && true))) (by kernel_rfl) (by kernel_rfl) ?_
 rw [e]
 exact hk
theorem Z85 {ok ok2:Nat→Prop} {s s2:Sl} {l l2:List (Int × Int)} (hS:SlT ok w resT s l) (hS2:SlT ok2 w resT s2 l2) (hsm:Small l) {K:Res [.sc .bool]→W R} (hk:∀ w',Fr None w w'→K (decide (l=l2)) Q w') :
  callW Tryz.prog Z15 [.slice s.a s.n s.c,.slice s2.a s2.n s2.c] [.sc .bool] K Q w:=by
 refine Za1 _ _ K Q w ?_
 unfold Z5c
 have h1:=hS.len
 have h2:=hS2.len
 refine condN (fun hne=>?_) fun heq=>?_
 ·have e:=hk w (Fr.refl _ _)
  rw [decide_eq_false (fun e=>hne (by rw [h1,h2,e]))] at e
  exact e
 refine forI (N:=s.n) (fun s:Int=>s) (fun j s w'=>s=j∧Fr None w w'∧l.take j=l2.take j) ⟨rfl,Fr.refl _ _,rfl⟩ (fun j s w' h=>h.1) ?_ ?_
 ·rintro j i w1 K' hj ⟨rfl,f1,ht⟩ - hK
  refine (hS.fr0 f1.drew).get rfl rfl (by omega) fun x hx=>?_
  refine (hS2.fr0 f1.drew).get rfl rfl (by omega) fun y hy=>Zwi ?_
  refine condI (fun hb=>?_) fun hb=>?_
  ·have e:=hk _ f1.drew
   rw [decide_eq_false (fun e=>by subst e; rw [hx] at hy; cases hy; simp at hb)] at e
   exact e
  ·have hb:x=y:=by simpa using hb
   subst hb
   exact hK _ _ ⟨wsucc hj (by omega),f1.drew,by rw [Zr hx,Zr hy,ht]⟩
 ·rintro i w1 ⟨rfl,f1,ht⟩
  have e:=hk _ f1
  rw [h1,List.take_length,List.take_of_length_le (by omega)] at ht
  rw [decide_eq_true ht] at e
  exact e
def fewO (L:List Ordr) (n:Nat):List Ordr:=(L.take n).map fun o=>(o.1,o.2.1,o.2.2.1,o.2.2.2.take 20)
theorem Zpe {ok:Nat→Prop} {s:Sl} {raws:List OrdRaw} {L:List Ordr} (h:DR ordR (t:=ordT) ok w s raws L) (hcap:s.c≤9223372036854775807) {n:Nat} (hn:n≤1000) (hcs:∀ r∈raws,r.2.2.2.c≤9223372036854775807) {K:Res [.sc .sl]→W R}
  (hk:∀ r raws' w',Den.Own (Up w.heap.size) w' 37 ordT r raws'→All2 (fun a b=>ordR ok w' a b) raws' (fewO L n)→Fr None w w'→K r Q w'):callW Tryz.prog Z3d [.slice s.a s.n s.c,.int .i64 (n:Int)] [.sc .sl] K Q w:=by
 refine Zgn _ _ K Q w ?_
 unfold Zag
 have hl:=h.all.len
 have hsl:=h.sl.len
 have hsc:=h.sl.cap
 let few1:Ordr→Ordr:=fun o=>(o.1,o.2.1,o.2.2.1,o.2.2.2.take 20)
 refine rangeC (t:=ordT) (fun s:Sl × Int=>s.2) (fun j st w'=>st.2=(j:Int)∧Fr None w w'∧∃ raws',Den.Own (Up w.heap.size) w' 37 ordT st.1 raws'∧All2 (fun a b=>ordR ok w a b) raws' ((L.take (min j n)).map few1)) rfl rfl rfl ⟨rfl,Fr.refl _ _,[],Den.Own.nil _ _ _ _,by simp; exact All2.nil _⟩ (fun j st w' h=>h.1) (fun j st w' hp=>h.sl.fr0 hp.2.1) ?_ ?_
 ·rintro j x ⟨o,_⟩ w1 w2 K' hx ⟨rfl,f1,raws',ho,hall⟩ - B2 f2 s2 hK
  obtain ⟨b,hb,h1,h2,h3,hS⟩:=h.all.getL hx
  have hjl:=(List.getElem?_eq_some_iff.1 hb).1
  have f02:=f1.then0 f2
  have hlr:=hall.len
  rw [List.length_map,List.length_take] at hlr
  refine joinI (fun o' w'=>Fr None w w'∧∃ raws',Den.Own (Up w.heap.size) w' 37 ordT o' raws'∧All2 (fun a b=>ordR ok w a b) raws' ((L.take (min (j+1) n)).map few1)) ?_ ?_
  ·refine condD (fun hlt=>?_) fun hge=>?_
   ·have hjn:j < n:=by have:(j:Int) < (n:Int):=hlt; omega
    refine fldI B2 (x:=x.2.2.2) rfl (fldI B2 (x:=x.2.2.2) rfl ?_)
    have hxl:=hS.len
    have hxc:=hS.cap
    have hxm:=hcs x (List.mem_of_getElem? hx)
    refine (hS.fr0 f02).cutI (n:=min b.2.2.2.length 20) (by split <;> omega) (by omega) fun sl _ hsl=>?_
    refine setA (i:=3) B2 (show 3 < 4 by omega) rfl fun w4 B4 f4 s4=>aggI B4 (x:=(x.1,x.2.1,x.2.2.1,sl)) rfl ?_
    have f14:Fr None w1 w4:=f2.newer f4 fun k e=>by omega
    have o4:=ho.none f14
    have hs1:=f1.size
    have hs14:=f14.size
    refine appP (x:=((x.1,x.2.1,x.2.2.1,sl):OrdRaw)) Zqj rfl o4 (fun k e=>by show w.heap.size≤k; omega) (by omega) (by omega) fun r w5 o5 f5=>⟨(f1.then0 f14).newer f5 fun k e=>o4.own k e,raws' ++ [((x.1,x.2.1,x.2.2.1,sl):OrdRaw)],o5,?_⟩
    have e1:(L.take (min (j+1) n)).map few1=(L.take (min j n)).map few1 ++ [few1 b]:=by
     rw [Nat.min_eq_left (by omega),Nat.min_eq_left (by omega),Zr hb,List.map_append]; rfl
    rw [e1]
    refine hall.snoc ⟨h1,h2,h3,?_⟩
    show SlT ok w compT sl (b.2.2.2.take 20)
    have:=hsl ok w hS
    rwa [Nat.min_comm,← List.take_take,List.take_length] at this
   ·have hjn:¬ j < n:=by have:¬ (j:Int) < (n:Int):=hge; omega
    refine ⟨f02,raws',ho.none f2,?_⟩
    rw [Nat.min_eq_right (by omega)]
    rw [Nat.min_eq_right (by omega)] at hall
    exact hall
  ·rintro o' w5 ⟨f5,raws',o5,hall⟩
   exact hK _ _ ⟨wsucc (N:=L.length) hjl (by omega),f5,raws',o5,hall⟩
 ·rintro ⟨o,_⟩ w1 ⟨_,f1,raws',ho,hall⟩
  rw [hl,Nat.min_comm,← List.take_take,List.take_length] at hall
  refine hk o raws' w1 ho (hall.imp fun a b hab=>Z62 a b hab f1 fun _ _ e=>⟨fun h=>h,e⟩ |> fun h=>h) f1
end Go.Proofs.YtoiahhpgkoknfaaGreat
namespace Go.Proofs.YtoiahhpgkoknfaaGreat
open Go Go.RowKit Go.Proofs.YtoiahhpgkoknfaaGreat.Den
variable {R:Type} {Q:R→World→Prop} {w:World}
abbrev entT:Ty:=.agg [.int .u32,.sl]
abbrev entC (r:Int × Sl):List Value:=[.int .u32 r.1,.slice r.2.a r.2.n r.2.c]
theorem Zk9:SlTy Tryz.prog 46 49 entT 32:=slTy (by kernel_rfl)
structure EntsR (ok:Nat→Prop) (w:World) (raws:List (Int × Sl)) (L:List Ent):Prop where
 len:raws.length=L.length
 at_:∀ (i:Nat) (r:Int × Sl) (e:Ent),raws[i]?=some r→L[i]?=some e→r.1=e.1∧SlT ok w compT r.2 e.2
theorem EntsR.fr {ok S:Nat→Prop} {w':World} {raws:List (Int × Sl)} {L:List Ent} (h:EntsR ok w raws L) (f:Fr S w w') (hn:∀ k,ok k→¬ S k):EntsR ok w' raws L :=
 ⟨h.len,fun i r e h1 h2=>⟨(h.at_ i r e h1 h2).1,(h.at_ i r e h1 h2).2.fr f hn⟩⟩
theorem EntsR.mono {ok ok':Nat→Prop} {raws:List (Int × Sl)} {L:List Ent} (h:EntsR ok w raws L) (hn:∀ k,k < w.heap.size→ok k→ok' k):EntsR ok' w raws L :=
 ⟨h.len,fun i r e h1 h2=>⟨(h.at_ i r e h1 h2).1,(h.at_ i r e h1 h2).2.mono hn⟩⟩
theorem EntsR.get {ok:Nat→Prop} {raws:List (Int × Sl)} {L:List Ent} (h:EntsR ok w raws L) {i:Nat} {e:Ent} (he:L[i]?=some e):∃ r,raws[i]?=some r∧r.1=e.1∧SlT ok w compT r.2 e.2:=by
 obtain ⟨hl,_⟩:=List.getElem?_eq_some_iff.1 he
 have hr:=List.getElem?_eq_getElem (l:=raws) (i:=i) (by rw [h.len]; exact hl)
 exact ⟨_,hr,h.at_ i _ e hr he⟩
theorem EntsR.nil (ok:Nat→Prop) (w:World):EntsR ok w [] []:=⟨rfl,fun i r e h=>by simp at h⟩
structure RefR (lab:Nat→Nat) (w:World) (b m:Nat) (s:Sl) (raws:List (Int × Sl)) (L:List Ent):Prop where
 blk:Blk w b 146 [.int .u8 (m:Int),.slice s.a s.n s.c]
 lb:lab b=1
 own:Den.Own (fun k=>lab k=2) w 49 entT s raws
 ents:EntsR (fun k=>lab k=3) w raws L
 lt:∀ k,lab k≠0→k < w.heap.size
section
variable {lab:Nat→Nat} {b m:Nat} {s:Sl} {raws:List (Int × Sl)} {L:List Ent}
theorem RefR.fr (h:RefR lab w b m s raws L) {S:Nat→Prop} {w':World} (f:Fr S w w') (hn:∀ k,lab k≠0→¬ S k):RefR lab w' b m s raws L :=
 ⟨h.blk.fr f (hn b (by rw [h.lb]; omega)),h.lb,h.own.fr f fun k e=>hn k (by omega),h.ents.fr f fun k e=>hn k (by omega),fun k e=>Nat.lt_of_lt_of_le (h.lt k e) f.size⟩
theorem RefR.fr0 (h:RefR lab w b m s raws L) {w':World} (f:Fr None w w'):RefR lab w' b m s raws L:=h.fr f fun _ _ h=>h
theorem EntsR.relab (h:EntsR (fun k=>lab k=3) w raws L) (n' c:Nat):EntsR (fun k=>relab lab w.heap.size n' c k=3) w raws L:=h.mono fun k hk e=>by rw [Z5 hk]; exact e
theorem RefR.grow (h:RefR lab w b m s raws L) {w':World} (f:Fr None w w') (c:Nat):RefR (relab lab w.heap.size w'.heap.size c) w' b m s raws L :=
 ⟨h.blk.fr f (fun h=>h),by rw [Z5 h.blk.lt]; exact h.lb,(h.own.relab _ _).none f,(h.ents.relab _ _).fr f (fun _ _ h=>h),fun k e=>by
  rcases Z2p e with ⟨_,h⟩ | ⟨_,h⟩
  ·exact Nat.lt_of_lt_of_le h f.size
  ·exact h⟩
theorem RefR.app (h:RefR lab w b m s raws L) (hroom:L.length < 1048576) {id:Int} {tw:Sl} {l:List Comp} (ht:SlT (fun k=>lab k=3) w compT tw l) {ty:TypeId} {K:W R}
  (hk:∀ lab' s' w',RefR lab' w' b m s' (raws ++ [(id,tw)]) (L ++ [(id,l)])→(∀ k,lab' k≠0→lab k≠0∨w.heap.size≤k)→Fr (fun k=>lab k≠0) w w'→K Q w') :
  newW 49 (entC (id,tw)) (fun x_9=>rawW Tryz.prog (Builtin.append_ #[46,46] ty #[.slice s.a s.n s.c,.slice (some x_9) 1 1]) [.sc .sl] fun (x_10:Sl) =>
   ptrW (some ⟨b,0,none⟩) fun x_11=>stoL (Addr.add x_11 1) [.slice x_10.a x_10.n x_10.c] 0 K) Q w:=by
 refine newI fun w5 B5 f5 s5=>?_
 have ho5:=h.own.none f5
 have hrl:raws.length=L.length:=h.ents.len
 refine app1 (x:=(id,tw)) (S':=fun k=>lab k=2∨w.heap.size≤k) Zk9 ho5 B5 rfl (by omega) (by rw [Zc]; omega) (fun _ h=>.inl h) (.inr (by omega)) fun r w6 o6 f6 s6=>?_
 have f6':Fr (fun k=>lab k=2) w5 w6:=f6.mono fun k _ e=>ho5.own k e
 refine ptrI ?_
 rw [Z3]
 have hbl:=h.blk.lt
 have hB6:=(h.blk.fr f5 (fun h=>h)).fr f6' (fun e=>by have:=h.lb; omega)
 refine setI (i:=0+1) hB6 (by simp) rfl fun w7 B7 f7 s7=>?_
 have f17:Fr (fun k=>k=b∨lab k=2) w w7:=(f5.trans f6' (U:=fun k=>k=b∨lab k=2) (fun _ h=>h.elim) (fun _ _ h=>.inr h)).trans f7 (fun _ h=>h) (fun x _ e=>.inl e)
 refine hk (relab lab w.heap.size w7.heap.size 2) r w7 ⟨B7,by rw [Z5 hbl]; exact h.lb,?_,⟨by simp [hrl],?_⟩,fun k e=>?_⟩ (fun k e=>?_) (f17.mono fun k _ e=>by rcases e with rfl | e; (rw [h.lb]; omega); omega)
 ·refine (o6.fr f7 fun q hq e=>?_).mono fun q hq e=>?_
  ·rw [e] at hq
   rcases hq with hq | hq
   ·rw [h.lb] at hq; omega
   ·omega
  ·rcases e with e | e
   ·rw [Z5 (h.lt q (by omega))]; exact e
   ·exact Z50 e hq
 ·intro i r' e' h1 h2
  have keep:∀ {sl:Sl} {ll:List Comp},SlT (fun k=>lab k=3) w compT sl ll→SlT (fun k=>relab lab w.heap.size w7.heap.size 2 k=3) w7 compT sl ll:=fun hs =>
   (hs.fr f17 fun k hk e=>by rcases e with rfl | e; (have:=h.lb; omega); omega).mono fun k _ hk=>by rw [Z5 (h.lt k (by omega))]; exact hk
  by_cases hi:i < raws.length
  ·rw [List.getElem?_append_left hi] at h1
   rw [List.getElem?_append_left (by omega)] at h2
   obtain ⟨h3,h4⟩:=h.ents.at_ i r' e' h1 h2
   exact ⟨h3,keep h4⟩
  ·rw [List.getElem?_append_right (by omega)] at h1 h2
   have hz:i - raws.length=0:=by have:=(List.getElem?_eq_some_iff.1 h1).1; simp at this; omega
   rw [hz] at h1
   rw [show i - L.length=0 by omega] at h2
   simp at h1 h2
   subst h1; subst h2
   exact ⟨rfl,keep ht⟩
 ·rcases Z2p e with ⟨_,h⟩ | ⟨_,h⟩
  ·exact Nat.lt_of_lt_of_le h f17.size
  ·exact h
 ·rcases Z2p e with ⟨h,_⟩ | ⟨h,_⟩
  ·exact .inl h
  ·exact .inr h
end
structure Ref (lab:Nat→Nat) (w:World) (b m:Nat) (L:List Ent):Prop where
 ok:TabOk m L
 rep:∃ s raws,RefR lab w b m s raws L
theorem Ref.fr {lab:Nat→Nat} {b m:Nat} {L:List Ent} (h:Ref lab w b m L) {S:Nat→Prop} {w':World} (f:Fr S w w') (hn:∀ k,lab k≠0→¬ S k):Ref lab w' b m L:=by
 obtain ⟨s,raws,r⟩:=h.rep
 exact ⟨h.ok,s,raws,r.fr f hn⟩
theorem Ref.fr0 {lab:Nat→Nat} {b m:Nat} {L:List Ent} (h:Ref lab w b m L) {w':World} (f:Fr None w w'):Ref lab w' b m L:=h.fr f fun _ _ h=>h
theorem Ref.lt {lab:Nat→Nat} {b m:Nat} {L:List Ent} (h:Ref lab w b m L) {k:Nat} (e:lab k≠0):k < w.heap.size:=by
 obtain ⟨s,raws,r⟩:=h.rep
 exact r.lt k e
section
variable {lab:Nat→Nat} {b m:Nat} {L:List Ent}
def rowI (L:List Ent) (id:Int):Int:=match rowM L id with
 | some i=>(i:Int)
 | none=>-1
theorem Zcj {m:Nat} {l:List Comp} (h:Valid m l) (k:Int):(findM l k < 0∧k ∉ kindsOf m)∨(∃ q:Nat,findM l k=(q:Int)∧l[q]?=some (k,fieldsOf l k)∧k∈kindsOf m):=by
 unfold findM
 cases hf:l.findIdx? (fun c=>c.1 == k) with
 | none =>
  left
  refine ⟨by simp,fun hk=>?_⟩
  rw [List.findIdx?_eq_none_iff] at hf
  rw [← h.kinds] at hk
  obtain ⟨c,hc,rfl⟩:=List.mem_map.1 hk
  have:=hf c hc
  simp at this
 | some q =>
  right
  rw [List.findIdx?_eq_some_iff_getElem] at hf
  obtain ⟨hq,h1,_⟩:=hf
  have h1:(l[q]).1=k:=by simpa using h1
  refine ⟨q,rfl,?_,?_⟩
  ·rw [List.getElem?_eq_getElem hq,← h1,Zat h.rising (List.getElem_mem hq)]
  ·rw [← h.kinds,← h1]; exact List.mem_map_of_mem (List.getElem_mem hq)
theorem Zv0 (m:Nat) (L:List Ent) (id k:Int):(getM m L id k).2=match rowM L id with
  | none=>7
  | some _=>if k∈kindsOf m then 0 else 10:=by
 unfold getM
 cases rowM L id with
 | none=>rfl
 | some i=>simp only []; split <;> rfl
theorem EntsR.drop {ok:Nat→Prop} {raws:List (Int × Sl)} {L:List Ent} (h:EntsR ok w raws L) (i:Nat):EntsR ok w (dropI raws i) (dropI L i):=by
 refine ⟨by rw [Z9p,Z9p,h.len],fun q r e h1 h2=>?_⟩
 by_cases h0:L=[]
 ·subst h0; simp [dropI] at h2
 ·have hp:0 < L.length:=List.length_pos_iff.2 h0
  have hl:=h.len
  obtain ⟨z,hz⟩:∃ z,raws[raws.length - 1]?=some z:=⟨_,List.getElem?_eq_getElem (by omega)⟩
  obtain ⟨y,hy⟩:∃ y,L[L.length - 1]?=some y:=⟨_,List.getElem?_eq_getElem (by omega)⟩
  rw [Z7u hz] at h1
  rw [Z7u hy] at h2
  rw [hl] at h1
  by_cases hq:q < L.length - 1
  ·rw [if_pos hq] at h1 h2
   by_cases hqi:q=i
   ·rw [if_pos hqi] at h1 h2
    cases h1; cases h2
    rw [hl] at hz
    exact h.at_ _ _ _ hz hy
   ·rw [if_neg hqi] at h1 h2
    exact h.at_ q r e h1 h2
  ·rw [if_neg hq] at h1; cases h1
theorem Zji {ok ok2:Nat→Prop} {id id2:Int} {s s2:Sl} {l l2:List Comp} (hS:SlT ok w compT s l) (hS2:SlT ok2 w compT s2 l2) (hm:Small l) {K:Res [.sc .bool]→W R} (hk:∀ w',Fr None w w'→K (decide (id=id2∧l=l2)) Q w') :
  callW Tryz.prog Z4l [.agg ⟨entC (id,s)⟩,.agg ⟨entC (id2,s2)⟩] [.sc .bool] K Q w:=by
 refine Zd4 (id,s) (id2,s2) K Q w ?_
 unfold Z72
 refine newI fun w1 B1 f1 s1=>newI fun w2 B2 f2 s2'=>?_
 have B12:=B1.fr f2 fun h=>h
 refine joinK ?_
 refine fldI B12 (x:=id) rfl ?_
 refine fldI B2 (x:=id2) rfl ?_
 have f02:=f1.then0 f2
 refine condE (fun h=>?_) fun h=>?_
 ·refine fldI B12 (x:=s) rfl ?_
  refine fldI B2 (x:=s2) rfl ?_
  refine Zpf (hS.fr0 f02) (hS2.fr0 f02) hm fun w3 f3=>?_
  have e:=hk w3 (f02.then0 f3)
  have:decide (id=id2∧l=l2)=decide (l=l2):=decide_eq_decide.2 ⟨fun h=>h.2,fun h2=>⟨h,h2⟩⟩
  rw [this] at e
  exact e
 ·have e:=hk w2 f02
  rw [decide_eq_false (fun h2=>h h2.1)] at e
  exact e
end
end Go.Proofs.YtoiahhpgkoknfaaGreat
namespace Go.Proofs.YtoiahhpgkoknfaaGreat
open Go Go.RowKit Go.ChangeShapes Go.WideShapes Go.ChangeAt Go.Proofs.YtoiahhpgkoknfaaGreat.Den
variable {R:Type} {Q:R→World→Prop} {w:World} {H:Type} {enc:TypeId × Value→H}
theorem Den.deep_of {α β:Type} {p:α→β→Prop} {l:List α} (h:∀ a∈l,∃ b,p a b):∃ k,All2 p l k:=by
 induction l with
 | nil=>exact ⟨[],All2.nil _⟩
 | cons a r ih =>
  obtain ⟨b,hb⟩:=h a List.mem_cons_self
  obtain ⟨k,hk⟩:=ih fun x hx=>h x (List.mem_cons_of_mem _ hx)
  refine ⟨b :: k,by simp [hk.len],fun i x y h1 h2=>?_⟩
  rcases i with _ | i
  ·simp at h1 h2; subst h1; subst h2; exact hb
  ·simp at h1 h2; exact hk.at_ i x y h1 h2
abbrev Old (W:World):Nat→Prop:=fun k=>k < W.heap.size
theorem Zma {s:Sl} (h:LeafOk enc Tryz.prog w 35 (.slice s.a s.n s.c)):∃ l,SlT (Old w) w compT s l∧(∀ c∈l,CompOk c)∧s.c≤maxLen:=by
 obtain ⟨s',l,e,h2,h3,h4⟩:=h.slice Zsz
 have e':s=s':=by
  have e:Value.slice s.a s.n s.c=Value.slice s'.a s'.n s'.c:=e
  simp only [Value.slice.injEq] at e
  obtain ⟨e1,e2,e3⟩:=e
  cases s; cases s'; simp_all
 subst e'
 exact ⟨l,h2,fun c hc=>Zw9 (h4 c hc),h3⟩
end Go.Proofs.YtoiahhpgkoknfaaGreat
namespace Go.Proofs.YtoiahhpgkoknfaaGreat
open Go Go.RowKit Go.ChangeShapes Go.WideShapes Go.ChangeAt Go.Proofs.YtoiahhpgkoknfaaGreat.Den
variable {R:Type} {Q:R→World→Prop} {w:World} {H:Type} {enc:TypeId × Value→H}
theorem Zws:Tryz.prog.underlying 28=some (.int .u32):=by kernel_rfl
structure EntIn (W:World) (r:Int × Sl) (e:Ent):Prop where
 id:r.1=e.1
 sl:SlT (Old W) W compT r.2 e.2
 ok:IdOk e.1
 comps:∀ c∈e.2,CompOk c
 cap:r.2.c≤maxLen
theorem EntIn.ents {raws:List (Int × Sl)} {L:List Ent} (h:All2 (EntIn w) raws L):EntsR (Old w) w raws L:=⟨h.len,fun i r e h1 h2=>⟨(h.at_ i r e h1 h2).id,(h.at_ i r e h1 h2).sl⟩⟩
end Go.Proofs.YtoiahhpgkoknfaaGreat
namespace Go.Proofs.YtoiahhpgkoknfaaGreat
open Go Go.RowKit Go.ChangeShapes Go.WideShapes Go.ChangeAt Go.Deep Go.Proofs.YtoiahhpgkoknfaaGreat.Den
variable {w:World} {H:Type} {enc:TypeId × Value→H}
end Go.Proofs.YtoiahhpgkoknfaaGreat
namespace Go.Proofs.YtoiahhpgkoknfaaGreat
open Go Go.RowKit Go.ChangeShapes Go.WideShapes Go.ChangeAt Go.Proofs.YtoiahhpgkoknfaaGreat.Den
variable {R:Type} {Q:R→World→Prop} {w:World} {H:Type} {enc:TypeId × Value→H}
theorem order_arg:AggArg Tryz.prog 37 [.int .u8,.int .u32,.int .u8,.sl] [5,34,5,35]:=⟨by kernel_rfl,by kernel_rfl,by kernel_rfl⟩
theorem orders_arg:SlArg Tryz.prog 30 37 ordT [5,34,5,35] :=
 ⟨by kernel_rfl,by kernel_rfl,by decide,by kernel_rfl,⟨[.int .u8,.int .u32,.int .u8,.sl],by kernel_rfl,.inl rfl⟩⟩
def OrdIn (W:World) (r:OrdRaw) (o:Ordr):Prop:=ordR (Old W) W r o∧OrdOk o∧r.2.2.2.c≤maxLen
theorem order_in {r:OrdRaw} (h:AllLeaf enc Tryz.prog w [5,34,5,35] (ordT.cells r)):∃ o,OrdIn w r o:=by
 obtain ⟨_,h⟩:=h
 obtain ⟨_,e,h0⟩:=(h 0 _ _ rfl rfl).int u8_und
 cases e
 obtain ⟨_,e,h1⟩:=(h 1 _ _ rfl rfl).int Zra
 cases e
 obtain ⟨_,e,h2⟩:=(h 2 _ _ rfl rfl).int u8_und
 cases e
 obtain ⟨l,h3,h4,h5⟩:=Zma (s:=r.2.2.2) (h 3 _ _ rfl rfl)
 exact ⟨(r.1,r.2.1,r.2.2.1,l),⟨rfl,rfl,rfl,h3⟩,⟨wf_u8 h0,Zw5 h1,wf_u8 h2,h4⟩,h5⟩
theorem orders_in {raws:List OrdRaw} (h:∀ r∈raws,AllLeaf enc Tryz.prog w [5,34,5,35] (ordT.cells r)):∃ L,All2 (OrdIn w) raws L:=deep_of fun r hr=>order_in (h r hr)
end Go.Proofs.YtoiahhpgkoknfaaGreat
namespace Go.Proofs.YtoiahhpgkoknfaaGreat
open Go Go.RowKit Go.ChangeShapes Go.WideShapes Go.ChangeAt Go.Proofs.YtoiahhpgkoknfaaGreat.Den
variable {R:Type} {Q:R→World→Prop} {w:World} {H:Type} {enc:TypeId × Value→H}
theorem Den.SlT.read {ok:Nat→Prop} {t:Ty} {s:Sl} {l:List t.T} (h:SlT ok w t s l) {sz:Nat} (hsz:sz=t.size) {i:Int} {j:Nat} (hi:i=j) {x:t.T} (hj:l[j]?=some x) {K:Addr→W R} (hk:∀ a,Rd w a t x→K a Q w) :
  (idxW s.a s.n sz i K) Q w:=by
 subst hi; subst hsz
 have hjl:=(List.getElem?_eq_some_iff.1 hj).1
 have hn:=h.len
 rcases h.at_ with e | ⟨b,o,ha,_,_,hrd⟩
 ·rw [e] at hjl; simp at hjl
 ·rw [ha]
  refine ⟨_,rfl,by omega,by omega,hk _ ?_⟩
  rw [Z3,Int.toNat_natCast]
  exact hrd j x hj
theorem Ztk {α:Type} {L:List α} {i:Nat} {a e:α} (hi:L[i]?=some a) (he:e∈L) (hne:e≠a):e∈dropI L i:=by
 have hil:=(List.getElem?_eq_some_iff.1 hi).1
 obtain ⟨j,hj⟩:=List.mem_iff_getElem?.1 he
 have hjl:=(List.getElem?_eq_some_iff.1 hj).1
 have hji:j≠i:=fun h=>by subst h; rw [hi] at hj; exact hne (Option.some.inj hj).symm
 have hz:=List.getElem?_eq_getElem (l:=L) (i:=L.length - 1) (by omega)
 unfold dropI
 rw [hz]
 by_cases hlast:j=L.length - 1
 ·subst hlast
  rw [hz] at hj
  have hez:=Option.some.inj hj
  refine List.mem_of_getElem? (i:=i) ?_
  rw [List.getElem?_take,if_pos (by omega),List.getElem?_set_self hil,hez]
 ·refine List.mem_of_getElem? (i:=j) ?_
  rw [List.getElem?_take,if_pos (by omega),List.getElem?_set_ne (Ne.symm hji)]
  exact hj
theorem StOk.at_of2 {x:StM} (h:StOk x) {m i:Nat} {e:Ent} (hm:m < 64) (he:(x.tab m)[i]?=some e):x.at e.1=some (m,i,e):=by
 have hr:=Zg5 (h.tab m hm).nodup he
 have hh:=h.home_at hm (show inT x.tab m e.1 from by unfold inT; rw [hr]; rfl)
 unfold StM.at
 rw [hh]
 simp only [hr,he]
def Has (x:StM) (e:Ent):Prop:=∃ m,m < 64∧e∈x.tab m
theorem StOk.has_of {x:StM} (h:StOk x) {id:Int} (hl:x.s.live id=true):∃ e,Has x e∧e.1=id∧x.ent id=(e,0):=by
 have:=h.at_live id
 rw [hl] at this
 obtain ⟨⟨m,i,e⟩,ha⟩:=Option.isSome_iff_exists.1 this
 obtain ⟨_,h1,_,h2,h3,_⟩:=h.at_some ha
 exact ⟨e,⟨m,h1,List.mem_of_getElem? h2⟩,h3,by unfold StM.ent; rw [ha]⟩
theorem Zv2 {T:Nat→List Ent} {m i:Nat} {a e:Ent} (hi:(T m)[i]?=some a) (hne:e.1≠a.1) {k:Nat} (he:e∈T k):e∈upd T m (dropI (T m) i) k:=by
 by_cases hk:k=m
 ·subst hk; rw [Z5b]; exact Ztk hi he fun h=>hne (by rw [h])
 ·rw [Z2c hk]; exact he
theorem Zwg {T:Nat→List Ent} {id:Int} {l:List Comp} {e:Ent} {k:Nat} (he:e∈T k):e∈putT T id l k:=by
 unfold putT
 by_cases hk:k=maskN l
 ·subst hk; rw [Z5b]; exact List.mem_append_left _ he
 ·rw [Z2c hk]; exact he
theorem Zn8 {x:StM} (h:StOk x) {id:Int} {e:Ent} (hne:e.1≠id) (he:Has x e):Has (x.despawn id).2 e:=by
 obtain ⟨k,hk,hi⟩:=he
 unfold StM.despawn
 cases ha:x.at id with
 | none=>exact ⟨k,hk,hi⟩
 | some p =>
  obtain ⟨m,i,a⟩:=p
  obtain ⟨_,_,_,h2,h3,_⟩:=h.at_some ha
  exact ⟨k,hk,Zv2 h2 (by rw [h3]; exact hne) hi⟩
theorem Zdq {x:StM} (h:StOk x) {id:Int} {c:Comp} {e:Ent} (hne:e.1≠id) (he:Has x e):Has (x.set id c).2 e:=by
 obtain ⟨k,hk,hi⟩:=he
 unfold StM.set
 split
 ·exact ⟨k,hk,hi⟩
 ·cases ha:x.at id with
  | none=>exact ⟨k,hk,hi⟩
  | some p =>
   obtain ⟨m,i,a⟩:=p
   obtain ⟨_,_,_,h2,h3,_⟩:=h.at_some ha
   simp only
   split
   ·refine ⟨k,hk,?_⟩
    show e∈upd _ _ _ k
    by_cases hkm:k=m
    ·subst hkm
     rw [Z5b]
     obtain ⟨j,hj⟩:=List.mem_iff_getElem?.1 hi
     refine List.mem_of_getElem? (i:=j) ?_
     unfold setL
     rw [List.getElem?_modify,hj]
     have:i≠j:=fun e2=>by subst e2; rw [h2] at hj; cases hj; exact hne h3
     simp [this]
    ·rw [Z2c hkm]; exact hi
   ·exact ⟨k,hk,hi⟩
abbrev slT:Ty:=.sc .sl
theorem lists_arg:SlArg Tryz.prog 74 35 slT [35] :=
 ⟨by kernel_rfl,by kernel_rfl,by decide,by kernel_rfl,⟨[.sl],by kernel_rfl,.inr ⟨.sl,rfl,rfl⟩⟩⟩
def ListIn (W:World) (r:Sl) (l:List Comp):Prop:=SlT (Old W) W compT r l∧(∀ c∈l,CompOk c)∧r.c≤maxLen
theorem lists_in {raws:List Sl} (h:∀ r∈raws,AllLeaf enc Tryz.prog w [35] (slT.cells r)):∃ L,All2 (ListIn w) raws L:=deep_of fun r hr=>by
 obtain ⟨_,h⟩:=h r hr
 exact Zma (h 0 _ _ rfl rfl)
end Go.Proofs.YtoiahhpgkoknfaaGreat
namespace Go.Proofs.YtoiahhpgkoknfaaGreat
open Go Go.RowKit Go.Proofs.YtoiahhpgkoknfaaGreat.Den
abbrev SysP:=StM × List Int
structure SysStep (step:SysP→Ent→SysP):Prop where
 ok:∀ p e,StOk p.1→Has p.1 e→StOk (step p e).1
 keep:∀ p e e',StOk p.1→Has p.1 e→e'.1≠e.1→Has p.1 e'→Has (step p e).1 e'
 len:∀ p e,(step p e).2.length≤p.2.length+1
def sysF (g:Int→Ent) (step:SysP→Ent→SysP) (p:SysP) (l:List Int):SysP:=l.foldl (fun p id=>step p (g id)) p
section
variable {g:Int→Ent} {step:SysP→Ent→SysP}
theorem Zu9 (p:SysP) (l:List Int) (id:Int):sysF g step p (l ++ [id])=step (sysF g step p l) (g id):=by simp [sysF]
theorem Zru (S:SysStep step):∀ (l:List Int) (p:SysP),StOk p.1→l.Nodup→(∀ i∈l,Has p.1 (g i)∧(g i).1=i)→StOk (sysF g step p l).1∧(∀ e,e.1 ∉ l→Has p.1 e→Has (sysF g step p l).1 e)∧(sysF g step p l).2.length≤p.2.length+l.length
 | [],p,h,_,_=>⟨h,fun e _ he=>he,by simp [sysF]⟩
 | a :: r,p,h,hn,hh=>by
  rw [List.nodup_cons] at hn
  obtain ⟨h1,h2⟩:=hh a List.mem_cons_self
  have hl:=S.len p (g a)
  obtain ⟨k1,k2,k3⟩:=Zru S r (step p (g a)) (S.ok p _ h h1) hn.2 fun i hi=>by
   obtain ⟨h3,h4⟩:=hh i (List.mem_cons_of_mem _ hi)
   exact ⟨S.keep p _ _ h h1 (by rw [h4,h2]; exact fun e=>hn.1 (e ▸ hi)) h3,h4⟩
  refine ⟨k1,fun e he he2=>k2 e (fun hm=>he (List.mem_cons_of_mem _ hm)) (S.keep p _ _ h h1 (by rw [h2]; exact fun e2=>he (e2 ▸ List.mem_cons_self)) he2),?_⟩
  show (sysF g step (step p (g a)) r).2.length≤_
  simp only [List.length_cons]
  omega
end
theorem Zw3 {step:SysP→Ent→SysP} (S:SysStep step) {x:StM} (h:StOk x) {l:List Int} (hn:l.Nodup) (hl:∀ i∈l,x.s.live i=true) {j:Nat} {id:Int} (hj:l[j]?=some id) (out:List Int) :
  StOk (sysF (fun i=>(x.ent i).1) step (x,out) (l.take j)).1∧Has (sysF (fun i=>(x.ent i).1) step (x,out) (l.take j)).1 (x.ent id).1∧(x.ent id).1.1=id∧(sysF (fun i=>(x.ent i).1) step (x,out) (l.take j)).2.length≤out.length+j ∧
   sysF (fun i=>(x.ent i).1) step (x,out) (l.take (j+1))=step (sysF (fun i=>(x.ent i).1) step (x,out) (l.take j)) (x.ent id).1:=by
 have hlive:∀ i,x.s.live i=true→Has x (x.ent i).1∧(x.ent i).1.1=i:=fun i hi=>by
  obtain ⟨e,h1,h2,h3⟩:=h.has_of hi
  rw [h3]; exact ⟨h1,h2⟩
 obtain ⟨k1,k2,k3⟩:=Zru (g:=fun i=>(x.ent i).1) S (l.take j) (x,out) h (hn.sublist (List.take_sublist _ _)) fun i hi=>hlive i (hl i (List.mem_of_mem_take hi))
 obtain ⟨h1,h2⟩:=hlive id (hl id (List.mem_of_getElem? hj))
 have hno:id ∉ l.take j:=fun hm=>by
  obtain ⟨q,hq⟩:=List.mem_iff_getElem?.1 hm
  rw [List.getElem?_take] at hq
  split at hq
  ·rename_i hqj
   obtain ⟨a1,a2⟩:=List.getElem?_eq_some_iff.1 hq
   obtain ⟨b1,b2⟩:=List.getElem?_eq_some_iff.1 hj
   have:=(List.nodup_iff_pairwise_ne.1 hn)
   have:=(List.pairwise_iff_getElem.1 this) q j a1 b1 hqj
   rw [a2,b2] at this
   exact this rfl
  ·cases hq
 refine ⟨k1,k2 _ (by rw [h2]; exact hno) h1,h2,?_,?_⟩
 ·rw [List.length_take] at k3; simp only at k3; omega
 ·rw [Zr hj,Zu9]
def skipE (fit:Ent→Bool) (step:SysP→Ent→SysP) (p:SysP) (e:Ent):SysP:=if fit e then step p e else p
theorem SysStep.skip {step:SysP→Ent→SysP} (S:SysStep step) (fit:Ent→Bool):SysStep (skipE fit step) :=
 ⟨fun p e h1 h2=>by unfold skipE; split; exact S.ok p e h1 h2; exact h1,fun p e e' h1 h2 h3 h4=>by unfold skipE; split; exact S.keep p e e' h1 h2 h3 h4; exact h4,fun p e=>by unfold skipE; split; exact S.len p e; omega⟩
theorem Has.at {x:StM} (h:StOk x) {e:Ent} (he:Has x e):∃ m i,x.at e.1=some (m,i,e)∧m < 64∧Valid m e.2∧homeT x.tab e.1=some m∧x.s.live e.1=true:=by
 obtain ⟨m,hm,hi⟩:=he
 obtain ⟨i,hi⟩:=List.mem_iff_getElem?.1 hi
 have ha:=h.at_of2 hm hi
 obtain ⟨h1,_,_,_,_,h2,h3⟩:=h.at_some ha
 exact ⟨m,i,ha,hm,h2,h1,h3⟩
def hasK (e:Ent) (k:Int):Bool:=decide (k∈kindsOf (maskN e.2))
theorem Has.get {x:StM} (h:StOk x) {e:Ent} (he:Has x e) {k:Int} (hk:hasK e k=true):x.get e.1 k=((k,fieldsOf e.2 k),0):=by
 obtain ⟨m,i,ha,hm,hv,_,_⟩:=Has.at h he
 have hk:k∈kindsOf m:=by rw [← hv.mask]; simpa [hasK] using hk
 unfold StM.get
 rw [ha]
 exact if_pos hk
theorem Has.field {x:StM} (h:StOk x) {e:Ent} (he:Has x e) {k:Int} (hk:hasK e k=true):checkM (k,fieldsOf e.2 k)=0:=by
 obtain ⟨m,i,ha,hm,hv,_,_⟩:=Has.at h he
 have hk:k∈kindsOf m:=by rw [← hv.mask]; simpa [hasK] using hk
 have he:=hv.eq
 have:(k,fieldsOf e.2 k)∈e.2:=by rw [he]; exact List.mem_map.2 ⟨k,hk,by rw [← he]⟩
 exact (Z3s.1 hv.list).1 _ this
theorem Zk5 {x:StM} {l:List Comp} {e:Ent} (he:Has x e):Has (x.spawn l).2.2 e:=by
 unfold StM.spawn
 split
 ·exact he
 ·split
  ·exact he
  ·obtain ⟨k,hk,hi⟩:=he
   exact ⟨k,hk,Zwg hi⟩
theorem fit2 {x:StM} (h:StOk x) {all:Int} {ks:List Int} (hks:∀ m:Nat,m < 64→fitB (m:Int) all 0=ks.all fun k=>decide (k∈kindsOf m)) {id:Int} (hl:x.s.live id=true):fitE x all 0 id=ks.all fun k=>hasK (x.ent id).1 k:=by
 obtain ⟨e,he,h2,h3⟩:=h.has_of hl
 obtain ⟨m,i,ha,hm,hv,hh,_⟩:=Has.at h he
 rw [h2] at hh
 unfold fitE
 rw [hh,h3]
 simp only [hasK,hv.mask]
 exact hks m hm
theorem Znf {all:Int} {ks:List Int} (h:((List.range 64).all fun m=>fitB (m:Int) all 0 == ks.all fun k=>decide (k∈kindsOf m))=true):∀ m:Nat,m < 64→fitB (m:Int) all 0=ks.all fun k=>decide (k∈kindsOf m):=fun m hm=>by
 have:=List.all_eq_true.1 h m (List.mem_range.2 hm)
 simpa using this
theorem Zt5:∀ m:Nat,m < 64→fitB (m:Int) 3 0=[0,1].all fun k=>decide (k∈kindsOf m):=Znf (by decide +kernel)
theorem Zvx:∀ m:Nat,m < 64→fitB (m:Int) 4 0=[2].all fun k=>decide (k∈kindsOf m):=Znf (by decide +kernel)
theorem Zt6:∀ m:Nat,m < 64→fitB (m:Int) 33 0=[0,5].all fun k=>decide (k∈kindsOf m):=Znf (by decide +kernel)
def turnM (a b:Int):Int × Int:=if -524288≤a+b∧a+b≤524287 then (a+b,b) else (if a+b < 0 then -524288 else 524287,if b=-32768 then 32767 else -b)
def moveE (p:SysP) (e:Ent):SysP :=
 let a:=fieldsOf e.2 0
 let v:=fieldsOf e.2 1
 let X:=turnM a.1 v.1
 let Y:=turnM a.2.1 v.2.1
 (((p.1.set e.1 (0,X.1,Y.1,0)).2.set e.1 (1,X.2,Y.2,0)).2,if X.1=a.1∧Y.1=a.2.1 then p.2 else p.2 ++ [e.1])
def ageE (p:SysP) (e:Ent):SysP :=
 let n:=(fieldsOf e.2 2).1
 if n=0 then ((p.1.despawn e.1).2,p.2 ++ [e.1]) else ((p.1.set e.1 (2,n - 1,0,0)).2,p.2)
def childM (shape:Int) (c:Comp) (odd:Bool):List Comp :=
 [c,(1,if odd then -(64 * (shape+1)) else 64 * (shape+1),32 * (shape+1),0),(2,30+10 * shape,0,0),(3,shape,100,1+shape)]
def oddM (id:Int):Bool:=decide (slotOf id % 2=1)
def breedE (p:SysP) (e:Ent):SysP :=
 let s:=fieldsOf e.2 5
 if 0 < s.2.1 then ((p.1.set e.1 (5,s.1,s.2.1 - 1,s.2.2)).2,p.2)
 else
  let q:=p.1.spawn (childM s.2.2 (0,fieldsOf e.2 0) (oddM e.1))
  if q.2.1=0 then ((q.2.2.set e.1 (5,s.1,s.1 - 1,s.2.2)).2,p.2 ++ [q.1]) else (q.2.2,p.2)
theorem moveS:SysStep moveE :=
 ⟨fun p e h he=>(h.setM e.1 _).setM e.1 _,fun p e e' h he hne he'=>Zdq (h.setM e.1 _) hne (Zdq h hne he'),fun p e=>by unfold moveE; dsimp only; split <;> simp⟩
theorem ageS:SysStep ageE :=
 ⟨fun p e h he=>by unfold ageE; dsimp only; split; exact h.despawn e.1; exact h.setM e.1 _,fun p e e' h he hne he'=>by
  unfold ageE; dsimp only; split
  ·exact Zn8 h hne he'
  ·exact Zdq h hne he',fun p e=>by unfold ageE; dsimp only; split <;> simp⟩
theorem breedS:SysStep breedE :=
 ⟨fun p e h he=>by
  unfold breedE; dsimp only; split
  ·exact h.setM e.1 _
  ·split
   ·exact (h.spawn _).setM e.1 _
   ·exact h.spawn _,fun p e e' h he hne he'=>by
  unfold breedE; dsimp only; split
  ·exact Zdq h hne he'
  ·split
   ·exact Zdq (h.spawn _) hne (Zk5 he')
   ·exact Zk5 he',fun p e=>by
  unfold breedE; dsimp only; split
  ·simp
  ·split <;> simp⟩
def entF (x:StM) (i:Int):Ent:=(x.ent i).1
def moveM (x:StM):SysP:=sysF (entF x) moveE (x,[]) (withL x 3 0)
def ageM (x:StM):SysP:=sysF (entF x) ageE (x,[]) (withL x 4 0)
def breedM (x:StM):SysP:=sysF (entF x) breedE (x,[]) (withL x 33 0)
theorem Zrb {k a b c:Int} (h:checkM (k,a,b,c)=0):(∀ p,(fieldsM k)[0]?=some p→p.2.1≤a∧a≤p.2.2)∧(∀ p,(fieldsM k)[1]?=some p→p.2.1≤b∧b≤p.2.2)∧(∀ p,(fieldsM k)[2]?=some p→p.2.1≤c∧c≤p.2.2) ∧
  ((fieldsM k)[1]?=none→b=0)∧((fieldsM k)[2]?=none→c=0):=by
 have hall:(List.range 3).all (inR (k,a,b,c))=true:=by
  unfold checkM at h
  split at h
  ·cases h
  ·split at h
   ·cases h
   ·split at h
    ·assumption
    ·cases h
 have key:∀ i,i < 3→inR (k,a,b,c) i=true:=fun i hi=>List.all_eq_true.1 hall i (List.mem_range.2 hi)
 have h0:=key 0 (by omega)
 have h1:=key 1 (by omega)
 have h2:=key 2 (by omega)
 unfold inR at h0 h1 h2
 simp only [fl] at h0 h1 h2
 refine ⟨fun p hp=>?_,fun p hp=>?_,fun p hp=>?_,fun hp=>?_,fun hp=>?_⟩
 ·rw [hp] at h0; simpa using h0
 ·rw [hp] at h1; simpa using h1
 ·rw [hp] at h2; simpa using h2
 ·rw [hp] at h1; simpa using h1
 ·rw [hp] at h2; simpa using h2
theorem Zx7 {f:F3} (h:checkM (0,f)=0):(-524288≤f.1∧f.1≤524287)∧(-524288≤f.2.1∧f.2.1≤524287)∧f.2.2=0:=by
 obtain ⟨a,b,c⟩:=f
 obtain ⟨h0,h1,_,_,h2⟩:=Zrb h
 exact ⟨h0 _ rfl,h1 _ rfl,h2 rfl⟩
theorem Zxe {f:F3} (h:checkM (1,f)=0):(-32768≤f.1∧f.1≤32767)∧(-32768≤f.2.1∧f.2.1≤32767)∧f.2.2=0:=by
 obtain ⟨a,b,c⟩:=f
 obtain ⟨h0,h1,_,_,h2⟩:=Zrb h
 exact ⟨h0 _ rfl,h1 _ rfl,h2 rfl⟩
theorem Zwh {f:F3} (h:checkM (2,f)=0):(0≤f.1∧f.1≤4095)∧f.2.1=0∧f.2.2=0:=by
 obtain ⟨a,b,c⟩:=f
 obtain ⟨h0,_,_,h1,h2⟩:=Zrb h
 exact ⟨h0 _ rfl,h1 rfl,h2 rfl⟩
theorem Zvg {f:F3} (h:checkM (5,f)=0):(1≤f.1∧f.1≤255)∧(0≤f.2.1∧f.2.1≤254)∧(0≤f.2.2∧f.2.2≤15):=by
 obtain ⟨a,b,c⟩:=f
 obtain ⟨h0,h1,h2,_,_⟩:=Zrb h
 exact ⟨h0 _ rfl,h1 _ rfl,h2 _ rfl⟩
theorem Zk7 {k a b c:Int} (hn:cntM k≠0) (h:(List.range 3).all (inR (k,a,b,c))=true):checkM (k,a,b,c)=0:=by
 have ho:over (k,a,b,c)=false:=by
  unfold over
  rw [List.any_eq_false]
  intro i hi
  rw [List.all_eq_true.1 h i hi]
  simp
 unfold checkM
 rw [if_neg hn,ho,h]
 rfl
theorem Zuo {shape:Int} (hs:0≤shape∧shape≤15) {f:F3} (hf:checkM (0,f)=0) (odd:Bool):listE (childM shape (0,f) odd)=0:=by
 refine Z3s.2 ⟨fun c hc=>?_,by simp [childM]⟩
 simp only [childM,List.mem_cons,List.not_mem_nil,or_false] at hc
 rcases hc with rfl | rfl | rfl | rfl
 ·exact hf
 ·refine Zk7 (by decide) ?_
  cases odd <;> simp [List.range_succ,inR,fieldsM,fl] <;> omega
 ·refine Zk7 (by decide) ?_
  simp [List.range_succ,inR,fieldsM,fl]; omega
 ·refine Zk7 (by decide) ?_
  simp [List.range_succ,inR,fieldsM,fl]; omega
end Go.Proofs.YtoiahhpgkoknfaaGreat
