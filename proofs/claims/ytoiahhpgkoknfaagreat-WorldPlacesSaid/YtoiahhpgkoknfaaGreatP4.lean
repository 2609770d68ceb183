/-
  What the proof of rows:R15p leans on, laid together by a program of this session (wip/pack.py) out of its own texts; the last of these texts holds rows:R15p.
-/
import Derived.Test.YtoiahhpgkoknfaaGreatP3
set_option linter.unusedVariables false
set_option linter.unusedSimpArgs false
namespace Go.Proofs.YtoiahhpgkoknfaaGreat
open Go Go.RowKit Go.Proofs.YtoiahhpgkoknfaaGreat.Den
variable {R:Type} {Q:R→World→Prop} {w:World}
abbrev One:=Int × Bool × Int
def wt (o:One):Int:=o.1 - (if o.2.1 then 1 else 0)
def fz (ones:List One) (a:Int):Int:=match ones[a.toNat]? with
 | some o=>o.2.2
 | none=>0
theorem fz_at {ones:List One} {q:Nat} {o:One} (h:ones[q]?=some o):fz ones (q:Int)=o.2.2:=by unfold fz; rw [Int.toNat_natCast,h]
theorem Zi5 {ones:List One} {q:Nat} {o:One} {a:Int} (h:a.toNat≠q):fz (ones.set q o) a=fz ones a:=by unfold fz; rw [List.getElem?_set_ne (Ne.symm h)]
structure R7M (s:SM) (ones:List One) (clock:Int):Prop where
 gen:ones.map (·.1)=s.gen
 used:ones.map (·.2.1)=s.used
 fr:∀ (i:Nat) (o:One),ones[i]?=some o→(0 < o.2.2↔(i:Int)∈s.free)
 mono:s.free.Pairwise (fun a b=>fz ones a < fz ones b)
 le:∀ o∈ones,o.2.2≤clock
 c0:0≤clock
 cb:clock≤(ones.map wt).sum
theorem Zlw:∀ {l:List Int} {i:Nat} {x:Int},l[i]?=some x→∀ y,(l.set i y).sum=l.sum - x+y
 | [],_,_,h,_=>by simp at h
 | a :: r,0,x,h,y=>by simp at h; subst h; simp; omega
 | a :: r,i+1,x,h,y=>by simp at h; simp [Zlw h y]; omega
theorem Zpc {α:Type}:∀ {l:List α} {q:Nat} {x:α},l[q]?=some x→l.set q x=l
 | [],_,_,h=>by simp at h
 | a :: r,0,x,h=>by simp at h; subst h; rfl
 | a :: r,q+1,x,h=>by simp at h; rw [List.set_cons_succ,Zpc h]
theorem Ztr {c:Int}:∀ {l:List Int},(∀ x∈l,x≤c)→l.sum≤l.length * c
 | [],_=>by simp
 | a :: r,h=>by
  have h1:=h a (by simp)
  have h2:=Ztr (l:=r) fun x hx=>h x (by simp [hx])
  simp only [List.sum_cons,List.length_cons]
  have:((r.length+1:Nat):Int) * c=(r.length:Int) * c+c:=by push_cast; rw [Int.add_mul,Int.one_mul]
  omega
section
variable {s:SM} {ones:List One} {clock:Int}
theorem R7M.len (h:R7M s ones clock):ones.length=s.n:=by rw [SM.n,← h.gen,List.length_map]
theorem R7M.at_ (h:R7M s ones clock) {q:Nat} (hq:q < s.n):∃ o,ones[q]?=some o∧s.gen[q]?=some o.1∧s.used[q]?=some o.2.1:=by
 have hl:=h.len
 refine ⟨_,List.getElem?_eq_getElem (by omega),?_,?_⟩
 ·rw [← h.gen,List.getElem?_map,List.getElem?_eq_getElem (by omega)]; rfl
 ·rw [← h.used,List.getElem?_map,List.getElem?_eq_getElem (by omega)]; rfl
theorem R7M.new (n:Nat) (first:Int):R7M (SM.new n first) (List.replicate n (0,false,0)) 0:=by
 refine ⟨by simp [SM.new],by simp [SM.new],fun i o h=>?_,by simp [SM.new],fun o h=>?_,Int.le_refl _,?_⟩
 ·rw [List.getElem?_replicate] at h
  split at h
  ·cases h; simp [SM.new]
  ·cases h
 ·rw [List.eq_of_mem_replicate h]; exact Int.le_refl _
 ·have:((List.replicate n ((0,false,0):One)).map wt).sum=0:=by
   rw [List.map_replicate]
   induction n with
   | zero=>rfl
   | succ n ih=>rw [List.replicate_succ,List.sum_cons,ih]; rfl
  omega
theorem R7M.gen_le (h:R7M s ones clock) (hs:SMOk s):∀ o∈ones,o.1≤4194303:=fun o ho=>by
 obtain ⟨i,hi⟩:=List.mem_iff_getElem?.1 ho
 have hg:s.gen[i]?=some o.1:=by rw [← h.gen,List.getElem?_map,hi]; rfl
 rcases Nat.lt_or_ge i s.fresh with h1 | h1
 ·exact (hs.old i _ hg h1).2
 ·rw [hs.new i _ hg h1]; omega
theorem R7M.clock_le (h:R7M s ones clock) (hs:SMOk s):clock≤4294966272:=by
 have h1:=Ztr (c:=4194303) (l:=ones.map wt) fun x hx=>by
  obtain ⟨o,ho,rfl⟩:=List.mem_map.1 hx
  have:=h.gen_le hs o ho
  unfold wt
  split <;> omega
 have h2:=h.len
 have h3:=hs.le
 have h4:=h.cb
 rw [List.length_map,h2] at h1
 have:(s.n:Int) * 4194303≤1024 * 4194303:=Int.mul_le_mul_of_nonneg_right (by omega) (by omega)
 omega
theorem R7M.use (h:R7M s ones clock) {q:Nat} {o:One} (hq:ones[q]?=some o) (hu:o.2.1=false) {g:Int} (hg:o.1≤g - 1) {free':List Int} {fr':Nat} (hfree:∀ x,x∈free'↔x∈s.free∧x≠(q:Int)) (hsub:free'.Sublist s.free) (hn:∀ x∈s.free,0≤x) :
  R7M { s.use q g with free:=free',fresh:=fr' } (ones.set q (g,true,0)) clock:=by
 have hql:=(List.getElem?_eq_some_iff.1 hq).1
 refine ⟨by rw [List.map_set,h.gen]; rfl,by rw [List.map_set,h.used]; rfl,fun i o' hi=>?_,?_,fun o' ho=>?_,h.c0,?_⟩
 ·rw [hfree]
  rw [List.getElem?_set] at hi
  by_cases e:q=i
  ·subst e
   rw [if_pos rfl,if_pos hql] at hi
   cases hi
   simp
  ·rw [if_neg e] at hi
   rw [h.fr i o' hi]
   constructor
   ·intro h1; exact ⟨h1,fun e2=>e (by omega)⟩
   ·exact fun h1=>h1.1
 ·refine List.Pairwise.imp_of_mem ?_ (h.mono.sublist hsub)
  intro a b ha hb hab
  have h1:=(hfree a).1 ha
  have h2:=(hfree b).1 hb
  have h3:=hn a h1.1
  have h4:=hn b h2.1
  rw [Zi5 (fun e=>h1.2 (by omega)),Zi5 (fun e=>h2.2 (by omega))]
  exact hab
 ·rcases List.mem_or_eq_of_mem_set ho with h1 | h1
  ·exact h.le o' h1
  ·subst h1; exact h.c0
 ·have hw:(ones.map wt)[q]?=some (wt o):=by rw [List.getElem?_map,hq]; rfl
  rw [List.map_set,Zlw hw]
  have e1:wt o=o.1:=by unfold wt; rw [hu]; simp
  have e2:wt (g,true,0)=g - 1:=by unfold wt; simp
  have:=h.cb
  omega
theorem R7M.off (h:R7M s ones clock) {q:Nat} {o:One} (hq:ones[q]?=some o) (hu:o.2.1=true) (hno:(q:Int) ∉ s.free) (hn:∀ x∈s.free,0≤x) :
  R7M { s with used:=s.used.set q false,free:=s.free ++ [(q:Int)] } (ones.set q (o.1,false,clock+1)) (clock+1)∧R7M { s with used:=s.used.set q false } (ones.set q (o.1,false,o.2.2)) clock:=by
 have hql:=(List.getElem?_eq_some_iff.1 hq).1
 have hw:(ones.map wt)[q]?=some (wt o):=by rw [List.getElem?_map,hq]; rfl
 have e1:wt o=o.1 - 1:=by unfold wt; rw [hu]; simp
 have hgen:∀ x,(ones.set q (o.1,false,x)).map (·.1)=s.gen:=fun x=>by
  rw [List.map_set,h.gen]
  exact Zpc (by rw [← h.gen,List.getElem?_map,hq]; rfl)
 have hc:=h.cb
 have hfree:∀ x∈s.free,x.toNat≠q:=fun x hx e=>hno (by have:=hn x hx; rw [← e,Int.toNat_of_nonneg this]; exact hx)
 have hf0:¬ 0 < o.2.2:=fun e=>hno ((h.fr q o hq).1 e)
 refine ⟨⟨hgen _,by rw [List.map_set,h.used],fun i o' hi=>?_,?_,fun o' ho=>?_,by have:=h.c0; omega,?_⟩,⟨hgen _,by rw [List.map_set,h.used],fun i o' hi=>?_,?_,fun o' ho=>?_,h.c0,?_⟩⟩
 ·rw [List.getElem?_set] at hi
  rw [List.mem_append,List.mem_singleton]
  by_cases e:q=i
  ·subst e
   rw [if_pos rfl,if_pos hql] at hi
   cases hi
   have:=h.c0
   simp; omega
  ·rw [if_neg e] at hi
   rw [h.fr i o' hi]
   constructor
   ·exact .inl
   ·rintro (h1 | h1)
    ·exact h1
    ·exact absurd (by omega) e
 ·rw [List.pairwise_append]
  refine ⟨h.mono.imp_of_mem fun {a b} ha hb hab=>by rw [Zi5 (hfree a ha),Zi5 (hfree b hb)]; exact hab,by simp,fun a ha b hb=>?_⟩
  simp only [List.mem_singleton] at hb
  subst hb
  rw [Zi5 (hfree a ha),fz_at (o:=(o.1,false,clock+1)) (by rw [List.getElem?_set_self hql])]
  have h1:fz ones a≤clock:=by
   unfold fz
   cases ha2:ones[a.toNat]? with
   | none=>exact h.c0
   | some o2=>exact h.le o2 (List.mem_of_getElem? ha2)
  show fz ones a < clock+1
  omega
 ·rcases List.mem_or_eq_of_mem_set ho with h1 | h1
  ·have:=h.le o' h1; omega
  ·subst h1; exact Int.le_refl _
 ·rw [List.map_set,Zlw hw]
  have e2:wt (o.1,false,clock+1)=o.1:=by unfold wt; simp
  omega
 ·rw [List.getElem?_set] at hi
  by_cases e:q=i
  ·subst e
   rw [if_pos rfl,if_pos hql] at hi
   cases hi
   exact ⟨fun e=>absurd e hf0,fun e=>absurd e hno⟩
  ·rw [if_neg e] at hi
   exact h.fr i o' hi
 ·exact h.mono.imp_of_mem fun {a b} ha hb hab=>by rw [Zi5 (hfree a ha),Zi5 (hfree b hb)]; exact hab
 ·rcases List.mem_or_eq_of_mem_set ho with h1 | h1
  ·exact h.le o' h1
  ·subst h1; exact h.le o (List.mem_of_getElem? hq)
 ·rw [List.map_set,Zlw hw]
  have e2:wt (o.1,false,o.2.2)=o.1:=by unfold wt; simp
  omega
end
abbrev oneT:Ty:=.agg [.int .i64,.bool,.int .i64]
abbrev s7C (s:SM) (sl:Sl) (clock:Int):List Value:=[.int .i64 s.first,.slice sl.a sl.n sl.c,.int .i64 clock]
def S7O (b:Nat) (s:SM):OB:=fun F w=>SMOk s∧∃ sl ones clock,F b∧Blk w b 226 (s7C s sl clock)∧Den.Own (fun k=>F k∧k≠b) w 229 oneT sl ones∧R7M s ones clock
theorem S7O.st {b:Nat} {s:SM}:St (S7O b s):=fun ⟨h0,sl,ones,clock,h1,h2,h3,h4⟩ f hs =>
 ⟨h0,sl,ones,clock,(hs b h2.lt h1).2,h2.fr f (hs b h2.lt h1).1,Den.Own.st h3 f fun k hk e=>⟨(hs k hk e.1).1,(hs k hk e.1).2,e.2⟩,h4⟩
theorem Zog {id:Int} (hid:IdOk id) {K:Res [.sc (.int .i64)]→W R} (hk:K (genOf id) Q w):callW Tryz.prog Z5o [.int .u32 id] [.sc (.int .i64)] K Q w:=by
 refine Ze8 _ K Q w ?_
 unfold Z90
 obtain ⟨h1,h2⟩:=hid
 have e:IntKind.wrap .i64 (Int.tdiv (IntKind.wrap .i64 id) 1024)=genOf id:=by rw [w64 (x:=id) (by omega),Int.tdiv_eq_ediv_of_nonneg h1,w64 (by omega)]; rfl
 rw [e]
 exact hk
theorem Zfj {id:Int} (hid:IdOk id) {K:Res [.sc (.int .i64)]→W R} (hk:K (slotOf id) Q w):callW Tryz.prog Z3h [.int .u32 id] [.sc (.int .i64)] K Q w:=by
 refine Zdj _ K Q w ?_
 unfold Z8a
 obtain ⟨h1,h2⟩:=hid
 have e:Int.tmod (IntKind.wrap .i64 id) 1024=slotOf id:=by rw [w64 (by omega),Int.tmod_eq_emod_of_nonneg h1]; rfl
 rw [e]
 exact hk
theorem Zn6 {i:Nat} {g:Int} (hi:i < 1024) (h1:1≤g) (h2:g≤4194303) {K:Res [.sc (.int .u32),.sc (.int .i64)]→W R} (hk:K (idOf i g,0) Q w):callW Tryz.prog Z3g [.int .i64 (i:Int),.int .i64 g] [.sc (.int .u32),.sc (.int .i64)] K Q w:=by
 refine Zdi _ _ K Q w ?_
 unfold Z89
 refine joinI (fun z w'=>z=false∧w'=w) ?_ ?_
 ·refine condD (fun h=>absurd (show (i:Int) < 0 from h) (by omega)) fun _=>condD (fun h=>absurd (show (i:Int) > 1023 from h) (by omega)) fun _=>condD (fun h=>absurd h (by omega)) fun _=>⟨decide_eq_false (by omega),rfl⟩
 rintro z w' ⟨rfl,rfl⟩
 have e1:IntKind.wrap .u32 g=g:=wu32 (by omega)
 have e2:IntKind.wrap .u32 (g * 1024)=g * 1024:=wu32 (by omega)
 have e3:IntKind.wrap .u32 (i:Int)=(i:Int):=wu32 (by omega)
 have e4:IntKind.wrap .u32 (g * 1024+(i:Int))=idOf i g:=by rw [wu32 (by omega)]; rfl
 refine condF rfl ?_
 show K _ Q w'
 rw [e1,e2,e3,e4]
 exact hk
section
variable {F:Nat→Prop} {b:Nat} {s:SM}
theorem Zuh (h:S7O b s F w) {id:Int} (hid:IdOk id) {K:Res [.sc .bool]→W R} (hk:∀ w',Fr None w w'→K (s.live id) Q w'):callW Tryz.prog Z5b [.pointer (some ⟨b,0,none⟩),.int .u32 id] [.sc .bool] K Q w:=by
 obtain ⟨hs,sl,ones,clock,hF,B,ho,hM⟩:=h
 refine Zdh _ _ K Q w ?_
 unfold Z88
 refine condF rfl (ptrI (fldI B (x:=sl) rfl ?_))
 have hlen:=hM.len
 have hle:=hs.le
 refine rangeC (t:=oneT) (l:=ones) (ok:=fun _=>True) (fun s:Int=>s) (fun j i w'=>i=(j:Int)∧Fr None w w'∧∀ (q:Nat) (o:One),q < j→ones[q]?=some o→¬ (o.2.1=true∧(q:Int)=slotOf id∧o.1=genOf id)) rfl rfl rfl ⟨rfl,Fr.refl _ _,by omega⟩ (fun j s w' h=>h.1) (fun j st w' hp=>(ho.sl.mono fun _ _ _=>trivial).fr0 hp.2.1) ?_ ?_
 ·rintro j x i w1 w2 K' hx ⟨rfl,f1,hno⟩ - B2 f2 s2 hK
  have hjl:=(List.getElem?_eq_some_iff.1 hx).1
  refine joinI (fun z w'=>Fr None w w'∧z=decide (x.2.1=true∧(j:Int)=slotOf id∧x.1=genOf id)) ?_ ?_
  ·have fd:Fr None w w2.drew:=(f1.then0 f2).drew
   refine fldI B2.drew (x:=x.2.1) rfl ?_
   refine condI (fun hu=>?_) fun hu=>⟨fd,by rw [decide_eq_false (by simp [hu])]⟩
   refine Zfj hid (condE (fun hs2=>?_) fun hs2=>⟨fd,by rw [decide_eq_false (fun h=>hs2 h.2.1)]⟩)
   refine fldI B2.drew (x:=x.1) rfl (Zog hid (andI (B2.drew.rd (s:=.int .i64) (i:=0) (x:=x.1) rfl) ⟨fd,?_⟩))
   by_cases hg:x.1=genOf id <;> simp [hg,hu,hs2]
  ·rintro z w3 ⟨f3,rfl⟩
   refine condD (fun hz=>?_) fun hz=>?_
   ·have:s.live id=true:=SM.live_iff.2 ⟨by rw [← hM.used,List.getElem?_map,show (slotOf id).toNat=j by omega,hx]; simp [hz.1],by rw [← hM.gen,List.getElem?_map,show (slotOf id).toNat=j by omega,hx]; simp [hz.2.2]⟩
    have e:=hk w3 f3
    rw [this] at e
    exact e
   ·refine hK _ _ ⟨wsucc (N:=ones.length) hjl (by omega),f3,fun q o hq ho2=>?_⟩
    rcases Nat.lt_succ_iff_lt_or_eq.1 hq with h1 | h1
    ·exact hno q o h1 ho2
    ·subst h1; rw [hx] at ho2; cases ho2; exact hz
 ·rintro i w1 ⟨rfl,f1,hno⟩
  have:s.live id=false:=by
   cases hl:s.live id with
   | false=>rfl
   | true =>
    obtain ⟨h1,h2⟩:=SM.live_iff.1 hl
    have hr:=Z6l id
    have hq:(slotOf id).toNat < s.n:=by have:=(List.getElem?_eq_some_iff.1 h2).1; exact this
    obtain ⟨o,ho1,ho2,ho3⟩:=hM.at_ hq
    rw [h1] at ho3
    rw [h2] at ho2
    exact absurd ⟨(Option.some.inj ho3).symm,by omega,(Option.some.inj ho2).symm⟩ (hno _ o (by omega) ho1)
  have e:=hk w1 f1
  rw [this] at e
  exact e
end
end Go.Proofs.YtoiahhpgkoknfaaGreat
namespace Go.Proofs.YtoiahhpgkoknfaaGreat
open Go Go.RowKit Go.Proofs.YtoiahhpgkoknfaaGreat.Den
variable {R:Type} {Q:R→World→Prop} {w:World}
section
variable {F:Nat→Prop} {b:Nat} {s:SM}
theorem Den.SlT.fldL {ok:Nat→Prop} {l:List One} {sl:Sl} (h:SlT ok w oneT sl l) {i:Int} {j:Nat} (hi:i=j) {x:One} (hj:l[j]?=some x) {q:Nat} {c:Sc} {y:c.T} (hq:(oneT.cells x)[q]?=some (c.e y)) {K:c.T→W R} (hk:K y Q w) :
  (idxW sl.a sl.n 3 i fun a=>ld (.sc c) (Addr.add a q) K) Q w:=by
 subst hi
 have hjl:=(List.getElem?_eq_some_iff.1 hj).1
 have hn:=h.len
 rcases h.at_ with e | ⟨b,o,ha,_,_,hrd⟩
 ·rw [e] at hjl; simp at hjl
 ·rw [ha]
  refine ⟨_,rfl,by omega,by omega,?_⟩
  rw [Z3,Int.toNat_natCast]
  exact ⟨y,(Rd.cells.1 (hrd j x hj)) q _ hq,hk⟩
theorem Zr5 {ones:List One} {clock:Int} (hs:SMOk s) (hM:R7M s ones clock) {q:Nat} {o:One} (hq:ones[q]?=some o) (h0:0 < o.2.2) (hmax:∀ (i:Nat) (o':One),ones[i]?=some o'→o'.2.2≤o.2.2):s.free.getLast?=some (q:Int):=by
 have hmem:=(hM.fr q o hq).1 h0
 obtain ⟨z,hz⟩:∃ z,s.free.getLast?=some z:=by
  cases hg:s.free.getLast? with
  | none=>rw [List.getLast?_eq_none_iff] at hg; rw [hg] at hmem; simp at hmem
  | some z=>exact ⟨z,rfl⟩
 have hsp:=Zax hz
 have hzm:z∈s.free:=List.mem_of_getLast? hz
 obtain ⟨i,rfl,hi,_⟩:=hs.freeGet hzm
 obtain ⟨oz,hoz,_⟩:=hM.at_ hi
 rw [hz]
 by_cases e:(i:Int)=q
 ·rw [e]
 ·have hqd:(q:Int)∈s.free.dropLast:=by
   rw [hsp] at hmem
   rcases List.mem_append.1 hmem with h1 | h1
   ·exact h1
   ·simp at h1; omega
  have hm:=hM.mono
  rw [hsp,List.pairwise_append] at hm
  have:=hm.2.2 (q:Int) hqd (i:Int) (by simp)
  rw [fz_at hq,fz_at hoz] at this
  have:=hmax i oz hoz
  omega
theorem Zsp {ones:List One} {clock:Int} (hs:SMOk s) (hM:R7M s ones clock) (h:∀ (i:Nat) (o:One),ones[i]?=some o→¬ 0 < o.2.2):s.free=[]:=by
 cases hf:s.free with
 | nil=>rfl
 | cons x r =>
  obtain ⟨i,rfl,hi,_⟩:=hs.freeGet (x:=x) (by rw [hf]; simp)
  obtain ⟨o,ho,_⟩:=hM.at_ hi
  exact absurd ((hM.fr i o ho).2 (by rw [hf]; simp)) (h i o ho)
def Best (ones:List One) (j:Nat) (best:Int):Prop:=(best=-1∧∀ (i:Nat) (o:One),i < j→ones[i]?=some o→¬ 0 < o.2.2)∨∃ (q:Nat) (o:One),best=(q:Int)∧ones[q]?=some o∧0 < o.2.2∧∀ (i:Nat) (o':One),i < j→ones[i]?=some o'→o'.2.2≤o.2.2
def Better (ones:List One) (best:Int) (x:One):Prop:=0 < x.2.2∧(best < 0∨∃ (q:Nat) (o:One),best=(q:Int)∧ones[q]?=some o∧o.2.2 < x.2.2)
theorem Zs9 {ones:List One} {j:Nat} {best:Int} {x:One} (hb:Best ones j best) (hx:ones[j]?=some x) (hz:Better ones best x):Best ones (j+1) (j:Int):=by
 refine .inr ⟨j,x,rfl,hx,hz.1,fun i o' hi ho'=>?_⟩
 rcases Nat.lt_succ_iff_lt_or_eq.1 hi with h2 | h2
 ·rcases hb with ⟨_,hb2⟩ | ⟨q,o,hq,hoq,h3,h4⟩
  ·have:=hb2 i o' h2 ho'; have:=hz.1; omega
  ·have:=h4 i o' h2 ho'
   rcases hz.2 with h5 | ⟨q2,o2,h6,h7,h8⟩
   ·omega
   ·have:q2=q:=by omega
    subst this
    rw [hoq] at h7
    cases h7
    omega
 ·subst h2; rw [hx] at ho'; cases ho'; exact Int.le_refl _
theorem Ztz {ones:List One} {j:Nat} {best:Int} {x:One} (hb:Best ones j best) (hx:ones[j]?=some x) (hz:¬ Better ones best x):Best ones (j+1) best:=by
 rcases hb with ⟨hb1,hb2⟩ | ⟨q,o,hq,hoq,h3,h4⟩
 ·refine .inl ⟨hb1,fun i o' hi ho'=>?_⟩
  rcases Nat.lt_succ_iff_lt_or_eq.1 hi with h2 | h2
  ·exact hb2 i o' h2 ho'
  ·subst h2; rw [hx] at ho'; cases ho'
   exact fun h5=>hz ⟨h5,.inl (by omega)⟩
 ·refine .inr ⟨q,o,hq,hoq,h3,fun i o' hi ho'=>?_⟩
  rcases Nat.lt_succ_iff_lt_or_eq.1 hi with h2 | h2
  ·exact h4 i o' h2 ho'
  ·subst h2; rw [hx] at ho'; cases ho'
   exact Int.not_lt.1 fun h5=>hz ⟨by omega,.inr ⟨q,o,hq,hoq,h5⟩⟩
theorem Zui (h:S7O b s F w) {K:Res [.sc (.int .u32),.sc (.int .i64)]→W R}
  (h0:s.take=none→∀ w',Fr None w w'→K (0,8) Q w')
  (h1:∀ id s' w',s.take=some (id,s')→S7O b s' F w'→Fr F w w'→K (id,0) Q w'):callW Tryz.prog Z5c [.pointer (some ⟨b,0,none⟩)] [.sc (.int .u32),.sc (.int .i64)] K Q w:=by
 obtain ⟨hs,sl,ones,clock,hF,B,ho,hM⟩:=h
 refine Zdk _ K Q w ?_
 unfold Z8b
 refine condF rfl (ptrI (fldI B (x:=sl) rfl ?_))
 have hlen:=hM.len
 have hle:=hs.le
 have hsn:sl.n=ones.length:=ho.len
 refine rangeC (t:=oneT) (l:=ones) (ok:=fun _=>True) (fun s:Int × Int=>s.2) (fun j st w'=>st.2=(j:Int)∧Fr None w w'∧Best ones j st.1) rfl rfl rfl ⟨rfl,Fr.refl _ _,.inl ⟨rfl,by omega⟩⟩ (fun j s w' h=>h.1) (fun j st w' hp=>(ho.sl.mono fun _ _ _=>trivial).fr0 hp.2.1) ?_ ?_
 ·rintro j x ⟨best,_⟩ w1 w2 K' hx ⟨rfl,f1,hb⟩ - B2 f2 s2 hK
  have hb:Best ones j best:=hb
  have hjl:=(List.getElem?_eq_some_iff.1 hx).1
  have fd:Fr None w w2.drew:=(f1.then0 f2).drew
  have B2d:=B2.drew
  refine joinI (fun z w'=>w'=w2.drew∧(z=true↔Better ones best x)) ?_ ?_
  ·refine fldI B2d (x:=x.2.2) rfl (condD (fun hp=>?_) fun hp=>⟨rfl,iff_of_false (by simp) fun h=>hp h.1⟩)
   refine condD (fun hb0=>⟨rfl,iff_of_true rfl ⟨hp,.inl hb0⟩⟩) fun hb0=>?_
   have hb0:¬ best < 0:=hb0
   rcases hb with ⟨hb1,_⟩ | ⟨q,o,hq,hoq,_⟩
   ·omega
   refine fldI B2d (x:=x.2.2) rfl (ptrI (fldI (B.fr fd fun h=>h) (x:=sl) rfl ?_))
   refine (ho.none fd).sl.fldL hq hoq (c:=.int .i64) (q:=2) (y:=o.2.2) rfl ⟨rfl,?_⟩
   by_cases h2:o.2.2 < x.2.2
   ·exact iff_of_true (decide_eq_true h2) ⟨hp,.inr ⟨q,o,hq,hoq,h2⟩⟩
   ·refine iff_of_false (by rw [decide_eq_false h2]; simp) ?_
    rintro ⟨_,h3 | ⟨q2,o2,h4,h5,h6⟩⟩
    ·omega
    ·have:q2=q:=by omega
     subst this
     rw [hoq] at h5
     cases h5
     exact h2 h6
  ·rintro z w3 ⟨rfl,hziff⟩
   refine joinI (fun (c:Int) w'=>w'=w2.drew∧Best ones (j+1) c) ?_ ?_
   ·exact condI (fun hz=>⟨rfl,Zs9 hb hx (hziff.1 hz)⟩) fun hz=>⟨rfl,Ztz hb hx fun h=>by rw [hziff.2 h] at hz; cases hz⟩
   ·rintro c w4 ⟨rfl,hc⟩
    exact hK _ _ ⟨wsucc (N:=ones.length) hjl (by omega),fd,hc⟩
 rintro ⟨best,_⟩ w1 ⟨-,f1,hb⟩
 have B1:=B.fr f1 fun h=>h
 have o1:=ho.none f1
 have hpost:∀ (z:Int) (w2:World),Fr None w w2→((z=-1∧s.take=none)∨∃ (q:Nat) (o:One) (g:Int) (s':SM),z=(q:Int)∧ones[q]?=some o∧1≤g∧g≤4194303∧(g=if o.1+1=1 then s.first else o.1+1)∧o.1+1≤4194303∧0≤o.1∧s.take=some (idOf q g,s')∧R7M s' (ones.set q (g,true,0)) clock) →
   (cond (decide (z < 0)) (retW (0,8)) (ptrW (some ⟨b,0,none⟩) fun x_30=>ld (.sc .sl) (Addr.add x_30 1) fun (x_31:Sl)=>idxW x_31.a x_31.n 3 z fun x_32=>ld (.sc (.int .i64)) (Addr.add x_32 0) fun (x_33:Int) =>
    joinW (σ:=Int) (fun J_34=>cond ((IntKind.wrap .i64 (x_33+1)) == 1) (ptrW (some ⟨b,0,none⟩) fun x_35=>ld (.sc (.int .i64)) (Addr.add x_35 0) fun (x_36:Int)=>J_34 x_36) (J_34 (IntKind.wrap .i64 (x_33+1)))) <| fun s_37 =>
    ptrW (some ⟨b,0,none⟩) fun x_38=>ld (.sc .sl) (Addr.add x_38 1) fun (x_39:Sl)=>idxW x_39.a x_39.n 3 z fun x_40=>stoL x_40 [.int .i64 s_37,.bool true,.int .i64 0] 0 <|
    callW Tryz.prog Z3g [.int .i64 z,.int .i64 s_37] [.sc (.int .u32),.sc (.int .i64)] fun (x_41:Int × Int)=>retW (x_41.1,x_41.2)):W (Int × Int)) (fun r w=>K r Q w) w2:=by
  rintro z w2 f2 (⟨rfl,ht⟩ | ⟨q,o,g,s',rfl,hq,g1,g2,hg,hg3,hg4,ht,hM'⟩)
  ·exact condT rfl (h0 ht w2 f2)
  ·have hql:=(List.getElem?_eq_some_iff.1 hq).1
   refine condF (decide_eq_false (by omega)) (ptrI (fldI (B.fr f2 fun h=>h) (x:=sl) rfl ?_))
   have o2:=ho.none f2
   refine o2.sl.fldL rfl hq (c:=.int .i64) (q:=0) (y:=o.1) rfl ?_
   rw [w64 (x:=o.1+1) (by omega)]
   refine joinI (fun (z:Int) w'=>z=g∧w'=w2) ?_ ?_
   ·refine condE (fun e=>ptrI (fldI (B.fr f2 fun h=>h) (x:=s.first) rfl ⟨by rw [hg,if_pos e],rfl⟩)) fun e=>⟨by rw [hg,if_neg e],rfl⟩
   rintro z w3 ⟨rfl,rfl⟩
   refine ptrI (fldI (B.fr f2 fun h=>h) (x:=sl) rfl ?_)
   refine o2.idx rfl (by omega) (by omega) fun a u ha hu _=>?_
   refine o2.set rfl (by omega) ha ((z,true,0):One) fun w4 o4 f4 _=>?_
   rw [Int.toNat_natCast] at o4
   have hne:¬ (sl.v.ownBlock=some b):=fun e=>(ho.own b e).2 rfl
   refine Zn6 (by omega) g1 g2 (h1 _ _ w4 ht ⟨hs.take ht,sl,_,clock,hF,?_,o4,hM'⟩ (f2.any.then (f4.sub fun k e=>(o2.own k e).1)))
   have e1:s'.first=s.first:=by
    unfold SM.take at ht
    split at ht
    ·split at ht
     ·simp only [Option.some.injEq,Prod.mk.injEq] at ht; rw [← ht.2]; rfl
     ·cases ht
    ·split at ht
     ·simp only [Option.some.injEq,Prod.mk.injEq] at ht; rw [← ht.2]; rfl
     ·cases ht
   have:=(B.fr f2 fun h=>h).fr f4 hne
   unfold s7C at this ⊢
   rw [e1]
   exact this
 rcases hb with ⟨hb1,hb2⟩ | ⟨q,o,hq,hoq,h3,h4⟩
 ·
  have hb1:best=-1:=hb1
  subst hb1
  have hfn:=Zsp hs hM fun i o hi=>hb2 i o (by have:=(List.getElem?_eq_some_iff.1 hi).1; omega) hi
  refine loopI (fun st w'=>Fr None w w'∧((∃ j:Nat,st=(-1,(j:Int))∧j≤ones.length∧∀ (i:Nat) (o:One),i < j→ones[i]?=some o→o.1≠0)∨∃ (q:Nat) (o:One) (z:Int),st=((q:Int),z)∧ones[q]?=some o∧o.1=0∧∀ (i:Nat) (o:One),i < q→ones[i]?=some o→o.1≠0)) (fun st _=>if st.1 < 0 then ones.length+1 - st.2.toNat else 0) ⟨f1,.inl ⟨0,rfl,by omega,by omega⟩⟩ ?_
  rintro st w2 ⟨f2,⟨j,rfl,hjl,hno⟩ | ⟨q,o,z,rfl,hq,hq0,hno⟩⟩
  ·refine joinI (fun z w'=>w'=w2∧z=decide (j < ones.length)) ?_ ?_
   ·refine condT rfl (ptrI (fldI (B.fr f2 fun h=>h) (x:=sl) rfl ⟨rfl,?_⟩))
    by_cases hj:j < ones.length
    ·rw [decide_eq_true hj]; exact decide_eq_true (by show (j:Int) < (sl.n:Int); omega)
    ·rw [decide_eq_false hj]; exact decide_eq_false (by show ¬ (j:Int) < (sl.n:Int); omega)
   rintro z w3 ⟨rfl,rfl⟩
   refine condD (fun hj=>?_) fun hj=>?_
   ·obtain ⟨o,hoj⟩:∃ o,ones[j]?=some o:=⟨_,List.getElem?_eq_getElem hj⟩
    refine ptrI (fldI (B.fr f2 fun h=>h) (x:=sl) rfl ?_)
    refine (ho.none f2).sl.fldL rfl hoj (c:=.int .i64) (q:=0) (y:=o.1) rfl ?_
    have ew:IntKind.wrap .i64 ((j:Int)+1)=((j+1:Nat):Int):=wsucc (N:=ones.length) hj (by omega)
    refine joinK (condE (fun e=>⟨⟨f2,.inr ⟨j,o,_,rfl,hoj,e,hno⟩⟩,?_⟩) fun e=>⟨⟨f2,.inl ⟨j+1,by rw [← ew],by omega,fun i o' hi ho'=>?_⟩⟩,?_⟩)
    ·simp only
     rw [if_neg (by omega),if_pos (by omega)]; omega
    ·rcases Nat.lt_succ_iff_lt_or_eq.1 hi with h2 | h2
     ·exact hno i o' h2 ho'
     ·subst h2; rw [hoj] at ho'; cases ho'; exact e
    ·simp only
     rw [if_pos (by omega),if_pos (by omega),ew]; omega
   ·refine hpost (-1) w3 f2 (.inl ⟨rfl,?_⟩)
    unfold SM.take
    rw [hfn]
    simp only [List.getLast?_nil]
    rw [if_neg]
    intro hlt
    obtain ⟨o,ho1,ho2,_⟩:=hM.at_ hlt
    have:=hs.new s.fresh o.1 ho2 (Nat.le_refl _)
    exact hno s.fresh o (by omega) ho1 this
  ·refine joinI (fun z w'=>w'=w2∧z=false) (condF (decide_eq_false (by show ¬ (q:Int) < 0; omega)) ⟨rfl,rfl⟩) ?_
   rintro z2 w3 ⟨rfl,rfl⟩
   refine condF rfl ?_
   have hql:=(List.getElem?_eq_some_iff.1 hq).1
   have hgq:s.gen[q]?=some o.1:=by rw [← hM.gen,List.getElem?_map,hq]; rfl
   have hfq:s.fresh=q:=by
    have h5:s.fresh≤q:=Nat.le_of_not_lt fun h=>by have:=(hs.old q o.1 hgq h).1; omega
    rcases Nat.lt_or_ge s.fresh q with h6 | h6
    ·obtain ⟨o2,ho2,ho3,_⟩:=hM.at_ (q:=s.fresh) (by omega)
     have:=hs.new s.fresh o2.1 ho3 (Nat.le_refl _)
     exact absurd this (hno s.fresh o2 h6 ho2)
    ·omega
   have hfi:=hs.first
   have huq:o.2.1=false:=by
    cases hu:o.2.1 with
    | false=>rfl
    | true =>
     have:=hs.unused q (by rw [← hM.used,List.getElem?_map,hq]; simp [hu])
     omega
   refine hpost (q:Int) w3 f2 (.inr ⟨q,o,s.first,{ s.use s.fresh s.first with fresh:=s.fresh+1 },rfl,hq,hfi.1,hfi.2,by rw [hq0,if_pos (by omega)],by omega,by omega,?_,?_⟩)
   ·unfold SM.take
    rw [hfn]
    simp only [List.getLast?_nil]
    rw [if_pos (by omega),hfq]
   ·have:=hM.use (fr':=s.fresh+1) (free':=[]) hq huq (g:=s.first) (by omega) (fun x=>by rw [hfn]; simp) (List.nil_sublist _) (fun x hx=>by rw [hfn] at hx; simp at hx)
    rw [hfq]
    rw [hfq] at this
    have e:({ s.use q s.first with fresh:=q+1 }:SM)={ s.use q s.first with free:=[],fresh:=q+1 }:=by
     unfold SM.use
     rw [hfn]
    rw [e]
    exact this
 ·have hq:best=(q:Int):=hq
  subst hq
  have hql:=(List.getElem?_eq_some_iff.1 hoq).1
  have hlast:=Zr5 hs hM hoq h3 fun i o' hi=>h4 i o' (List.getElem?_eq_some_iff.1 hi).1 hi
  refine loopI (fun st w'=>st=((q:Int),0)∧Fr None w w') (fun _ _=>0) ⟨rfl,f1⟩ ?_
  rintro st w2 ⟨rfl,f2⟩
  refine joinI (fun z w'=>w'=w2∧z=false) (condF (decide_eq_false (by show ¬ (q:Int) < 0; omega)) ⟨rfl,rfl⟩) ?_
  rintro z w3 ⟨rfl,rfl⟩
  refine condF rfl ?_
  have hmem:(q:Int)∈s.free:=List.mem_of_getLast? hlast
  obtain ⟨i,hiq,_,huq,g,hg1,hg2,hg3⟩:=hs.freeGet hmem
  have:i=q:=by omega
  subst this
  have hgq:s.gen[i]?=some o.1:=by rw [← hM.gen,List.getElem?_map,hoq]; rfl
  rw [hgq] at hg1
  cases hg1
  have hu:o.2.1=false:=by
   rw [← hM.used,List.getElem?_map,hoq] at huq
   simpa using huq
  have hnd:=hs.nodup
  have hsp:=Zax hlast
  refine hpost (i:Int) w3 f2 (.inr ⟨i,o,o.1+1,{ s.use i (o.1+1) with free:=s.free.dropLast },rfl,hoq,by omega,by omega,by rw [if_neg (by omega)],by omega,by omega,?_,?_⟩)
  ·unfold SM.take
   rw [hlast]
   simp only [Int.toNat_natCast,hgq]
  ·have:=hM.use (fr':=s.fresh) (free':=s.free.dropLast) hoq hu (g:=o.1+1) (by omega) (fun x=>?_) (List.dropLast_sublist _) (fun x hx=>by obtain ⟨i',e,_⟩:=hs.freeGet hx; omega)
   ·exact this
   ·rw [hsp] at hnd
    have hnd2:=List.nodup_append.1 hnd
    constructor
    ·intro hx
     exact ⟨(List.dropLast_sublist _).subset hx,fun e=>hnd2.2.2 x hx (i:Int) (by simp) e⟩
    ·rintro ⟨h5,h6⟩
     rw [hsp] at h5
     rcases List.mem_append.1 h5 with h7 | h7
     ·exact h7
     ·simp at h7; exact absurd h7 h6
end
end Go.Proofs.YtoiahhpgkoknfaaGreat
namespace Go.Proofs.YtoiahhpgkoknfaaGreat
open Go Go.RowKit Go.Proofs.YtoiahhpgkoknfaaGreat.Den
variable {R:Type} {Q:R→World→Prop} {w:World}
section
variable {F:Nat→Prop} {b:Nat} {s:SM}
theorem Zug (h:S7O b s F w) {id:Int} (hid:IdOk id) (hl:s.live id=true) {K:Res [.sc (.int .i64)]→W R} (hk:∀ w',S7O b (s.freed id) F w'→Fr F w w'→K 0 Q w') :
  callW Tryz.prog Z5a [.pointer (some ⟨b,0,none⟩),.int .u32 id] [.sc (.int .i64)] K Q w:=by
 refine Zdg _ _ K Q w ?_
 unfold Z87
 refine condF rfl (Zuh h hid fun w1 f1=>?_)
 rw [hl]
 obtain ⟨hs,sl,ones,clock,hF,B,ho,hM⟩:=S7O.st.fr0 h f1
 obtain ⟨hu,hg⟩:=SM.live_iff.1 hl
 have hr:=Z6l id
 have hclk:=hM.clock_le hs
 have hc0:=hM.c0
 have hq:(slotOf id).toNat < s.n:=(List.getElem?_eq_some_iff.1 hg).1
 obtain ⟨o,hoq,hog,hou⟩:=hM.at_ hq
 rw [hu] at hou
 rw [hg] at hog
 have hgo:o.1=genOf id:=(Option.some.inj hog).symm
 have huo:o.2.1=true:=(Option.some.inj hou).symm
 have eq:((slotOf id).toNat:Int)=slotOf id:=by omega
 have hno:(((slotOf id).toNat:Nat):Int) ∉ s.free:=fun hm=>by
  obtain ⟨i,e,_,hu2,_⟩:=hs.freeGet hm
  have:(slotOf id).toNat=i:=by omega
  rw [this,hu2] at hu
  cases hu
 have hn0:∀ x∈s.free,0≤x:=fun x hx=>by obtain ⟨i',e,_⟩:=hs.freeGet hx; omega
 obtain ⟨m1,m2⟩:=hM.off hoq huo hno hn0
 have hlen:=hM.len
 have hne:∀ {S:Nat→Prop} {w':World} {l:List One},Den.Own (fun k=>F k∧k≠b) w' 229 oneT sl l→¬ (sl.v.ownBlock=some b):=fun o e=>(o.own b e).2 rfl
 have hnb:¬ (sl.v.ownBlock=some b):=fun e=>(ho.own b e).2 rfl
 refine condF rfl (Zfj hid ?_)
 rw [← eq]
 generalize hqq:(slotOf id).toNat=q at *
 have hql:q < ones.length:=by omega
 refine ptrI (fldI B (x:=sl) rfl ?_)
 refine ho.idx rfl (by omega) (by omega) fun g u hgg hu1 _=>?_
 rw [Int.toNat_natCast] at hu1 ⊢
 rw [hoq] at hu1
 cases hu1
 rw [Z3]
 refine ho.setFld (i:=q) (j:=1) (x':=((o.1,false,o.2.2):One)) hoq hgg (show 1 < 3 by omega) rfl rfl fun w2 o2 f2 s2=>?_
 have B2:=B.fr f2 hnb
 have hq2:(ones.set q (o.1,false,o.2.2))[q]?=some (o.1,false,o.2.2):=by rw [List.getElem?_set_self hql]
 refine ptrI (fldI B2 (x:=sl) rfl ?_)
 refine o2.sl.fldL rfl hq2 (c:=.int .i64) (q:=0) (y:=o.1) rfl ?_
 have f02:Fr F w w2:=f1.any.then (f2.sub fun k e=>(ho.own k e).1)
 refine joinI (fun (_:Unit) w'=>S7O b (s.freed id) F w'∧Fr F w w') ?_ fun _ w3 ⟨h3,f3⟩=>hk w3 h3 f3
 rw [hgo]
 refine condD (fun hlt=>?_) fun hge=>⟨⟨hs.freed hl,sl,_,clock,hF,?_,o2,?_⟩,f02⟩
 ·refine ptrI (fldI B2 (x:=clock) rfl (ptrI (setA (i:=2) B2 (show 2 < 3 by omega) rfl fun w3 B3 f3 s3=>?_)))
  rw [w64 (x:=clock+1) (by omega)] at B3
  have o3:=o2.fr f3 fun k hk e=>hk.2 e
  have fd:Fr None w3 w3.drew:=(Fr.refl _ _).drew
  refine ptrI (fldI B3.drew (x:=sl) rfl (ptrI (fldI B3.drew (x:=clock+1) rfl ?_)))
  have o3d:=o3.none fd
  refine o3d.idx rfl (by omega) (by rw [List.length_set]; omega) fun g u hgg hu1 _=>?_
  rw [Int.toNat_natCast] at hu1 ⊢
  rw [hq2] at hu1
  cases hu1
  rw [Z3]
  refine o3d.setFld (i:=q) (j:=2) (x':=((o.1,false,clock+1):One)) hq2 hgg (show 2 < 3 by omega) rfl rfl fun w4 o4 f4 s4=>⟨⟨hs.freed hl,sl,_,clock+1,hF,?_,o4,?_⟩,?_⟩
  ·exact B3.drew.fr f4 hnb
  ·rw [List.set_set]
   have e:s.freed id={ s with used:=s.used.set q false,free:=s.free ++ [(q:Int)] }:=by
    unfold SM.freed
    rw [hqq,if_pos hlt,eq]
   rw [e]
   exact m1
  ·exact ((f02.then (f3.sub fun k e=>by rw [e]; exact hF)).then fd.any).then (f4.sub fun k e=>(o3d.own k e).1)
 ·exact B2
 ·have e:s.freed id={ s with used:=s.used.set q false }:=by
   unfold SM.freed
   rw [hqq,if_neg hge]
  rw [e]
  exact m2
end
end Go.Proofs.YtoiahhpgkoknfaaGreat
namespace Go.Proofs.YtoiahhpgkoknfaaGreat
open Go Go.RowKit Go.Proofs.YtoiahhpgkoknfaaGreat.Den
variable {R:Type} {Q:R→World→Prop} {w:World}
def ArrO (C:Nat→Prop) (m:Nat) (s:Sl) (L:List Ent):OB:=fun F w=>TabOk m L∧∃ (raws:List (Int × Sl)) (lab:Nat→Nat),(∀ k,lab k≠0→F k∧k < w.heap.size)∧((∀ k,lab k=1→¬ C k)∧∀ k,lab k=2→C k)∧Den.Own (fun k=>lab k=1) w 49 entT s raws∧EntsR (fun k=>lab k=2) w raws L
theorem ArrO.st {C:Nat→Prop} {m:Nat} {s:Sl} {L:List Ent}:St (ArrO C m s L):=fun {F F' S w w'} ⟨h0,raws,lab,h1,hC,h2,h3⟩ f hs =>
 ⟨h0,raws,lab,fun k e=>⟨(hs k (h1 k e).2 (h1 k e).1).2,Nat.lt_of_lt_of_le (h1 k e).2 f.size⟩,hC,h2.fr f fun k e=>(hs k (h1 k (by omega)).2 (h1 k (by omega)).1).1,h3.fr f fun k e=>(hs k (h1 k (by omega)).2 (h1 k (by omega)).1).1⟩
abbrev Ag (C C':Nat→Prop) (n:Nat):Prop:=∀ k,k < n→(C' k↔C k)
theorem ArrO.recol {C C':Nat→Prop} {m:Nat} {s:Sl} {L:List Ent} {F:Nat→Prop} (A:ArrO C m s L F w) (h:Ag C C' w.heap.size):ArrO C' m s L F w:=by
 obtain ⟨h0,raws,lab,h1,hC,h2,h3⟩:=A
 exact ⟨h0,raws,lab,h1,⟨fun k e e2=>hC.1 k e ((h k (h1 k (by omega)).2).1 e2),fun k e=>(h k (h1 k (by omega)).2).2 (hC.2 k e)⟩,h2,h3⟩
section
variable {C:Nat→Prop} {F:Nat→Prop} {b ofs m:Nat} {T:TypeId} {cs:List Value} {s:Sl} {L:List Ent}
theorem ArrO.rf (A:ArrO C m s L F w) (B:Blk w b T cs) (c0:cs[ofs]?=some (.int .u8 (m:Int))) (c1:cs[ofs+1]?=some (.slice s.a s.n s.c)) (hb:¬ F b):∃ lab,Rf lab w b ofs T cs m L∧(∀ k,lab k≠0→F k∨k=b)∧(∀ k,lab k=1→k=b)∧(∀ k,lab k=2→F k∧¬ C k)∧∀ k,lab k=3→C k:=by
 obtain ⟨h0,raws,lab,h1,hC,h2,h3⟩:=A
 have hb0:lab b=0:=by
  by_cases h:lab b=0
  ·exact h
  ·exact absurd (h1 b h).1 hb
 refine ⟨fun k=>if k=b then 1 else if lab k=1 then 2 else if lab k=2 then 3 else 0,⟨h0,s,raws,B,c0,c1,if_pos rfl,h2.mono fun k _ e=>?_,h3.mono fun k _ e=>?_,fun k e=>?_⟩,fun k e=>?_,fun k e=>?_,fun k e=>?_,fun k e=>?_⟩
 ·show (if _ then _ else _)=_
  rw [if_neg (fun e2=>by subst e2; omega),if_pos e]
 ·show (if _ then _ else _)=_
  rw [if_neg (fun e2=>by subst e2; omega),if_neg (by omega),if_pos e]
 ·by_cases e2:k=b
  ·subst e2; exact B.lt
  ·simp only [if_neg e2] at e
   refine (h1 k fun e3=>?_).2
   rw [e3] at e; simp at e
 ·by_cases e2:k=b
  ·exact .inr e2
  ·simp only [if_neg e2] at e
   refine .inl (h1 k fun e3=>?_).1
   rw [e3] at e; simp at e
 ·by_cases e2:k=b
  ·exact e2
  ·simp only [if_neg e2] at e
   split at e
   ·omega
   ·split at e <;> omega
 ·by_cases e2:k=b
  ·simp [if_pos e2] at e
  ·simp only [if_neg e2] at e
   split at e
   ·rename_i e3; exact ⟨(h1 k (by omega)).1,hC.1 k e3⟩
   ·split at e <;> omega
 ·by_cases e2:k=b
  ·simp [if_pos e2] at e
  ·simp only [if_neg e2] at e
   split at e
   ·omega
   ·split at e
    ·rename_i e3; exact hC.2 k e3
    ·omega
theorem ArrO.of {lab:Nat→Nat} {F':Nat→Prop} (h:Rf lab w b ofs T cs m L) (hF:∀ k,lab k≠0→F' k∨k=b) (hC:(∀ k,lab k=2→¬ C k)∧∀ k,lab k=3→C k):Blk w b T cs∧cs[ofs]?=some (.int .u8 (m:Int))∧∃ s:Sl,cs[ofs+1]?=some (.slice s.a s.n s.c)∧ArrO C m s L F' w:=by
 obtain ⟨s,raws,r⟩:=h.rep
 refine ⟨r.blk,r.c0,s,r.c1,h.ok,raws,fun k=>if lab k=2 then 1 else if lab k=3 then 2 else 0,fun k e=>?_,⟨fun k e=>hC.1 k (by dsimp only at e; split at e; assumption; split at e <;> omega),fun k e=>hC.2 k (by dsimp only at e; split at e; omega; split at e; assumption; omega)⟩,r.own.mono fun k _ e=>?_,r.ents.mono fun k _ e=>?_⟩
 ·have h0:lab k≠0:=fun e2=>by simp [e2] at e
  have hkb:k≠b:=fun e2=>by subst e2; simp [r.lb] at e
  rcases hF k h0 with h1 | h1
  ·exact ⟨h1,r.lt k h0⟩
  ·exact absurd h1 hkb
 ·show (if _ then _ else _)=_; rw [if_pos e]
 ·show (if _ then _ else _)=_; rw [if_neg (by omega),if_pos e]
end
theorem recolour {C:Nat→Prop} {n:Nat} {lab lab2:Nat→Nat} (h2:∀ k,lab k=2→¬ C k) (h3:∀ k,lab k=3→C k) (he:∀ k,k < n→lab2 k=lab k):∃ C':Nat→Prop,Ag C C' n∧(∀ k,lab2 k=2→¬ C' k)∧∀ k,lab2 k=3→C' k :=
 ⟨fun k=>if k < n then C k else lab2 k=3,fun k h=>by simp only [if_pos h],fun k e=>by
  by_cases h:k < n
  ·simp only [if_pos h]; exact h2 k (by rw [← he k h]; exact e)
  ·simp only [if_neg h]; omega,fun k e=>by
  by_cases h:k < n
  ·simp only [if_pos h]; exact h3 k (by rw [← he k h]; exact e)
  ·simp only [if_neg h]; exact e⟩
structure R11R (C:Nat→Prop) (lab:Nat→Nat) (w:World) (b bs:Nat) (cs:List Value) (s:SM) (T:Nat→List Ent):Prop where
 lb:lab b=1
 lt:∀ k,lab k≠0→k < w.heap.size
 nc:∀ k,lab k=1∨lab k=2→¬ C k
 blk:Blk w b 149 cs
 c0:cs[0]?=some (.pointer (some ⟨bs,0,none⟩))
 slots:S7O bs s (fun k=>lab k=2) w
 tab:∀ m,m < 64→cs[1+m * 2]?=some (.int .u8 (m:Int))∧∃ sl:Sl,cs[1+m * 2+1]?=some (.slice sl.a sl.n sl.c)∧ArrO C m sl (T m) (fun k=>lab k=3+m) w
def R11 (C:Nat→Prop) (b:Nat) (x:StM):OB:=fun F w=>StOk x∧∃ (lab:Nat→Nat) (bs:Nat) (cs:List Value),(∀ k,lab k≠0→F k)∧R11R C lab w b bs cs x.s x.tab
section
variable {C:Nat→Prop} {lab:Nat→Nat} {b bs:Nat} {cs:List Value} {s:SM} {T:Nat→List Ent}
theorem R11R.cut (h:R11R C lab w b bs cs s T) {S:Nat→Prop} {w':World} (f:Fr S w w') (hs:∀ k,k < w.heap.size→lab k≠0→¬ S k):R11R C (Den.cut lab w.heap.size) w' b bs cs s T :=
 ⟨by rw [Zma h.blk.lt]; exact h.lb,fun k e=>Nat.lt_of_lt_of_le (Zam e).2 f.size,fun k e=>h.nc k (by have h1:=(Zam (lab:=lab) (n:=w.heap.size) (k:=k) (by omega)).2; rw [Zma h1] at e; exact e),h.blk.fr f (hs b h.blk.lt (by rw [h.lb]; decide)),h.c0,S7O.st.cut h.slots f (by decide) hs,fun m hm=>by
  obtain ⟨h1,sl,h2,h3⟩:=h.tab m hm
  exact ⟨h1,sl,h2,ArrO.st.cut h3 f (by omega) hs⟩⟩
theorem R11R.fr0 (h:R11R C lab w b bs cs s T) {w':World} (f:Fr None w w'):R11R C lab w' b bs cs s T :=
 ⟨h.lb,fun k e=>Nat.lt_of_lt_of_le (h.lt k e) f.size,h.nc,h.blk.fr f fun h=>h,h.c0,S7O.st.fr0 h.slots f,fun m hm=>by
  obtain ⟨h1,sl,h2,h3⟩:=h.tab m hm
  exact ⟨h1,sl,h2,ArrO.st.fr0 h3 f⟩⟩
theorem R11.st {x:StM}:St (R11 C b x):=fun {_F _F' _S w _w'} ⟨ok,lab,bs,cs,hF,h⟩ fr hs =>
 ⟨ok,Den.cut lab w.heap.size,bs,cs,fun k e=>(hs k (Zam e).2 (hF k (Zam e).1)).2,h.cut fr fun k hk e=>(hs k hk (hF k e)).1⟩
theorem R11R.setTab {C':Nat→Prop} (hag:Ag C C' w.heap.size) (h:R11R C lab w b bs cs s T) {m:Nat} (hm:m < 64) {L:List Ent} {cs':List Value} {w':World} (B:Blk w' b 149 cs') (hc:∀ i,i≠1+m * 2+1→cs'[i]?=cs[i]?) {sl:Sl} (c1:cs'[1+m * 2+1]?=some (.slice sl.a sl.n sl.c))
  (A:ArrO C' m sl L (Ex (fun k=>lab k=3+m) w) w') (f:Fr (fun k=>lab k=3+m∨k=b) w w'):R11R C' (relab lab w.heap.size w'.heap.size (3+m)) w' b bs cs' s (upd T m L):=by
 have f':∀ {A:OB} {i:Nat},St A→i≠3+m→i≠1→A (fun k=>lab k=i) w→A (fun k=>relab lab w.heap.size w'.heap.size (3+m) k=i) w':=fun hA h1 h2 a =>
  hA a f fun k hk e=>⟨fun e2=>by
   rcases e2 with e2 | e2
   ·omega
   ·rw [e2,h.lb] at e; omega,by show relab _ _ _ _ _=_; rw [Z4 hk]; exact e⟩
 refine ⟨by rw [Z4 h.blk.lt]; exact h.lb,fun k e=>?_,fun k e=>?_,B,by rw [hc 0 (by omega)]; exact h.c0,f' S7O.st (by omega) (by omega) h.slots,fun k hk=>?_⟩
 ·rcases Z2a e with ⟨_,e⟩ | ⟨_,e⟩
  ·exact Nat.lt_of_lt_of_le e f.size
  ·exact e
 ·rcases Z2a (lab:=lab) (n:=w.heap.size) (n':=w'.heap.size) (c:=3+m) (k:=k) (by omega) with ⟨_,e2⟩ | ⟨e2,e3⟩
  ·rw [Z4 e2] at e
   exact fun e3=>h.nc k e ((hag k e2).1 e3)
  ·rw [Z4c e2 e3] at e; omega
 obtain ⟨h1,sl',h2,h3⟩:=h.tab k hk
 refine ⟨by rw [hc _ (by omega)]; exact h1,?_⟩
 by_cases e:k=m
 ·subst e
  exact ⟨sl,c1,by rw [Z4l]; exact ArrO.st.grown A⟩
 ·exact ⟨sl',by rw [hc _ (by omega)]; exact h2,by rw [Z1w e]; exact f' ArrO.st (by omega) (by omega) (ArrO.recol h3 hag)⟩
theorem R11R.setSlots (h:R11R C lab w b bs cs s T) {s':SM} {w':World} (A:S7O bs s' (fun k=>lab k=2) w') (f:Fr (fun k=>lab k=2) w w'):R11R C lab w' b bs cs s' T :=
 ⟨h.lb,fun k e=>Nat.lt_of_lt_of_le (h.lt k e) f.size,h.nc,h.blk.fr f fun e=>by have:=h.lb; omega,h.c0,A,fun m hm=>by
  obtain ⟨h1,sl,h2,h3⟩:=h.tab m hm
  exact ⟨h1,sl,h2,ArrO.st.fr h3 f fun k e=>by omega⟩⟩
theorem Zri (h:R11R C lab w b bs cs s T) {m:Nat} (hm:m < 64) {id:Int} {K:Res [.sc (.int .i64)]→W R} (hk:∀ w',Fr None w w'→K (rowI (T m) id) Q w'):callW Tryz.prog Zk [.pointer (some ⟨b,1+m * 2,none⟩),.int .u32 id] [.sc (.int .i64)] K Q w:=by
 obtain ⟨h1,sl,h2,h3⟩:=h.tab m hm
 obtain ⟨lab',hr,_,_,_,_⟩:=h3.rf h.blk h1 h2 (by rw [h.lb]; omega)
 exact Z8u hr hk
theorem pt64 {b:Nat} {i:Int} {m:Nat} (hi:i=(m:Int)) (hm:m < 64) {K:Addr→W R} (hk:K ⟨b,1+m * 2,none⟩ Q w):idxW (some (Addr.add ⟨b,0,none⟩ 1)) 64 2 i K Q w:=by
 subst hi
 refine idxA (by omega) (by omega) ?_
 rw [Z3,Z3,Int.toNat_natCast,Nat.zero_add]
 exact hk
theorem Zrl {L:List Ent} {id:Int}:(rowI L id ≥ 0)↔(rowM L id).isSome=true:=by
 unfold rowI
 cases rowM L id <;> simp <;> omega
theorem Zli (h:R11R C lab w b bs cs s T) {id:Int} {K:Res [.sc .ptr]→W R} (hk:∀ w',Fr None w w'→K ((homeT T id).map fun m=>⟨b,1+m * 2,none⟩) Q w'):callW Tryz.prog Z2l [.pointer (some ⟨b,0,none⟩),.int .u32 id] [.sc .ptr] K Q w:=by
 refine Zdl _ _ K Q w ?_
 unfold Z8c
 refine forI (N:=64) (fun s:Int=>s) (fun j i w'=>i=(j:Int)∧Fr None w w'∧∀ k,k < j→¬ inT T k id) ⟨rfl,Fr.refl _ _,by omega⟩ (fun j s w' h=>h.1) ?_ ?_
 ·rintro j i w1 K' hj ⟨rfl,f1,hno⟩ - hK
  refine ptrI (pt64 rfl hj (Zri (h.fr0 f1) hj fun w2 f2=>?_))
  refine condD (fun hp=>?_) fun hp=>?_
  ·have hin:inT T j id:=Zrl.1 hp
   have hh:homeT T id=some j:=by
    unfold homeT
    rw [List.find?_range_eq_some]
    exact ⟨hin,by simpa using hj,fun k hk=>by have:=hno k hk; unfold inT at this; simpa using this⟩
   have e:=hk w2 (f1.then0 f2)
   rw [hh] at e
   exact ptrI (pt64 rfl hj e)
  ·refine hK _ _ ⟨wsucc hj (by omega),f1.then0 f2,fun k hk2=>?_⟩
   rcases Nat.lt_succ_iff_lt_or_eq.1 hk2 with h1 | h1
   ·exact hno k h1
   ·subst h1; exact fun hi=>hp (Zrl.2 hi)
 ·rintro i w1 ⟨-,f1,hno⟩
  have e:=hk w1 f1
  rw [Z3p.2 hno] at e
  exact e
theorem Zuc (h:R11R C lab w b bs cs s T) {id:Int} (hid:IdOk id) {ok:Nat→Prop} {r:Sl} {l:List Comp} (hS:SlT ok w compT r l) (hsm:Small l) (hl:∀ c∈l,CompOk c) (hv:listE l=0) (hno:rowM (T (maskN l)) id=none) (hroom:(T (maskN l)).length < 1048576) {K:Res []→W R}
  (hk:∀ C' lab' cs' w',Ag C C' w.heap.size→R11R C' lab' w' b bs cs' s (putT T id l)→(∀ k,lab' k≠0→lab k≠0∨w.heap.size≤k)→Fr (fun k=>lab k≠0∧¬ C k) w w'→K () Q w') :
  callW Tryz.prog Z5t [.pointer (some ⟨b,0,none⟩),.int .u32 id,.slice r.a r.n r.c] [] K Q w:=by
 refine Zeg _ _ _ K Q w ?_
 unfold Z98
 have fd:Fr None w w.drew:=(Fr.refl _ _).drew
 have hm:=Z66 l
 refine ptrI (Zh1 (hS.fr0 fd) hsm fun w1 f1=>?_)
 have f01:=fd.then0 f1
 have h1:=h.fr0 f01
 have hs1:=f01.size
 refine pt64 rfl hm ?_
 obtain ⟨t1,sl,t2,t3⟩:=h1.tab _ hm
 obtain ⟨lab',hr,hF,hb1,hb2,hb3⟩:=t3.rf h1.blk t1 t2 (by rw [h.lb]; omega)
 refine Zoh hr hid (hS.fr0 f01) hsm hl hroom fun lab2 cs' w2 hr2 hcs heq f2=>?_
 obtain ⟨C',hag,hC2,hC3⟩:=recolour (fun k e=>(hb2 k e).2) hb3 heq
 have hadd:addM (maskN l) (T (maskN l)) id l=0:=Znr ⟨hv,rfl⟩ hno
 rw [addT,if_pos hadd] at hr2
 obtain ⟨B2,_,sl2,c1,A2⟩:=ArrO.of (C:=C') (F':=Ex (fun k=>lab k=3+maskN l) w1) hr2 (fun k e=>by
  rcases Nat.lt_or_ge k w1.heap.size with hlt | hge
  ·rw [heq k hlt] at e
   rcases hF k e with e | e
   ·exact .inl (.inl e)
   ·exact .inr e
  ·exact .inl (.inr hge)) ⟨hC2,hC3⟩
 have f2':Fr (fun k=>lab k=3+maskN l∨k=b) w1 w2:=f2.sub fun k e=>hF k (by omega)
 have h2:=h1.setTab hag hm B2 hcs c1 A2 f2'
 refine hk C' _ cs' w2 (fun k hk=>hag k (by omega)) h2 (fun k e=>?_) (f01.any.then (f2.sub fun k e=>?_))
 ·rcases Z2a e with ⟨e,_⟩ | ⟨e,_⟩
  ·exact .inl e
  ·exact .inr (by omega)
 ·rcases e with e | e
  ·rw [hb1 k e]; exact ⟨by rw [h.lb]; decide,h.nc _ (.inl h.lb)⟩
  ·have:=hb2 k e; exact ⟨by omega,this.2⟩
end
end Go.Proofs.YtoiahhpgkoknfaaGreat
namespace Go.Proofs.YtoiahhpgkoknfaaGreat
open Go Go.RowKit Go.Proofs.YtoiahhpgkoknfaaGreat.Den
variable {R:Type} {Q:R→World→Prop} {w:World}
section
variable {C:Nat→Prop} {F:Nat→Prop} {b:Nat} {x:StM}
theorem R11.shut (h:R11 C b x F w):R11 C b x (fun k=>F k∧k < w.heap.size) w:=R11.st.mono h fun _ hk e=>⟨e,hk⟩
theorem Zjw (h:R11 C b x F w) {ok:Nat→Prop} {r:Sl} {l:List Comp} (hS:SlT ok w compT r l) (hd:∀ k,k < w.heap.size→ok k→¬ F k) (hsm:Small l) (hl:∀ c∈l,CompOk c) {K:Res [.sc (.int .u32),.sc (.int .i64)]→W R}
  (hk:∀ C' w',Ag C C' w.heap.size→R11 C' b (x.spawn l).2.2 (Ex F w) w'→Fr (fun k=>F k∧¬ C k) w w'→K ((x.spawn l).1,(x.spawn l).2.1) Q w'):callW Tryz.prog Z4w [.pointer (some ⟨b,0,none⟩),.slice r.a r.n r.c] [.sc (.int .u32),.sc (.int .i64)] K Q w:=by
 have hst:=h.shut
 refine Zcq _ _ K Q w ?_
 unfold Z7f
 refine condF rfl (Zh0 hS hsm hl fun w1 f1=>?_)
 refine condN (fun hc=>?_) fun hc=>?_
 ·have e:x.spawn l=(0,listE l,x):=by rw [StM.spawn,if_pos hc]
  rw [e] at hk
  exact hk C w1 (fun _ _=>Iff.rfl) (R11.st h f1 fun k _ e=>⟨fun h=>h,.inl e⟩) f1.any
 have hv:listE l=0:=by simpa using hc
 obtain ⟨ok1,lab,bs,cs,hF,hR⟩:=R11.st.fr0 hst f1
 have hs1:=f1.size
 refine ptrI (fldI hR.blk (i:=0) (x:=some ⟨bs,0,none⟩) hR.c0 ?_)
 refine Zui hR.slots (fun ht w2 f2=>?_) fun id s' w2 ht hS2 f2=>?_
 ·have e:x.spawn l=(0,8,x):=by unfold StM.spawn; rw [if_neg (fun h=>h hv),ht]
  rw [e] at hk
  refine joinK (condF rfl (hk C w2 (fun _ _=>Iff.rfl) (R11.st h (f1.then0 f2) fun k _ e=>⟨fun h=>h,.inl e⟩) (f1.then0 f2).any))
 ·obtain ⟨t1,t2,t3,_⟩:=ok1.s.take_live ht
  have hh:homeT x.tab id=none:=by
   have:=ok1.home_live id
   rw [t1] at this
   simpa using this
  have e:x.spawn l=(id,0,⟨s',putT x.tab id l⟩):=by unfold StM.spawn; rw [if_neg (fun h=>h hv),ht]
  have hok:StOk (x.spawn l).2.2:=ok1.spawn l
  rw [e] at hk hok
  have hm:=Z66 l
  have hno:rowM (x.tab (maskN l)) id=none:=by
   have:=Z3p.1 hh _ hm
   unfold inT at this
   simpa using this
  have f02:Fr (fun k=>F k∧¬ C k) w w2:=f1.any.then (f2.sub fun k e=>⟨(hF k (by omega)).1,hR.nc k (.inr e)⟩)
  refine joinI (fun (_:Unit) w'=>∃ C',Ag C C' w.heap.size∧R11 C' b ⟨s',putT x.tab id l⟩ (Ex F w) w'∧Fr (fun k=>F k∧¬ C k) w w') ?_ fun _ w3 ⟨C',hag,a,f⟩=>hk C' w3 hag a f
  refine condT rfl ?_
  have hS3:SlT (fun k=>ok k∧k < w.heap.size) w2 compT r l:=SlT.st (F:=fun k=>ok k∧k < w.heap.size) (hS.mono fun k hk e=>⟨e,hk⟩) f02 fun k hk e=>⟨fun e2=>hd k hk e.1 e2.1,e⟩
  refine Zuc (hR.setSlots hS2 f2) t3 hS3 hsm hl hv hno (by have:=ok1.tab_le hm; omega) fun C' lab' cs' w3 hag h3 hex f3=>⟨C',fun k hk=>hag k (by have:=f02.size; omega),⟨hok,lab',bs,cs',fun k e=>?_,h3⟩,?_⟩
  ·have:=f02.size
   rcases hex k e with h | h
   ·exact .inl (hF k h).1
   ·exact .inr (by omega)
  ·exact f02.exS f3 fun k e=>.inl ⟨(hF k e.1).1,e.2⟩
theorem Zgz (h:R11 C b x F w) {id:Int} {K:Res [.agg [.int .u32,.sl],.sc (.int .i64)]→W R} (hk:∀ s w',SlT (fun k=>F k∧C k) w' compT s (x.ent id).1.2→Fr None w w'→K (((x.ent id).1.1,s),(x.ent id).2) Q w') :
  callW Tryz.prog Z40 [.pointer (some ⟨b,0,none⟩),.int .u32 id] [.agg [.int .u32,.sl],.sc (.int .i64)] K Q w:=by
 obtain ⟨ok,lab,bs,cs,hF,hR⟩:=h.shut
 refine Zed _ _ K Q w ?_
 unfold Z95
 refine newI fun w1 B1 f1 s1=>condF rfl (Zli (hR.fr0 f1) fun w2 f2=>?_)
 have f02:=f1.then0 f2
 have B2:=B1.fr f2 fun h=>h
 cases hh:homeT x.tab id with
 | none =>
  have e:x.ent id=((0,[]),7):=by unfold StM.ent; rw [ok.at_none.2 hh]
  rw [e] at hk
  refine condT rfl (stoAll B2 rfl rfl fun w3 B3 f3 s3=>aggI B3 (x:=(0,⟨none,0,0⟩)) rfl ?_)
  exact hk ⟨none,0,0⟩ w3 (SlT.nil _) (f02.newer f3 fun k e=>by omega)
 | some m =>
  obtain ⟨hm,hin⟩:=Z6x hh
  obtain ⟨i,hi⟩:=Option.isSome_iff_exists.1 (show (rowM (x.tab m) id).isSome=true from hin)
  obtain ⟨hil,e,he,heid⟩:=Z4d hi
  have hent:x.ent id=(e,0):=by
   unfold StM.ent StM.at
   rw [hh]
   simp only [hi,he]
  rw [hent] at hk
  refine condF rfl ?_
  have fd:Fr None w2 w2.drew:=(Fr.refl _ _).drew
  have h2:=(hR.fr0 f02).fr0 fd
  obtain ⟨t1,sl,t2,t3⟩:=h2.tab m hm
  refine ptrI (fldA h2.blk (i:=1) (x:=sl) t2 (Zri h2 hm fun w3 f3=>?_))
  have h3:=h2.fr0 f3
  refine andI (by rw [Z3]; exact (h3.blk.cell _).trans t2) ?_
  have A3:=ArrO.st.fr0 t3 f3
  obtain ⟨_,raws,lab',hl1,hC,ho,hE⟩:=A3
  obtain ⟨r0,hr0,hr1,hr2⟩:=hE.get he
  have hrl:=(List.getElem?_eq_some_iff.1 hr0).1
  refine ho.sl.get (j:=i) rfl (by unfold rowI; rw [hi]) hrl fun y hy=>?_
  rw [hr0] at hy
  cases hy
  have B3:=(B2.fr fd fun h=>h).fr f3 fun h=>h
  refine stoAll B3 rfl rfl fun w4 B4 f4 s4=>aggI B4 (x:=(r0.1,r0.2)) rfl ?_
  rw [hr1]
  have f03:=(f02.then0 fd).then0 f3
  have hw1:=f2.size
  refine hk r0.2 w4 ?_ (f03.newer f4 fun k e=>by omega)
  refine SlT.st (F:=fun k=>lab' k=2) hr2 f4 fun k hk2 e2=>?_
  have h5:=(hl1 k (by omega)).1
  have h6:=hF k (by omega)
  exact ⟨fun e3=>by omega,h6.1,hC.2 k e2⟩
end
end Go.Proofs.YtoiahhpgkoknfaaGreat
namespace Go.Proofs.YtoiahhpgkoknfaaGreat
open Go Go.RowKit Go.Proofs.YtoiahhpgkoknfaaGreat.Den
variable {R:Type} {Q:R→World→Prop} {w:World}
section
variable {C:Nat→Prop} {lab:Nat→Nat} {b bs:Nat} {cs:List Value} {s:SM} {T:Nat→List Ent}
theorem Zt5 (h:R11R C lab w b bs cs s T) {m i:Nat} (hm:m < 64) {id:Int} (hr:rowM (T m) id=some i) {K:Res [.sc .sl,.sc (.int .i64)]→W R}
  (hk:∀ C' lab' cs' sl w',Ag C C' w.heap.size→R11R C' lab' w' b bs cs' s (upd T m (dropI (T m) i))→(∀ k,lab' k≠0→lab k≠0∨w.heap.size≤k)→Fr (fun k=>lab k≠0∧¬ C k) w w'→K (sl,0) Q w') :
  callW Tryz.prog Z2x [.pointer (some ⟨b,1+m * 2,none⟩),.int .u32 id] [.sc .sl,.sc (.int .i64)] K Q w:=by
 obtain ⟨t1,sl,t2,t3⟩:=h.tab _ hm
 obtain ⟨lab',hrf,hF,hb1,hb2,hb3⟩:=t3.rf h.blk t1 t2 (by rw [h.lb]; omega)
 refine Zjx hrf (fun h0=>by rw [hr] at h0; cases h0) fun i' e gone lab2 cs' w2 hr2 _ hrf2 hcs heq _ f2=>?_
 rw [hr] at hr2
 cases hr2
 obtain ⟨C',hag,hC2,hC3⟩:=recolour (fun k e=>(hb2 k e).2) hb3 heq
 obtain ⟨B2,_,sl2,c1,A2⟩:=ArrO.of (C:=C') (F':=Ex (fun k=>lab k=3+m) w) hrf2 (fun k e=>by
  rcases Nat.lt_or_ge k w.heap.size with hlt | hge
  ·rw [heq k hlt] at e
   rcases hF k e with e | e
   ·exact .inl (.inl e)
   ·exact .inr e
  ·exact .inl (.inr hge)) ⟨hC2,hC3⟩
 have f2':Fr (fun k=>lab k=3+m∨k=b) w w2:=f2.sub fun k e=>hF k (by omega)
 refine hk C' _ cs' gone w2 hag (h.setTab hag hm B2 hcs c1 A2 f2') (fun k e=>?_) (f2.sub fun k e=>?_)
 ·rcases Z2a e with ⟨e,_⟩ | ⟨e,_⟩
  ·exact .inl e
  ·exact .inr e
 ·rcases e with e | e
  ·rw [hb1 k e]; exact ⟨by rw [h.lb]; decide,h.nc _ (.inl h.lb)⟩
  ·have:=hb2 k e; exact ⟨by omega,this.2⟩
theorem Zrj (h:R11R C lab w b bs cs s T) {m i:Nat} (hm:m < 64) {id:Int} (hr:rowM (T m) id=some i) {c:Comp} (hc0:0≤c.1) (hc:checkM c=0) (hk0:c.1∈kindsOf m) {K:Res [.sc (.int .i64)]→W R}
  (hk:∀ C' lab' w',Ag C C' w.heap.size→R11R C' lab' w' b bs cs s (upd T m (setL (T m) i c))→(∀ k,lab' k≠0→lab k≠0∨w.heap.size≤k)→Fr (fun k=>lab k≠0∧¬ C k) w w'→K 0 Q w') :
  callW Tryz.prog Z3z [.pointer (some ⟨b,1+m * 2,none⟩),.int .u32 id,.agg ⟨compC c⟩] [.sc (.int .i64)] K Q w:=by
 obtain ⟨t1,sl,t2,t3⟩:=h.tab _ hm
 obtain ⟨lab',hrf,hF,hb1,hb2,hb3⟩:=t3.rf h.blk t1 t2 (by rw [h.lb]; omega)
 have hs:setM m (T m) id c=0:=by rw [setM,if_neg (fun h=>h hc),hr]; simp [hk0]
 have hset:setT m (T m) id c=setL (T m) i c:=by rw [setT,hs,if_pos rfl,hr]; rfl
 refine Zoj hrf hc0 fun lab2 w2 hrf2 heq f2=>?_
 obtain ⟨C',hag,hC2,hC3⟩:=recolour (fun k e=>(hb2 k e).2) hb3 heq
 rw [hs]
 rw [hset] at hrf2
 obtain ⟨B2,_,sl2,c1,A2⟩:=ArrO.of (C:=C') (F':=Ex (fun k=>lab k=3+m) w) hrf2 (fun k e=>by
  rcases Nat.lt_or_ge k w.heap.size with hlt | hge
  ·rw [heq k hlt] at e
   rcases hF k e with e | e
   ·exact .inl (.inl e)
   ·exact .inr e
  ·exact .inl (.inr hge)) ⟨hC2,hC3⟩
 have f2':Fr (fun k=>lab k=3+m∨k=b) w w2:=f2.sub fun k e=>hF k (by omega)
 refine hk C' _ w2 hag (h.setTab hag hm B2 (fun _ _=>rfl) c1 A2 f2') (fun k e=>?_) (f2.sub fun k e=>?_)
 ·rcases Z2a e with ⟨e,_⟩ | ⟨e,_⟩
  ·exact .inl e
  ·exact .inr e
 ·rcases e with e | e
  ·rw [hb1 k e]; exact ⟨by rw [h.lb]; decide,h.nc _ (.inl h.lb)⟩
  ·have:=hb2 k e; exact ⟨by omega,this.2⟩
end
section
variable {C:Nat→Prop} {F:Nat→Prop} {b:Nat} {x:StM}
theorem StM.ent_none {x:StM} {id:Int} (h:x.at id=none):x.ent id=((0,[]),7):=by unfold StM.ent; rw [h]
theorem StM.ent_some {x:StM} {id:Int} {m i:Nat} {e:Ent} (h:x.at id=some (m,i,e)):x.ent id=(e,0):=by unfold StM.ent; rw [h]
theorem Rd11.none {x:StM} {id:Int} (h:x.at id=none):(x.ent id).2=7:=by rw [StM.ent_none h]
theorem Zhf (h:R11 C b x F w) {id:Int} (hid:IdOk id) {K:Res [.sc (.int .i64)]→W R} (hk:∀ C' w',Ag C C' w.heap.size→R11 C' b (x.despawn id).2 (Ex F w) w'→Fr (fun k=>F k∧¬ C k) w w'→K (x.despawn id).1 Q w') :
  callW Tryz.prog Z3v [.pointer (some ⟨b,0,none⟩),.int .u32 id] [.sc (.int .i64)] K Q w:=by
 have hst:=h.shut
 refine Zbd _ _ K Q w ?_
 unfold Z69
 refine Zgz h fun sl w1 _ f1=>?_
 refine newI fun w2 B2 f2 s2=>stoAll B2 rfl rfl fun w3 B3 f3 s3=>?_
 have f03:Fr None w w3:=f1.then0 (f2.newer f3 fun k e=>by omega)
 cases ha:x.at id with
 | none =>
  rw [StM.ent_none ha]
  have e:x.despawn id=(7,x):=by unfold StM.despawn; rw [ha]
  rw [e] at hk
  exact condT rfl (hk C w3 (fun _ _=>Iff.rfl) (R11.st h f03 fun k _ e=>⟨fun h=>h,.inl e⟩) f03.any)
 | some p =>
  obtain ⟨m,i,e⟩:=p
  rw [StM.ent_some ha]
  have ed:x.despawn id=(0,⟨x.s.freed id,upd x.tab m (dropI (x.tab m) i)⟩):=by unfold StM.despawn; rw [ha]
  obtain ⟨ok,lab,bs,cs,hF,hR⟩:=R11.st.fr0 hst f03
  obtain ⟨hh,hm,hr,he,_,_,hl⟩:=ok.at_some ha
  have hokd:=ok.despawn id
  rw [ed] at hk hokd
  refine condF rfl (Zli hR fun w4 f4=>?_)
  rw [hh]
  refine Zt5 (hR.fr0 f4) hm hr fun C5 lab5 cs5 g w5 hag5 h5 hex5 f5=>?_
  have hs4:=f4.size
  have hs3:=f03.size
  refine ptrI (fldI h5.blk (i:=0) (x:=some ⟨bs,0,none⟩) h5.c0 ?_)
  refine Zug h5.slots hid hl fun w6 hS6 f6=>?_
  have h6:=h5.setSlots hS6 f6
  have fa:Fr (fun k=>F k∧¬ C k) w w5:=(f03.then0 f4).any.then (f5.sub fun k e=>⟨(hF k e.1).1,e.2⟩)
  have hx:∀ k,lab5 k≠0→F k∨w.heap.size≤k:=fun k e=>by
   rcases hex5 k e with e | e
   ·exact .inl (hF k e).1
   ·exact .inr (by omega)
  exact hk C5 w6 (fun k hk=>hag5 k (by omega)) ⟨hokd,lab5,bs,cs5,hx,h6⟩ (fa.exS f6 fun k e=>by
   rcases Nat.lt_or_ge k w.heap.size with hlt | hge
   ·rcases hx k (by omega) with h | h
    ·exact .inl ⟨h,fun hc=>h5.nc k (.inr e) ((hag5 k (by omega)).2 hc)⟩
    ·omega
   ·exact .inr hge)
theorem Zn0 (h:R11 C b x F w) {id k:Int} {K:Res [.agg [.int .u8,.int .i32,.int .i32,.int .i32],.sc (.int .i64)]→W R} (hk:∀ w',Fr None w w'→K (x.get id k) Q w') :
  callW Tryz.prog Z5r [.pointer (some ⟨b,0,none⟩),.int .u32 id,.int .u8 k] [.agg [.int .u8,.int .i32,.int .i32,.int .i32],.sc (.int .i64)] K Q w:=by
 refine Zee _ _ _ K Q w ?_
 unfold Z96
 have ok:=h.1
 refine newI fun w0 B0 f0 s0=>Zgz (R11.st.fr0 h f0) fun sl w1 hsl f1=>?_
 have B1:=B0.fr f1 fun h=>h
 refine newI fun w2 B2 f2 s2=>stoAll B2 rfl rfl fun w3 B3 f3 s3=>?_
 have f13:Fr None w1 w3:=f2.newer f3 fun k e=>by omega
 have f03:=(f0.then0 f1).then0 f13
 have B13:=B1.fr f13 fun h=>h
 have zero:∀ {z:Int} {w':World},Blk w' w.heap.size 52 [.int .u8 0,.int .i32 0,.int .i32 0,.int .i32 0]→Fr None w w'→x.get id k=((0,0,0,0),z) →
   (stoL ⟨w.heap.size,0,none⟩ [.int .u8 0,.int .i32 0,.int .i32 0,.int .i32 0] 0 <| ld (.agg [.int .u8,.int .i32,.int .i32,.int .i32]) ⟨w.heap.size,0,none⟩ fun (y:Int × Int × Int × Int)=>retW (y,z):W ((Int × Int × Int × Int) × Int)) (fun r w=>K r Q w) w':=fun B f hz =>
  stoAll B rfl rfl fun w4 B4 f4 s4=>aggI B4 (x:=(0,0,0,0)) rfl (by have:=hk w4 (f.newer f4 fun k e=>by omega); rw [hz] at this; exact this)
 cases ha:x.at id with
 | none =>
  rw [StM.ent_none ha] at B3 ⊢
  exact condT rfl (zero B13 f03 (by unfold StM.get; rw [ha]))
 | some p =>
  obtain ⟨m,i,e⟩:=p
  rw [StM.ent_some ha] at B3 hsl ⊢
  obtain ⟨_,hm,_,_,_,hv,_⟩:=ok.at_some ha
  have hsm:Small e.2:=by have:=hv.small; show _≤1048576; omega
  have hsl3:=hsl.fr0 f13
  refine condF rfl (fldI B3 (x:=sl) rfl (Zca hsl3 hsm fun w4 f4=>?_))
  rcases Zi4 hv k with ⟨hneg,hno⟩ | ⟨q,hq,hlq,hin⟩
  ·exact condT (decide_eq_true hneg) (zero (B13.fr f4 fun h=>h) (f03.then0 f4) (by unfold StM.get; rw [ha]; simp only [if_neg hno]))
  ·refine condF (decide_eq_false (by dsimp only; omega)) (fldI (B3.fr f4 fun h=>h) (x:=sl) rfl ?_)
   refine (hsl3.fr0 f4).get rfl hq (List.getElem?_eq_some_iff.1 hlq).1 fun c hc=>?_
   rw [hlq] at hc
   cases hc
   refine stoAll (B13.fr f4 fun h=>h) rfl rfl fun w5 B5 f5 s5=>aggI B5 (x:=(k,fieldsOf e.2 k)) rfl ?_
   have:=hk w5 ((f03.then0 f4).newer f5 fun k e=>by omega)
   rw [show x.get id k=((k,fieldsOf e.2 k),0) by unfold StM.get; rw [ha]; simp only [if_pos hin]] at this
   exact this
theorem Zn1 (h:R11 C b x F w) {id:Int} {c:Comp} (hc0:0≤c.1) {K:Res [.sc (.int .i64)]→W R} (hk:∀ C' w',Ag C C' w.heap.size→R11 C' b (x.set id c).2 (Ex F w) w'→Fr (fun k=>F k∧¬ C k) w w'→K (x.set id c).1 Q w') :
  callW Tryz.prog Z5s [.pointer (some ⟨b,0,none⟩),.int .u32 id,.agg ⟨compC c⟩] [.sc (.int .i64)] K Q w:=by
 have hst:=h.shut
 refine Zef _ _ _ K Q w ?_
 unfold Z97
 refine newI fun w1 B1 f1 s1=>condF rfl (aggI B1 (x:=c) rfl (Zb4 (c:=c) hc0 fun w2 f2=>?_))
 have f02:=f1.then0 f2
 have same:∀ {z:Int} {w':World},Fr None w w'→x.set id c=(z,x)→K z Q w':=fun f hz=>by
  have:=hk C _ (fun _ _=>Iff.rfl) (by rw [hz]; exact R11.st h f fun k _ e=>⟨fun h=>h,.inl e⟩) f.any
  rw [hz] at this
  exact this
 refine condN (fun hc=>same f02 (by unfold StM.set; rw [if_pos hc])) fun hc=>?_
 have hc:checkM c=0:=by simpa using hc
 have B2:=B1.fr f2 fun h=>h
 refine fldI B2 (x:=c.1) rfl (Zn0 (R11.st.fr0 h f02) fun w3 f3=>?_)
 refine newI fun w4 B4 f4 s4=>stoAll B4 rfl rfl fun w5 B5 f5 s5=>?_
 have f35:Fr None w3 w5:=f4.newer f5 fun k e=>by omega
 have f05:=(f02.then0 f3).then0 f35
 have B15:=(B2.fr f3 fun h=>h).fr f35 fun h=>h
 cases ha:x.at id with
 | none =>
  rw [show (x.get id c.1).2=7 by unfold StM.get; rw [ha]]
  exact condT rfl (same f05 (by unfold StM.set; rw [if_neg (fun h=>h hc),ha]))
 | some p =>
  obtain ⟨m,i,e⟩:=p
  by_cases hin:c.1∈kindsOf m
  ·rw [show (x.get id c.1).2=0 by unfold StM.get; rw [ha]; simp only [if_pos hin]]
   have es:x.set id c=(0,⟨x.s,upd x.tab m (setL (x.tab m) i c)⟩):=by unfold StM.set; rw [if_neg (fun h=>h hc),ha]; simp only [if_pos hin]
   obtain ⟨ok,lab,bs,cs,hF,hR⟩:=R11.st.fr0 hst f05
   obtain ⟨hh,hm,hr,he,_,_,_⟩:=ok.at_some ha
   have hoks:=ok.setM id c
   rw [es] at hk hoks
   have fd:Fr None w5 w5.drew:=(Fr.refl _ _).drew
   refine condF rfl (aggI B15.drew (x:=c) rfl (Zli (hR.fr0 fd) fun w6 f6=>?_))
   rw [hh]
   have B16:=(B15.fr fd fun h=>h).fr f6 fun h=>h
   refine andI (by have:=B16.cells 0 _ (fun j u h=>by rw [Nat.zero_add]; exact h); exact Rd.cells.2 this) ?_
   refine Zrj ((hR.fr0 fd).fr0 f6) hm hr hc0 hc hin fun C7 lab7 w7 hag7 h7 hex f7=>?_
   have f06:=(f05.then0 fd).then0 f6
   have hs6:=f06.size
   have hx:∀ k,lab7 k≠0→F k∨w.heap.size≤k:=fun k e=>by
    rcases hex k e with e | e
    ·exact .inl (hF k e).1
    ·exact .inr (by omega)
   exact hk C7 w7 (fun k hk=>hag7 k (by omega)) ⟨hoks,lab7,bs,cs,hx,h7⟩ (f06.any.then (f7.sub fun k e=>⟨(hF k e.1).1,e.2⟩))
  ·rw [show (x.get id c.1).2=10 by unfold StM.get; rw [ha]; simp only [if_neg hin]]
   exact condT rfl (same f05 (by unfold StM.set; rw [if_neg (fun h=>h hc),ha]; simp only [if_neg hin]))
end
end Go.Proofs.YtoiahhpgkoknfaaGreat
namespace Go.Proofs.YtoiahhpgkoknfaaGreat
open Go Go.RowKit Go.Proofs.YtoiahhpgkoknfaaGreat.Den
variable {R:Type} {Q:R→World→Prop} {w:World}
section
variable {C:Nat→Prop} {F:Nat→Prop} {b:Nat} {x:StM}
theorem EntsR.snoc {ok:Nat→Prop} {raws:List (Int × Sl)} {L:List Ent} (h:EntsR ok w raws L) {r:Int × Sl} {e:Ent} (h1:r.1=e.1) (h2:SlT ok w compT r.2 e.2):EntsR ok w (raws ++ [r]) (L ++ [e]):=by
 have:=(show All2 (fun (r:Int × Sl) (e:Ent)=>r.1=e.1∧SlT ok w compT r.2 e.2) raws L from ⟨h.len,h.at_⟩).snoc (a:=r) (b:=e) ⟨h1,h2⟩
 exact ⟨this.len,this.at_⟩
theorem Zc4 {l:List Comp} (h:listE l=0):l.length≤6:=(Valid.mk h rfl:Valid (maskN l) l).small
def entsM (x:StM):List Ent:=x.s.list.map fun id=>(x.ent id).1
end
end Go.Proofs.YtoiahhpgkoknfaaGreat
namespace Go.Proofs.YtoiahhpgkoknfaaGreat
open Go Go.RowKit Go.Proofs.YtoiahhpgkoknfaaGreat.Den
variable {R:Type} {Q:R→World→Prop} {w:World}
theorem Zis {ok:Nat→Prop} {s:Sl} {l:List Comp} (hS:SlT ok w compT s l) (hm:l.length * 16≤140737488355328) {K:Res [.sc .sl]→W R} (hk:∀ r w',Den.Own (Up w.heap.size) w' 52 compT r l→Fr None w w'→K r Q w') :
  callW Tryz.prog Z5d [.slice s.a s.n s.c] [.sc .sl] K Q w:=by
 refine Zdn _ K Q w ?_
 unfold Z8e
 rcases hS.at_ with rfl | ⟨b,o,ha,_⟩
 ·cases hsa:s.a with
  | none=>exact condT rfl (hk _ w (Den.Own.nil _ _ _ _) (Fr.refl _ _))
  | some a =>
   refine condF rfl ?_
   rw [← hsa]
   refine newI fun w1 B1 f1 s1=>?_
   have own:=Den.Own.mk' (S:=Up w.heap.size) (w:=w1) (E:=52) (t:=compT) (l:=[]) (g:=w.heap.size) (c:=0) (cur:=⟨[]⟩) (Nat.le_refl _) B1 (Nat.le_refl _) (Nat.zero_le _) (by simp) (by simp)
   refine appI (s:=⟨some ⟨w.heap.size,0,none⟩,0,0⟩) (s2:=s) (S':=Up w.heap.size) Z35 own (hS.fr0 f1) (by simp) (by simp) (fun _ h=>h) (by show _≤_; omega) fun r w2 o2 f2 s2=>hk r w2 (by simpa using o2) (f1.newer f2 (fun x e=>own.own x e))
 ·rw [ha]
  refine condF rfl ?_
  rw [← ha]
  exact cloneI Z35 hS hm (by omega) hk
end Go.Proofs.YtoiahhpgkoknfaaGreat
namespace Go.Proofs.YtoiahhpgkoknfaaGreat
open Go Go.RowKit Go.Proofs.YtoiahhpgkoknfaaGreat.Den
variable {R:Type} {Q:R→World→Prop} {w:World}
def Buf (b:Nat) (L:List Ordr):OB:=fun F w=>∃ s raws lab,F b∧Blk w b 209 [.slice s.a s.n s.c]∧DO ordO (t:=ordT) 37 (fun k=>F k∧k≠b) w s raws L lab
theorem Buf.st {b:Nat} {L:List Ordr}:St (Buf b L):=fun ⟨s,raws,lab,h1,h2,h3⟩ f hs =>
 ⟨s,raws,lab,(hs b h2.lt h1).2,h2.fr f (hs b h2.lt h1).1,h3.fr Zgd f fun k hk e=>⟨(hs k hk e.1).1,(hs k hk e.1).2,e.2⟩⟩
theorem Ziy {K:Res [.sc .ptr]→W R} (hk:∀ b w',Buf b [] (Up w.heap.size) w'→Fr None w w'→K (some ⟨b,0,none⟩) Q w'):callW Tryz.prog Zc0 [] [.sc .ptr] K Q w:=by
 refine Zm2 K Q w ?_
 unfold Zgn
 exact newI fun w1 B1 f1 s1=>hk _ w1 ⟨⟨none,0,0⟩,[],fun _=>0,Nat.le_refl _,B1,DO.nil _ _⟩ f1
def pushE (L:List Ordr) (o:Ordr):Int:=if ochk o≠0 then ochk o else if 256≤L.length then 8 else 0
def pushL (L:List Ordr) (o:Ordr):List Ordr:=if pushE L o=0 then L ++ [o] else L
theorem Zt0 {L:List Ordr} {o:Ordr} (h:L.length≤256):(pushL L o).length≤256:=by
 unfold pushL pushE
 by_cases h1:ochk o≠0
 ·simp only [if_pos h1,if_neg h1]; exact h
 ·by_cases h2:256≤L.length
  ·simp only [if_neg h1,if_pos h2]; simpa using h
  ·simp only [if_neg h1,if_neg h2,if_true,List.length_append,List.length_singleton]; omega
theorem Zro {F:Nat→Prop} {b:Nat} {L:List Ordr} (h:Buf b L F w) (hL:L.length≤256) {ok:Nat→Prop} {r:OrdRaw} {o:Ordr} (hr:ordR ok w r o) (hsm:Small o.2.2.2) {K:Res [.sc (.int .i64)]→W R}
  (hk:∀ w',Buf b (pushL L o) (Ex F w) w'→Fr F w w'→K (pushE L o) Q w'):callW Tryz.prog Z4r [.pointer (some ⟨b,0,none⟩),.agg ⟨ordC r⟩] [.sc (.int .i64)] K Q w:=by
 refine Zcj _ r K Q w ?_
 unfold Z78
 have ex:∀ {w':World},Fr None w w'→Buf b L (Ex F w) w':=fun f=>Buf.st h f fun k _ e=>⟨fun h=>h,.inl e⟩
 have hb:b < w.heap.size:=by obtain ⟨_,_,_,_,h2,_⟩:=h; exact h2.lt
 refine newI fun w1 B1 f1 s1=>condF rfl (aggI B1 (x:=r) rfl ?_)
 refine Zaq (Za2 r o hr f1 fun _ _ e=>⟨fun h=>h,e⟩) hsm fun w2 f2=>?_
 have f02:=f1.then0 f2
 refine condN (fun hc=>?_) fun hc=>?_
 ·have e1:pushE L o=ochk o:=by rw [pushE,if_pos hc]
  have e2:pushL L o=L:=by rw [pushL,e1,if_neg hc]
  rw [e1,e2] at hk
  exact hk w2 (ex f02) f02.any
 have hc0:ochk o=0:=by simpa using hc
 have h2:Buf b L (Ex F w) w2:=ex f02
 obtain ⟨s,raws,lab,hFb,Bb,hD⟩:=h2
 have hsn:s.n=L.length:=by rw [hD.own.len,hD.len]
 refine ptrI (fldI Bb (x:=s) rfl ?_)
 refine condD (fun hge=>?_) fun hlt=>?_
 ·have e1:pushE L o=8:=by rw [pushE,if_neg (fun h=>h hc),if_pos (by omega)]
  have e2:pushL L o=L:=by rw [pushL,e1]; rfl
  rw [e1,e2] at hk
  exact hk w2 (ex f02) f02.any
 have hlt:L.length < 256:=by have:¬ (s.n:Int) ≥ 256:=hlt; omega
 have e1:pushE L o=0:=by rw [pushE,if_neg (fun h=>h hc),if_neg (by omega)]
 have e2:pushL L o=L ++ [o]:=by rw [pushL,e1]; rfl
 rw [e1,e2] at hk
 have B2:=B1.fr f2 fun h=>h
 obtain ⟨h1,h2',h3,hS⟩:=hr
 have hsm':o.2.2.2.length≤1048576:=hsm
 refine fldI B2 (x:=r.2.2.2) rfl (Zis (hS.fr0 f02) (by omega) fun tw w3 o3 f3=>?_)
 have B3:=B2.fr f3 fun h=>h
 refine setA (i:=3) B3 (show 3 < 4 by omega) rfl fun w4 B4 f4 s4=>?_
 have hs1:w1.heap.size=w.heap.size+1:=s1
 have hs2:=f2.size
 have hs3:=f3.size
 have f24:Fr (fun k=>k=w.heap.size) w2 w4:=f3.any.then f4
 have f04:Fr None w w4.drew:=(f02.newer f24 fun k e=>by omega).drew
 have hbn:b≠w.heap.size:=by omega
 have Bb4:=(Bb.fr f24 fun e=>hbn e).drew
 have o4:Den.Own (fun k=>w2.heap.size≤k) w4.drew 52 compT tw o.2.2.2:=(o3.fr f4 fun k h e=>by omega).none (Fr.refl None w4).drew
 obtain ⟨s',raws',lab',hFb',Bb',hD0⟩:=h
 have hD1:DO ordO (t:=ordT) 37 (fun k=>Ex F w k∧k≠b) w s' raws' L lab':=hD0.fr Zgd (Fr.refl None w) fun k _ e=>⟨fun h=>h,.inl e.1,e.2⟩
 have Bb5:=Bb'.fr f04 fun h=>h
 refine ptrI (fldI Bb5 (x:=s') rfl (aggI B4.drew (x:=(r.1,r.2.1,r.2.2.1,tw)) rfl ?_))
 refine hD1.app (a:=((r.1,r.2.1,r.2.2.1,tw):OrdRaw)) (b:=o) Zo6 Zgd f04 (fun k e=>⟨.inr e,by omega⟩) ⟨h1,h2',h3,o4.mono fun k _ e=>by show w.heap.size≤k; omega⟩ rfl (by omega) (by omega) fun r2 lab2 w5 hD5 f5=>?_
 have Bb6:=Bb5.fr f5 fun e=>(hD1.own.own b e).1.2 rfl
 refine ptrI (setA Bb6 (by simp) rfl fun w6 B6 f6 s6=>?_)
 refine hk w6 ⟨r2,_,lab2,.inl hFb',B6,hD5.fr Zgd f6 fun k _ e=>⟨fun e2=>e.2 e2,e⟩⟩ ?_
 have f05:Fr F w w5:=f04.any.then (f5.mono fun k hk e=>?_)
 ·exact f05.then (f6.mono fun k _ e=>by rw [e]; exact hFb')
 ·have h5:=hD1.own.own k e
  rcases h5.1.1 with h5 | h5
  ·exact h5
  ·have:=hD1.own.lt e; omega
theorem Zrr {F:Nat→Prop} {b:Nat} {L:List Ordr} (h:Buf b L F w) {K:Res [.sc .sl]→W R}
  (hk:∀ r raws w',Buf b [] (fun k=>k=b) w'→DR ordR (t:=ordT) (fun k=>F k∧k≠b) w' r raws L→Fr (fun k=>k=b) w w'→K r Q w'):callW Tryz.prog Z4s [.pointer (some ⟨b,0,none⟩)] [.sc .sl] K Q w:=by
 obtain ⟨s,raws,lab,hFb,Bb,hD⟩:=h
 refine Zck _ K Q w ?_
 unfold Z79
 refine condF rfl (ptrI (fldI Bb (x:=s) rfl (ptrI (setA Bb (by simp) rfl fun w1 B1 f1 s1=>?_))))
 have hD1:=hD.fr Zgd (S':=fun k=>F k∧k≠b) f1 fun k _ e=>⟨fun e2=>e.2 e2,e⟩
 have hR:=hD1.read Zgd
 refine Zdm _ _ _ w1 ?_
 unfold Z8d
 refine clipI Zo6 hR.sl fun r hr _=>?_
 exact hk r raws w1 ⟨⟨none,0,0⟩,[],fun _=>0,rfl,B1,DO.nil _ _⟩ ⟨hr,hR.all.imp fun a b h=>h.r⟩ f1
def workM (x:StM) (o:Ordr):Int × Int × StM :=
 if o.1=1 then x.spawn o.2.2.2
 else if o.1=2 then (o.2.1,x.despawn o.2.1)
 else if o.1=3 then (o.2.1,x.set o.2.1 (o.2.2.2.headD (0,0,0,0)))
 else if o.1=4 then (o.2.1,x.add o.2.1 (o.2.2.2.headD (0,0,0,0)))
 else (o.2.1,x.remove o.2.1 o.2.2.1)
def doM (x:StM) (o:Ordr):(Int × Int) × StM:=if ochk o≠0 then ((ochk o,0),x) else if (workM x o).2.1≠0 then (((workM x o).2.1,0),(workM x o).2.2) else ((0,(workM x o).1),(workM x o).2.2)
def allM (x:StM):List Ordr→List (Int × Int) × StM
 | []=>([],x)
 | o :: r=>((doM x o).1 :: (allM (doM x o).2 r).1,(allM (doM x o).2 r).2)
theorem Zm7 (o:Ordr):∀ (l:List Ordr) (x:StM),allM x (l ++ [o])=((allM x l).1 ++ [(doM (allM x l).2 o).1],(doM (allM x l).2 o).2)
 | [],x=>rfl
 | p :: r,x=>by simp only [List.cons_append,allM,Zm7 o r]
theorem Zoo:∀ (l:List Ordr) (x:StM),(allM x l).1.length=l.length
 | [],_=>rfl
 | p :: r,x=>by simp only [allM,List.length_cons,Zoo r]
theorem Zp6 {o:Ordr} (h:ochk o=0) (h34:o.1=3∨o.1=4):∃ c,o.2.2.2=[c]:=by
 rw [ochk,if_neg (by omega),if_neg (by omega),if_pos h34] at h
 unfold chk1 at h
 split at h
 ·exact ⟨_,by assumption⟩
 ·cases h
section
variable {F ok:Nat→Prop} {b:Nat} {x:StM} {r:OrdRaw} {o:Ordr}
theorem Zhe (h:Store b x F w) (hr:ordR ok w r o) (hd:∀ k,k < w.heap.size→ok k→¬ F k) (ho:OrdOk o) (hsm:Small o.2.2.2) (hc:ochk o=0) {K:Res [.sc (.int .u32),.sc (.int .i64)]→W R}
  (hk:∀ w',Store b (workM x o).2.2 (Ex F w) w'→Fr F w w'→K ((workM x o).1,(workM x o).2.1) Q w'):callW Tryz.prog Zb0 [.pointer (some ⟨b,0,none⟩),.agg ⟨ordC r⟩] [.sc (.int .u32),.sc (.int .i64)] K Q w:=by
 obtain ⟨h1,h2,h3,hS⟩:=hr
 have hF:∀ {y:StM} {w1 w':World},w.heap.size≤w1.heap.size→Store b y (Ex (fun k=>F k∧k < w.heap.size) w1) w'→Store b y (Ex F w) w':=fun hs h=>Store.st.mono h fun k _ e=>by rcases e with e | e; exact .inl e.1; exact .inr (by omega)
 have hst:=h.shut
 refine Zku _ r K Q w ?_
 unfold Zey
 refine newI fun w1 B1 f1 s1=>fldI B1 (x:=r.1) rfl ?_
 rw [h1]
 have hs1:w1.heap.size=w.heap.size+1:=s1
 have hst1:=Store.st.fr0 hst f1
 have hS1:SlT (fun k=>ok k∧k < w.heap.size) w1 compT r.2.2.2 o.2.2.2:=(hS.mono fun k hk h=>⟨h,hk⟩).fr0 f1
 have hd1:∀ k,k < w1.heap.size→(ok k∧k < w.heap.size)→¬ (F k∧k < w.heap.size):=fun k _ e e2=>hd k e.2 e.1 e2.1
 have fin:∀ {w':World},Fr (fun k=>F k∧k < w.heap.size) w1 w'→Fr F w w':=fun f=>f1.any.then (f.sub fun _ e=>e.1)
 have keep:∀ {w':World},Fr (fun k=>F k∧k < w.heap.size) w1 w'→Blk w' w.heap.size 37 (ordC r):=fun f=>B1.fr f fun e=>by omega
 refine condE (fun e=>?_) fun n1=>?_
 ·have ew:workM x o=x.spawn o.2.2.2:=by rw [workM,if_pos e]
  rw [ew] at hk
  refine fldI B1 (x:=r.2.2.2) rfl (Zbc hst1 hS1 hd1 hsm ho.comps fun w2 st2 f2=>?_)
  exact hk w2 (hF (by omega) st2) (fin f2)
 refine condE (fun e=>?_) fun n2=>?_
 ·have ew:workM x o=(o.2.1,x.despawn o.2.1):=by rw [workM,if_neg n1,if_pos e]
  rw [ew] at hk
  refine fldI B1.drew (x:=r.2.1) rfl (fldI B1.drew (x:=r.2.1) rfl ?_)
  rw [h2]
  refine Z9r (Store.st.fr0 hst1 (Fr.refl None w1).drew) ho.id fun w2 st2 f2=>?_
  have f2':Fr (fun k=>F k∧k < w.heap.size) w1 w2:=(Fr.refl None w1).drew.any.then f2
  refine andI ((keep f2').rd (s:=.int .u32) (i:=1) (x:=o.2.1) (by rw [← h2]; rfl)) ?_
  exact hk w2 (hF (show w.heap.size≤w1.heap.size by omega) st2) (fin f2')
 refine condE (fun e=>?_) fun n3=>?_
 ·obtain ⟨c,hcs⟩:=Zp6 hc (.inl e)
  have ew:workM x o=(o.2.1,x.set o.2.1 c):=by rw [workM,if_neg n1,if_neg n2,if_pos e,hcs]; rfl
  rw [ew] at hk
  refine fldI B1.drew (x:=r.2.1) rfl (fldI B1.drew (x:=r.2.1) rfl (fldI B1.drew (x:=r.2.2.2) rfl ?_))
  rw [h2]
  refine (hS1.fr0 (Fr.refl None w1).drew).get (j:=0) rfl rfl (by rw [hcs]; simp) fun c' hc'=>?_
  rw [hcs] at hc'
  simp at hc'
  subst hc'
  refine Z3s (c:=c) (Store.st.fr0 hst1 (Fr.refl None w1).drew) ho.id fun w2 st2 f2=>?_
  have f2':Fr (fun k=>F k∧k < w.heap.size) w1 w2:=(Fr.refl None w1).drew.any.then f2
  refine andI ((keep f2').rd (s:=.int .u32) (i:=1) (x:=o.2.1) (by rw [← h2]; rfl)) ?_
  exact hk w2 (hF (Nat.le_refl _) (Store.st.mono st2 fun _ _ e=>.inl e)) (fin f2')
 refine condE (fun e=>?_) fun n4=>?_
 ·obtain ⟨c,hcs⟩:=Zp6 hc (.inr e)
  have ew:workM x o=(o.2.1,x.add o.2.1 c):=by rw [workM,if_neg n1,if_neg n2,if_neg n3,if_pos e,hcs]; rfl
  rw [ew] at hk
  refine fldI B1.drew (x:=r.2.1) rfl (fldI B1.drew (x:=r.2.1) rfl (fldI B1.drew (x:=r.2.2.2) rfl ?_))
  rw [h2]
  refine (hS1.fr0 (Fr.refl None w1).drew).get (j:=0) rfl rfl (by rw [hcs]; simp) fun c' hc'=>?_
  rw [hcs] at hc'
  simp at hc'
  subst hc'
  refine Zk0 (c:=c) (Store.st.fr0 hst1 (Fr.refl None w1).drew) ho.id fun w2 st2 f2=>?_
  have f2':Fr (fun k=>F k∧k < w.heap.size) w1 w2:=(Fr.refl None w1).drew.any.then f2
  refine andI ((keep f2').rd (s:=.int .u32) (i:=1) (x:=o.2.1) (by rw [← h2]; rfl)) ?_
  exact hk w2 (hF (show w.heap.size≤w1.heap.size by omega) st2) (fin f2')
 ·have ew:workM x o=(o.2.1,x.remove o.2.1 o.2.2.1):=by rw [workM,if_neg n1,if_neg n2,if_neg n3,if_neg n4]
  rw [ew] at hk
  refine fldI B1.drew (x:=r.2.1) rfl (fldI B1.drew (x:=r.2.1) rfl (fldI B1.drew (x:=r.2.2.1) rfl ?_))
  rw [h2,h3]
  refine Zgh (Store.st.fr0 hst1 (Fr.refl None w1).drew) ho.id ho.kind.1 fun w2 st2 f2=>?_
  have f2':Fr (fun k=>F k∧k < w.heap.size) w1 w2:=(Fr.refl None w1).drew.any.then f2
  refine andI ((keep f2').rd (s:=.int .u32) (i:=1) (x:=o.2.1) (by rw [← h2]; rfl)) ?_
  exact hk w2 (hF (show w.heap.size≤w1.heap.size by omega) st2) (fin f2')
theorem Zjv (h:Store b x F w) (hr:ordR ok w r o) (hd:∀ k,k < w.heap.size→ok k→¬ F k) (ho:OrdOk o) (hsm:Small o.2.2.2) {K:Res [.agg [.int .i64,.int .u32]]→W R}
  (hk:∀ w',Store b (doM x o).2 (Ex F w) w'→Fr F w w'→K (doM x o).1 Q w'):callW Tryz.prog Zdu [.pointer (some ⟨b,0,none⟩),.agg ⟨ordC r⟩] [.agg [.int .i64,.int .u32]] K Q w:=by
 refine Znk _ r K Q w ?_
 unfold Zhs
 have hst:=h.shut
 refine newI fun w1 B1 f1 s1=>newI fun w2 B2 f2 s2=>?_
 have f02:=f1.then0 f2
 have B1':=B1.fr f2 fun h=>h
 have hs1:w1.heap.size=w.heap.size+1:=s1
 have hs2:w2.heap.size=w1.heap.size+1:=s2
 have hr2:ordR (fun k=>ok k∧k < w.heap.size) w2 r o:=Za2 r o hr f02 fun k hk e=>⟨fun h=>h,e,hk⟩
 refine aggI B1' (x:=r) rfl (Zaq hr2 hsm fun w3 f3=>?_)
 have f03:=f02.then0 f3
 have B23:=B2.fr f3 fun h=>h
 refine condN (fun hc=>?_) fun hc=>?_
 ·have e1:doM x o=((ochk o,0),x):=by rw [doM,if_pos hc]
  rw [e1] at hk
  refine stoAll B23 rfl rfl fun w4 B4 f4 s4=>aggI B4 (x:=(ochk o,0)) rfl ?_
  have f04:Fr None w w4:=f03.newer f4 fun k e=>by omega
  exact hk w4 (Store.st h f04 fun k _ e=>⟨fun h=>h,.inl e⟩) f04.any
 have hc0:ochk o=0:=by simpa using hc
 have hs3:=f3.size
 refine aggI (B1'.fr f3 fun h=>h) (x:=r) rfl ?_
 refine Zhe (Store.st.fr0 hst f03) (Za2 r o hr2 f3 fun _ _ e=>⟨fun h=>h,e⟩) (fun k _ e e2=>hd k e.2 e.1 e2.1) ho hsm hc0 fun w4 st4 f4=>?_
 have B24:=B23.fr f4 fun e=>by omega
 have f04:Fr F w w4:=f03.any.then (f4.sub fun _ e=>e.1)
 have fin:∀ {w5:World},Fr (fun k=>k=w1.heap.size) w4 w5→Store b (workM x o).2.2 (Ex F w) w5∧Fr F w w5:=fun f=>by
  refine ⟨Store.st (F:=fun k=>(F k∧k < w.heap.size)∨(w3.heap.size≤k)) st4 f fun k _ e=>⟨fun e2=>?_,?_⟩,f04.thenNew f fun k e=>by omega⟩
  ·rcases e with e | e <;> omega
  ·rcases e with e | e
   ·exact .inl e.1
   ·exact .inr (by omega)
 refine condN (fun he=>?_) fun he=>?_
 ·have e1:doM x o=(((workM x o).2.1,0),(workM x o).2.2):=by rw [doM,if_neg (fun h=>h hc),if_pos he]
  rw [e1] at hk
  refine stoAll B24 rfl rfl fun w5 B5 f5 s5=>aggI B5 (x:=((workM x o).2.1,0)) rfl ?_
  exact hk w5 (fin f5).1 (fin f5).2
 ·have e1:doM x o=((0,(workM x o).1),(workM x o).2.2):=by rw [doM,if_neg (fun h=>h hc),if_neg (by simpa using he)]
  rw [e1] at hk
  refine stoAll B24 rfl rfl fun w5 B5 f5 s5=>aggI B5 (x:=(0,(workM x o).1)) rfl ?_
  exact hk w5 (fin f5).1 (fin f5).2
theorem Zix (h:Store b x F w) {s:Sl} {raws:List OrdRaw} {L:List Ordr} (hR:DR ordR (t:=ordT) ok w s raws L) (hd:∀ k,k < w.heap.size→ok k→¬ F k) (ho:∀ o∈L,OrdOk o∧Small o.2.2.2) (hm:Small L) {K:Res [.sc .sl]→W R}
  (hk:∀ r w' G,Store b (allM x L).2 G w'→(∀ k,G k→(F k∨w.heap.size≤k)∧k < w'.heap.size)→Den.Own (fun k=>w.heap.size≤k∧¬ G k) w' 71 resT r (allM x L).1→Fr F w w'→K r Q w'):callW Tryz.prog Zbz [.pointer (some ⟨b,0,none⟩),.slice s.a s.n s.c] [.sc .sl] K Q w:=by
 refine Zm1 _ _ K Q w ?_
 unfold Zgm
 have hl:=hR.all.len
 have hR0:DR ordR (t:=ordT) (fun k=>ok k∧k < w.heap.size∧¬ F k) w s raws L:=DR.st Za2 hR (Fr.refl None w) fun k hk e=>⟨fun h=>h,e,hk,hd k hk e⟩
 have keepR:∀ {w':World},Fr F w w'→DR ordR (t:=ordT) (fun k=>ok k∧k < w.heap.size∧¬ F k) w' s raws L:=fun f=>DR.st Za2 hR0 f fun k _ e=>⟨e.2.2,e⟩
 refine rangeC (t:=ordT) (fun s:Sl × Int=>s.2) (fun j st w'=>st.2=(j:Int)∧Fr F w w'∧∃ G,Store b (allM x (L.take j)).2 G w'∧(∀ k,G k→(F k∨w.heap.size≤k)∧k < w'.heap.size)∧Den.Own (fun k=>w.heap.size≤k∧¬ G k) w' 71 resT st.1 (allM x (L.take j)).1) rfl rfl rfl
  ⟨rfl,Fr.refl _ _,fun k=>F k∧k < w.heap.size,by simpa [allM] using h.shut,fun k e=>⟨.inl e.1,e.2⟩,by simpa [allM] using Den.Own.nil _ _ _ _⟩ (fun j st w' h=>h.1) (fun j st w' hp=>(keepR hp.2.1).sl) ?_ ?_
 ·rintro j a ⟨out,_⟩ w1 w2 K' hx ⟨rfl,f1,G,hst,hG,hout⟩ - B2 f2 s2 hK
  obtain ⟨o,hb,hab⟩:=(keepR f1).all.getL hx
  have hjl:=(List.getElem?_eq_some_iff.1 hb).1
  obtain ⟨ho1,ho2⟩:=ho o (List.mem_of_getElem? hb)
  have hs2:w2.heap.size=w1.heap.size+1:=s2
  have hfs:=f1.size
  refine aggI B2 (x:=a) rfl ?_
  refine Zjv (Store.st.fr0 hst f2) (Za2 a o hab f2 fun _ _ e=>⟨fun h=>h,e⟩) (fun k hk e e2=>?_) ho1 ho2 fun w3 st3 f3=>?_
  ·rcases (hG k e2).1 with h | h
   ·exact e.2.2 h
   ·omega
  have hs3:=f3.size
  have f23:Fr G w1 w3:=f2.any.then f3
  let G':Nat→Prop:=fun k=>Ex G w2 k∧k < w3.heap.size
  have hout3:Den.Own (fun k=>w.heap.size≤k∧¬ G' k) w3 71 resT out (allM x (L.take j)).1:=Den.Own.st hout f23 fun k hk e=>⟨e.2,e.1,fun e2=>by
   rcases e2.1 with h | h
   ·exact e.2 h
   ·omega⟩
  have hlen:=Zoo (L.take j) x
  rw [List.length_take] at hlen
  refine appP (x:=(doM (allM x (L.take j)).2 o).1) Zue rfl hout3 (fun k e=>⟨by omega,fun e2=>by have:=e2.2; omega⟩) (by omega) (by omega) fun r w4 o4 f4=>?_
  have hs4:=f4.size
  have e1:allM x (L.take (j+1))=((allM x (L.take j)).1 ++ [(doM (allM x (L.take j)).2 o).1],(doM (allM x (L.take j)).2 o).2):=by rw [Z1q hb,Zm7]
  refine hK _ _ ⟨wsucc (N:=L.length) hjl (by omega),?_,G',?_,fun k e=>⟨?_,?_⟩,?_⟩
  ·have f3':Fr F w w3:=(f1.then0 f2).exS f3 fun k e=>(hG k e).1
   exact f3'.thenNew f4 fun k e=>(hout3.own k e).1
  ·rw [e1]
   have st3':Store b (doM (allM x (L.take j)).2 o).2 G' w3:=Store.shut st3
   exact Store.st.fr st3' f4 fun k e e2=>(hout3.own k e2).2 e
  ·rcases e.1 with h | h
   ·exact (hG k h).1
   ·exact .inr (by omega)
  ·have:=e.2; omega
  ·rw [e1]; exact o4
 ·rintro ⟨out,_⟩ w1 ⟨_,f1,G,hst,hG,hout⟩
  rw [hl,List.take_length] at hst hout
  exact hk out w1 G hst hG hout f1
end
end Go.Proofs.YtoiahhpgkoknfaaGreat
namespace Go.Proofs.YtoiahhpgkoknfaaGreat.Seq
open Go Go.Proofs Go.RowKit Go.Maps Go.Sort Go.Shelf Go.Proofs.YtoiahhpgkoknfaaGreat.Den
abbrev encID:Int→Value:=Value.int .u32
abbrev Zx (Z:Nat→Prop) (A B:World):Nat→Prop:=fun k=>Z k∨(A.heap.size≤k∧k < B.heap.size)
def GivesZ {α:Type} (F:Fence) (n:Nat) (P:Program) (g:Nat) (lb:Array Value) (enc:α→Value) (xs:List α) (Z0:Nat→Prop) (w:World):Prop :=
 ∀ (l:Nat) (J:(Nat→Prop)→List α→World→Prop) (W:World),Below w.heap.size w W →
  (∀ Z s A B,J Z s A→Fr None A B→J (Zx Z A B) s B) →
  (∀ Z pre x W1,J Z pre W1→(pre ++ [x]) <+: xs→YieldAt F (n - 1) P l #[enc x] W1 fun e W'=>e=.returned (.bool true)∧J Z (pre ++ [x]) W'∧W1.heap.size≤W'.heap.size∧∀ k,Z k→W'.heap[k]?=W1.heap[k]?) →
  J Z0 [] W →
  CallsIn F n P g (#[.func (.yield l) #[] #[]] ++ lb) W fun e W'=>(∃ v,e=.returned v)∧∃ Z,J Z xs W'
theorem Zv2 {α:Type} {pre xs:List α} {x:α} (h:(pre ++ [x]) <+: xs):pre.length < xs.length:=by have:=h.length_le; simp at this; omega
theorem Zso {A B:World} (f:Fr None A B):A.grownBy B none:=⟨f.os,f.tape,f.output,f.size,fun k hk _=>f.block k hk (fun h=>h)⟩
theorem Zop {A B C:World} (h:Below A.heap.size A B) (f:Fr None B C):Below A.heap.size A C:=h.grown (Zso f) h.size (fun k e=>by cases e)
theorem Ze7 {F:Fence} {n:Nat} {P:Program} (w:World) {ops:Array Oper} {rest:List Oper} {o:Oper} {a:Act} {Q:Exit→Act→World→Prop}
  (hg:o.guard=none) (s x:Operand) (t:TypeId) (hop:o.op=Op.call { callee:=Callee.builtin Builtin.append,args:=#[s,x],argTypes:=#[t,t] })
  (v v2 r:Value) (w':World) (hs:a.eval s=v) (hx:a.eval x=v2) (hrun:(Builtin.append_ #[t,t] o.type #[v,v2]).run P w=.ok r w') (hK:wpListIn F n P ops Q rest (a.put o.dst r) w') :
  wpListIn F n P ops Q (o :: rest) a w:=by
 refine wpListIn_plain hg fun K hK'=>?_
 unfold Oper.wpIn
 refine ⟨?_,?_⟩
 ·simp [Oper.about,hop,resolve,Target.leads,Sem.run_pure]
 ·rw [Oper.semAt_plain F _ _ (by rw [hop]; intro c hc'; cases hc')]
  simp [execOp,hop,resolve,invoke,builtin,hs,hx,hrun,Result.andThen]
  exact hK' _ _ hK
def qiAssign : Code := (Code.region 2 #[{ dst := some 5, op := Op.assign (Operand.tmp 7), type := 34, pos := "iter.go:51", after := #[], guard := none }] false)
def qiBody : Code := (Code.block 1 (Code.region 3 #[{ dst := some 8, op := Op.load 62 (Operand.tmp 2), type := 62, pos := "iter.go:52", after := #[], guard := none }, { dst := some 9, op := Op.move (Operand.tmp 5), type := 34, pos := "iter.go:52", after := #[], guard := none }, { dst := some 10, op := Op.buildSlice 62 1 #[(0, Operand.tmp 9)], type := 62, pos := "iter.go:52", after := #[{ on := 1, ground := Ground.data }], guard := none }, { dst := some 11, op := Op.call { callee := Callee.builtin Builtin.append, args := #[Operand.tmp 8, Operand.tmp 10], argTypes := #[62, 62] }, type := 62, pos := "iter.go:52", after := #[{ on := 0, ground := Ground.data }, { on := 2, ground := Ground.data }], guard := none }, { dst := none, op := Op.store 62 (Operand.tmp 2) (Operand.tmp 11), type := 0, pos := "iter.go:52", after := #[{ on := 3, ground := Ground.data }, { on := 3, ground := Ground.chain }, { on := 0, ground := Ground.phase }, { on := 1, ground := Ground.phase }, { on := 2, ground := Ground.phase }, { on := 3, ground := Ground.phase }], guard := none }] false))
def qiRec (fn:FuncId) (sv:Value) (Bs D:Nat) (st:LoopState) (pend:Option Code):Loop :=
 {state:=st,pending:=pend,fn,tmps:=#[.slice none 0 0,sv,.pointer (some ⟨Bs,0,none⟩),undef,.slice none 0 0,undef,sv,undef,undef,undef,undef,undef,undef],params:=#[7],assign:=qiAssign,body:=qiBody,defers:=D }
structure QiAt (w0:World) (fn:FuncId) (sv:Value) (Bs l D:Nat) (Z:Nat→Prop) (ss:List Int) (W:World):Prop where
 box:∃ v:Sl,W.heap[Bs]?=some (.cells #[v.v] 62 (0,0))∧Den.Own (fun k=>w0.heap.size≤k∧k≠Bs∧k≠l∧k≠D∧¬ Z k) W 34 idT v ss
 z:∀ k,Z k→k < W.heap.size∧k≠Bs∧k≠l∧k≠D
 L:W.heap[l]?=some (.loop (qiRec fn sv Bs D .ready none))
 K:W.heap[D]?=some (.deferred (some []))
 below:Below w0.heap.size w0 W
theorem QiAt.abide {w0:World} {fn:FuncId} {sv:Value} {Bs l D:Nat} {Z:Nat→Prop} {ss:List Int} {A B:World} (h:QiAt w0 fn sv Bs l D Z ss A) (f:Fr None A B):QiAt w0 fn sv Bs l D (Zx Z A B) ss B:=by
 obtain ⟨v,hv,ho⟩:=h.box
 have lt:∀ {k:Nat} {o:Obj},A.heap[k]?=some o→k < A.heap.size:=fun h=>(Array.getElem?_eq_some_iff.1 h).1
 have keep:∀ {k:Nat} {o:Obj},A.heap[k]?=some o→B.heap[k]?=some o:=fun h=>(f.block _ (lt h) fun h=>h).trans h
 refine ⟨⟨v,keep hv,Den.Own.st ho f fun k hk e=>⟨fun h=>h,e.1,e.2.1,e.2.2.1,e.2.2.2.1,fun z=>?_⟩⟩,fun k z=>?_,keep h.L,keep h.K,Zop h.below f⟩
 ·rcases z with z | z
  ·exact e.2.2.2.2 z
  ·omega
 ·have hs:=f.size
  rcases z with z | z
  ·obtain ⟨h1,h2⟩:=h.z k z
   exact ⟨by omega,h2⟩
  ·have:=lt hv
   have:=lt h.L
   have:=lt h.K
   exact ⟨z.2,by omega,by omega,by omega⟩
theorem Zfd (W:World) (l:Nat) (o:Obj):Fr (fun k=>k=l) W (W.putObj l o) :=
 ⟨rfl,rfl,rfl,by simp,fun k _ hk=>World.putObj_heap_other hk⟩
theorem Zq5 (W:World) (b:Nat) (v:Value):Fr (fun k=>k=b) W (W.setCell ⟨b,0,none⟩ v):=Fr.setCell (S:=fun k=>k=b) (Fr.refl _ W) (p:=⟨b,0,none⟩) (.inl rfl) v
set_option maxRecDepth 100000 in
set_option maxHeartbeats 2000000 in
theorem Zt4 (F:Fence) (m:Nat) (w0:World) (fn:FuncId) (hfn:F.fn fn) (sv:Value) (Bs l D:Nat) (hBl:Bs≠l) (hDl:D≠l) (hDB:D≠Bs) (h0B:w0.heap.size≤Bs) (h0l:w0.heap.size≤l)
  (N:Nat) (hN:N≤1048576) (Z:Nat→Prop) (ss:List Int) (x:Int) (W:World) (h:QiAt w0 fn sv Bs l D Z ss W) (hlen:ss.length < N) :
  YieldAt F m Tryz.prog l #[encID x] W fun e W'=>e=.returned (.bool true)∧QiAt w0 fn sv Bs l D Z (ss ++ [x]) W'∧W.heap.size≤W'.heap.size∧∀ k,Z k→W'.heap[k]?=W.heap[k]?:=by
 obtain ⟨v,hv,hrow⟩:=h.box
 refine ⟨fn,#[.slice none 0 0,sv,.pointer (some ⟨Bs,0,none⟩),undef,.slice none 0 0,undef,sv,encID x,undef,undef,undef,undef,undef],qiAssign,qiBody,by simpa [qiRec] using run_yield (P:=Tryz.prog) (args:=#[encID x]) h.L rfl,roundIn_of_wpIn hfn ?_⟩
 have hl:l < W.heap.size:=(Array.getElem?_eq_some_iff.1 h.L).1
 have hbr:=run_beginRound (P:=Tryz.prog) h.L rfl
 obtain ⟨W2,hW2⟩:∃ W2,W.putObj l (.loop { qiRec fn sv Bs D .ready none with state:=.busy })=W2:=⟨_,rfl⟩
 rw [hW2] at hbr
 have f2:Fr (fun k=>k=l) W W2:=by rw [← hW2]; exact Zfd _ _ _
 have hv2:W2.heap[Bs]?=some (.cells #[v.v] 62 (0,0)):=by rw [← hW2]; exact (World.putObj_heap_other hBl).trans hv
 have hK2:W2.heap[D]?=some (.deferred (some [])):=by rw [← hW2]; exact (World.putObj_heap_other hDl).trans h.K
 have hL2:W2.heap[l]?=some (.loop { qiRec fn sv Bs D .ready none with state:=.busy }):=by rw [← hW2]; exact World.putObj_heap_same hl
 have hrow2:=hrow.fr f2 fun k e e2=>e.2.2.1 e2
 have hb2:Below w0.heap.size w0 W2:=h.below.grown ⟨f2.os,f2.tape,f2.output,f2.size,fun k hk hn=>f2.block k hk fun e=>hn (by rw [e])⟩ h.below.size (fun k e=>by cases e; exact h0l)
 obtain ⟨hc2,hf2⟩:=Z6e hv2
 have hz2:∀ k,Z k→W2.heap[k]?=W.heap[k]?:=fun k z=>f2.block k (h.z k z).1 (h.z k z).2.2.1
 have hs2:=f2.size
 clear hW2
 have f2a:Fr None W2 (W2.alloc (.cells #[encID x] 34)):=(Fr.refl _ _).alloc _
 have hone:SlT (fun _=>True) (W2.alloc (.cells #[encID x] 34)) idT ⟨some ⟨W2.heap.size,0,none⟩,1,1⟩ [x]:=by
  refine ⟨rfl,Nat.le_refl _,.inr ⟨W2.heap.size,0,rfl,trivial,by simp,fun i y hy=>?_⟩⟩
  rcases i with _ | i
  ·simp at hy; subst hy
   have:Blk (W2.alloc (.cells #[encID x] 34)) W2.heap.size 34 [encID x]:=Blk.new W2 _ _
   exact (this.cell 0)
  ·simp at hy
 have hlt2:∀ k,Z k→k < W2.heap.size:=fun k z=>by have:=(h.z k z).1; omega
 obtain ⟨⟨ra,rn,rc⟩,w3,hrun,ho3,f3⟩:∃ (r:Sl) (w3:World),(Builtin.append_ #[62,62] 62 #[v.v,.slice (some ⟨W2.heap.size,0,none⟩) 1 1]).run Tryz.prog (W2.alloc (.cells #[encID x] 34))=.ok r.v w3 ∧
   Den.Own (fun k=>w0.heap.size≤k∧k≠Bs∧k≠l∧k≠D∧¬ Z k) w3 34 idT r (ss ++ [x])∧Fr (fun k=>v.v.ownBlock=some k) (W2.alloc (.cells #[encID x] 34)) w3:=by
  have hB:=(Array.getElem?_eq_some_iff.1 hv2).1
  have hL:=(Array.getElem?_eq_some_iff.1 hL2).1
  have hD:=(Array.getElem?_eq_some_iff.1 hK2).1
  have h0:=hb2.size
  have hap:=appI (P:=Tryz.prog) (ty:=62) (S':=fun k=>w0.heap.size≤k∧k≠Bs∧k≠l∧k≠D∧¬ Z k) (R:=Sl) (Q:=fun r w3=>Den.Own (fun k=>w0.heap.size≤k∧k≠Bs∧k≠l∧k≠D∧¬ Z k) w3 34 idT r (ss ++ [x])∧Fr (fun k=>v.v.ownBlock=some k) (W2.alloc (.cells #[encID x] 34)) w3)
   (K:=fun r Q w=>Q r w) Zk8 (hrow2.none f2a) hone (by simp; omega) (by rw [Zn]; simp; omega) (fun _ h=>h) (by
    simp only [World.size_alloc]
    exact ⟨by omega,by omega,by omega,by omega,fun z=>by have:=hlt2 _ z; omega⟩) fun r w' o f _=>⟨o,f⟩
  obtain ⟨r,w3,h1,h2⟩:=hap
  exact ⟨r,w3,h1,h2⟩
 change (Builtin.append_ _ _ _).run _ _=.ok (.slice ra rn rc) w3 at hrun
 have own2:∀ k,v.v.ownBlock=some k→k≠Bs∧k≠l∧k≠D∧¬ Z k:=fun k e=>(hrow2.own k e).2
 have keep3:∀ k (o:Obj),W2.heap[k]?=some o→v.v.ownBlock≠some k→w3.heap[k]?=some o:=fun k o hk hn=>by
  have hlt:=(Array.getElem?_eq_some_iff.1 hk).1
  exact (f3.block k (by simp; omega) hn).trans ((f2a.block k hlt fun h=>h).trans hk)
 have hv3:=keep3 _ _ hv2 fun e=>(own2 _ e).1 rfl
 have hL3:=keep3 _ _ hL2 fun e=>(own2 _ e).2.1 rfl
 have hK3:=keep3 _ _ hK2 fun e=>(own2 _ e).2.2.1 rfl
 obtain ⟨hc3,hf3⟩:=Z6e hv3
 have hs3:=f3.size
 have hsa:=f2a.size
 have hz3:∀ k,Z k→w3.heap[k]?=W2.heap[k]?:=fun k z=>(f3.block k (by have:=hlt2 k z; omega) fun e=>(own2 _ e).2.2.2 z).trans (f2a.block k (hlt2 k z) fun h=>h)
 have hb3:Below w0.heap.size w0 w3:=(Zop hb2 f2a).grown (row:=v.v.ownBlock) ⟨f3.os,f3.tape,f3.output,f3.size,fun k hk hn=>f3.block k hk fun e=>hn e.symm⟩ (by have:=hb2.size; omega) (fun k e=>(hrow2.own k e).1)
 unfold qiAssign
 gi_wp2_with (rw [Oper.semAt_eq _ _ _ (fun c h=>by cases h)]; go_simp; try go_bits)
 unfold qiBody
 gi_wp2_with (first
  | (gi_at_builtin; refine Ze7 _ rfl _ _ 62 rfl _ _ _ _ rfl rfl hrun ?_; go_frame)
  | (rw [Oper.semAt_eq _ _ _ (fun c h=>by cases h)]; go_simp; try go_bits))
 obtain ⟨w4,hw4⟩:∃ w4,w3.setCell ⟨Bs,0,none⟩ (.slice ra rn rc)=w4:=⟨_,rfl⟩
 rw [hw4]
 have f4:Fr (fun k=>k=Bs) w3 w4:=by rw [← hw4]; exact Zq5 _ _ _
 have hv4:w4.heap[Bs]?=some (.cells #[.slice ra rn rc] 62 (0,0)):=by rw [← hw4]; exact Zb9 _ hv3
 have hL4:=(f4.block l (Array.getElem?_eq_some_iff.1 hL3).1 (fun e=>hBl e.symm)).trans hL3
 have hK4:=(f4.block D (Array.getElem?_eq_some_iff.1 hK3).1 hDB).trans hK3
 have ho4:=ho3.fr f4 fun k e e2=>e.2.1 e2
 have hs4:=f4.size
 have hz4:∀ k,Z k→w4.heap[k]?=w3.heap[k]?:=fun k z=>f4.block k (by have:=hlt2 k z; omega) (h.z k z).2.1
 have hb4:Below w0.heap.size w0 w4:=hb3.grown (row:=some Bs) ⟨f4.os,f4.tape,f4.output,f4.size,fun k hk hn=>f4.block k hk fun e=>hn (by rw [e])⟩ hb3.size (fun k e=>by cases e; exact h0B)
 clear hw4
 have hl4:l < w4.heap.size:=(Array.getElem?_eq_some_iff.1 hL4).1
 have f5:=Zfd w4 l (.loop { { qiRec fn sv Bs D .ready none with state:=.busy } with state:=if (none:Option Code).isNone then .ready else .done,pending:=none })
 have hsz:∀ o,(w4.putObj l o).heap.size=w4.heap.size:=fun o=>by simp
 refine ⟨_,_,run_endRound none hL4,rfl,⟨⟨⟨ra,rn,rc⟩,(World.putObj_heap_other hBl).trans hv4,ho4.fr f5 fun k e e2=>e.2.2.1 e2⟩,fun k z=>?_,World.putObj_heap_same hl4,(World.putObj_heap_other hDl).trans hK4,hb4.grown (row:=some l) ⟨f5.os,f5.tape,f5.output,f5.size,fun k hk hn=>f5.block k hk fun e=>hn (by rw [e])⟩ hb4.size (fun k e=>by cases e; exact h0l)⟩,?_,fun k z=>?_⟩
 ·exact ⟨by rw [hsz]; have:=hlt2 k z; omega,(h.z k z).2⟩
 ·rw [hsz]; omega
 ·exact (f5.block k (by have:=hlt2 k z; omega) (h.z k z).2.2.1).trans ((hz4 k z).trans ((hz3 k z).trans (hz2 k z)))
set_option maxRecDepth 100000 in
set_option maxHeartbeats 2000000 in
theorem Zmt (F:Fence) (n:Nat) (h11:F.fn 169) (hro:F.round=none) (hn:2≤n) (g:Nat) (lb:Array Value) (hFg:F.fn g) (eg:∀ args w,(callFunc g args).run Tryz.prog w=.ok (.enter g args) w)
  (xs:List Int) (hN:xs.length≤1048576) (Z0:Nat→Prop) (w:World) (hZ:∀ k,Z0 k→k < w.heap.size) (hseq:GivesZ F (n - 1) Tryz.prog g lb encID xs Z0 w) :
  CallsIn F n Tryz.prog 169 #[.slice none 0 0,.func (.func g) #[] lb] w fun e w'=>∃ v:Sl,e=.returned v.v∧Den.Own (Up w.heap.size) w' 34 idT v xs∧Fr None w w':=by
 have h1:1≤n:=by omega
 refine callsIn_of_wp_marks Tryz.func169 rfl h11 ?_ hro
 simp only [Tryz.ntmps169,List.size_toArray,List.length_cons,List.length_nil,Nat.reduceAdd,Nat.reduceSub,Array.replicate_succ,Array.replicate_zero,List.push_toArray,List.append_toArray,List.nil_append,List.cons_append]
 gi_wp2
 refine wpIn_rangeFunc ?_
 intro fn hfn
 rw [hro]
 obtain ⟨W0,hW0⟩:∃ W0,w.alloc (.cells #[.slice none 0 0] 62)=W0:=⟨_,rfl⟩
 have hs0:W0.heap.size=w.heap.size+1:=by rw [← hW0]; simp
 have hv0:W0.heap[w.heap.size]?=some (.cells #[.slice none 0 0] 62 (0,0)):=by rw [← hW0]; exact World.alloc_heap_new w _
 have hb0:Below w.heap.size w W0:=by rw [← hW0]; exact (Below.refl _ w).alloc (Nat.le_refl _) _
 rw [hW0]
 obtain ⟨W1,hW1⟩:∃ W1,(W0.alloc (.deferred (some []))).alloc (.loop (qiRec fn (.func (.func g) #[] lb) w.heap.size W0.heap.size .ready none))=W1:=⟨_,rfl⟩
 have hold:∀ k,k < W0.heap.size→W1.heap[k]?=W0.heap[k]?:=fun k hk=>by
  rw [← hW1]; exact (Below.heap_alloc _ _ k (by simp; omega)).trans (Below.heap_alloc _ _ k hk)
 have hb1:Below w.heap.size w W1:=by rw [← hW1]; exact (hb0.alloc hb0.size _).alloc (by have:=hb0.size; simp; omega) _
 have hs1:W1.heap.size=W0.heap.size+2:=by rw [← hW1]; simp
 have hM:QiAt w fn (.func (.func g) #[] lb) w.heap.size (W0.heap.size+1) W0.heap.size Z0 [] W1 :=
  ⟨⟨⟨none,0,0⟩,(hold w.heap.size (by omega)).trans hv0,Den.Own.nil _ _ _ _⟩,fun k z=>by have:=hZ k z; omega,
   by rw [← hW1]; have:=World.alloc_heap_new (W0.alloc (.deferred (some []))) (.loop (qiRec fn (.func (.func g) #[] lb) w.heap.size W0.heap.size .ready none)); rwa [World.size_alloc] at this,
   by rw [← hW1]; exact (Below.heap_alloc _ _ _ (by simp)).trans (World.alloc_heap_new W0 _),hb1⟩
 refine ⟨W0.heap.size+1,[{ target:=.collected W0.heap.size,args:=#[] }],W1,{ target:=.fn (.func g) lb,args:=#[.func (.yield (W0.heap.size+1)) #[] #[]] },W1,g,
  #[.func (.yield (W0.heap.size+1)) #[] #[]] ++ lb,W1,?_,?_,?_,?_,fun _=>h1,?_⟩
 ·rw [← hW1]; exact run_enterLoop_outer _ _ _ _ _
 ·simp [resolve,go_sem]
 ·intro f' hf'; simp [Target.leads] at hf'; subst hf'; exact hFg
 ·simp [invoke,go_sem,eg]
 ·refine (hseq (W0.heap.size+1) (QiAt w fn (.func (.func g) #[] lb) w.heap.size (W0.heap.size+1) W0.heap.size) W1 hb1 (fun Z s A B h f=>h.abide f)
   (fun Z pre x W hJ hl=>have hl:=Zv2 hl; Zt4 F (n - 1 - 1) w fn hfn _ w.heap.size (W0.heap.size+1) W0.heap.size (by omega) (by omega) (by omega) (Nat.le_refl _) (by omega) xs.length hN Z pre x W hJ hl) hM).mono ?_
  rintro e W2 ⟨⟨v0,rfl⟩,Z,h2⟩
  obtain ⟨v,hv,hrow⟩:=h2.box
  have hend:=run_endLoop (P:=Tryz.prog) h2.L (by simp [qiRec])
  obtain ⟨W3,hW3⟩:∃ W3,W2.putObj (W0.heap.size+1) (.loop { qiRec fn (.func (.func g) #[] lb) w.heap.size W0.heap.size .ready none with state:=.exhausted })=W3:=⟨_,rfl⟩
  rw [hW3] at hend
  have f3:Fr (fun k=>k=W0.heap.size+1) W2 W3:=by rw [← hW3]; exact Zfd _ _ _
  have hv3:W3.heap[w.heap.size]?=some (.cells #[v.v] 62 (0,0)):=(f3.block _ (Array.getElem?_eq_some_iff.1 hv).1 (by omega)).trans hv
  have hK3:W3.heap[W0.heap.size]?=some (.deferred (some [])):=(f3.block _ (Array.getElem?_eq_some_iff.1 h2.K).1 (by omega)).trans h2.K
  have hrow3:=hrow.fr f3 fun k e e2=>e.2.2.1 e2
  have hb3:Below w.heap.size w W3:=h2.below.grown (row:=some (W0.heap.size+1)) ⟨f3.os,f3.tape,f3.output,f3.size,fun k hk hn=>f3.block k hk fun e=>hn (by rw [e])⟩ h2.below.size (fun k e=>by cases e; omega)
  obtain ⟨hc3,hf3⟩:=Z6e hv3
  clear hW3
  refine ⟨none,W3,hend,?_⟩
  gi_wp2
  rw [← hs0]
  refine ⟨by simp,.inl ⟨_,_,rfl,run_takeDeferred hK3,?_⟩⟩
  have f4:=Zfd W3 W0.heap.size (.deferred none)
  refine ⟨_,results_tmp rfl _ _ _,v,rfl,(hrow3.fr f4 fun k e e2=>e.2.2.2.1 e2).mono fun k _ e=>e.1,?_⟩
  have hb4:Below w.heap.size w (W3.putObj W0.heap.size (.deferred none)):=hb3.grown (row:=some W0.heap.size) ⟨f4.os,f4.tape,f4.output,f4.size,fun k hk hn=>f4.block k hk fun e=>hn (by rw [e])⟩ hb3.size (fun k e=>by cases e; omega)
  exact ⟨hb4.os,hb4.tape,hb4.output,hb4.size,fun k hk _=>hb4.block k hk⟩
end Go.Proofs.YtoiahhpgkoknfaaGreat.Seq
set_option linter.unusedVariables false
namespace Go.Proofs.YtoiahhpgkoknfaaGreat
open Go Go.Proofs.YtoiahhpgkoknfaaGreat.Den
def Zd3 (d0:Option Addr):W (Sl) :=
 callW Tryz.prog Z6z [.pointer d0,.int .u8 3,.int .u8 0] [.sc .sl] fun (x_1:Sl) =>
 loopW (σ:=Sl × Int) (fun K_2 s_3 =>
  cond (decide (s_3.2 < (x_1.n:Int)))
   (idxW x_1.a x_1.n 1 s_3.2 fun x_4 =>
  ld (.sc (.int .u32)) x_4 fun (x_5:Int) =>
  callW Tryz.prog Z16 [.pointer d0,.int .u32 x_5,.int .u8 0] [.agg [.int .u8,.int .i32,.int .i32,.int .i32],.sc (.int .i64)] fun (x_6:(Int × Int × Int × Int) × Int) =>
  newW 52 [.int .u8 0,.int .i32 0,.int .i32 0,.int .i32 0] fun x_7 =>
  stoL x_7 [.int .u8 x_6.1.1,.int .i32 x_6.1.2.1,.int .i32 x_6.1.2.2.1,.int .i32 x_6.1.2.2.2] 0 <|
  callW Tryz.prog Z16 [.pointer d0,.int .u32 x_5,.int .u8 1] [.agg [.int .u8,.int .i32,.int .i32,.int .i32],.sc (.int .i64)] fun (x_8:(Int × Int × Int × Int) × Int) =>
  newW 52 [.int .u8 0,.int .i32 0,.int .i32 0,.int .i32 0] fun x_9 =>
  stoL x_9 [.int .u8 x_8.1.1,.int .i32 x_8.1.2.1,.int .i32 x_8.1.2.2.1,.int .i32 x_8.1.2.2.2] 0 <|
  ld (.agg [.int .u8,.int .i32,.int .i32,.int .i32]) x_7 fun (x_10:(Int × Int × Int × Int)) =>
  newW 52 [.int .u8 0,.int .i32 0,.int .i32 0,.int .i32 0] fun x_11 =>
  stoL x_11 [.int .u8 x_10.1,.int .i32 x_10.2.1,.int .i32 x_10.2.2.1,.int .i32 x_10.2.2.2] 0 <|
  loopW (σ:=Int) (fun K_12 s_13 =>
   cond (decide (s_13 < 2))
    (drawW <|
   idxW (some (Addr.add x_7 1)) 3 1 s_13 fun x_14 =>
   ld (.sc (.int .i32)) x_14 fun (x_15:Int) =>
   idxW (some (Addr.add x_9 1)) 3 1 s_13 fun x_16 =>
   ld (.sc (.int .i32)) x_16 fun (x_17:Int) =>
   callW Tryz.prog Za0 [.int .i32 x_15,.int .i32 x_17] [.sc (.int .i32),.sc (.int .i32)] fun (x_18:Int × Int) =>
   idxW (some (Addr.add x_7 1)) 3 1 s_13 fun x_19 =>
   stoL x_19 [.int .i32 x_18.1] 0 <|
   idxW (some (Addr.add x_9 1)) 3 1 s_13 fun x_20 =>
   stoL x_20 [.int .i32 x_18.2] 0 <|
   K_12 (IntKind.wrap .i64 (s_13+1)))
    (ld (.agg [.int .u8,.int .i32,.int .i32,.int .i32]) x_7 fun (x_21:(Int × Int × Int × Int)) =>
  callW Tryz.prog Z17 [.pointer d0,.int .u32 x_5,.agg ⟨[.int .u8 x_21.1,.int .i32 x_21.2.1,.int .i32 x_21.2.2.1,.int .i32 x_21.2.2.2]⟩] [.sc (.int .i64)] fun (x_22:Int) =>
  ld (.agg [.int .u8,.int .i32,.int .i32,.int .i32]) x_9 fun (x_23:(Int × Int × Int × Int)) =>
  callW Tryz.prog Z17 [.pointer d0,.int .u32 x_5,.agg ⟨[.int .u8 x_23.1,.int .i32 x_23.2.1,.int .i32 x_23.2.2.1,.int .i32 x_23.2.2.2]⟩] [.sc (.int .i64)] fun (x_24:Int) =>
  ld (.agg [.int .u8,.int .i32,.int .i32,.int .i32]) x_7 fun (x_25:(Int × Int × Int × Int)) =>
  ld (.agg [.int .u8,.int .i32,.int .i32,.int .i32]) x_11 fun (x_26:(Int × Int × Int × Int)) =>
  rawQ Tryz.prog (do Go.eqGuard .neq 52 (.tmp 62) (.tmp 63) (.agg ⟨[.int .u8 x_25.1,.int .i32 x_25.2.1,.int .i32 x_25.2.2.1,.int .i32 x_25.2.2.2]⟩) (.agg ⟨[.int .u8 x_26.1,.int .i32 x_26.2.1,.int .i32 x_26.2.2.1,.int .i32 x_26.2.2.2]⟩); Go.binOp .neq 52 (.agg ⟨[.int .u8 x_25.1,.int .i32 x_25.2.1,.int .i32 x_25.2.2.1,.int .i32 x_25.2.2.2]⟩) (.agg ⟨[.int .u8 x_26.1,.int .i32 x_26.2.1,.int .i32 x_26.2.2.1,.int .i32 x_26.2.2.2]⟩)) [.sc .bool] fun (x_27:Bool) =>
  joinW (σ:=Sl) (fun J_28 =>
   cond x_27
    (newW 34 [.int .u32 x_5] fun x_29 =>
    rawW Tryz.prog (Builtin.append_ #[62,62] 62 #[.slice s_3.1.a s_3.1.n s_3.1.c,.slice (some x_29) 1 1]) [.sc .sl] fun (x_30:Sl) =>
    J_28 x_30)
    (J_28 s_3.1))
  <| fun s_31 =>
  K_2 (s_31,IntKind.wrap .i64 (s_3.2+1))))
   0)
   (retW s_3.1))
  ((⟨none,0,0⟩:Sl),0)
theorem Zjl {R:Type} (d0:Option Addr) (K:Res [.sc .sl]→W R) (Q:R→World→Prop) (w:World) (h:Zd3 d0 (fun r w=>K r Q w) w):callW Tryz.prog Z9z [.pointer d0] [.sc .sl] K Q w:=den_c (K:=K) mix Tryz.func69 { con:=[(17064,[(3,.sc .sl)])],lop:=[(0,[(3,.sc .sl),(15,.sc (.int .i64))]),(2,[(32,.sc (.int .i64))])],dr:=[(11,([],[[(0,[]),(1,[]),(2,[]),(3,[]),(4,[]),(5,[]),(6,[]),(7,[]),(8,[]),(9,[]),(14,[]),(17,[]),(10,[]),(11,[]),(12,[]),(13,[]),(15,[]),(16,[]),(18,[]),(19,[])]]))] } trivial rfl (by kernel_rfl) h
def Zf2 (s0:Option Addr):W (Sl) :=
 callW Tryz.prog Z6z [.pointer s0,.int .u8 4,.int .u8 0] [.sc .sl] fun (x_1:Sl) =>
 loopW (σ:=Sl × Int) (fun K_2 s_3 =>
  cond (decide (s_3.2 < (x_1.n:Int)))
   (joinW (σ:=Sl) (fun J_4 =>
   idxW x_1.a x_1.n 1 s_3.2 fun x_5 =>
   ld (.sc (.int .u32)) x_5 fun (x_6:Int) =>
   callW Tryz.prog Z16 [.pointer s0,.int .u32 x_6,.int .u8 2] [.agg [.int .u8,.int .i32,.int .i32,.int .i32],.sc (.int .i64)] fun (x_7:(Int × Int × Int × Int) × Int) =>
   newW 52 [.int .u8 0,.int .i32 0,.int .i32 0,.int .i32 0] fun c_8 =>
   stoL c_8 [.int .u8 x_7.1.1,.int .i32 x_7.1.2.1,.int .i32 x_7.1.2.2.1,.int .i32 x_7.1.2.2.2] 0 <|
   idxW (some (Addr.add c_8 1)) 3 1 0 fun x_9 =>
   ld (.sc (.int .i32)) x_9 fun (x_10:Int) =>
   cond (x_10 == 0)
    (callW Tryz.prog Z2y [.pointer s0,.int .u32 x_6] [.sc (.int .i64)] fun (x_11:Int) =>
    newW 34 [.int .u32 x_6] fun x_12 =>
    rawW Tryz.prog (Builtin.append_ #[62,62] 62 #[.slice s_3.1.a s_3.1.n s_3.1.c,.slice (some x_12) 1 1]) [.sc .sl] fun (x_13:Sl) =>
    J_4 x_13)
    (idxW (some (Addr.add c_8 1)) 3 1 0 fun x_14 =>
   ld (.sc (.int .i32)) x_14 fun (x_15:Int) =>
   idxW (some (Addr.add c_8 1)) 3 1 0 fun x_16 =>
   stoL x_16 [.int .i32 (IntKind.wrap .i32 (x_15 - 1))] 0 <|
   ld (.agg [.int .u8,.int .i32,.int .i32,.int .i32]) c_8 fun (x_17:(Int × Int × Int × Int)) =>
   callW Tryz.prog Z17 [.pointer s0,.int .u32 x_6,.agg ⟨[.int .u8 x_17.1,.int .i32 x_17.2.1,.int .i32 x_17.2.2.1,.int .i32 x_17.2.2.2]⟩] [.sc (.int .i64)] fun (x_18:Int) =>
   J_4 s_3.1))
  <| fun s_19 =>
  K_2 (s_19,IntKind.wrap .i64 (s_3.2+1)))
   (retW s_3.1))
  ((⟨none,0,0⟩:Sl),0)
theorem Zkx {R:Type} (s0:Option Addr) (K:Res [.sc .sl]→W R) (Q:R→World→Prop) (w:World) (h:Zf2 s0 (fun r w=>K r Q w) w):callW Tryz.prog Zb1 [.pointer s0] [.sc .sl] K Q w:=den_c (K:=K) mix Tryz.func70 { blk:=[(1,[(3,.sc .sl)])],lop:=[(0,[(3,.sc .sl),(11,.sc (.int .i64))])] } trivial rfl (by kernel_rfl) h
def Zbt (d0:Option Addr):W (Sl) :=
 callW Tryz.prog Z6z [.pointer d0,.int .u8 33,.int .u8 0] [.sc .sl] fun (x_1:Sl) =>
 loopW (σ:=Sl × Int) (fun K_2 s_3 =>
  cond (decide (s_3.2 < (x_1.n:Int)))
   (joinW (σ:=Sl) (fun J_4 =>
   idxW x_1.a x_1.n 1 s_3.2 fun x_5 =>
   ld (.sc (.int .u32)) x_5 fun (x_6:Int) =>
   callW Tryz.prog Z16 [.pointer d0,.int .u32 x_6,.int .u8 5] [.agg [.int .u8,.int .i32,.int .i32,.int .i32],.sc (.int .i64)] fun (x_7:(Int × Int × Int × Int) × Int) =>
   newW 52 [.int .u8 0,.int .i32 0,.int .i32 0,.int .i32 0] fun x_8 =>
   stoL x_8 [.int .u8 x_7.1.1,.int .i32 x_7.1.2.1,.int .i32 x_7.1.2.2.1,.int .i32 x_7.1.2.2.2] 0 <|
   idxW (some (Addr.add x_8 1)) 3 1 1 fun x_9 =>
   ld (.sc (.int .i32)) x_9 fun (x_10:Int) =>
   cond (decide (x_10 > 0))
    (idxW (some (Addr.add x_8 1)) 3 1 1 fun x_11 =>
    ld (.sc (.int .i32)) x_11 fun (x_12:Int) =>
    idxW (some (Addr.add x_8 1)) 3 1 1 fun x_13 =>
    stoL x_13 [.int .i32 (IntKind.wrap .i32 (x_12 - 1))] 0 <|
    ld (.agg [.int .u8,.int .i32,.int .i32,.int .i32]) x_8 fun (x_14:(Int × Int × Int × Int)) =>
    callW Tryz.prog Z17 [.pointer d0,.int .u32 x_6,.agg ⟨[.int .u8 x_14.1,.int .i32 x_14.2.1,.int .i32 x_14.2.2.1,.int .i32 x_14.2.2.2]⟩] [.sc (.int .i64)] fun (x_15:Int) =>
    J_4 s_3.1)
    (callW Tryz.prog Z16 [.pointer d0,.int .u32 x_6,.int .u8 0] [.agg [.int .u8,.int .i32,.int .i32,.int .i32],.sc (.int .i64)] fun (x_16:(Int × Int × Int × Int) × Int) =>
   newW 52 [.int .u8 0,.int .i32 0,.int .i32 0,.int .i32 0] fun x_17 =>
   stoL x_17 [.int .u8 x_16.1.1,.int .i32 x_16.1.2.1,.int .i32 x_16.1.2.2.1,.int .i32 x_16.1.2.2.2] 0 <|
   drawW <|
   ld (.agg [.int .u8,.int .i32,.int .i32,.int .i32]) x_8 fun (x_18:(Int × Int × Int × Int)) =>
   ld (.agg [.int .u8,.int .i32,.int .i32,.int .i32]) x_17 fun (x_19:(Int × Int × Int × Int)) =>
   callW Tryz.prog Z15 [.int .u32 x_6] [.sc (.int .i64)] fun (x_20:Int) =>
   andW (fun w=>Rd w x_17 (.agg [.int .u8,.int .i32,.int .i32,.int .i32]) x_19) <|
   andW (fun w=>Rd w x_8 (.agg [.int .u8,.int .i32,.int .i32,.int .i32]) x_18) <|
   callW Tryz.prog Z8q [.agg ⟨[.int .u8 x_18.1,.int .i32 x_18.2.1,.int .i32 x_18.2.2.1,.int .i32 x_18.2.2.2]⟩,.agg ⟨[.int .u8 x_19.1,.int .i32 x_19.2.1,.int .i32 x_19.2.2.1,.int .i32 x_19.2.2.2]⟩,.bool ((Int.tmod x_20 2) == 1)] [.sc .sl] fun (x_21:Sl) =>
   callW Tryz.prog Z3l [.pointer d0,.slice x_21.a x_21.n x_21.c] [.sc (.int .u32),.sc (.int .i64)] fun (x_22:Int × Int) =>
   cond (x_22.2 != 0)
    (J_4 s_3.1)
    (idxW (some (Addr.add x_8 1)) 3 1 0 fun x_23 =>
   ld (.sc (.int .i32)) x_23 fun (x_24:Int) =>
   idxW (some (Addr.add x_8 1)) 3 1 1 fun x_25 =>
   stoL x_25 [.int .i32 (IntKind.wrap .i32 (x_24 - 1))] 0 <|
   ld (.agg [.int .u8,.int .i32,.int .i32,.int .i32]) x_8 fun (x_26:(Int × Int × Int × Int)) =>
   callW Tryz.prog Z17 [.pointer d0,.int .u32 x_6,.agg ⟨[.int .u8 x_26.1,.int .i32 x_26.2.1,.int .i32 x_26.2.2.1,.int .i32 x_26.2.2.2]⟩] [.sc (.int .i64)] fun (x_27:Int) =>
   newW 34 [.int .u32 x_22.1] fun x_28 =>
   rawW Tryz.prog (Builtin.append_ #[62,62] 62 #[.slice s_3.1.a s_3.1.n s_3.1.c,.slice (some x_28) 1 1]) [.sc .sl] fun (x_29:Sl) =>
   J_4 x_29)))
  <| fun s_30 =>
  K_2 (s_30,IntKind.wrap .i64 (s_3.2+1)))
   (retW s_3.1))
  ((⟨none,0,0⟩:Sl),0)
theorem Zho {R:Type} (d0:Option Addr) (K:Res [.sc .sl]→W R) (Q:R→World→Prop) (w:World) (h:Zbt d0 (fun r w=>K r Q w) w):callW Tryz.prog Z8p [.pointer d0] [.sc .sl] K Q w:=den_c (K:=K) mix Tryz.func71 { blk:=[(1,[(3,.sc .sl)])],lop:=[(0,[(3,.sc .sl),(15,.sc (.int .i64))])],dr:=[(10,([],[[(0,[]),(1,[]),(2,[]),(3,[]),(4,[1,2]),(5,[]),(6,[]),(7,[]),(8,[]),(9,[]),(10,[]),(11,[]),(12,[]),(13,[])]]))] } trivial rfl (by kernel_rfl) h
def Zb5 (x0:Int) (y1:Int):W (Int) :=
 callW Tryz.prog Z9x [.int .u32 x0] [.sc .bool] fun (x_1:Bool) =>
 callW Tryz.prog Z9x [.int .u32 y1] [.sc .bool] fun (x_2:Bool) =>
 cond x_1
  (cond x_2
   (retW 0)
   (retW (-1)))
  (cond x_2
  (retW 1)
  (cond (decide (x0 < y1))
  (retW (-1))
  (cond (decide (x0 > y1))
  (retW 1)
  (retW 0))))
theorem Zh3 {R:Type} (x0:Int) (y1:Int) (K:Res [.sc (.int .i64)]→W R) (Q:R→World→Prop) (w:World) (h:Zb5 x0 y1 (fun r w=>K r Q w) w):callW Tryz.prog Z74 [.int .u32 x0,.int .u32 y1] [.sc (.int .i64)] K Q w:=den_c (K:=K) mix Tryz.func114 {} trivial rfl (by kernel_rfl) h
def Zm6 (s0:Option Addr) (all1:Int) (none2:Int):W (Sl) :=
 callW Tryz.prog Zd6 [.pointer s0,.int .u8 all1,.int .u8 none2] [.sc .raw] fun (x_1:Value) =>
 callW Tryz.prog Z6d [x_1,.func (.func 182) #[] #[]] [.sc .sl] fun (x_2:Sl) =>
 retW x_2
theorem Zm4 {R:Type} (s0:Option Addr) (all1:Int) (none2:Int) (K:Res [.sc .sl]→W R) (Q:R→World→Prop) (w:World) (h:Zm6 s0 all1 none2 (fun r w=>K r Q w) w):callW Tryz.prog Z6z [.pointer s0,.int .u8 all1,.int .u8 none2] [.sc .sl] K Q w:=den_c (K:=K) mix Tryz.func127 {} trivial rfl (by kernel_rfl) h
def Zd4 (at0:Int) (by1:Int):W (Int × Int) :=
 callW Tryz.prog Zay [.int .i32 (IntKind.wrap .i32 (at0+by1)),.int .i32 (-524288),.int .i32 524287] [.sc (.int .i32)] fun (x_1:Int) =>
 joinW (σ:=Int) (fun J_2 =>
  cond (x_1 != (IntKind.wrap .i32 (at0+by1)))
   (J_2 (if 32767 < (IntKind.wrap .i32 (0 - by1)) then 32767 else (IntKind.wrap .i32 (0 - by1))))
   (J_2 by1))
 <| fun s_3 =>
 retW (x_1,s_3)
theorem Zjm {R:Type} (at0:Int) (by1:Int) (K:Res [.sc (.int .i32),.sc (.int .i32)]→W R) (Q:R→World→Prop) (w:World) (h:Zd4 at0 by1 (fun r w=>K r Q w) w):callW Tryz.prog Za0 [.int .i32 at0,.int .i32 by1] [.sc (.int .i32),.sc (.int .i32)] K Q w:=den_c (K:=K) mix Tryz.func128 { con:=[(5015,[(1,.sc (.int .i32))])] } trivial rfl (by kernel_rfl) h
def Zbu (c0:(Int × Int × Int × Int)) (at1:(Int × Int × Int × Int)) (odd2:Bool):W (Sl) :=
 newW 52 [.int .u8 c0.1,.int .i32 c0.2.1,.int .i32 c0.2.2.1,.int .i32 c0.2.2.2] fun c_1 =>
 newW 52 [.int .u8 at1.1,.int .i32 at1.2.1,.int .i32 at1.2.2.1,.int .i32 at1.2.2.2] fun at_2 =>
 idxW (some (Addr.add c_1 1)) 3 1 2 fun x_3 =>
 ld (.sc (.int .i32)) x_3 fun (x_4:Int) =>
 callW Tryz.prog Zby [.int .i64 (IntKind.wrap .i64 ((IntKind.wrap .i64 x_4)+1))] [.sc (.int .i32)] fun (x_5:Int) =>
 callW Tryz.prog Zaz [.int .i32 64,.int .i32 x_5] [.sc (.int .i32)] fun (x_6:Int) =>
 joinW (σ:=Int) (fun J_7 =>
  cond odd2
   (callW Tryz.prog Zdt [.int .i32 0,.int .i32 x_6] [.sc (.int .i32)] fun (x_8:Int) =>
   J_7 x_8)
   (J_7 x_6))
 <| fun s_9 =>
 drawW <|
 ld (.agg [.int .u8,.int .i32,.int .i32,.int .i32]) at_2 fun (x_10:(Int × Int × Int × Int)) =>
 callW Tryz.prog Zaz [.int .i32 32,.int .i32 x_5] [.sc (.int .i32)] fun (x_11:Int) =>
 andW (fun w=>Rd w at_2 (.agg [.int .u8,.int .i32,.int .i32,.int .i32]) x_10) <|
 newW 52 [.int .u8 x_10.1,.int .i32 x_10.2.1,.int .i32 x_10.2.2.1,.int .i32 x_10.2.2.2,.int .u8 1,.int .i32 s_9,.int .i32 x_11,.int .i32 0,.int .u8 2,.int .i32 (IntKind.wrap .i32 (30+(IntKind.wrap .i32 (10 * x_4)))),.int .i32 0,.int .i32 0,.int .u8 3,.int .i32 x_4,.int .i32 100,.int .i32 (IntKind.wrap .i32 (1+x_4))] fun x_12 =>
 retW (⟨(some x_12),4,4⟩:Sl)
theorem Zhp {R:Type} (c0:(Int × Int × Int × Int)) (at1:(Int × Int × Int × Int)) (odd2:Bool) (K:Res [.sc .sl]→W R) (Q:R→World→Prop) (w:World) (h:Zbu c0 at1 odd2 (fun r w=>K r Q w) w):callW Tryz.prog Z8q [.agg ⟨[.int .u8 c0.1,.int .i32 c0.2.1,.int .i32 c0.2.2.1,.int .i32 c0.2.2.2]⟩,.agg ⟨[.int .u8 at1.1,.int .i32 at1.2.1,.int .i32 at1.2.2.1,.int .i32 at1.2.2.2]⟩,.bool odd2] [.sc .sl] K Q w:=den_c (K:=K) mix Tryz.func132 { con:=[(6019,[(9,.sc (.int .i32))])],dr:=[(6,([],[[(0,[]),(1,[]),(2,[]),(6,[]),(7,[]),(8,[]),(9,[]),(10,[]),(11,[]),(12,[]),(13,[]),(14,[]),(15,[]),(3,[0]),(4,[]),(5,[]),(16,[]),(17,[])]]))] } trivial rfl (by kernel_rfl) h
def Z9v (x0:Int):W (Bool) :=
 retW (x0 != x0)
theorem Zcz {R:Type} (x0:Int) (K:Res [.sc .bool]→W R) (Q:R→World→Prop) (w:World) (h:Z9v x0 (fun r w=>K r Q w) w):callW Tryz.prog Z9x [.int .u32 x0] [.sc .bool] K Q w:=den_c (K:=K) mix Tryz.func165 {} trivial rfl (by kernel_rfl) h
def Z25 (seq0:Value):W (Sl) :=
 callW Tryz.prog Z8m [seq0] [.sc .sl] fun (x_1:Sl) =>
 callW Tryz.prog Z7p [.slice x_1.a x_1.n x_1.c,.func (.func 182) #[] #[]] [] fun (x_2:Unit) =>
 retW x_1
theorem Z4q {R:Type} (seq0:Value) (K:Res [.sc .sl]→W R) (Q:R→World→Prop) (w:World) (h:Z25 seq0 (fun r w=>K r Q w) w):callW Tryz.prog Z6d [seq0,.func (.func 182) #[] #[]] [.sc .sl] K Q w:=den_c (K:=K) mix Tryz.func180 {} trivial rfl (by kernel_rfl) h
def Zd1 (s0:Option Addr) (all1:Int) (none2:Int):W (Value) :=
 newW 119 [.pointer s0] fun s_1 =>
 newW 5 [.int .u8 all1] fun all_2 =>
 newW 5 [.int .u8 none2] fun none_3 =>
 retW (.func (.func 223) #[] #[.pointer (some s_1),.pointer (some all_2),.pointer (some none_3)]:Value)
theorem Zjj {R:Type} (s0:Option Addr) (all1:Int) (none2:Int) (K:Res [.sc .raw]→W R) (Q:R→World→Prop) (w:World) (h:Zd1 s0 all1 none2 (fun r w=>K r Q w) w):callW Tryz.prog Zd6 [.pointer s0,.int .u8 all1,.int .u8 none2] [.sc .raw] K Q w:=den_c (K:=K) mix Tryz.func181 {} trivial rfl (by kernel_rfl) h
def Zht (a0:Int) (b1:Int):W (Int) :=
 callW Tryz.prog Z15 [.int .u32 a0] [.sc (.int .i64)] fun (x_1:Int) =>
 callW Tryz.prog Z15 [.int .u32 b1] [.sc (.int .i64)] fun (x_2:Int) =>
 callW Tryz.prog Z6f [.int .i64 x_1,.int .i64 x_2] [.sc (.int .i64)] fun (x_3:Int) =>
 retW x_3
theorem Zhn {R:Type} (a0:Int) (b1:Int) (K:Res [.sc (.int .i64)]→W R) (Q:R→World→Prop) (w:World) (h:Zht a0 b1 (fun r w=>K r Q w) w):callW Tryz.prog Zc2 [.int .u32 a0,.int .u32 b1] [.sc (.int .i64)] K Q w:=den_c (K:=K) mix Tryz.func182 {} trivial rfl (by kernel_rfl) h
def Za5 (x0:Int) (y1:Int):W (Int) :=
 callW Tryz.prog Z8k [.int .i64 x0] [.sc .bool] fun (x_1:Bool) =>
 callW Tryz.prog Z8k [.int .i64 y1] [.sc .bool] fun (x_2:Bool) =>
 cond x_1
  (cond x_2
   (retW 0)
   (retW (-1)))
  (cond x_2
  (retW 1)
  (cond (decide (x0 < y1))
  (retW (-1))
  (cond (decide (x0 > y1))
  (retW 1)
  (retW 0))))
theorem Zft {R:Type} (x0:Int) (y1:Int) (K:Res [.sc (.int .i64)]→W R) (Q:R→World→Prop) (w:World) (h:Za5 x0 y1 (fun r w=>K r Q w) w):callW Tryz.prog Z6f [.int .i64 x0,.int .i64 y1] [.sc (.int .i64)] K Q w:=den_c (K:=K) mix Tryz.func183 {} trivial rfl (by kernel_rfl) h
def Zky (a0:Int) (lo1:Int) (hi2:Int):W (Int) :=
 cond (decide (a0 < lo1))
  (retW lo1)
  (cond (decide (a0 > hi2))
   (retW hi2)
   (retW a0))
theorem Zks {R:Type} (a0:Int) (lo1:Int) (hi2:Int) (K:Res [.sc (.int .i32)]→W R) (Q:R→World→Prop) (w:World) (h:Zky a0 lo1 hi2 (fun r w=>K r Q w) w):callW Tryz.prog Zay [.int .i32 a0,.int .i32 lo1,.int .i32 hi2] [.sc (.int .i32)] K Q w:=den_c (K:=K) mix Tryz.func184 {} trivial rfl (by kernel_rfl) h
def Zgk (n0:Int):W (Int) :=
 callW Tryz.prog Z6y [.int .i64 (IntKind.wrap .i64 ((if 2147483647 < (if (-2147483648) > n0 then (-2147483648) else n0) then 2147483647 else (if (-2147483648) > n0 then (-2147483648) else n0)) * 256))] [.sc (.int .i32)] fun (x_1:Int) =>
 retW x_1
theorem Zlz {R:Type} (n0:Int) (K:Res [.sc (.int .i32)]→W R) (Q:R→World→Prop) (w:World) (h:Zgk n0 (fun r w=>K r Q w) w):callW Tryz.prog Zby [.int .i64 n0] [.sc (.int .i32)] K Q w:=den_c (K:=K) mix Tryz.func190 {} trivial rfl (by kernel_rfl) h
def Zhq (a0:Int) (b1:Int):W (Int) :=
 callW Tryz.prog Z6y [.int .i64 (IntKind.wrap .i64 (Int.tdiv (IntKind.wrap .i64 ((IntKind.wrap .i64 a0) * (IntKind.wrap .i64 b1))) 256))] [.sc (.int .i32)] fun (x_1:Int) =>
 retW x_1
theorem Zni {R:Type} (a0:Int) (b1:Int) (K:Res [.sc (.int .i32)]→W R) (Q:R→World→Prop) (w:World) (h:Zhq a0 b1 (fun r w=>K r Q w) w):callW Tryz.prog Zaz [.int .i32 a0,.int .i32 b1] [.sc (.int .i32)] K Q w:=den_c (K:=K) mix Tryz.func191 {} trivial rfl (by kernel_rfl) h
def Zhr (a0:Int) (b1:Int):W (Int) :=
 callW Tryz.prog Z6y [.int .i64 (IntKind.wrap .i64 ((IntKind.wrap .i64 a0) - (IntKind.wrap .i64 b1)))] [.sc (.int .i32)] fun (x_1:Int) =>
 retW x_1
theorem Znj {R:Type} (a0:Int) (b1:Int) (K:Res [.sc (.int .i32)]→W R) (Q:R→World→Prop) (w:World) (h:Zhr a0 b1 (fun r w=>K r Q w) w):callW Tryz.prog Zdt [.int .i32 a0,.int .i32 b1] [.sc (.int .i32)] K Q w:=den_c (K:=K) mix Tryz.func192 {} trivial rfl (by kernel_rfl) h
def Z8f (seq0:Value):W (Sl) :=
 callW Tryz.prog Zc3 [.slice none 0 0,seq0] [.sc .sl] fun (x_1:Sl) =>
 retW x_1
theorem Zdo {R:Type} (seq0:Value) (K:Res [.sc .sl]→W R) (Q:R→World→Prop) (w:World) (h:Z8f seq0 (fun r w=>K r Q w) w):callW Tryz.prog Z8m [seq0] [.sc .sl] K Q w:=den_c (K:=K) mix Tryz.func221 {} trivial rfl (by kernel_rfl) h
def Z81 (x0:Int):W (Bool) :=
 retW (x0 != x0)
theorem Zbi {R:Type} (x0:Int) (K:Res [.sc .bool]→W R) (Q:R→World→Prop) (w:World) (h:Z81 x0 (fun r w=>K r Q w) w):callW Tryz.prog Z8k [.int .i64 x0] [.sc .bool] K Q w:=den_c (K:=K) mix Tryz.func225 {} trivial rfl (by kernel_rfl) h
def Zgl (n0:Int):W (Int) :=
 retW (IntKind.wrap .i32 (if 2147483647 < (if (-2147483648) > n0 then (-2147483648) else n0) then 2147483647 else (if (-2147483648) > n0 then (-2147483648) else n0)))
theorem Zm0 {R:Type} (n0:Int) (K:Res [.sc (.int .i32)]→W R) (Q:R→World→Prop) (w:World) (h:Zgl n0 (fun r w=>K r Q w) w):callW Tryz.prog Z6y [.int .i64 n0] [.sc (.int .i32)] K Q w:=den_c (K:=K) mix Tryz.func232 {} trivial rfl (by kernel_rfl) h
end Go.Proofs.YtoiahhpgkoknfaaGreat
namespace Go.Proofs.YtoiahhpgkoknfaaGreat
open Go Go.Proofs Go.RowKit Go.Proofs.YtoiahhpgkoknfaaGreat.Den Go.Proofs.YtoiahhpgkoknfaaGreat.Seq
variable {R:Type} {Q:R→World→Prop} {w:World}
attribute [local go_sem] Oper.semAt_some
theorem Zi8 (T:Nat→List Ent) (all non:Int) {l:List (Int × List Int)} {j:Nat} {g:Int × List Int} (hg:l[j]?=some g):grpIds T all non (l.take (j+1))=grpIds T all non (l.take j) ++ (if fitB g.1 all non then g.2 else []):=by
 unfold grpIds
 rw [Z1q hg,List.flatMap_append]
 simp
theorem Zmf (T:Nat→List Ent) (all non:Int) {l:List (Int × List Int)} {j:Nat} {g:Int × List Int} (hg:l[j]?=some g):∃ tl,grpIds T all non l=grpIds T all non (l.take j) ++ (if fitB g.1 all non then g.2 else []) ++ tl:=by
 refine ⟨grpIds T all non (l.drop (j+1)),?_⟩
 rw [← Zi8 T all non hg]
 conv=>lhs; rw [← List.take_append_drop (j+1) l]
 unfold grpIds
 rw [List.flatMap_append]
theorem Zan {W:World} {k o:Nat} {v:Value} (h:W.cell? ⟨k,o,none⟩=some v):k < W.heap.size:=by
 unfold World.cell? at h
 rcases Nat.lt_or_ge k W.heap.size with hl | hg
 ·exact hl
 ·rw [Array.getElem?_eq_none hg] at h
  cases h
theorem Znx {F:Nat→Prop} {b:Nat} {x:StM} {W:World} (h:Store b x F W):Calls Tryz.prog 224 #[.pointer (some ⟨b,0,none⟩)] W fun e w'=>∃ r raws lab,e=.returned (.slice r.a r.n r.c)∧DO grpO (t:=grpT) 321 (Up W.heap.size) w' r raws (groupsM x.tab) lab∧Fr None W w':=by
 have:=Zgg (R:=Unit) (Q:=fun _ _=>True) (w:=W) h (K:=fun r _ w'=>∃ raws lab,DO grpO (t:=grpT) 321 (Up W.heap.size) w' r raws (groupsM x.tab) lab∧Fr None W w') fun r raws lab w' hD f=>⟨raws,lab,hD,f⟩
 exact Calls.mono this fun e w' ⟨r,he,raws,lab,hD,f⟩=>⟨r,raws,lab,he,hD,f⟩
set_option maxRecDepth 100000 in
set_option maxHeartbeats 4000000 in
theorem Zpr {F':Nat→Prop} {b:Nat} {x:StM} (n:Nat) (hn:1≤n) (l Bs Ba Bn:Nat) (all non:Int) (J:(Nat→Prop)→List Int→World→Prop) (Z0:Nat→Prop) (hz:Z0 Ba∧Z0 Bn)
  (hJ:∀ Z s A B,J Z s A→Fr None A B→J (Zx Z A B) s B)
  (hY:∀ Z pre y W1,J Z pre W1→(pre ++ [y]) <+: grpIds x.tab all non (groupsM x.tab)→YieldAt Fence.wide (n - 1) Tryz.prog l #[encID y] W1 fun e W'=>e=.returned (.bool true)∧J Z (pre ++ [y]) W'∧W1.heap.size≤W'.heap.size∧∀ k,Z k→W'.heap[k]?=W1.heap[k]?)
  (W:World) (hs:W.cell? ⟨Bs,0,none⟩=some (.pointer (some ⟨b,0,none⟩))) (ha:W.cell? ⟨Ba,0,none⟩=some (.int .u8 all)) (hb:W.cell? ⟨Bn,0,none⟩=some (.int .u8 non)) (hst:Store b x F' W) (h0:J Z0 [] W) :
  CallsIn Fence.wide n Tryz.prog 223 #[.func (.yield l) #[] #[],.pointer (some ⟨Bs,0,none⟩),.pointer (some ⟨Ba,0,none⟩),.pointer (some ⟨Bn,0,none⟩)] W fun e W'=>(∃ v,e=.returned v)∧∃ Z,J Z (grpIds x.tab all non (groupsM x.tab)) W':=by
 refine callsIn_of_wp Tryz.func223 rfl trivial ?_ rfl
 simp only [Tryz.ntmps223,List.size_toArray,List.length_cons,List.length_nil,Nat.reduceAdd,Nat.reduceSub,Array.replicate_succ,Array.replicate_zero,List.push_toArray,List.append_toArray,List.nil_append,List.cons_append]
 gi_wp2_with (refine ⟨trivial,?_⟩; gi_at_call 224; refine (callsIn_wide.2 (Znx hst)).mono ?_; rintro e W2 ⟨r,raws,lab,rfl,hD,f2⟩)
 have hs2:=f2.size
 obtain ⟨ra,rn,rc⟩:=r
 have hGl:=hD.len
 obtain rfl:rn=(groupsM x.tab).length:=hD.own.len.trans hD.len
 have h64:(groupsM x.tab).length≤64:=by
  have:=Zow x.tab ((List.range 64).map fun (n:Nat)=>(n:Int))
  rw [List.length_map,List.length_range] at this
  exact this
 have cellAt:∀ {A:World} {k:Nat} (o:Nat),A.heap[k]?=W2.heap[k]?→A.cell? ⟨k,o,none⟩=W2.cell? ⟨k,o,none⟩:=fun o e=>World.cell?_of_block (a:=⟨_,o,none⟩) e
 have ha2:W2.cell? ⟨Ba,0,none⟩=some (.int .u8 all):=(World.cell?_of_block (a:=⟨Ba,0,none⟩) (f2.block Ba (Zan ha) fun h=>h)).trans ha
 have hb2:W2.cell? ⟨Bn,0,none⟩=some (.int .u8 non):=(World.cell?_of_block (a:=⟨Bn,0,none⟩) (f2.block Bn (Zan hb) fun h=>h)).trans hb
 have hla:=Zan ha
 have hxl:(grpIds x.tab all non (groupsM x.tab)).length≤1024:=by
  have ok:=(Store.open_ hst).1
  rw [(Zi7 ok all non).length_eq]
  exact Zfs ok all non
 have hlb:=Zan hb
 obtain ⟨P0,hP0⟩:∃ P0:Nat→Prop,P0=fun k=>k=Ba∨k=Bn∨(W.heap.size≤k∧k < W2.heap.size):=⟨_,rfl⟩
 have hPa:P0 Ba:=by rw [hP0]; exact .inl rfl
 have hPb:P0 Bn:=by rw [hP0]; exact .inr (.inl rfl)
 have hP2:∀ k,P0 k→k < W2.heap.size:=fun k e=>by rw [hP0] at e; rcases e with rfl | rfl | e <;> omega
 gi_loopw [12] (fun i wr=>∃ (j:Nat) (Z:Nat→Prop),j≤(groupsM x.tab).length∧i=.int .i64 j∧J Z (grpIds x.tab all non ((groupsM x.tab).take j)) wr∧(∀ k,P0 k→Z k)∧(∀ k,P0 k→wr.heap[k]?=W2.heap[k]?)∧W2.heap.size≤wr.heap.size)
  (fun i _=>(groupsM x.tab).length - (intOf i).toNat)
 case atStart =>
  exact ⟨0,_,Nat.zero_le _,rfl,hJ Z0 [] W W2 h0 f2,fun k e=>by
   rw [hP0] at e
   rcases e with rfl | rfl | e
   ·exact .inl hz.1
   ·exact .inl hz.2
   ·exact .inr e,fun k _=>rfl,Nat.le_refl _⟩
 case round =>
  obtain ⟨j,Z,hj,rfl,hJs,hPZ,hkp,hsz⟩:=hrel
  have hka:=(cellAt 0 (hkp Ba hPa)).trans ha2
  have hkb:=(cellAt 0 (hkp Bn hPb)).trans hb2
  by_cases hlt:j < (groupsM x.tab).length
  ·obtain ⟨g,hg⟩:∃ g,(groupsM x.tab)[j]?=some g:=⟨_,List.getElem?_eq_getElem hlt⟩
   obtain ⟨r0,hr0⟩:∃ r0,raws[j]?=some r0:=⟨_,List.getElem?_eq_getElem (by omega)⟩
   obtain ⟨a1,a2⟩:=hD.at_ j r0 g hr0 hg
   have a1:r0.1=g.1:=a1
   obtain ⟨gb,rfl,hgb,hgr⟩:∃ gb,ra=some ⟨gb,0,none⟩∧P0 gb∧Rd W2 ⟨gb,j * 2,none⟩ grpT r0:=by
    rcases hD.own.cases with ⟨e,h2⟩ | ⟨gb,c,cur,e,hS,h3,_⟩
    ·rw [h2] at hr0; simp at hr0
    ·have ea:ra=some ⟨gb,0,none⟩:=congrArg Sl.a e
     refine ⟨gb,ea,?_,hD.own.read ea hr0⟩
     rw [hP0]
     exact .inr (.inr ⟨hS.1,(Array.getElem?_eq_some_iff.1 h3).1⟩)
   have hc0:wr.cell? ⟨gb,j * 2,none⟩=some (.int .u8 g.1):=(cellAt _ (hkp gb hgb)).trans (by rw [← a1]; exact (Rd.cells.1 hgr) 0 _ rfl)
   have hc1:wr.cell? ⟨gb,j * 2+1,none⟩=some (.slice r0.2.a r0.2.n r0.2.c):=(cellAt _ (hkp gb hgb)).trans (by have:=(Rd.cells.1 hgr) 1 _ rfl; rw [Z3] at this; exact this)
   have hka1:(wr.alloc (Obj.cells #[.int .u8 g.1,.slice r0.2.a r0.2.n r0.2.c] 321)).cell? ⟨Ba,0,none⟩=some (.int .u8 all):=(World.cell?_of_block (a:=⟨Ba,0,none⟩) (heap_alloc_old wr _ (by show Ba < _; omega))).trans hka
   have hkb1:(wr.alloc (Obj.cells #[.int .u8 g.1,.slice r0.2.a r0.2.n r0.2.c] 321)).cell? ⟨Bn,0,none⟩=some (.int .u8 non):=(World.cell?_of_block (a:=⟨Bn,0,none⟩) (heap_alloc_old wr _ (by show Bn < _; omega))).trans hkb
   have hsn:=Zi8 x.tab all non hg
   obtain ⟨tl,htl⟩:=Zmf x.tab all non hg
   obtain ⟨m0,⟨ia,im,ic⟩⟩:=r0
   obtain rfl:im=g.2.length:=a2.len
   simp only at a2 hc0 hc1 hka1 hkb1
   have fa:Fr None wr (wr.alloc (Obj.cells #[.int .u8 g.1,.slice ia g.2.length ic] 321)):=(Fr.refl _ _).alloc _
   have nofit:fitB g.1 all non=false→(∃ (j':Nat) (Z:Nat→Prop),j'≤(groupsM x.tab).length∧Value.int .i64 ((j:Int)+1)=.int .i64 j'∧J Z (grpIds x.tab all non ((groupsM x.tab).take j')) (wr.alloc (Obj.cells #[.int .u8 g.1,.slice ia g.2.length ic] 321))∧(∀ k,P0 k→Z k) ∧
     (∀ k,P0 k→(wr.alloc (Obj.cells #[.int .u8 g.1,.slice ia g.2.length ic] 321)).heap[k]?=W2.heap[k]?)∧W2.heap.size≤(wr.alloc (Obj.cells #[.int .u8 g.1,.slice ia g.2.length ic] 321)).heap.size) ∧
     (groupsM x.tab).length - (intOf (Value.int .i64 ((j:Int)+1))).toNat < (groupsM x.tab).length - (intOf (Value.int .i64 (j:Int))).toNat:=fun hf=>by
    rw [if_neg (by rw [hf]; decide),List.append_nil] at hsn
    refine ⟨⟨j+1,Zx Z wr _,hlt,by simp,by rw [hsn]; exact hJ Z _ wr _ hJs fa,fun k e=>.inl (hPZ k e),fun k e=>(fa.block k (by have:=hP2 k e; omega) fun h=>h).trans (hkp k e),by have:=fa.size; omega⟩,by simp only [intOf]; omega⟩
   gi_wp2
   all_goals first
    | (refine nofit ?_
       unfold fitB
       first
        | (have h1 : ¬ bAnd .u8 g.1 all = all := by assumption
           rw [beq_eq_false_iff_ne.2 h1,Bool.false_and])
        | (have h1 : (bAnd .u8 g.1 non != 0) = true := by assumption
           have h2:(bAnd .u8 g.1 non == 0)=false:=by simpa using h1
           rw [h2,Bool.and_false]))
    | skip
   have hfit:fitB g.1 all non=true:=by
    unfold fitB
    rw [Bool.and_eq_true]
    exact ⟨by simpa using (show bAnd .u8 g.1 all=all by assumption),by simpa using (show (bAnd .u8 g.1 non != 0)=false by assumption)⟩
   rw [if_pos hfit] at hsn htl
   have hgl:g.2.length≤1024:=by rw [htl] at hxl; simp only [List.length_append] at hxl; omega
   obtain ⟨wa,hwa⟩:∃ wa,wr.alloc (Obj.cells #[.int .u8 g.1,.slice ia g.2.length ic] 321)=wa:=⟨_,rfl⟩
   rw [hwa] at fa ⊢
   have hsa:=fa.size
   gi_loopw [32] (fun i wq=>∃ (q:Nat) (Z:Nat→Prop),q≤g.2.length∧i=.int .i64 q∧J Z (grpIds x.tab all non ((groupsM x.tab).take j) ++ g.2.take q) wq∧(∀ k,P0 k→Z k)∧(∀ k,P0 k→wq.heap[k]?=W2.heap[k]?)∧W2.heap.size≤wq.heap.size)
    (fun i _=>g.2.length - (intOf i).toNat)
   case atStart =>
    exact ⟨0,Zx Z wr wa,Nat.zero_le _,rfl,by rw [List.take_zero,List.append_nil]; exact hJ Z _ wr wa hJs fa,fun k e=>.inl (hPZ k e),fun k e=>(fa.block k (by have:=hP2 k e; omega) fun h=>h).trans (hkp k e),by omega⟩
   case round =>
    obtain ⟨q,Z2,hq,rfl,hJ2,hPZ2,hkp2,hsz2⟩:=hrel
    by_cases hql:q < g.2.length
    ·obtain ⟨y,hy0⟩:∃ y,g.2[q]?=some y:=⟨_,List.getElem?_eq_getElem hql⟩
     obtain ⟨ib,rfl,hib,hir⟩:∃ ib,ia=some ⟨ib,0,none⟩∧P0 ib∧Rd W2 ⟨ib,q * 1,none⟩ idT y:=by
      rcases a2.cases with ⟨e,h2⟩ | ⟨ib,c,cur,e,hS,h3,_⟩
      ·rw [h2] at hy0; simp at hy0
      ·have ea:ia=some ⟨ib,0,none⟩:=congrArg Sl.a e
       refine ⟨ib,ea,?_,a2.read ea hy0⟩
       rw [hP0]
       exact .inr (.inr ⟨hS.1,(Array.getElem?_eq_some_iff.1 h3).1⟩)
     have hcy:wr.cell? ⟨ib,q,none⟩=some (.int .u32 y):=(cellAt _ (hkp2 ib hib)).trans (by rw [Nat.mul_one] at hir; exact hir)
     obtain ⟨fn,tmps,assign,body,hy,hR⟩:=hY Z2 _ y wr hJ2 (by
      rw [htl,List.append_assoc,List.append_assoc,← Z1q hy0]
      exact List.prefix_append_right_inj _ |>.2 ((List.take_prefix _ _).trans (List.prefix_append _ _)))
     simp only [Seq.encID] at hy
     have hq2:(q:Int)+1≤2000:=by omega
     gi_wp2
     refine hR.mono ?_
     rintro e W3 ⟨rfl,hJ3,hs3,hk3⟩
     gi_wp2
     go_roundw
     case rel=>exact ⟨q+1,Z2,hql,by simp,by rw [Z1q hy0,← List.append_assoc]; exact hJ3,hPZ2,fun k e=>(hk3 k (hPZ2 k e)).trans (hkp2 k e),by omega⟩
     case measure=>simp [intOf]; omega
    ·obtain rfl:q=g.2.length:=by omega
     gi_wp2
     go_roundw
     case rel =>
      exact ⟨j+1,Z2,hlt,by simp,by rw [hsn]; rw [List.take_length] at hJ2; exact hJ2,hPZ2,hkp2,hsz2⟩
     case measure=>simp [intOf]; omega
  ·obtain rfl:j=(groupsM x.tab).length:=by omega
   gi_wp2
   go_end0
   exact ⟨⟨_,rfl⟩,Z,by rw [List.take_length] at hJs; exact hJs⟩
theorem Zns {w W:World} (h:Below w.heap.size w W):Fr None w W:=⟨h.os,h.tape,h.output,h.size,fun k hk _=>h.block k hk⟩
theorem Zmd {F:Nat→Prop} {b:Nat} {x:StM} (h:Store b x F w) {Bs Ba Bn:Nat} {all non:Int} (hs:w.cell? ⟨Bs,0,none⟩=some (.pointer (some ⟨b,0,none⟩))) (ha:w.cell? ⟨Ba,0,none⟩=some (.int .u8 all)) (hb:w.cell? ⟨Bn,0,none⟩=some (.int .u8 non)) (n:Nat) (hn:1≤n) :
  GivesZ Fence.wide n Tryz.prog 223 #[.pointer (some ⟨Bs,0,none⟩),.pointer (some ⟨Ba,0,none⟩),.pointer (some ⟨Bn,0,none⟩)] encID (grpIds x.tab all non (groupsM x.tab)) (fun k=>k=Ba∨k=Bn) w:=fun l J W hW hJ hY h0=>by
 have cl:∀ {k:Nat} {v:Value},w.cell? ⟨k,0,none⟩=some v→W.cell? ⟨k,0,none⟩=some v:=fun h=>(hW.cell (p:=⟨_,0,none⟩) (Zan h)).trans h
 exact Zpr n hn l Bs Ba Bn all non J _ ⟨.inl rfl,.inr rfl⟩ hJ hY W (cl hs) (cl ha) (cl hb) (Store.st.fr0 h (Zns hW)) h0
def Ze4:Go.Shelf.Ren where
 f:=fun x=>match x with
  | 6=>222
  | 15=>162
  | 14=>264
  | 28=>211
  | 29=>212
  | 20=>280
  | 21=>281
  | 22=>282
  | 23=>283
  | 24=>284
  | 25=>285
  | 26=>286
  | 27=>287
  | 46=>295
  | 47=>243
  | 48=>244
  | 49=>296
  | 50=>297
  | 57=>301
  | n=>n
 t:=fun x=>match x with
  | 22=>62
  | 24=>34
  | 25=>181
  | 3=>3
  | 39=>252
  | 0=>0
  | 53=>28
  | 55=>308
  | 4=>4
  | 46=>301
  | 45=>300
  | 50=>179
  | 5=>5
  | 9=>9
  | 66=>344
  | 70=>348
  | 76=>371
  | 77=>372
  | n=>n
 g:=fun n=>n
theorem sortIDs:SlLaysF.n6 Tryz.prog Ze4 where
 mixed:=by kernel_rfl
 f6:=⟨Tryz.f222.name,by kernel_rfl,Tryz.func222.trans (congrArg some (by kernel_rfl))⟩
 f14:=⟨Tryz.f264.name,by kernel_rfl,Tryz.func264.trans (congrArg some (by kernel_rfl))⟩
 f15:=Tryz.func162.trans (congrArg some (by kernel_rfl))
 f20:=⟨Tryz.f280.name,by kernel_rfl,Tryz.func280.trans (congrArg some (by kernel_rfl))⟩
 f21:=⟨Tryz.f281.name,by kernel_rfl,Tryz.func281.trans (congrArg some (by kernel_rfl))⟩
 f22:=⟨Tryz.f282.name,by kernel_rfl,Tryz.func282.trans (congrArg some (by kernel_rfl))⟩
 f23:=⟨Tryz.f283.name,by kernel_rfl,Tryz.func283.trans (congrArg some (by kernel_rfl))⟩
 f24:=⟨Tryz.f284.name,by kernel_rfl,Tryz.func284.trans (congrArg some (by kernel_rfl))⟩
 f25:=⟨Tryz.f285.name,by kernel_rfl,Tryz.func285.trans (congrArg some (by kernel_rfl))⟩
 f26:=⟨Tryz.f286.name,by kernel_rfl,Tryz.func286.trans (congrArg some (by kernel_rfl))⟩
 f27:=⟨Tryz.f287.name,by kernel_rfl,Tryz.func287.trans (congrArg some (by kernel_rfl))⟩
 f28:=Tryz.func211.trans (congrArg some (by kernel_rfl))
 f29:=Tryz.func212.trans (congrArg some (by kernel_rfl))
 f46:=⟨Tryz.f295.name,by kernel_rfl,Tryz.func295.trans (congrArg some (by kernel_rfl))⟩
 f47:=Tryz.func243.trans (congrArg some (by kernel_rfl))
 f48:=Tryz.func244.trans (congrArg some (by kernel_rfl))
 f49:=⟨Tryz.f296.name,by kernel_rfl,Tryz.func296.trans (congrArg some (by kernel_rfl))⟩
 f50:=⟨Tryz.f297.name,by kernel_rfl,Tryz.func297.trans (congrArg some (by kernel_rfl))⟩
 f57:=⟨Tryz.f301.name,by kernel_rfl,Tryz.func301.trans (congrArg some (by kernel_rfl))⟩
 t0:=Tryz.underlying0
 a0:=Tryz.isAgg0
 z0:=Tryz.sizeOf0
 v0:=Tryz.zeroValue0
 t3:=Tryz.underlying3
 a3:=Tryz.isAgg3
 z3:=Tryz.sizeOf3
 v3:=Tryz.zeroValue3
 t4:=Tryz.underlying4
 a4:=Tryz.isAgg4
 z4:=Tryz.sizeOf4
 v4:=Tryz.zeroValue4
 t5:=Tryz.underlying5
 a5:=Tryz.isAgg5
 z5:=Tryz.sizeOf5
 v5:=Tryz.zeroValue5
 t9:=Tryz.underlying9
 a9:=Tryz.isAgg9
 z9:=Tryz.sizeOf9
 v9:=Tryz.zeroValue9
 t22:=Tryz.underlying62
 a22:=Tryz.isAgg62
 z22:=Tryz.sizeOf62
 v22:=Tryz.zeroValue62
 a24:=Tryz.isAgg34
 z24:=Tryz.sizeOf34
 t25:=Tryz.underlying181
 a25:=Tryz.isAgg181
 z25:=Tryz.sizeOf181
 v25:=Tryz.zeroValue181
 t39:=Tryz.underlying252
 a39:=Tryz.isAgg252
 z39:=Tryz.sizeOf252
 v39:=Tryz.zeroValue252
 t45:=Tryz.underlying300
 a45:=Tryz.isAgg300
 z45:=Tryz.sizeOf300
 v45:=Tryz.zeroValue300
 t46:=Tryz.underlying301
 a46:=Tryz.isAgg301
 z46:=Tryz.sizeOf301
 v46:=Tryz.zeroValue301
 t50:=Tryz.underlying179
 a50:=Tryz.isAgg179
 z50:=Tryz.sizeOf179
 v50:=Tryz.zeroValue179
 t53:=Tryz.underlying28
 a53:=Tryz.isAgg28
 z53:=Tryz.sizeOf28
 v53:=Tryz.zeroValue28
 t55:=Tryz.underlying308
 a55:=Tryz.isAgg308
 z55:=Tryz.sizeOf308
 v55:=Tryz.zeroValue308
 t66:=Tryz.underlying344
 a66:=Tryz.isAgg344
 z66:=Tryz.sizeOf344
 v66:=Tryz.zeroValue344
 t70:=Tryz.underlying348
 a70:=Tryz.isAgg348
 z70:=Tryz.sizeOf348
 v70:=Tryz.zeroValue348
 t76:=Tryz.underlying371
 a76:=Tryz.isAgg371
 z76:=Tryz.sizeOf371
 v76:=Tryz.zeroValue371
 t77:=Tryz.underlying372
 a77:=Tryz.isAgg372
 z77:=Tryz.sizeOf372
 v77:=Tryz.zeroValue372
section
variable {α:Type} [Inhabited α] (enc:α→Value)
theorem Zmg {w:World} {g n:Nat} {os:Array Obj} {cur:Array Value} {e:TypeId} {fr:Nat × Nat} (d:Array α) (hb:w.heap[g]?=some (.cells cur e fr)) :
  (Sort.grow (Sort.putRow enc (Sort.ahead w n) g 0 d) os).heap[g]?=some (.cells (Sort.putCells enc 0 d cur) e fr):=by
 have hg:g < w.heap.size:=(Array.getElem?_eq_some_iff.1 hb).1
 rw [Sort.heap_grow_old _ _ (by simpa using hg)]
 simp [Sort.putRow,Sort.mapBlock,Sort.ahead,Array.getElem?_modify,hb,Sort.onCells]
theorem Zpq {w:World} {g n:Nat} {os:Array Obj} (d:Array α):Fr (fun k=>k=g) w (Sort.grow (Sort.putRow enc (Sort.ahead w n) g 0 d) os):=by
 refine ⟨rfl,rfl,rfl,by simp,fun k hk hne=>?_⟩
 rw [Sort.heap_grow_old _ _ (by simpa using hk)]
 have:g≠k:=fun e=>hne e.symm
 simp [Sort.putRow,Sort.mapBlock,Sort.ahead,Array.getElem?_modify,this]
theorem Zk5 (cur:Array Value) (ts:List α) (h:ts.length≤cur.size):(Sort.putCells enc 0 ts.toArray cur).toList.take ts.length=ts.map enc:=by
 apply List.ext_getElem?
 intro j
 by_cases hj:j < ts.length
 ·rw [List.getElem?_take_of_lt hj,Array.getElem?_toList]
  simp [Sort.putCells,hj,show j < cur.size by omega]
 ·rw [List.getElem?_take_eq_none (by omega),List.getElem?_eq_none (by simp; omega)]
theorem Zps {w:World} {g:Nat} {cur:Array Value} {e:TypeId} {ss:List α} (hb:w.heap[g]?=some (.cells cur e (0,0))) (ht:cur.toList.take ss.length=ss.map enc):Sort.Holds enc w g 0 ss.toArray:=by
 intro j hj
 have hj':j < ss.length:=by simpa using hj
 refine ⟨?_,by simp [World.frozen?,hb]⟩
 have h1:(cur.toList.take ss.length)[j]?=(ss.map enc)[j]?:=by rw [ht]
 rw [List.getElem?_take_of_lt hj'] at h1
 simp only [World.cell?,hb,Nat.zero_add]
 simp only [Option.isSome_none,Bool.false_eq_true,if_false]
 rw [← Array.getElem?_toList,h1]
 simp [hj']
end
def keyS (x:Int):Int:=IntKind.wrap .i64 (Int.tmod x 1024)
def cmpI (x y:Int):Int:=if x < y then -1 else if x > y then 1 else 0
theorem Zhc {x y:Int} {K:Res [.sc (.int .i64)]→W R} (hk:K (cmpI x y) Q w):callW Tryz.prog Z6f [.int .i64 x,.int .i64 y] [.sc (.int .i64)] K Q w:=by
 refine Zft _ _ K Q w ?_
 unfold Za5
 refine Zbi _ _ _ _ ?_
 unfold Z81
 refine Zbi _ _ _ _ ?_
 unfold Z81
 unfold cmpI at hk
 refine condF (by simp) (condF (by simp) (condD (fun h=>?_) fun h=>condD (fun h2=>?_) fun h2=>?_))
 ·rw [if_pos h] at hk; exact hk
 ·rw [if_neg h,if_pos h2] at hk; exact hk
 ·rw [if_neg h,if_neg h2] at hk; exact hk
theorem Zti (x y:Int) (W:World):Calls Tryz.prog 182 #[.int .u32 x,.int .u32 y] W fun e w'=>e=.returned (.int .i64 (cmpI (keyS x) (keyS y)))∧w'=W:=by
 have h:callW Tryz.prog Zc2 [.int .u32 x,.int .u32 y] [.sc (.int .i64)] (fun r (_:Unit→World→Prop) w'=>r=cmpI (keyS x) (keyS y)∧w'=W) (fun _ _=>True) W:=by
  refine Zhn _ _ _ _ W (Zbl _ _ _ W ?_)
  exact Zbl _ _ _ W (Zhc ⟨rfl,rfl⟩)
 exact Calls.mono h fun e w' ⟨r,he,h1,h2⟩=>⟨by rw [he,h1]; rfl,h2⟩
theorem Zql {x y:Int}:cmpI x y < 0↔x < y:=by
 unfold cmpI
 split
 ·simp; assumption
 ·split
  ·simp; omega
  ·simp; omega
theorem swoS:Sort.SWO (ltOf fun x y=>cmpI (keyS x) (keyS y)):=by
 refine ⟨fun x=>?_,fun x y z h1 h2=>?_,fun x y z h1 h2=>?_⟩ <;> simp only [ltOf,decide_eq_true_eq,decide_eq_false_iff_not,Zql] at * <;> omega
theorem Zqy (l:List Int):l.flatMap idT.cells=l.map encID:=by
 induction l with
 | nil=>rfl
 | cons x r ih=>rw [List.flatMap_cons,ih]; rfl
theorem Zmx {S:Nat→Prop} {s:Sl} {l:List Int} (h:Den.Own S w 34 idT s l) (hm:l.length≤1048576) (hid:∀ x∈l,IdOk x) {K:Res []→W R}
  (hk:∀ l' w',Den.Own S w' 34 idT s l'→l'.Perm l→(l'.Pairwise fun a b=>slotOf a≤slotOf b)→Fr (fun k=>s.v.ownBlock=some k) w w'→K () Q w') :
  callW Tryz.prog Z7p [.slice s.a s.n s.c,.func (.func 182) #[] #[]] [] K Q w:=by
 rcases h.cases with ⟨rfl,rfl⟩ | ⟨g,c,cur,rfl,hS,h3,h4,h5,h6,h7⟩
 ·refine Calls.mono (AnyF.slices_SortFunc_none (P:=Tryz.prog) (ρ:=Ze4) { sortIDs with } none 0 _ w) ?_
  rintro e w' ⟨he,hw⟩
  exact ⟨(),he,by rw [hw]; exact hk [] w (Den.Own.nil _ _ _ _) (List.Perm.refl _) List.Pairwise.nil (Fr.refl _ _)⟩
 ·rw [Zqy,show idT.size=1 from rfl,Nat.mul_one] at h7
  rw [show idT.size=1 from rfl] at h6
  have hH:=Zps encID h3 h7
  have hblk:=(Array.getElem?_eq_some_iff.1 h3).1
  have key:=Any.slices_SortFunc (P:=Tryz.prog) (ρ:=Ze4) sortIDs encID (fun x=>rfl) (fun x y=>cmpI (keyS x) (keyS y)) swoS 182 #[] g 0 c l.toArray w
   (enters_of Tryz.func182 (by kernel_rfl) rfl) (fun m os dk _ x y=>(Zti x y _).mono fun e w' ⟨h1,h2⟩=>⟨h1,0,#[],by rw [h2,Sort.grow_empty]; rfl⟩) hH hblk (by simp; omega)
  have ez:l.toArray.size=l.length:=by simp
  rw [ez] at key
  refine Calls.mono key ?_
  rintro e w' ⟨rfl,d',n,os,hp,hs,rfl⟩
  have hz:d'.size=l.length:=by rw [hp.1]; simp
  have hperm:d'.toList.Perm l:=by
   have:=hp.2.2
   have e2:d'.extract 0 l.length=d':=by rw [← hz]; simp
   rw [e2] at this
   simpa using this
  have hl':=hperm.length_eq
  refine ⟨(),rfl,hk d'.toList _ ?_ hperm ?_ ?_⟩
  ·have:=Den.Own.mk' (S:=S) (w:=Sort.grow (Sort.putRow encID (Sort.ahead w n) g 0 d') os) (E:=34) (t:=idT) (l:=d'.toList) (g:=g) (c:=c) (cur:=Sort.putCells encID 0 d' cur) hS (Zmg encID d' h3) (by omega) h5 (by rw [show idT.size=1 from rfl]; simp [Sort.putCells,h6])
    (by rw [Zqy,show idT.size=1 from rfl,Nat.mul_one]; have:=Zk5 encID cur d'.toList (by omega); simpa using this)
   rw [hl'] at this
   exact this
  ·rw [List.pairwise_iff_getElem]
   intro i j hi hj hij
   have hlt:=hs i j (Nat.zero_le _) hij (by simp at hj; omega)
   simp only [Array.length_toList] at hi hj
   rw [getElem!_pos d' j hj,getElem!_pos d' i hi] at hlt
   simp only [ltOf,decide_eq_false_iff_not,Zql] at hlt
   have key:∀ x,x∈l→keyS x=slotOf x:=fun x hx=>by
    obtain ⟨h1,h2⟩:=hid x hx
    unfold keyS slotOf
    rw [Int.tmod_eq_emod_of_nonneg h1,w64 (by omega)]
   rw [key _ (hperm.mem_iff.1 (by simp)),key _ (hperm.mem_iff.1 (by simp))] at hlt
   simp only [Array.getElem_toList]
   omega
  ·exact (Zpq encID d').sub fun k e=>by simp [Sl.v,Value.ownBlock,e]
theorem Zl1 {P:Program} {f:Nat} {args:List Value} {ts:List Ty} {K:Res ts→W R} {n:Nat} (h:CallsIn Fence.wide n P f ⟨args⟩ w fun e w'=>∃ r,e=.returned (resE ts r)∧K r Q w'):callW P f args ts K Q w:=callsIn_wide.1 h
theorem Z8t {F:Nat→Prop} {b:Nat} {x:StM} (h:Store b x F w) {all non:Int} {K:Res [.sc .sl]→W R} (hk:∀ r w',Den.Own (Up w.heap.size) w' 34 idT r (withL x all non)→Fr None w w'→K r Q w') :
  callW Tryz.prog Z6z [.pointer (some ⟨b,0,none⟩),.int .u8 all,.int .u8 non] [.sc .sl] K Q w:=by
 have ok:=(Store.open_ h).1
 refine Zm4 _ _ _ K Q w (Zjj _ _ _ _ _ w ?_)
 unfold Zd1
 refine newI fun w1 B1 f1 s1=>newI fun w2 B2 f2 s2=>newI fun w3 B3 f3 s3=>?_
 refine Z4q _ _ _ _ ?_
 unfold Z25
 refine Zdo _ _ _ _ ?_
 unfold Z8f
 have f03:Fr None w w3:=(f1.then0 f2).then0 f3
 have hs3:=f03.size
 have c1:w3.cell? ⟨w.heap.size,0,none⟩=some (.pointer (some ⟨b,0,none⟩)):=((B1.fr f2 fun h=>h).fr f3 fun h=>h).rd (s:=.ptr) (i:=0) (x:=some ⟨b,0,none⟩) rfl
 have c2:w3.cell? ⟨w1.heap.size,0,none⟩=some (.int .u8 all):=(B2.fr f3 fun h=>h).rd (s:=.int .u8) (i:=0) (x:=all) rfl
 have c3:w3.cell? ⟨w2.heap.size,0,none⟩=some (.int .u8 non):=B3.rd (s:=.int .u8) (i:=0) (x:=non) rfl
 have hp:=Zi7 ok all non
 have hlen:=Zfs ok all non
 have hap:=Zmt Fence.wide 3 trivial rfl (by decide) 223 _ trivial (enters_of Tryz.func223 (by kernel_rfl) rfl) (grpIds x.tab all non (groupsM x.tab)) (by rw [hp.length_eq]; omega) _ w3
  (fun k e=>by rcases e with rfl | rfl <;> omega) (Zmd (Store.st.fr0 h f03) c1 c2 c3 2 (by decide))
 refine Zl1 (n:=3) (hap.mono fun e w4 ⟨v,he,o4,f4⟩=>⟨v,he,?_⟩)
 refine Zmx o4 (by rw [hp.length_eq]; omega) (fun y hy=>Zlx ok (hp.mem_iff.1 hy)) fun l' w5 o5 hp5 hs5 f5=>?_
 have e:=Zng ok (hp5.trans hp) hs5
 subst e
 exact hk v w5 (o5.up hs3) ((f03.then0 f4).newer f5 fun k e=>by have:w3.heap.size≤k:=o4.own k e; omega)
end Go.Proofs.YtoiahhpgkoknfaaGreat
namespace Go.Proofs.YtoiahhpgkoknfaaGreat
open Go Go.RowKit Go.Proofs.YtoiahhpgkoknfaaGreat.Den
variable {R:Type} {Q:R→World→Prop} {w:World}
theorem fIdx {b:Nat} {i:Int} {j:Nat} (hi:i=(j:Int)) (hj:j < 3) {K:Addr→W R} (hk:K ⟨b,1+j,none⟩ Q w):idxW (some (Addr.add ⟨b,0,none⟩ 1)) 3 1 i K Q w:=by
 subst hi
 refine idxA (by omega) (by omega) ?_
 rw [addA,Z3]
 simpa using hk
end Go.Proofs.YtoiahhpgkoknfaaGreat
namespace Go.Proofs.YtoiahhpgkoknfaaGreat
open Go Go.RowKit Go.Proofs.YtoiahhpgkoknfaaGreat.Den
variable {R:Type} {Q:R→World→Prop} {w:World}
theorem Zq8 {a:Int} {K:Res [.sc (.int .i32)]→W R} (hk:K (if a < -524288 then -524288 else if a > 524287 then 524287 else a) Q w):callW Tryz.prog Zay [.int .i32 a,.int .i32 (-524288),.int .i32 524287] [.sc (.int .i32)] K Q w:=by
 refine Zks _ _ _ K Q w ?_
 refine condD (fun h=>?_) fun h=>condD (fun h2=>?_) fun h2=>?_
 ·rw [if_pos h] at hk; exact hk
 ·rw [if_neg h,if_pos h2] at hk; exact hk
 ·rw [if_neg h,if_neg h2] at hk; exact hk
theorem Zar {a b:Int} (ha:-524288≤a∧a≤524287) (hb:-32768≤b∧b≤32767) {K:Res [.sc (.int .i32),.sc (.int .i32)]→W R} (hk:K (turnM a b) Q w) :
  callW Tryz.prog Za0 [.int .i32 a,.int .i32 b] [.sc (.int .i32),.sc (.int .i32)] K Q w:=by
 refine Zjm _ _ K Q w ?_
 unfold Zd4
 have e1:IntKind.wrap .i32 (a+b)=a+b:=w32 (by omega)
 have e2:IntKind.wrap .i32 (0 - b)=-b:=by rw [w32 (by omega)]; omega
 rw [e1,e2]
 refine Zq8 ?_
 unfold turnM at hk
 refine joinI (fun (s:Int) w'=>w'=w∧s=(if -524288≤a+b∧a+b≤524287 then b else if b=-32768 then 32767 else -b)) ?_ ?_
 ·refine condN (fun h=>⟨rfl,?_⟩) fun h=>⟨rfl,?_⟩
  ·have:¬ (-524288≤a+b∧a+b≤524287):=fun h2=>h (by rw [if_neg (by omega),if_neg (by omega)])
   rw [if_neg this]
   split <;> split <;> omega
  ·have:-524288≤a+b∧a+b≤524287:=by
    by_cases h1:a+b < -524288
    ·rw [if_pos h1] at h; omega
    ·rw [if_neg h1] at h
     by_cases h2:a+b > 524287
     ·rw [if_pos h2] at h; omega
     ·omega
   rw [if_pos this]
 ·rintro s w' ⟨rfl,rfl⟩
  by_cases hin:-524288≤a+b∧a+b≤524287
  ·rw [if_pos hin] at hk
   rw [if_pos hin,if_neg (by omega),if_neg (by omega)]
   exact hk
  ·rw [if_neg hin] at hk
   rw [if_neg hin]
   by_cases h1:a+b < -524288
   ·rw [if_pos h1]
    rw [if_pos (show a+b < 0 by omega)] at hk
    exact hk
   ·rw [if_neg h1,if_pos (by omega)]
    rw [if_neg (show ¬ a+b < 0 by omega)] at hk
    exact hk
theorem Ziv {n:Int} (h:-2147483648≤n∧n≤2147483647) {K:Res [.sc (.int .i32)]→W R} (hk:K n Q w):callW Tryz.prog Z6y [.int .i64 n] [.sc (.int .i32)] K Q w:=by
 refine Zm0 _ K Q w ?_
 unfold Zgl
 have e1:(if (-2147483648:Int) > n then -2147483648 else n)=n:=if_neg (by omega)
 rw [e1,if_neg (show ¬ (2147483647:Int) < n by omega),w32 h]
 exact hk
theorem Zrn {n:Int} (h:-1000≤n∧n≤1000) {K:Res [.sc (.int .i32)]→W R} (hk:K (n * 256) Q w):callW Tryz.prog Zby [.int .i64 n] [.sc (.int .i32)] K Q w:=by
 refine Zlz _ K Q w ?_
 unfold Zgk
 have e1:(if (-2147483648:Int) > n then -2147483648 else n)=n:=if_neg (by omega)
 rw [e1,if_neg (show ¬ (2147483647:Int) < n by omega),w64 (by omega)]
 exact Ziv (by omega) hk
theorem Zpf {a n:Int} (ha:a=64∨a=32) (h:0≤n∧n≤1000) {K:Res [.sc (.int .i32)]→W R} (hk:K (a * n) Q w):callW Tryz.prog Zaz [.int .i32 a,.int .i32 (n * 256)] [.sc (.int .i32)] K Q w:=by
 refine Zni _ _ K Q w ?_
 unfold Zhq
 have e:IntKind.wrap .i64 (Int.tdiv (IntKind.wrap .i64 (IntKind.wrap .i64 a * IntKind.wrap .i64 (n * 256))) 256)=a * n:=by
  rw [w64 (x:=a) (by omega),w64 (x:=n * 256) (by omega)]
  rcases ha with rfl | rfl
  ·rw [w64 (x:=64 * (n * 256)) (by omega),Int.tdiv_eq_ediv_of_nonneg (by omega),w64 (by omega)]; omega
  ·rw [w64 (x:=32 * (n * 256)) (by omega),Int.tdiv_eq_ediv_of_nonneg (by omega),w64 (by omega)]; omega
 rw [e]
 exact Ziv (by rcases ha with rfl | rfl <;> omega) hk
theorem Zrq {n:Int} (h:0≤n∧n≤100000) {K:Res [.sc (.int .i32)]→W R} (hk:K (-n) Q w):callW Tryz.prog Zdt [.int .i32 0,.int .i32 n] [.sc (.int .i32)] K Q w:=by
 refine Znj _ _ K Q w ?_
 unfold Zhr
 have e:IntKind.wrap .i64 (IntKind.wrap .i64 0 - IntKind.wrap .i64 n)=-n:=by rw [w64 (x:=0) (by omega),w64 (x:=n) (by omega),w64 (by omega)]; omega
 rw [e]
 exact Ziv (by omega) hk
theorem Zfn {c a:Comp} {odd:Bool} (hs:0≤c.2.2.2∧c.2.2.2≤15) {K:Res [.sc .sl]→W R} (hk:∀ r w',Den.Own (Up w.heap.size) w' 52 compT r (childM c.2.2.2 a odd)→Fr None w w'→K r Q w') :
  callW Tryz.prog Z8q [.agg ⟨compC c⟩,.agg ⟨compC a⟩,.bool odd] [.sc .sl] K Q w:=by
 refine Zhp _ _ _ K Q w ?_
 unfold Zbu
 refine newI fun w1 B1 f1 s1=>newI fun w2 B2 f2 s2=>?_
 refine idxA (by omega) (by omega) ?_
 rw [addA]
 refine fldI (B1.fr f2 fun h=>h) (i:=3) (x:=c.2.2.2) rfl ?_
 have e1:IntKind.wrap .i64 (IntKind.wrap .i64 c.2.2.2+1)=c.2.2.2+1:=by rw [w64 (x:=c.2.2.2) (by omega),w64 (by omega)]
 rw [e1]
 refine Zrn (by omega) (Zpf (.inl rfl) (by omega) ?_)
 refine joinI (fun (s:Int) w'=>w'=w2∧s=if odd then -(64 * (c.2.2.2+1)) else 64 * (c.2.2.2+1)) ?_ ?_
 ·cases odd with
  | true=>exact condT rfl (Zrq (by omega) ⟨rfl,by simp⟩)
  | false=>exact condF rfl ⟨rfl,by simp⟩
 ·rintro s w' ⟨rfl,rfl⟩
  have fd:Fr None w' w'.drew:=(Fr.refl _ _).drew
  have B2d:=B2.fr fd fun h=>h
  refine aggI B2d (x:=a) rfl (Zpf (.inr rfl) (by omega) (andI ?_ ?_))
  ·have:=B2d.cells 0 _ (fun j u h=>by rw [Nat.zero_add]; exact h); exact Rd.cells.2 this
  have e2:IntKind.wrap .i32 (30+IntKind.wrap .i32 (10 * c.2.2.2))=30+10 * c.2.2.2:=by rw [w32 (x:=10 * c.2.2.2) (by omega),w32 (by omega)]
  have e3:IntKind.wrap .i32 (1+c.2.2.2)=1+c.2.2.2:=w32 (by omega)
  rw [e2,e3]
  refine newI fun w4 B4 f4 s4=>?_
  have f04:Fr None w w4:=((f1.then0 f2).then0 fd).then0 f4
  have hl:(childM c.2.2.2 a odd).length=4:=rfl
  have o:=Den.Own.mk' (S:=Up w.heap.size) (w:=w4) (E:=52) (t:=compT) (l:=childM c.2.2.2 a odd) (g:=w'.drew.heap.size) (c:=4) (cur:=⟨(childM c.2.2.2 a odd).flatMap compT.cells⟩) (by have:=((f1.then0 f2).then0 fd).size; exact this) B4 (by show 4≤4; decide) (by rw [Zn]; decide) rfl rfl
  exact hk _ w4 o f04
def SysAt (A:StM→OB) (F Fm:Nat→Prop) (w1:World) (p:SysP) (out:Sl) (w':World):Prop :=
 ∃ G:Nat→Prop,A p.1 G w'∧(∀ r,G r→(F r∧r < w1.heap.size)∨w1.heap.size≤r)∧(∀ r,G r→r < w'.heap.size)∧Den.Own (fun r=>w1.heap.size≤r∧¬ G r) w' 34 idT out p.2∧Fr Fm w1 w'
section
variable {A:StM→OB} {F Fm:Nat→Prop} {w1:World} {p:SysP} {out:Sl}
theorem SysAt.fr0 (st:∀ y,St (A y)) (h:SysAt A F Fm w1 p out w) {w':World} (f:Fr None w w'):SysAt A F Fm w1 p out w':=by
 obtain ⟨G,hA,hG,hlt,ho,hf⟩:=h
 exact ⟨G,St.fr0 (st _) hA f,hG,fun r e=>Nat.lt_of_lt_of_le (hlt r e) f.size,ho.none f,hf.then0 f⟩
theorem SysAt.upd (st:∀ y,St (A y)) {G:Nat→Prop} {w':World} {y:StM} {S:Nat→Prop} (hG:∀ r,G r→(F r∧r < w1.heap.size)∨w1.heap.size≤r) (_hlt:∀ r,G r→r < w.heap.size) (ho:Den.Own (fun r=>w1.heap.size≤r∧¬ G r) w 34 idT out p.2) (hf:Fr Fm w1 w)
  (hA:A y (Ex G w) w') (f:Fr S w w') (hS:∀ k,S k→G k) (hS2:∀ k,k < w1.heap.size→S k→Fm k):SysAt A F Fm w1 (y,p.2) out w':=by
 have hs1:=hf.size
 refine ⟨fun r=>Ex G w r∧r < w'.heap.size,St.mono (st _) hA fun k hk e=>⟨e,hk⟩,fun r e=>?_,fun r e=>e.2,Den.Own.st ho f fun k hk e=>⟨fun e2=>e.2 (hS k e2),e.1,fun e2=>?_⟩,hf.trans f (fun _ h=>h) hS2⟩
 ·rcases e.1 with e | e
  ·exact hG r e
  ·exact .inr (by omega)
 ·rcases e2.1 with e2 | e2
  ·exact e.2 e2
  ·omega
theorem SysAt.app (st:∀ y,St (A y)) {y:StM} {l:List Int} {id:Int} (h:SysAt A F Fm w1 (y,l) out w) (hl:l.length≤100000) {K:Sl→W R} (hk:∀ r w',SysAt A F Fm w1 (y,l ++ [id]) r w'→K r Q w') :
  newW 34 [.int .u32 id] (fun x=>rawW Tryz.prog (Builtin.append_ #[62,62] 62 #[.slice out.a out.n out.c,.slice (some x) 1 1]) [.sc .sl] K) Q w:=by
 obtain ⟨G,hA,hG,hlt,ho,hf⟩:=h
 have hs1:=hf.size
 dsimp only at ho
 refine appP (x:=id) Zk8 rfl ho (fun k e=>⟨by omega,fun e2=>by have:=hlt k e2; omega⟩) (by omega) (by omega) fun r w' o f=>hk r w' ⟨G,St.fr (st _) hA f fun k e e2=>(ho.own k e2).2 e,hG,fun k e=>Nat.lt_of_lt_of_le (hlt k e) f.size,o,?_⟩
 exact hf.exS f fun k e=>.inr (ho.own k e).1
end
theorem Zqw {x:StM} (h:StOk x) {all:Int} {ks:List Int} (hks:∀ m:Nat,m < 64→fitB (m:Int) all 0=ks.all fun k=>decide (k∈kindsOf m)) {id:Int} (hi:id∈withL x all 0) {k:Int} (hk:k∈ks):hasK (entF x id) k=true:=by
 have h1:=fit2 h hks (Zch h hi)
 have h2:fitE x all 0 id=true:=(List.mem_filter.1 hi).2
 rw [h2] at h1
 exact List.all_eq_true.1 h1.symm k hk
section
variable {F:Nat→Prop} {b:Nat} {x:StM}
theorem wlNodup {x:StM} (h:StOk x) (all non:Int):(withL x all non).Nodup:=List.Pairwise.filter _ h.s.list_nodup
def SysEnd (A:StM→OB) (F Fm:Nat→Prop) (w:World) (p:SysP) (r:Sl) (w':World):Prop :=
 ∃ G:Nat→Prop,A p.1 G w'∧(∀ k,G k→F k∨w.heap.size≤k)∧(∀ k,G k→k < w'.heap.size)∧Den.Own (fun k=>w.heap.size≤k∧¬ G k) w' 34 idT r p.2∧Fr Fm w w'
theorem SysAt.end_ {A:StM→OB} {F Fm:Nat→Prop} {w1 w':World} {p:SysP} {out:Sl} (h:SysAt A (fun k=>F k∧k < w.heap.size) (fun k=>Fm k∧k < w.heap.size) w1 p out w') (f1:Fr None w w1):SysEnd A F Fm w p out w':=by
 obtain ⟨G,hA,hG,hlt,ho,hf⟩:=h
 have hs1:=f1.size
 refine ⟨G,hA,fun k e=>?_,hlt,ho.mono fun k _ e=>⟨by omega,e.2⟩,f1.any.then (hf.sub fun k e=>e.1)⟩
 rcases hG k e with e | e
 ·exact .inl e.1.1
 ·exact .inr (by omega)
theorem Zgi (h:Store b x F w) {K:Res [.sc .sl]→W R} (hk:∀ r w',SysEnd (Store b) F F w (moveM x) r w'→K r Q w') :
  callW Tryz.prog Z9z [.pointer (some ⟨b,0,none⟩)] [.sc .sl] K Q w:=by
 have ok:=(Store.open_ h).1
 refine Zjl _ K Q w ?_
 unfold Zd3
 refine Z8t h fun r0 w1 o1 f1=>?_
 have hs1:=f1.size
 have stA:∀ y,St (Store b y):=fun y=>Store.st
 have st1:Store b x (fun k=>F k∧k < w.heap.size) w1:=Store.st h f1 fun k hk e=>⟨fun h=>h,e,hk⟩
 have rd:∀ {w':World},Fr (fun k=>F k∧k < w.heap.size) w1 w'→SlT (Up w.heap.size) w' idT r0 (withL x 3 0):=fun f=>o1.sl.fr f fun k e e2=>by have e:w.heap.size≤k:=e; omega
 refine rangeI (t:=idT) (ok:=Up w.heap.size) (l:=withL x 3 0) (fun s:Sl × Int=>s.2) (fun j st w'=>st.2=(j:Int)∧SysAt (Store b) (fun k=>F k∧k < w.heap.size) (fun k=>F k∧k < w.heap.size) w1 (sysF (entF x) moveE (x,[]) ((withL x 3 0).take j)) st.1 w') rfl
  ⟨rfl,fun k=>(F k∧k < w.heap.size)∧k < w1.heap.size,Store.shut st1,fun r e=>.inl e,fun r e=>e.2,Den.Own.nil _ _ _ _,Fr.refl _ _⟩ (fun j s w' h=>h.1) (fun j st w' hp=>by obtain ⟨_,G,_,_,_,_,hf⟩:=hp; exact rd hf) ?_ ?_
 ·rintro j id ⟨out,_⟩ w2 K' hid ⟨rfl,hsys⟩ - hK
  have hmem:=List.mem_of_getElem? hid
  obtain ⟨okp,hHas,hide,hlen,hstep⟩:=Zts moveS ok (wlNodup ok 3 0) (fun i hi=>Zch ok hi) hid []
  have hk0:=Zqw ok Zqx hmem (k:=0) (by simp)
  have hk1:=Zqw ok Zqx hmem (k:=1) (by simp)
  have hidok:=Zlx ok hmem
  change sysF (entF x) moveE (x,[]) ((withL x 3 0).take (j+1))=moveE (sysF (entF x) moveE (x,[]) ((withL x 3 0).take j)) (entF x id) at hstep
  change Has (sysF (entF x) moveE (x,[]) ((withL x 3 0).take j)).1 (entF x id) at hHas
  change (entF x id).1=id at hide
  change (sysF (entF x) moveE (x,[]) ((withL x 3 0).take j)).2.length≤_ at hlen
  change StOk (sysF (entF x) moveE (x,[]) ((withL x 3 0).take j)).1 at okp
  have hwl:=Zfs ok 3 0
  have hjl:=(List.getElem?_eq_some_iff.1 hid).1
  dsimp only at hsys
  generalize sysF (entF x) moveE (x,[]) ((withL x 3 0).take j)=p at okp hHas hlen hstep hsys
  generalize entF x id=e at hstep hHas hide hk0 hk1
  have g0:=Has.get okp hHas hk0
  have g1:=Has.get okp hHas hk1
  have c0:=Has.field okp hHas hk0
  have c1:=Has.field okp hHas hk1
  rw [hide] at g0 g1
  obtain ⟨pn,hpn⟩:∃ pn,pn=moveE p e:=⟨_,rfl⟩
  rw [← hpn] at hstep
  unfold moveE at hpn
  rw [hide] at hpn
  generalize fieldsOf e.2 0=a at g0 c0 hpn
  generalize fieldsOf e.2 1=v at g1 c1 hpn
  obtain ⟨ax,ay,az⟩:=a
  obtain ⟨vx,vy,vz⟩:=v
  obtain ⟨hax,hay,haz⟩:=Zv1 c0
  obtain ⟨hvx,hvy,hvz⟩:=Zv8 c1
  dsimp only at hax hay haz hvx hvy hvz hpn
  subst haz; subst hvz
  obtain ⟨G,hA,hG,hlt,ho,hf⟩:=hsys
  refine Z3r hA hidok fun w3 f3=>?_
  rw [g0]
  refine newI fun w4 B4 f4 s4=>stoAll B4 rfl rfl fun w5 B5 f5 s5=>?_
  have f35:Fr None w3 w5:=f4.newer f5 fun k e=>by omega
  refine Z3r (Store.st.fr0 hA (f3.then0 f35)) hidok fun w6 f6=>?_
  rw [g1]
  refine newI fun w7 B7 f7 s7=>stoAll B7 rfl rfl fun w8 B8 f8 s8=>?_
  have f68:Fr None w6 w8:=f7.newer f8 fun k e=>by omega
  have B58:=(B5.fr f6 fun h=>h).fr f68 fun h=>h
  refine aggI B58 (x:=(0,ax,ay,0)) rfl (newI fun w9 B9 f9 s9=>stoAll B9 rfl rfl fun w10 B10 f10 s10=>?_)
  have f810:Fr None w8 w10:=f9.newer f10 fun k e=>by omega
  have f210:Fr None w2 w10:=((f3.then0 f35).then0 (f6.then0 f68)).then0 f810
  have n1:=f35.size
  have n2:=f6.size
  have n3:=f68.size
  have l5:=B5.lt
  have l8:=B8.lt
  have l3:w3.heap.size < w5.heap.size:=l5
  have l6:w6.heap.size < w8.heap.size:=l8
  refine loopI (fun s w'=>Fr (fun k=>k=w3.heap.size∨k=w6.heap.size) w10 w'∧((s=0∧Blk w' w3.heap.size 52 (compC (0,ax,ay,0))∧Blk w' w6.heap.size 52 (compC (1,vx,vy,0))) ∨
    (s=1∧Blk w' w3.heap.size 52 (compC (0,(turnM ax vx).1,ay,0))∧Blk w' w6.heap.size 52 (compC (1,(turnM ax vx).2,vy,0))) ∨
    (s=2∧Blk w' w3.heap.size 52 (compC (0,(turnM ax vx).1,(turnM ay vy).1,0))∧Blk w' w6.heap.size 52 (compC (1,(turnM ax vx).2,(turnM ay vy).2,0))))) (fun s _=>(2 - s).toNat)
   ⟨Fr.refl _ _,.inl ⟨rfl,B58.fr f810 fun h=>h,B8.fr f810 fun h=>h⟩⟩ ?_
  rintro s w11 ⟨f11,hcase⟩
  have fd:Fr None w11 w11.drew:=(Fr.refl _ _).drew
  rcases hcase with ⟨rfl,Ba,Bv⟩ | ⟨rfl,Ba,Bv⟩ | ⟨rfl,Ba,Bv⟩
  ·refine condT (by decide) ?_
   refine fIdx (j:=0) rfl (by decide) (fld0 (Ba.fr fd fun h=>h) (x:=ax) rfl (fIdx (j:=0) rfl (by decide) (fld0 (Bv.fr fd fun h=>h) (x:=vx) rfl ?_)))
   refine Zar hax hvx ?_
   refine fIdx (j:=0) rfl (by decide) (setI (Ba.fr fd fun h=>h) (by show 1 < 4; decide) rfl fun w12 B12 f12 s12=>fIdx (j:=0) rfl (by decide) (setI ((Bv.fr fd fun h=>h).fr f12 (by omega)) (by show 1 < 4; decide) rfl fun w13 B13 f13 s13=>?_))
   refine ⟨⟨(f11.then0 fd).trans (f12.trans f13 (U:=fun k=>k=w3.heap.size∨k=w6.heap.size) (fun _ e=>.inl e) fun _ _ e=>.inr e) (fun _ h=>h) fun _ _ h=>h,.inr (.inl ⟨by decide,B12.fr f13 (by omega),B13⟩)⟩,by decide⟩
  ·refine condT (by decide) ?_
   refine fIdx (j:=1) rfl (by decide) (fld0 (Ba.fr fd fun h=>h) (x:=ay) rfl (fIdx (j:=1) rfl (by decide) (fld0 (Bv.fr fd fun h=>h) (x:=vy) rfl ?_)))
   refine Zar hay hvy ?_
   refine fIdx (j:=1) rfl (by decide) (setI (Ba.fr fd fun h=>h) (by show 2 < 4; decide) rfl fun w12 B12 f12 s12=>fIdx (j:=1) rfl (by decide) (setI ((Bv.fr fd fun h=>h).fr f12 (by omega)) (by show 2 < 4; decide) rfl fun w13 B13 f13 s13=>?_))
   refine ⟨⟨(f11.then0 fd).trans (f12.trans f13 (U:=fun k=>k=w3.heap.size∨k=w6.heap.size) (fun _ e=>.inl e) fun _ _ e=>.inr e) (fun _ h=>h) fun _ _ h=>h,.inr (.inr ⟨by decide,B12.fr f13 (by omega),B13⟩)⟩,by decide⟩
  ·have hs2:=f3.size
   have hf1:=hf.size
   have f211:Fr None w2 w11:=f210.newer f11 fun k e=>by omega
   have B10':Blk w11 w8.heap.size 52 (compC (0,ax,ay,0)):=B10.fr f11 fun e=>by omega
   have hA11:=Store.st.fr0 hA f211
   have own11:=ho.none f211
   refine condF (by decide) (aggI Ba (x:=(0,(turnM ax vx).1,(turnM ay vy).1,0)) rfl (Z3s hA11 hidok fun w12 hA12 f12=>?_))
   have dG:∀ k,w2.heap.size≤k→¬ G k:=fun k e e2=>by have:=hlt k e2; omega
   refine aggI (Bv.fr f12 (dG _ (by omega))) (x:=(1,(turnM ax vx).2,(turnM ay vy).2,0)) rfl (Z3s hA12 hidok fun w13 hA13 f13=>?_)
   have f1113:=f12.then f13
   refine aggI (Ba.fr f1113 (dG _ (by omega))) (x:=(0,(turnM ax vx).1,(turnM ay vy).1,0)) rfl (aggI (B10'.fr f1113 (dG _ (by omega))) (x:=(0,ax,ay,0)) rfl ?_)
   refine neqI Zot (Zov (0,(turnM ax vx).1,(turnM ay vy).1,0) (0,ax,ay,0)) ?_
   have hltG:∀ r,G r→r < w11.heap.size:=fun r e=>Nat.lt_of_lt_of_le (hlt r e) f211.size
   have hsys13:=SysAt.upd (p:=p) (A:=Store b) (F:=fun k=>F k∧k < w.heap.size) (Fm:=fun k=>F k∧k < w.heap.size) stA hG hltG own11 (hf.then0 f211) (Store.st.mono hA13 fun k _ e=>.inl e) f1113 (fun k e=>e) fun k hk e=>by
    rcases hG k e with e | e
    ·exact e.1
    ·omega
   refine joinI (fun z w'=>SysAt (Store b) (fun k=>F k∧k < w.heap.size) (fun k=>F k∧k < w.heap.size) w1 (sysF (entF x) moveE (x,[]) ((withL x 3 0).take (j+1))) z w') ?_ fun z w' hz=>hK _ _ ⟨wsucc hjl (by omega),hz⟩
   rw [hstep,hpn]
   refine condI (fun hne=>?_) fun heq=>?_
   ·have hne:¬ ((turnM ax vx).1=ax∧(turnM ay vy).1=ay):=fun h2=>by simp [h2.1,h2.2] at hne
    rw [if_neg hne]
    exact SysAt.app stA hsys13 (by simp only [List.length_nil] at hlen; omega) fun r w' hr=>hr
   ·have heq:(turnM ax vx).1=ax∧(turnM ay vy).1=ay:=by simpa using heq
    rw [if_pos heq]
    exact hsys13
 ·rintro ⟨out,_⟩ w2 ⟨-,hsys⟩
  rw [List.take_length] at hsys
  exact hk out w2 (SysAt.end_ hsys f1)
theorem Znf {step:SysP→Ent→SysP} (S:SysStep step) (h:StOk x) {all:Int} {ks:List Int} (hks:∀ m:Nat,m < 64→fitB (m:Int) all 0=ks.all fun k=>decide (k∈kindsOf m)) {j:Nat} {id:Int} (hid:(withL x all 0)[j]?=some id) :
  (StOk (sysF (entF x) step (x,[]) ((withL x all 0).take j)).1∧Has (sysF (entF x) step (x,[]) ((withL x all 0).take j)).1 (entF x id)∧(sysF (entF x) step (x,[]) ((withL x all 0).take j)).2.length≤j ∧
   sysF (entF x) step (x,[]) ((withL x all 0).take (j+1))=step (sysF (entF x) step (x,[]) ((withL x all 0).take j)) (entF x id))∧(entF x id).1=id∧IdOk id∧(∀ k,k∈ks→hasK (entF x id) k=true)∧j < 1024:=by
 obtain ⟨a1,a2,a3,a4,a5⟩:=Zts S h (wlNodup h all 0) (fun i hi=>Zch h hi) hid []
 have hmem:=List.mem_of_getElem? hid
 simp only [List.length_nil,Nat.zero_add] at a4
 refine ⟨⟨a1,a2,a4,a5⟩,a3,Zlx h hmem,fun k hk=>Zqw h hks hmem hk,?_⟩
 have:=Zfs h all 0
 have:=(List.getElem?_eq_some_iff.1 hid).1
 omega
theorem SysAt.start {A:StM→OB} {F Fm:Nat→Prop} {w1:World} (st:∀ y,St (A y)) (h:A x F w1):SysAt A F Fm w1 (x,[]) ⟨none,0,0⟩ w1 :=
 ⟨fun k=>F k∧k < w1.heap.size,St.mono (st _) h fun _k hk e=>⟨e,hk⟩,fun _r e=>.inl e,fun _r e=>e.2,Den.Own.nil _ _ _ _,Fr.refl _ _⟩
theorem SysAt.start0 {A:StM→OB} {F Fm:Nat→Prop} {w1:World} {g:Int→Ent} {step:SysP→Ent→SysP} {l:List Int} (st:∀ y,St (A y)) (h:A x F w1):SysAt A F Fm w1 (sysF g step (x,[]) (l.take 0)) ⟨none,0,0⟩ w1:=by
 rw [List.take_zero]; exact SysAt.start st h
theorem Zhg (h:Store b x F w) {K:Res [.sc .sl]→W R} (hk:∀ r w',SysEnd (Store b) F F w (ageM x) r w'→K r Q w') :
  callW Tryz.prog Zb1 [.pointer (some ⟨b,0,none⟩)] [.sc .sl] K Q w:=by
 have ok:=(Store.open_ h).1
 refine Zkx _ K Q w ?_
 unfold Zf2
 refine Z8t h fun r0 w1 o1 f1=>?_
 have hs1:=f1.size
 have stA:∀ y,St (Store b y):=fun y=>Store.st
 have st1:Store b x (fun k=>F k∧k < w.heap.size) w1:=Store.st h f1 fun k hk e=>⟨fun h=>h,e,hk⟩
 have rd:∀ {w':World},Fr (fun k=>F k∧k < w.heap.size) w1 w'→SlT (Up w.heap.size) w' idT r0 (withL x 4 0):=fun f=>o1.sl.fr f fun k e e2=>by have e:w.heap.size≤k:=e; omega
 have hrn:r0.n=(withL x 4 0).length:=o1.len
 refine forI (N:=r0.n) (fun s:Sl × Int=>s.2) (fun j st w'=>st.2=(j:Int)∧SysAt (Store b) (fun k=>F k∧k < w.heap.size) (fun k=>F k∧k < w.heap.size) w1 (sysF (entF x) ageE (x,[]) ((withL x 4 0).take j)) st.1 w')
  ?_ (fun j s w' h=>h.1) ?_ ?_
 ·exact ⟨rfl,SysAt.start0 stA st1⟩
 ·rintro j ⟨out,_⟩ w2 K' hjr ⟨rfl,hsys⟩ - hK
  obtain ⟨id,hid⟩:∃ id,(withL x 4 0)[j]?=some id:=⟨_,List.getElem?_eq_getElem (by omega)⟩
  obtain ⟨⟨okp,hHas,hlen,hstep⟩,hide,hidok,hks,hj⟩:=Znf ageS ok Zuv hid
  have hk2:=hks 2 (by simp)
  dsimp only at hsys
  generalize sysF (entF x) ageE (x,[]) ((withL x 4 0).take j)=p at okp hHas hlen hstep hsys
  generalize entF x id=e at hstep hHas hide hk2
  have g0:=Has.get okp hHas hk2
  have c0:=Has.field okp hHas hk2
  rw [hide] at g0
  obtain ⟨pn,hpn⟩:∃ pn,pn=ageE p e:=⟨_,rfl⟩
  rw [← hpn] at hstep
  unfold ageE at hpn
  rw [hide] at hpn
  generalize fieldsOf e.2 2=a at g0 c0 hpn
  obtain ⟨ax,ay,az⟩:=a
  obtain ⟨hax,hay,haz⟩:=Zu8 c0
  dsimp only at hax hay haz hpn
  subst hay; subst haz
  obtain ⟨G,hA,hG,hlt,ho,hf⟩:=hsys
  have hf1:=hf.size
  refine joinI (fun z w'=>SysAt (Store b) (fun k=>F k∧k < w.heap.size) (fun k=>F k∧k < w.heap.size) w1 (sysF (entF x) ageE (x,[]) ((withL x 4 0).take (j+1))) z w') ?_ fun z w' hz=>hK _ _ ⟨wsucc (N:=1024) hj (by omega),hz⟩
  refine (rd hf).get (j:=j) rfl rfl (by omega) fun y hy=>?_
  rw [hid] at hy
  cases hy
  refine Z3r hA hidok fun w3 f3=>?_
  rw [g0]
  refine newI fun w4 B4 f4 s4=>stoAll B4 rfl rfl fun w5 B5 f5 s5=>?_
  have f35:Fr None w3 w5:=f4.newer f5 fun k e=>by omega
  have f25:=f3.then0 f35
  have hs3:=f3.size
  rw [hstep,hpn]
  have inF:∀ k,k < w1.heap.size→G k→F k∧k < w.heap.size:=fun k hk e=>by
   rcases hG k e with e | e
   ·exact e.1
   ·omega
  refine fIdx (j:=0) rfl (by decide) (fld0 B5 (x:=ax) rfl (condE (fun hz=>?_) fun hz=>?_))
  ·have hz:ax=0:=hz
   rw [if_pos hz]
   refine Z9r (Store.st.fr0 hA f25) hidok fun w6 hA6 f6=>?_
   have h6:=SysAt.upd (p:=p) (A:=Store b) (F:=fun k=>F k∧k < w.heap.size) (Fm:=fun k=>F k∧k < w.heap.size) stA hG hlt ho hf (Store.st.mono hA6 fun k _ e=>by
    rcases e with e | e
    ·exact .inl e
    ·exact .inr (by have:=f25.size; omega)) (f25.any.then f6) (fun k e=>e) inF
   exact SysAt.app stA h6 (by omega) fun r w' hr=>hr
  ·have hz:ax≠0:=hz
   rw [if_neg hz]
   have e1:IntKind.wrap .i32 (ax - 1)=ax - 1:=w32 (by omega)
   refine fIdx (j:=0) rfl (by decide) (fld0 B5 (x:=ax) rfl (fIdx (j:=0) rfl (by decide) (setI B5 (by show 1 < 4; decide) rfl fun w6 B6 f6 s6=>?_)))
   rw [e1] at B6
   have f26:Fr None w2 w6:=f25.newer f6 fun k e=>by omega
   refine aggI B6 (x:=(2,ax - 1,0,0)) rfl (Z3s (Store.st.fr0 hA f26) hidok fun w7 hA7 f7=>?_)
   exact SysAt.upd (p:=p) (A:=Store b) stA hG hlt ho hf (Store.st.mono hA7 fun k _ e=>.inl e) (f26.any.then f7) (fun k e=>e) inF
 ·rintro ⟨out,_⟩ w2 ⟨-,hsys⟩
  rw [hrn,List.take_length] at hsys
  exact hk out w2 (SysAt.end_ hsys f1)
theorem Zfm (h:Store b x F w) {K:Res [.sc .sl]→W R} (hk:∀ r w',SysEnd (Store b) F F w (breedM x) r w'→K r Q w') :
  callW Tryz.prog Z8p [.pointer (some ⟨b,0,none⟩)] [.sc .sl] K Q w:=by
 have ok:=(Store.open_ h).1
 refine Zho _ K Q w ?_
 unfold Zbt
 refine Z8t h fun r0 w1 o1 f1=>?_
 have hs1:=f1.size
 have stA:∀ y,St (Store b y):=fun y=>Store.st
 have st1:Store b x (fun k=>F k∧k < w.heap.size) w1:=Store.st h f1 fun k hk e=>⟨fun h=>h,e,hk⟩
 have rd:∀ {w':World},Fr (fun k=>F k∧k < w.heap.size) w1 w'→SlT (Up w.heap.size) w' idT r0 (withL x 33 0):=fun f=>o1.sl.fr f fun k e e2=>by have e:w.heap.size≤k:=e; omega
 have hrn:r0.n=(withL x 33 0).length:=o1.len
 refine forI (N:=r0.n) (fun s:Sl × Int=>s.2) (fun j st w'=>st.2=(j:Int)∧SysAt (Store b) (fun k=>F k∧k < w.heap.size) (fun k=>F k∧k < w.heap.size) w1 (sysF (entF x) breedE (x,[]) ((withL x 33 0).take j)) st.1 w')
  ?_ (fun j s w' h=>h.1) ?_ ?_
 ·exact ⟨rfl,SysAt.start0 stA st1⟩
 ·rintro j ⟨out,_⟩ w2 K' hjr ⟨rfl,hsys⟩ - hK
  obtain ⟨id,hid⟩:∃ id,(withL x 33 0)[j]?=some id:=⟨_,List.getElem?_eq_getElem (by omega)⟩
  obtain ⟨⟨okp,hHas,hlen,hstep⟩,hide,hidok,hks,hj⟩:=Znf breedS ok Zu5 hid
  have hk0:=hks 0 (by simp)
  have hk5:=hks 5 (by simp)
  dsimp only at hsys
  generalize sysF (entF x) breedE (x,[]) ((withL x 33 0).take j)=p at okp hHas hlen hstep hsys
  generalize entF x id=e at hstep hHas hide hk0 hk5
  have g0:=Has.get okp hHas hk0
  have c0:=Has.field okp hHas hk0
  have g5:=Has.get okp hHas hk5
  have c5:=Has.field okp hHas hk5
  rw [hide] at g0 g5
  obtain ⟨pn,hpn⟩:∃ pn,pn=breedE p e:=⟨_,rfl⟩
  rw [← hpn] at hstep
  unfold breedE at hpn
  rw [hide] at hpn
  generalize fieldsOf e.2 0=a at g0 c0 hpn
  generalize fieldsOf e.2 5=s at g5 c5 hpn
  obtain ⟨sx,sy,sz⟩:=s
  obtain ⟨hsx,hsy,hsz⟩:=Zt8 c5
  dsimp only at hsx hsy hsz hpn
  obtain ⟨G,hA,hG,hlt,ho,hf⟩:=hsys
  have hf1:=hf.size
  refine joinI (fun z w'=>SysAt (Store b) (fun k=>F k∧k < w.heap.size) (fun k=>F k∧k < w.heap.size) w1 (sysF (entF x) breedE (x,[]) ((withL x 33 0).take (j+1))) z w') ?_ fun z w' hz=>hK _ _ ⟨wsucc (N:=1024) hj (by omega),hz⟩
  refine (rd hf).get (j:=j) rfl rfl (by omega) fun y hy=>?_
  rw [hid] at hy
  cases hy
  refine Z3r hA hidok fun w3 f3=>?_
  rw [g5]
  refine newI fun w4 B4 f4 s4=>stoAll B4 rfl rfl fun w5 B5 f5 s5=>?_
  have f35:Fr None w3 w5:=f4.newer f5 fun k e=>by omega
  have f25:=f3.then0 f35
  have hs3:=f3.size
  have l5:=B5.lt
  rw [hstep,hpn]
  have inF:∀ k,k < w1.heap.size→G k→F k∧k < w.heap.size:=fun k hk e=>by
   rcases hG k e with e | e
   ·exact e.1
   ·omega
  refine fIdx (j:=1) rfl (by decide) (fld0 B5 (x:=sy) rfl (condD (fun hz=>?_) fun hz=>?_))
  ·have hz:0 < sy:=hz
   rw [if_pos hz]
   have e1:IntKind.wrap .i32 (sy - 1)=sy - 1:=w32 (by omega)
   refine fIdx (j:=1) rfl (by decide) (fld0 B5 (x:=sy) rfl (fIdx (j:=1) rfl (by decide) (setI B5 (by show 2 < 4; decide) rfl fun w6 B6 f6 s6=>?_)))
   rw [e1] at B6
   have f26:Fr None w2 w6:=f25.newer f6 fun k e=>by omega
   refine aggI B6 (x:=(5,sx,sy - 1,sz)) rfl (Z3s (Store.st.fr0 hA f26) hidok fun w7 hA7 f7=>?_)
   exact SysAt.upd (p:=p) (A:=Store b) stA hG hlt ho hf (Store.st.mono hA7 fun k _ e=>.inl e) (f26.any.then f7) (fun k e=>e) inF
  ·have hz:¬ 0 < sy:=hz
   rw [if_neg hz]
   refine Z3r (Store.st.fr0 hA f25) hidok fun w6 f6=>?_
   rw [g0]
   refine newI fun w7 B7 f7 s7=>stoAll B7 rfl rfl fun w8 B8 f8 s8=>?_
   have f68:Fr None w6 w8:=f7.newer f8 fun k e=>by omega
   have fd:Fr None w8 w8.drew:=(Fr.refl _ _).drew
   have B8d:=B8.fr fd fun h=>h
   have f58:=f6.then0 f68
   have B5d:=(B5.fr f58 fun h=>h).fr fd fun h=>h
   refine aggI B5d (x:=(5,sx,sy,sz)) rfl (aggI B8d (x:=(0,a)) rfl (Z3b hidok (andI ?_ (andI ?_ ?_))))
   ·have:=B8d.cells 0 _ (fun j u h=>by rw [Nat.zero_add]; exact h); exact Rd.cells.2 this
   ·have:=B5d.cells 0 _ (fun j u h=>by rw [Nat.zero_add]; exact h); exact Rd.cells.2 this
   have hodd:(Int.tmod (slotOf id) 2 == 1)=oddM id:=by
    have h0:0≤slotOf id:=by unfold slotOf; omega
    unfold oddM
    rw [Int.tmod_eq_emod_of_nonneg h0]
    rfl
   rw [hodd]
   refine Zfn (c:=(5,sx,sy,sz)) (a:=(0,a)) hsz fun rl w9 o9 f9=>?_
   have f28:=f25.then0 (f58.then0 fd)
   have f29:=f28.then0 f9
   have hs28:=f28.size
   have hs9:=f9.size
   have hcl:=Zse hsz c0 (oddM id)
   have hcs:(childM sz (0,a) (oddM id)).length=4:=rfl
   refine Zbc (Store.st.fr0 hA f29) o9.sl (fun k _ e e2=>by have e:w8.drew.heap.size≤k:=e; have:=hlt k e2; omega) (by show _≤1048576; rw [hcs]; decide) (fun c hc=>Zf4 ((Z3x.1 hcl).1 c hc)) fun w10 hA10 f10=>?_
   have hA10:Store b (p.1.spawn (childM sz (0,a) (oddM id))).2.2 (Ex G w9) w10:=hA10
   generalize p.1.spawn (childM sz (0,a) (oddM id))=q at hA10 ⊢
   have f210:Fr G w2 w10:=f29.any.then f10
   refine condN (fun he=>?_) fun he=>?_
   ·have he:q.2.1≠0:=he
    rw [if_neg he]
    exact SysAt.upd (p:=p) (A:=Store b) stA hG hlt ho hf (Store.st.mono hA10 fun k _ e=>by
     rcases e with e | e
     ·exact .inl e
     ·exact .inr (by omega)) f210 (fun k e=>e) inF
   ·have he:q.2.1=0:=he
    rw [if_pos he]
    have nG5:¬ G w3.heap.size:=fun e=>by have:=hlt _ e; omega
    have B10:=((B5d.fr f9 fun h=>h).fr f10 nG5)
    have e1:IntKind.wrap .i32 (sx - 1)=sx - 1:=w32 (by omega)
    refine fIdx (j:=0) rfl (by decide) (fld0 B10 (x:=sx) rfl (fIdx (j:=1) rfl (by decide) (setI B10 (by show 2 < 4; decide) rfl fun w11 B11 f11 s11=>?_)))
    rw [e1] at B11
    have l10:=f10.size
    refine aggI B11 (x:=(5,sx,sx - 1,sz)) rfl (Z3s (Store.st.fr hA10 f11 fun k e e2=>by
     rcases e with e | e
     ·have e2:k=w3.heap.size:=e2
      rw [e2] at e; exact nG5 e
     ·have e2:k=w3.heap.size:=e2
      have e:w9.heap.size≤k:=e
      have hd:w8.drew.heap.size=w8.heap.size:=rfl
      have h58:=f58.size
      omega) hidok fun w12 hA12 f12=>?_)
    have f212:Fr G w2 w12:=(f210.exS f11 fun k e=>.inr (by omega)).exS f12 fun k e=>by
     rcases e with e | e
     ·exact .inl e
     ·exact .inr (by omega)
    have h12:=SysAt.upd (p:=(p.1,p.2)) (A:=Store b) (F:=fun k=>F k∧k < w.heap.size) (Fm:=fun k=>F k∧k < w.heap.size) stA hG hlt ho hf (Store.st.mono hA12 fun k _ e=>by
     rcases e with e | e
     ·exact .inl e
     ·exact .inr (by omega)) f212 (fun k e=>e) inF
    exact SysAt.app stA h12 (by show p.2.length≤_; omega) fun r w' hr=>hr
 ·rintro ⟨out,_⟩ w2 ⟨-,hsys⟩
  rw [hrn,List.take_length] at hsys
  exact hk out w2 (SysAt.end_ hsys f1)
end
end Go.Proofs.YtoiahhpgkoknfaaGreat
namespace Go.Proofs.YtoiahhpgkoknfaaGreat
open Go Go.RowKit Go.Proofs.YtoiahhpgkoknfaaGreat.Den
variable {R:Type} {Q:R→World→Prop} {w:World}
def A11 (C0:Nat→Prop) (n1:Nat) (b:Nat) (y:StM):OB:=fun F w=>∃ C,Ag C0 C n1∧R11 C b y F w
theorem A11.st {C0:Nat→Prop} {n1 b:Nat} (y:StM):St (A11 C0 n1 b y):=fun ⟨C,h1,h2⟩ f hs=>⟨C,h1,R11.st h2 f hs⟩
section
variable {C0 F G:Nat→Prop} {n1 b:Nat} {x y:StM}
theorem A11.set (h:A11 C0 n1 b y G w) (hn:n1≤w.heap.size) {id:Int} {c:Comp} (hc0:0≤c.1) {K:Res [.sc (.int .i64)]→W R} (hk:∀ w',A11 C0 n1 b (y.set id c).2 (Ex G w) w'→Fr (fun k=>G k∧(k < n1→¬ C0 k)) w w'→K (y.set id c).1 Q w') :
  callW Tryz.prog Z5s [.pointer (some ⟨b,0,none⟩),.int .u32 id,.agg ⟨compC c⟩] [.sc (.int .i64)] K Q w:=by
 obtain ⟨C,hag,hR⟩:=h
 exact Zn1 hR hc0 fun C' w' hag' h' f=>hk w' ⟨C',fun k hk=>(hag' k (by omega)).trans (hag k hk),h'⟩ (f.sub fun k e=>⟨e.1,fun hk e2=>e.2 ((hag k hk).2 e2)⟩)
theorem A11.despawn (h:A11 C0 n1 b y G w) (hn:n1≤w.heap.size) {id:Int} (hid:IdOk id) {K:Res [.sc (.int .i64)]→W R} (hk:∀ w',A11 C0 n1 b (y.despawn id).2 (Ex G w) w'→Fr (fun k=>G k∧(k < n1→¬ C0 k)) w w'→K (y.despawn id).1 Q w') :
  callW Tryz.prog Z3v [.pointer (some ⟨b,0,none⟩),.int .u32 id] [.sc (.int .i64)] K Q w:=by
 obtain ⟨C,hag,hR⟩:=h
 exact Zhf hR hid fun C' w' hag' h' f=>hk w' ⟨C',fun k hk=>(hag' k (by omega)).trans (hag k hk),h'⟩ (f.sub fun k e=>⟨e.1,fun hk e2=>e.2 ((hag k hk).2 e2)⟩)
theorem A11.spawn (h:A11 C0 n1 b y G w) (hn:n1≤w.heap.size) {ok:Nat→Prop} {r:Sl} {l:List Comp} (hS:SlT ok w compT r l) (hd:∀ k,k < w.heap.size→ok k→¬ G k) (hsm:Small l) (hl:∀ c∈l,CompOk c) {K:Res [.sc (.int .u32),.sc (.int .i64)]→W R}
  (hk:∀ w',A11 C0 n1 b (y.spawn l).2.2 (Ex G w) w'→Fr (fun k=>G k∧(k < n1→¬ C0 k)) w w'→K ((y.spawn l).1,(y.spawn l).2.1) Q w') :
  callW Tryz.prog Z4w [.pointer (some ⟨b,0,none⟩),.slice r.a r.n r.c] [.sc (.int .u32),.sc (.int .i64)] K Q w:=by
 obtain ⟨C,hag,hR⟩:=h
 exact Zjw hR hS hd hsm hl fun C' w' hag' h' f=>hk w' ⟨C',fun k hk=>(hag' k (by omega)).trans (hag k hk),h'⟩ (f.sub fun k e=>⟨e.1,fun hk e2=>e.2 ((hag k hk).2 e2)⟩)
end
end Go.Proofs.YtoiahhpgkoknfaaGreat
namespace Go.Proofs.YtoiahhpgkoknfaaGreat
open Go Go.RowKit Go.Proofs.YtoiahhpgkoknfaaGreat.Den
variable {R:Type} {Q:R→World→Prop} {w:World}
theorem StOk.ent_live3 {x:StM} (h:StOk x) {id:Int} (hl:x.s.live id=true):(x.ent id).1.1=id∧(x.ent id).2=0∧(x.ent id).1.2.length≤6∧listE (x.ent id).1.2=0:=by
 have:=h.at_live id
 rw [hl] at this
 obtain ⟨⟨m,i,e⟩,ha⟩:=Option.isSome_iff_exists.1 this
 obtain ⟨_,_,_,_,h3,hv,_⟩:=h.at_some ha
 rw [StM.ent_some ha]
 exact ⟨h3,rfl,hv.small,hv.list⟩
def PairAt (n0 b b2:Nat) (x x2:StM) (w:World):Prop :=
 ∃ G H C:Nat→Prop,Store b x G w∧R11 C b2 x2 H w∧(∀ k,G k→n0≤k∧k < w.heap.size)∧(∀ k,H k→n0≤k∧k < w.heap.size)∧∀ k,G k→¬ H k
section
variable {n0 b b2:Nat} {x x2:StM}
theorem PairAt.fr0 (h:PairAt n0 b b2 x x2 w) {w':World} (f:Fr None w w'):PairAt n0 b b2 x x2 w':=by
 obtain ⟨G,H,C,h1,h2,h3,h4,h5⟩:=h
 have:=f.size
 exact ⟨G,H,C,Store.st.fr0 h1 f,R11.st.fr0 h2 f,fun k e=>⟨(h3 k e).1,by have:=(h3 k e).2; omega⟩,fun k e=>⟨(h4 k e).1,by have:=(h4 k e).2; omega⟩,h5⟩
theorem PairAt.ok (h:PairAt n0 b b2 x x2 w):StOk x∧StOk x2:=by
 obtain ⟨G,H,C,h1,h2,_⟩:=h
 exact ⟨(Store.open_ h1).1,h2.1⟩
theorem PairAt.prog {G H C:Nat→Prop} {w':World} {y:StM} {G':Nat→Prop} (h2:R11 C b2 x2 H w) (h3:∀ k,G k→n0≤k∧k < w.heap.size) (h4:∀ k,H k→n0≤k∧k < w.heap.size) (h5:∀ k,G k→¬ H k) (hn:n0≤w.heap.size)
  (hA:Store b y G' w') (hG:∀ k,G' k→G k∨w.heap.size≤k) (f:Fr G w w'):PairAt n0 b b2 y x2 w':=by
 have:=f.size
 refine ⟨fun k=>G' k∧k < w'.heap.size,H,C,Store.st.mono hA fun k hk e=>⟨e,hk⟩,R11.st.fr h2 f fun k e e2=>h5 k e2 e,fun k e=>⟨?_,e.2⟩,fun k e=>⟨(h4 k e).1,by have:=(h4 k e).2; omega⟩,fun k e e2=>?_⟩
 ·rcases hG k e.1 with e1 | e1
  ·exact (h3 k e1).1
  ·omega
 ·rcases hG k e.1 with e1 | e1
  ·exact h5 k e1 e2
  ·have:=(h4 k e2).2; omega
end
end Go.Proofs.YtoiahhpgkoknfaaGreat
namespace Go.Proofs.YtoiahhpgkoknfaaGreat
open Go Go.Proofs.YtoiahhpgkoknfaaGreat.Den
abbrev Key:=Int × Int
abbrev Plc:=Int × Bool × Int × Int
abbrev Mark:=Int × Int × Int
theorem Z7s {α β:Type} [DecidableEq β] (key:α→β):∀ {L:List α},(L.map key).Nodup→∀ {q:β} {p:α},L.find? (fun x=>decide (key x=q))=some p↔p∈L∧key p=q
 | [],_,q,p=>by simp
 | a :: L,h,q,p=>by
  simp only [List.map_cons,List.nodup_cons] at h
  rw [List.find?_cons]
  by_cases hk:key a=q
  ·rw [decide_eq_true hk]
   constructor
   ·intro e; cases e; exact ⟨List.mem_cons_self,hk⟩
   ·rintro ⟨hm,hp⟩
    rcases List.mem_cons.1 hm with rfl | hm
    ·rfl
    ·exact absurd (by rw [hk,← hp]; exact List.mem_map.2 ⟨p,hm,rfl⟩) h.1
  ·rw [decide_eq_false hk]
   show L.find? _=_↔_
   rw [Z7s key h.2]
   constructor
   ·rintro ⟨hm,hp⟩; exact ⟨List.mem_cons_of_mem _ hm,hp⟩
   ·rintro ⟨hm,hp⟩
    rcases List.mem_cons.1 hm with rfl | hm
    ·exact absurd hp hk
    ·exact ⟨hm,hp⟩
theorem Zqv {α β:Type} [DecidableEq β] (key:α→β) {L:List α} {q:β}:L.find? (fun x=>decide (key x=q))=none↔∀ p∈L,key p≠q:=by simp [List.find?_eq_none]
def EntsOk (l:List Ent):Prop:=(l.map (·.1)).Nodup∧∀ e∈l,IdOk e.1∧listE e.2=0
theorem Zhh {x:StM} (h:StOk x):EntsOk (entsM x)∧(entsM x).length≤1024:=by
 have hl:∀ id∈x.s.list,(x.ent id).1.1=id:=fun id hid=>(h.ent_live3 (h.s.mem_list.1 hid)).1
 refine ⟨⟨?_,fun e he=>?_⟩,by rw [entsM,List.length_map]; exact h.s.list_le⟩
 ·rw [entsM,List.map_map]
  have:x.s.list.map ((fun e:Ent=>e.1) ∘ fun id=>(x.ent id).1)=x.s.list:=by
   conv=>rhs; rw [← List.map_id x.s.list]
   exact List.map_congr_left fun id hid=>hl id hid
  rw [this]
  exact h.s.list_nodup
 ·obtain ⟨id,hid,rfl⟩:=List.mem_map.1 he
  obtain ⟨a1,a2,a3,a4⟩:=h.ent_live3 (h.s.mem_list.1 hid)
  exact ⟨by rw [a1]; exact (h.s.list_id hid).2,a4⟩
theorem Zo3 {l:List Comp} (h:listE l=0):(l.map (·.1)).Nodup:=(Z3x.1 h).2.imp fun hab e=>by omega
def pairsM (l:List Ent):List (Int × Comp):=l.flatMap fun e=>e.2.map fun c=>(e.1,c)
abbrev keyP (p:Int × Comp):Key:=(p.1,p.2.1)
theorem Z4b {l:List Ent} {p:Int × Comp}:p∈pairsM l↔∃ e∈l,e.1=p.1∧p.2∈e.2:=by
 unfold pairsM
 rw [List.mem_flatMap]
 constructor
 ·rintro ⟨e,he,hp⟩
  obtain ⟨c,hc,rfl⟩:=List.mem_map.1 hp
  exact ⟨e,he,rfl,hc⟩
 ·rintro ⟨e,he,h1,h2⟩
  exact ⟨e,he,List.mem_map.2 ⟨p.2,h2,by rw [h1]⟩⟩
theorem Z5e:∀ {l:List Ent},EntsOk l→((pairsM l).map keyP).Nodup
 | [],_=>by simp [pairsM]
 | e :: l,h=>by
  have h0:EntsOk l:=⟨(List.nodup_cons.1 h.1).2,fun e he=>h.2 e (List.mem_cons_of_mem _ he)⟩
  have e1:pairsM (e :: l)=(e.2.map fun c=>(e.1,c)) ++ pairsM l:=by simp [pairsM]
  rw [e1,List.map_append,List.nodup_append]
  refine ⟨?_,Z5e h0,fun a ha b hb hab=>?_⟩
  ·rw [List.map_map]
   have:=Zo3 (h.2 e List.mem_cons_self).2
   exact List.Pairwise.map _ (fun a b hab=>hab) ((List.pairwise_map.1 this).imp fun {a b} hab hk=>hab (Prod.mk.inj (show ((e.1,a.1):Key)=(e.1,b.1) from hk)).2:e.2.Pairwise fun a b=>(keyP ∘ fun c=>(e.1,c)) a≠(keyP ∘ fun c=>(e.1,c)) b)
  ·subst hab
   rw [List.map_map] at ha
   obtain ⟨c,hc,rfl⟩:=List.mem_map.1 ha
   obtain ⟨p,hp,hpe⟩:=List.mem_map.1 hb
   obtain ⟨e2,he2,h1,_⟩:=Z4b.1 hp
   refine (List.nodup_cons.1 h.1).1 (List.mem_map.2 ⟨e2,he2,?_⟩)
   rw [h1]
   exact (Prod.mk.inj hpe).1
def getE (l:List Ent) (id k:Int):Option Comp:=((pairsM l).find? fun p=>decide (keyP p=(id,k))).map (·.2)
theorem Z54 {l:List Ent} (h:EntsOk l) {id k:Int} {c:Comp}:getE l id k=some c↔(id,c)∈pairsM l∧c.1=k:=by
 unfold getE
 rw [Option.map_eq_some_iff]
 constructor
 ·rintro ⟨p,hp,rfl⟩
  obtain ⟨h1,h2⟩:=(Z7s keyP (Z5e h)).1 hp
  cases h2
  exact ⟨h1,rfl⟩
 ·rintro ⟨h1,rfl⟩
  exact ⟨(id,c),(Z7s keyP (Z5e h)).2 ⟨h1,rfl⟩,rfl⟩
theorem Zf7 {l:List Ent} (h:EntsOk l) {id k:Int}:getE l id k=none↔∀ c,(id,c)∈pairsM l→c.1≠k:=by
 cases hg:getE l id k with
 | none=>exact ⟨fun _ c hc hk=>(by rw [(Z54 h).2 ⟨hc,hk⟩] at hg; cases hg),fun _=>rfl⟩
 | some c =>
  obtain ⟨h1,h2⟩:=(Z54 h).1 hg
  exact ⟨fun e=>(by cases e),fun e=>absurd h2 (e c h1)⟩
def changedM (M:List Mark) (id k:Int):Int:=((M.find? fun m=>decide ((m.1,m.2.1)=(id,k))).map (·.2.2)).getD 0
structure WM where
 x:StM
 wait:List Ordr
 tick:Int
 marks:List Mark
 places:List Plc
def compsF (m:WM):Key→Option (Comp × Int):=fun q=>(getE (entsM m.x) q.1 q.2).map fun c=>(c,changedM m.marks q.1 q.2)
def tickM (m:WM) (p:Int × Comp):Int:=if getE (entsM m.x) p.1 p.2.1=some p.2 then changedM m.marks p.1 p.2.1 else m.tick+1
def nowM (m:WM):StM:=(breedM (ageM (moveM (allM m.x m.wait).2).1).1).1
def marksM (m:WM) (now:List Ent):List Mark:=(pairsM now).map fun p=>(p.1,p.2.1,tickM m p)
theorem Zl2 {m:WM} {now:List Ent} (h:EntsOk now) {p:Int × Comp} (hp:p∈pairsM now):changedM (marksM m now) p.1 p.2.1=tickM m p:=by
 have hn:((marksM m now).map fun m=>((m.1,m.2.1):Key)).Nodup:=by
  have:=Z5e h
  unfold marksM
  rw [List.map_map]
  exact this
 unfold changedM
 rw [(Z7s (fun m:Mark=>((m.1,m.2.1):Key)) hn (p:=(p.1,p.2.1,tickM m p))).2 ⟨List.mem_map.2 ⟨p,hp,rfl⟩,rfl⟩]
 rfl
def nextF (T:Int × Comp→Int) (l:List (Int × Comp)):Key→Option (Comp × Int):=l.foldl (fun f p=>fun q=>if q=keyP p then some (p.2,T p) else f q) (fun _=>none)
theorem Zpy (T:Int × Comp→Int) (l:List (Int × Comp)) (p:Int × Comp):nextF T (l ++ [p])=fun q=>if q=keyP p then some (p.2,T p) else nextF T l q:=by simp [nextF]
theorem Zkd (T:Int × Comp→Int) (q:Key):∀ (l:List (Int × Comp)) (f:Key→Option (Comp × Int)),(l.map keyP).Nodup →
  (l.foldl (fun f p=>fun q=>if q=keyP p then some (p.2,T p) else f q) f) q=(match l.find? fun p=>decide (keyP p=q) with
   | some p=>some (p.2,T p)
   | none=>f q)
 | [],f,_=>rfl
 | p :: l,f,h=>by
  simp only [List.map_cons,List.nodup_cons] at h
  rw [List.foldl_cons,Zkd T q l _ h.2,List.find?_cons]
  by_cases hk:keyP p=q
  ·have:l.find? (fun p=>decide (keyP p=q))=none:=(Zqv keyP).2 fun p2 hp2 e=>h.1 (by rw [hk,← e]; exact List.mem_map.2 ⟨p2,hp2,rfl⟩)
   rw [this,decide_eq_true hk]
   simp [hk]
  ·rw [decide_eq_false hk]
   have:¬ q=keyP p:=fun e=>hk e.symm
   simp only [if_neg this]
theorem Zsv {m:WM} {now:List Ent} (h:EntsOk now) (q:Key):nextF (tickM m) (pairsM now) q=(getE now q.1 q.2).map fun c=>(c,changedM (marksM m now) q.1 q.2):=by
 unfold nextF
 rw [Zkd (tickM m) q _ _ (Z5e h)]
 unfold getE
 cases hf:(pairsM now).find? fun p=>decide (keyP p=q) with
 | none=>rfl
 | some p =>
  obtain ⟨h1,h2⟩:=(Z7s keyP (Z5e h)).1 hf
  show some (p.2,tickM m p)=some (p.2,changedM (marksM m now) q.1 q.2)
  rw [← Zl2 h h1,← h2]
def movedM (m:WM) (l:List (Int × Comp)):List Plc:=l.filterMap fun p=>if getE (entsM m.x) p.1 p.2.1≠some p.2∧p.2.1=0 then some (p.1,true,p.2.2.1,p.2.2.2.1) else none
theorem Zdz (m:WM) (l:List (Int × Comp)) (p:Int × Comp):movedM m (l ++ [p])=movedM m l ++ (if getE (entsM m.x) p.1 p.2.1≠some p.2∧p.2.1=0 then [(p.1,true,p.2.2.1,p.2.2.2.1)] else []):=by
 unfold movedM
 rw [List.filterMap_append]
 congr 1
 by_cases h:getE (entsM m.x) p.1 p.2.1≠some p.2∧p.2.1=0
 ·rw [if_pos h,List.filterMap_cons,if_pos h]; rfl
 ·rw [if_neg h,List.filterMap_cons,if_neg h]; rfl
theorem Zfb {m:WM} {l:List (Int × Comp)} {q:Plc}:q∈movedM m l↔∃ p∈l,getE (entsM m.x) p.1 p.2.1≠some p.2∧p.2.1=0∧q=(p.1,true,p.2.2.1,p.2.2.2.1):=by
 unfold movedM
 rw [List.mem_filterMap]
 constructor
 ·rintro ⟨p,hp,e⟩
  split at e
  ·rename_i h; cases e; exact ⟨p,hp,h.1,h.2,rfl⟩
  ·cases e
 ·rintro ⟨p,hp,h1,h2,rfl⟩
  exact ⟨p,hp,by rw [if_pos ⟨h1,h2⟩]⟩
def goneP (was now:List Ent):List Plc:=was.filterMap fun e=>if (getE was e.1 0).isSome∧getE now e.1 0=none then some (e.1,false,0,0) else none
theorem Zf8 {was now:List Ent} (h:EntsOk was) {q:Plc}:q∈goneP was now↔q=(q.1,false,0,0)∧(getE was q.1 0).isSome∧getE now q.1 0=none:=by
 unfold goneP
 rw [List.mem_filterMap]
 constructor
 ·rintro ⟨e,he,hq⟩
  split at hq
  ·rename_i h1; cases hq; exact ⟨rfl,h1.1,h1.2⟩
  ·cases hq
 ·rintro ⟨h1,h2,h3⟩
  obtain ⟨c,hc⟩:=Option.isSome_iff_exists.1 h2
  obtain ⟨a1,_⟩:=(Z54 h).1 hc
  obtain ⟨e,he,h4,_⟩:=Z4b.1 a1
  refine ⟨e,he,?_⟩
  have h4:e.1=q.1:=h4
  rw [h4,if_pos ⟨h2,h3⟩,h1]
theorem Zaw {α:Type} {f:α→Option Plc} {key:α→Int} (hf:∀ a p,f a=some p→p.1=key a):∀ {l:List α},(l.Pairwise fun a b=>(f a).isSome→(f b).isSome→key a≠key b)→((l.filterMap f).map (·.1)).Nodup
 | [],_=>by simp
 | a :: l,h=>by
  rw [List.pairwise_cons] at h
  have ih:=Zaw hf h.2
  rw [List.filterMap_cons]
  cases ha:f a with
  | none=>exact ih
  | some p =>
   rw [List.map_cons,List.nodup_cons]
   refine ⟨fun hm=>?_,ih⟩
   obtain ⟨q,hq,hqe⟩:=List.mem_map.1 hm
   obtain ⟨b,hb,hfb⟩:=List.mem_filterMap.1 hq
   exact h.1 b hb (by rw [ha]; rfl) (by rw [hfb]; rfl) (by rw [← hf a p ha,← hf b q hfb,hqe])
theorem Zo4 {m:WM} {now:List Ent} (h:EntsOk now):((movedM m (pairsM now)).map (·.1)).Nodup:=by
 refine Zaw (key:=fun p:Int × Comp=>p.1) (fun p q e=>?_) ?_
 ·split at e
  ·cases e; rfl
  ·cases e
 ·have:=Z5e h
  rw [List.Nodup,List.pairwise_map] at this
  refine this.imp fun {a b} hab h1 h2 e=>hab ?_
  have ha:a.2.1=0:=by
   by_cases hc:getE (entsM m.x) a.1 a.2.1≠some a.2∧a.2.1=0
   ·exact hc.2
   ·rw [if_neg hc] at h1; cases h1
  have hb:b.2.1=0:=by
   by_cases hc:getE (entsM m.x) b.1 b.2.1≠some b.2∧b.2.1=0
   ·exact hc.2
   ·rw [if_neg hc] at h2; cases h2
  show ((a.1,a.2.1):Key)=(b.1,b.2.1)
  rw [e,ha,hb]
theorem Zk7 {was now:List Ent} (h:EntsOk was):((goneP was now).map (·.1)).Nodup:=by
 refine Zaw (key:=fun e:Ent=>e.1) (fun p q e=>?_) ?_
 ·split at e
  ·cases e; rfl
  ·cases e
 ·have:=h.1
  rw [List.Nodup,List.pairwise_map] at this
  exact this.imp fun {a b} hab _ _ e=>hab e
theorem Zgu {m:WM} {now:List Ent} (h:EntsOk now) (hw:EntsOk (entsM m.x)):((movedM m (pairsM now) ++ goneP (entsM m.x) now).map (·.1)).Nodup:=by
 rw [List.map_append,List.nodup_append]
 refine ⟨Zo4 h,Zk7 hw,fun a ha b hb hab=>?_⟩
 subst hab
 obtain ⟨p,hp,rfl⟩:=List.mem_map.1 ha
 obtain ⟨q,hq,hqe⟩:=List.mem_map.1 hb
 obtain ⟨r,hr,_,h2,rfl⟩:=Zfb.1 hp
 obtain ⟨_,_,h5⟩:=(Zf8 hw).1 hq
 have hqe:q.1=r.1:=hqe
 rw [hqe] at h5
 exact (Zf7 h).1 h5 r.2 hr h2
def putP (l:List Plc) (p:Plc):List Plc:=l.takeWhile (fun x=>decide (x.1≤p.1)) ++ p :: l.dropWhile (fun x=>decide (x.1≤p.1))
def sortP (l:List Plc):List Plc:=l.foldl putP []
theorem Zms (l:List Plc) (p:Plc):(putP l p).Perm (p :: l):=by
 have:=List.takeWhile_append_dropWhile (p:=fun x:Plc=>decide (x.1≤p.1)) (l:=l)
 conv=>rhs; rw [← this]
 exact List.perm_middle
theorem Zrh {l:List Plc} (h:l.Pairwise fun a b=>a.1≤b.1) (p:Plc):(putP l p).Pairwise fun a b=>a.1≤b.1:=by
 induction l with
 | nil=>simp [putP]
 | cons a l ih =>
  rw [List.pairwise_cons] at h
  unfold putP
  by_cases hap:a.1≤p.1
  ·rw [List.takeWhile_cons_of_pos (by simpa using hap),List.dropWhile_cons_of_pos (by simpa using hap),List.cons_append,List.pairwise_cons]
   refine ⟨fun b hb=>?_,ih h.2⟩
   rcases List.mem_cons.1 ((Zms l p).mem_iff.1 hb) with rfl | hb
   ·exact hap
   ·exact h.1 b hb
  ·rw [List.takeWhile_cons_of_neg (by simpa using hap),List.dropWhile_cons_of_neg (by simpa using hap),List.nil_append,List.pairwise_cons]
   refine ⟨fun b hb=>?_,List.pairwise_cons.2 h⟩
   rcases List.mem_cons.1 hb with rfl | hb
   ·omega
   ·have:=h.1 b hb; omega
theorem Ziq:∀ (l acc:List Plc),(acc.Pairwise fun a b=>a.1≤b.1)→((l.foldl putP acc).Pairwise fun a b=>a.1≤b.1)∧(l.foldl putP acc).Perm (acc ++ l)
 | [],acc,h=>⟨h,by simp⟩
 | p :: l,acc,h=>by
  obtain ⟨h1,h2⟩:=Ziq l (putP acc p) (Zrh h p)
  exact ⟨h1,h2.trans (((Zms acc p).append_right l).trans List.perm_middle.symm)⟩
theorem Zq6 (l:List Plc):(sortP l).Pairwise fun a b=>a.1≤b.1:=(Ziq l [] List.Pairwise.nil).1
theorem Zap (l:List Plc):(sortP l).Perm l:=(Ziq l [] List.Pairwise.nil).2
theorem Zq7 {l l':List Plc} (hn:(l.map (·.1)).Nodup) (hp:l'.Perm l) (hs:l'.Pairwise fun a b=>a.1≤b.1):l'=sortP l:=by
 refine List.Perm.eq_of_pairwise (le:=fun a b:Plc=>a.1≤b.1) (fun a b ha hb h1 h2=>?_) hs (Zq6 l) (hp.trans (Zap l).symm)
 have e:a.1=b.1:=Int.le_antisymm h1 h2
 have ha':a∈l:=hp.mem_iff.1 ha
 have hb':b∈l:=(Zap l).mem_iff.1 hb
 have f1:=(Z7s (fun p:Plc=>p.1) hn (q:=b.1) (p:=a)).2 ⟨ha',e⟩
 have f2:=(Z7s (fun p:Plc=>p.1) hn (q:=b.1) (p:=b)).2 ⟨hb',rfl⟩
 rw [f1] at f2
 cases f2
 rfl
def placesM (m:WM) (now:List Ent):List Plc:=sortP (movedM m (pairsM now) ++ goneP (entsM m.x) now)
theorem Zrg {m:WM} {now:List Ent} (h:EntsOk now) (hw:EntsOk (entsM m.x)) {G l:List Plc} (hn:G.Nodup) (hG:∀ q,q∈G↔q=(q.1,false,0,0)∧(getE (entsM m.x) q.1 0).isSome∧getE now q.1 0=none)
  (hp:l.Perm (movedM m (pairsM now) ++ G)) (hs:l.Pairwise fun a b=>a.1≤b.1):l=placesM m now:=by
 have hg:G.Perm (goneP (entsM m.x) now):=by
  refine (List.perm_ext_iff_of_nodup hn ?_).2 fun q=>(hG q).trans (Zf8 hw).symm
  have:=Zk7 (now:=now) hw
  rw [List.Nodup,List.pairwise_map] at this
  exact this.imp fun {a b} hab e=>hab (by rw [e])
 exact Zq7 (Zgu h hw) (hp.trans (hg.append_left _)) hs
def stepM (m:WM):WM:=⟨nowM m,[],m.tick+1,marksM m (entsM (nowM m)),placesM m (entsM (nowM m))⟩
structure WMOk (m:WM):Prop where
 x:StOk m.x
 few:m.wait.length≤256
 wait:∀ o∈m.wait,OrdOk o∧Small o.2.2.2
 tick:0≤m.tick∧m.tick≤4294967295
 marks:m.marks.map (fun k=>((k.1,k.2.1):Key))=(pairsM (entsM m.x)).map keyP
 ticks:∀ k∈m.marks,0≤k.2.2∧k.2.2≤4294967295
theorem Zjn {M:List Mark} (h:∀ k∈M,0≤k.2.2∧k.2.2≤4294967295) (id k:Int):0≤changedM M id k∧changedM M id k≤4294967295:=by
 unfold changedM
 cases hf:M.find? fun m=>decide ((m.1,m.2.1)=(id,k)) with
 | none=>simp
 | some p=>exact h p (List.mem_of_find?_eq_some hf)
theorem Zol {m:WM} (h:WMOk m) (ht:m.tick < 4294967295) (p:Int × Comp):0≤tickM m p∧tickM m p≤4294967295:=by
 unfold tickM
 have:=h.tick
 split
 ·exact Zjn h.ticks _ _
 ·omega
theorem Ztb {m:WM} (h:WMOk m) (hx:StOk (nowM m)) (ht:m.tick < 4294967295):WMOk (stepM m):=by
 have h1:=h.tick
 have h2:(marksM m (entsM (nowM m))).map (fun k=>((k.1,k.2.1):Key))=(pairsM (entsM (nowM m))).map keyP:=by
  unfold marksM
  rw [List.map_map]
  rfl
 have h3:∀ k∈marksM m (entsM (nowM m)),0≤k.2.2∧k.2.2≤4294967295:=fun k hk=>by
  obtain ⟨p,_,rfl⟩:=List.mem_map.1 hk
  exact Zol h ht p
 unfold stepM
 generalize nowM m=y at hx h2 h3
 generalize marksM m (entsM y)=ms at h2 h3
 generalize placesM m (entsM y)=ps
 exact ⟨hx,Nat.zero_le _,fun o ho=>(List.not_mem_nil ho).elim,⟨by show 0≤m.tick+1; omega,by show m.tick+1≤_; omega⟩,h2,h3⟩
end Go.Proofs.YtoiahhpgkoknfaaGreat
namespace Go.Proofs.YtoiahhpgkoknfaaGreat.Den
open Go Go.RowKit
open Go.ChangeMaps (setBlock)
variable {R:Type} {Q:R→World→Prop} {w:World}
section
variable {κ:Type} {P:Program} {k:TypeId} {ke:κ→Value} {b r:Nat} {f:κ→Option Value} {left:κ→Bool} {last:Option κ}
def RngM (P:Program) (k:TypeId) (ke:κ→Value) (w:World) (b r:Nat) (f:κ→Option Value) (left:κ→Bool) (last:Option κ):Prop :=
 ∃ es clock since seen c0,w.heap[b]?=some (.map es clock)∧(Go.MapKept.Stamped es clock∧(∀ x∈es.toList,∃ l,keyOf P k x.key=some l)∧(∀ x∈es.toList,∃ i,x.key=ke i)∧es.toList.Pairwise (fun x y=>x.key≠y.key) ∧
  ∀ i v,f i=some v↔∃ x∈es.toList,x.key=ke i∧x.val=v)∧w.heap[r]?=some (.mapIter (some b) since seen c0)∧(∀ x∈es.toList,x.born < since)∧(since≤c0∧since≤clock) ∧
  (∀ i,∀ x∈es.toList,x.key=ke i→left i=!seen.contains x.born)∧(∀ i,left i=true→∃ v,f i=some v)∧∀ i,last=some i→∃ x∈es.toList,x.key=ke i∧∃ sn:Array Nat,seen=sn.push x.born∧clock=c0
theorem RngM.map (h:RngM P k ke w b r f left last):MapB P k ke w b f:=by
 obtain ⟨es,clock,since,seen,c0,hb,h1,_⟩:=h
 exact ⟨es,clock,hb,h1⟩
theorem RngM.lt (h:RngM P k ke w b r f left last):r < w.heap.size:=by
 obtain ⟨es,clock,since,seen,c0,_,_,hr,_⟩:=h
 exact (Array.getElem?_eq_some_iff.1 hr).1
theorem RngM.ne (h:RngM P k ke w b r f left last):b≠r:=by
 obtain ⟨es,clock,since,seen,c0,hb,_,hr,_⟩:=h
 intro e
 rw [e,hr] at hb
 cases hb
theorem RngM.fr {S:Nat→Prop} {w':World} (h:RngM P k ke w b r f left last) (hf:Fr S w w') (h1:¬ S b) (h2:¬ S r):RngM P k ke w' b r f left last:=by
 have hl:=h.lt
 have hlb:=h.map.lt
 obtain ⟨es,clock,since,seen,c0,hb,h3,hr,h4⟩:=h
 exact ⟨es,clock,since,seen,c0,(hf.block b hlb h1).trans hb,h3,(hf.block r hl h2).trans hr,h4⟩
theorem rngI (h:MapB P k ke w b f) {T e:TypeId} (ht:P.underlying T=some (.map k e)) {K:Option Addr→W R}
  (hk:∀ w',RngM P k ke w' b w.heap.size f (fun i=>(f i).isSome) none→Fr None w w'→w'.heap.size=w.heap.size+1→K (some ⟨w.heap.size,0,none⟩) Q w'):rawW P (Instr.range T (.map (some b))) [.sc .ptr] K Q w:=by
 have hlt:=h.lt
 obtain ⟨es,clock,hb,h1⟩:=h
 have hst:=(Go.MapKept.stamped_iff es clock).1 h1.1
 refine ⟨some ⟨w.heap.size,0,none⟩,_,run_range_map w T k e b es clock ht hb,hk _ ⟨es,clock,clock,#[],clock,(heap_alloc_old w _ hlt).trans hb,h1,heap_alloc_new w _,hst.1,⟨Nat.le_refl _,Nat.le_refl _⟩,fun i x hx e=>?_,fun i e=>?_,fun i e=>by cases e⟩ ((Fr.refl _ _).alloc _) (by simp)⟩
 ·show (f i).isSome=_
  rw [(h1.2.2.2.2 i x.val).2 ⟨x,hx,e,rfl⟩]; simp
 ·have e:(f i).isSome=true:=e
  cases hf:f i with
  | none=>rw [hf] at e; cases e
  | some v=>exact ⟨v,rfl⟩
theorem nxtI (hke:∀ i j,ke i=ke j→i=j) [DecidableEq κ] (h:RngM P k ke w b r f left last) {ty:TypeId} {K:W R} {L:Value→Value→W R} (h0:(∀ i,left i=false)→K Q w)
  (h1:∀ i v w',f i=some v→left i=true→RngM P k ke w' b r f (fun j=>left j && !decide (j=i)) (some i)→Fr (fun k=>k=r) w w'→w'.heap.size=w.heap.size→w'.rangeLeft b r < w.rangeLeft b r→L (ke i) v Q w') :
  nxtW P (Instr.next (.pointer (some ⟨r,0,none⟩)) false ty) K L Q w:=by
 have hne:=h.ne
 obtain ⟨es,clock,since,seen,c0,hb,hm,hr,hold,hsc,hl1,hl2,_⟩:=h
 have hst:=(Go.MapKept.stamped_iff es clock).1 hm.1
 rcases run_next_at (P:=P) w ty r b since c0 seen es clock hr hb hold hsc.1 with ⟨hz,hrun⟩ | ⟨e,he,w1,hal,hrun⟩
 ·refine .inl ⟨w,hrun,h0 fun i=>?_⟩
  cases hk:left i with
  | false=>rfl
  | true =>
   obtain ⟨v,hv⟩:=hl2 i hk
   obtain ⟨x,hx,hxk,_⟩:=(hm.2.2.2.2 i v).1 hv
   rw [hl1 i x hx hxk,all_seen es seen hz x hx] at hk
   cases hk
 ·obtain ⟨hem,hes⟩:=mem_left he
  obtain ⟨i,hi⟩:=hm.2.2.1 e hem
  have hr1:w1.heap[r]?=some (.mapIter (some b) since seen c0):=by rcases hal with rfl | rfl <;> exact hr
  have hb1:w1.heap[b]?=some (.map es clock):=by rcases hal with rfl | rfl <;> exact hb
  have hset:=Go.MapKept.heap_set (o':=.mapIter (some b) since (seen.push e.born) clock) hr1
  have hb':(setBlock w1 r (.mapIter (some b) since (seen.push e.born) clock)).heap[b]?=some (.map es clock):=(hset.2 b (fun e1=>hne e1)).trans hb1
  refine .inr ⟨e.key,e.val,_,hrun,?_⟩
  rw [hi]
  refine h1 i e.val _ ((hm.2.2.2.2 i e.val).2 ⟨e,hem,hi,rfl⟩) (by rw [hl1 i e hem hi,hes]; rfl) ⟨es,clock,since,seen.push e.born,clock,hb',hm,hset.1,hold,⟨hsc.2,hsc.2⟩,fun j x hx hxk=>?_,fun j hj=>hl2 j (by simp at hj; exact hj.1),fun j hj=>?_⟩ ?_ ?_ ?_
  ·show (left j && !decide (j=i))=_
   rw [hl1 j x hx hxk,contains_push]
   have:(x.born == e.born)=decide (j=i):=by
    by_cases hji:j=i
    ·subst hji
     have:x=e:=Go.entry_eq_of_key hst.2.2 hx hem (hxk.trans hi.symm)
     subst this
     simp
    ·have:x.born≠e.born:=fun hbe=>hji (hke _ _ (by
      have:x=e:=Go.born_inj hst.2.1 hx hem hbe
      subst this
      exact hxk.symm.trans hi))
     simp [hji,this]
   rw [this]
   cases seen.contains x.born <;> cases decide (j=i) <;> rfl
  ·cases hj
   exact ⟨e,hem,hi,seen,rfl,rfl⟩
  ·rcases hal with rfl | rfl <;> exact ⟨rfl,rfl,rfl,by simp [setBlock],fun i _ hi=>hset.2 i hi⟩
  ·rcases hal with rfl | rfl <;> simp [setBlock]
  ·have a1:w.rangeLeft b r=(leftOf es seen).size:=by simp only [World.rangeLeft,hb,hr]
   have a2:(setBlock w1 r (.mapIter (some b) since (seen.push e.born) clock)).rangeLeft b r=(leftOf es (seen.push e.born)).size:=by
    simp only [World.rangeLeft,hb']
    rw [show (setBlock w1 r (.mapIter (some b) since (seen.push e.born) clock)).heap[r]?=_ from hset.1]
   rw [a1,a2]
   exact left_shrinks es seen e he
theorem entI (hke:∀ i j,ke i=ke j→i=j) {i:κ} {v:Value} (h:RngM P k ke w b r f left (some i)) (hv:f i=some v) {ts:List Ty} {x:Res ts} (hx:Value.tuple #[ke i,v]=resE ts x) {K:Res ts→W R} (hk:K x Q w) :
  rawW P (Instr.entry (.pointer (some ⟨r,0,none⟩))) ts K Q w:=by
 obtain ⟨es,clock,since,seen,c0,hb,hm,hr,hold,hsc,hl1,hl2,hl3⟩:=h
 have hst:=(Go.MapKept.stamped_iff es clock).1 hm.1
 obtain ⟨e,he,hek,sn,rfl,rfl⟩:=hl3 i rfl
 refine ⟨x,w,?_,hk⟩
 have hval:e.val=v:=by
  have:=(hm.2.2.2.2 i e.val).2 ⟨e,he,hek,rfl⟩
  rw [hv] at this
  cases this
  rfl
 rw [run_entry_at w r b since sn es clock e hr hb he hst.2.1,hek,hval,hx]
end
end Go.Proofs.YtoiahhpgkoknfaaGreat.Den
set_option linter.unusedVariables false
namespace Go.Proofs.YtoiahhpgkoknfaaGreat
open Go Go.Proofs.YtoiahhpgkoknfaaGreat.Den
def Zhz (n0:Int) (first1:Int) (tick2:Int):W ((Option Addr) × Int) :=
 callW Tryz.prog Zdx [.int .i64 n0,.int .i64 first1] [.sc .ptr,.sc (.int .i64)] fun (x_1:(Option Addr) × Int) =>
 cond (x_1.2 != 0)
  (retW (none,x_1.2))
  (callW Tryz.prog Zc0 [] [.sc .ptr] fun (x_2:(Option Addr)) =>
 rawW Tryz.prog (Instr.makeMap 124 none) [.sc .map] fun (x_3:Option Nat) =>
 newW 126 [.pointer x_1.1,.pointer x_2,.int .u32 tick2,.map x_3,.slice none 0 0] fun x_4 =>
 retW ((some x_4),0))
theorem Znq {R:Type} (n0:Int) (first1:Int) (tick2:Int) (K:Res [.sc .ptr,.sc (.int .i64)]→W R) (Q:R→World→Prop) (w:World) (h:Zhz n0 first1 tick2 (fun r w=>K r Q w) w):callW Tryz.prog Z8r [.int .i64 n0,.int .i64 first1,.int .u32 tick2] [.sc .ptr,.sc (.int .i64)] K Q w:=den_c (K:=K) mix Tryz.func16 {} trivial rfl (by kernel_rfl) h
def Z9j (w0:Option Addr) (o1:(Int × Int × Int × Sl)):W (Int) :=
 newW 37 [.int .u8 o1.1,.int .u32 o1.2.1,.int .u8 o1.2.2.1,.slice o1.2.2.2.a o1.2.2.2.n o1.2.2.2.c] fun o_1 =>
 cond (Option.isNone w0)
  (retW 10)
  (drawW <|
 ptrW w0 fun x_2 =>
 ld (.sc .ptr) (Addr.add x_2 1) fun (x_3:Option Addr) =>
 ld (.agg [.int .u8,.int .u32,.int .u8,.sl]) o_1 fun (x_4:(Int × Int × Int × Sl)) =>
 callW Tryz.prog Z4r [.pointer x_3,.agg ⟨[.int .u8 x_4.1,.int .u32 x_4.2.1,.int .u8 x_4.2.2.1,.slice x_4.2.2.2.a x_4.2.2.2.n x_4.2.2.2.c]⟩] [.sc (.int .i64)] fun (x_5:Int) =>
 retW x_5)
theorem Zet {R:Type} (w0:Option Addr) (o1:(Int × Int × Int × Sl)) (K:Res [.sc (.int .i64)]→W R) (Q:R→World→Prop) (w:World) (h:Z9j w0 o1 (fun r w=>K r Q w) w):callW Tryz.prog Z20 [.pointer w0,.agg ⟨[.int .u8 o1.1,.int .u32 o1.2.1,.int .u8 o1.2.2.1,.slice o1.2.2.2.a o1.2.2.2.n o1.2.2.2.c]⟩] [.sc (.int .i64)] K Q w:=den_c (K:=K) mix Tryz.func18 { dr:=[(3,([],[[(0,[]),(1,[]),(2,[]),(3,[]),(4,[]),(5,[]),(6,[])]]))] } trivial rfl (by kernel_rfl) h
def Z9k (w0:Option Addr):W (Sl × Int) :=
 cond (Option.isNone w0)
  (retW ((⟨none,0,0⟩:Sl),10))
  (ptrW w0 fun x_1 =>
  ld (.sc (.int .u32)) (Addr.add x_1 2) fun (x_2:Int) =>
  cond (x_2 == 4294967295)
   (retW ((⟨none,0,0⟩:Sl),11))
   (ptrW w0 fun x_3 =>
 ld (.sc (.int .u32)) (Addr.add x_3 2) fun (x_4:Int) =>
 ptrW w0 fun x_5 =>
 stoL (Addr.add x_5 2) [.int .u32 (IntKind.wrap .u32 (x_4+1))] 0 <|
 drawW <|
 ptrW w0 fun x_6 =>
 ld (.sc .ptr) (Addr.add x_6 0) fun (x_7:Option Addr) =>
 ptrW w0 fun x_8 =>
 ld (.sc .ptr) (Addr.add x_8 1) fun (x_9:Option Addr) =>
 callW Tryz.prog Z4s [.pointer x_9] [.sc .sl] fun (x_10:Sl) =>
 andW (fun w=>Rd w (Addr.add x_6 0) (.sc .ptr) x_7) <|
 callW Tryz.prog Zbz [.pointer x_7,.slice x_10.a x_10.n x_10.c] [.sc .sl] fun (x_11:Sl) =>
 ptrW w0 fun x_12 =>
 ld (.sc .ptr) (Addr.add x_12 0) fun (x_13:Option Addr) =>
 callW Tryz.prog Z9z [.pointer x_13] [.sc .sl] fun (x_14:Sl) =>
 ptrW w0 fun x_15 =>
 ld (.sc .ptr) (Addr.add x_15 0) fun (x_16:Option Addr) =>
 callW Tryz.prog Zb1 [.pointer x_16] [.sc .sl] fun (x_17:Sl) =>
 ptrW w0 fun x_18 =>
 ld (.sc .ptr) (Addr.add x_18 0) fun (x_19:Option Addr) =>
 callW Tryz.prog Z8p [.pointer x_19] [.sc .sl] fun (x_20:Sl) =>
 callW Tryz.prog Z64 [.pointer w0] [] fun (x_21:Unit) =>
 retW (x_11,0)))
theorem Zeu {R:Type} (w0:Option Addr) (K:Res [.sc .sl,.sc (.int .i64)]→W R) (Q:R→World→Prop) (w:World) (h:Z9k w0 (fun r w=>K r Q w) w):callW Tryz.prog Z21 [.pointer w0] [.sc .sl,.sc (.int .i64)] K Q w:=den_c (K:=K) mix Tryz.func19 { dr:=[(6,([],[[(0,[]),(1,[]),(2,[]),(3,[]),(4,[]),(5,[]),(6,[]),(7,[]),(8,[3]),(9,[]),(10,[])]]))] } trivial rfl (by kernel_rfl) h
def Z7n (w0:Option Addr):W (Sl) :=
 cond (Option.isNone w0)
  (retW (⟨none,0,0⟩:Sl))
  (ptrW w0 fun x_1 =>
 ld (.sc .sl) (Addr.add x_1 4) fun (x_2:Sl) =>
 callW Tryz.prog Z4x [.slice x_2.a x_2.n x_2.c] [.sc .sl] fun (x_3:Sl) =>
 retW x_3)
theorem Zcy {R:Type} (w0:Option Addr) (K:Res [.sc .sl]→W R) (Q:R→World→Prop) (w:World) (h:Z7n w0 (fun r w=>K r Q w) w):callW Tryz.prog Z37 [.pointer w0] [.sc .sl] K Q w:=den_c (K:=K) mix Tryz.func20 {} trivial rfl (by kernel_rfl) h
def Z9i (w0:Option Addr):W (Sl) :=
 callW Tryz.prog Z38 [.pointer w0] [.sc .ptr] fun (x_1:(Option Addr)) =>
 callW Tryz.prog Z62 [.pointer x_1] [.sc .sl] fun (x_2:Sl) =>
 loopW (σ:=Sl × Int) (fun K_3 s_4 =>
  cond (decide (s_4.2 < (x_2.n:Int)))
   (idxW x_2.a x_2.n 1 s_4.2 fun x_5 =>
  ld (.sc (.int .u32)) x_5 fun (x_6:Int) =>
  callW Tryz.prog Z6k [.pointer w0,.int .u32 x_6] [.agg [.int .u32,.sl],.sc (.int .i64)] fun (x_7:(Int × Sl) × Int) =>
  newW 49 [.int .u32 0,.slice none 0 0] fun e_8 =>
  stoL e_8 [.int .u32 x_7.1.1,.slice x_7.1.2.a x_7.1.2.n x_7.1.2.c] 0 <|
  ld (.agg [.int .u32,.sl]) e_8 fun (x_9:(Int × Sl)) =>
  newW 49 [.int .u32 x_9.1,.slice x_9.2.a x_9.2.n x_9.2.c] fun x_10 =>
  rawW Tryz.prog (Builtin.append_ #[46,46] 46 #[.slice s_4.1.a s_4.1.n s_4.1.c,.slice (some x_10) 1 1]) [.sc .sl] fun (x_11:Sl) =>
  K_3 (x_11,IntKind.wrap .i64 (s_4.2+1)))
   (retW s_4.1))
  ((⟨none,0,0⟩:Sl),0)
theorem Zes {R:Type} (w0:Option Addr) (K:Res [.sc .sl]→W R) (Q:R→World→Prop) (w:World) (h:Z9i w0 (fun r w=>K r Q w) w):callW Tryz.prog Z45 [.pointer w0] [.sc .sl] K Q w:=den_c (K:=K) mix Tryz.func21 { lop:=[(0,[(3,.sc .sl),(12,.sc (.int .i64))])] } trivial rfl (by kernel_rfl) h
def Z9a (l0:Sl) (id1:Int) (kind2:Int):W ((Int × Int × Int × Int) × Bool) :=
 newW 52 [.int .u8 0,.int .i32 0,.int .i32 0,.int .i32 0] fun x_1 =>
 loopW (σ:=Int) (fun K_2 s_3 =>
  cond (decide (s_3 < (l0.n:Int)))
   (idxW l0.a l0.n 2 s_3 fun x_4 =>
  ld (.agg [.int .u32,.sl]) x_4 fun (x_5:(Int × Sl)) =>
  newW 49 [.int .u32 0,.slice none 0 0] fun e_6 =>
  stoL e_6 [.int .u32 x_5.1,.slice x_5.2.a x_5.2.n x_5.2.c] 0 <|
  ld (.sc (.int .u32)) (Addr.add e_6 0) fun (x_7:Int) =>
  joinW (σ:=Unit) (fun J_8 =>
   cond (x_7 == id1)
    (ld (.sc .sl) (Addr.add e_6 1) fun (x_9:Sl) =>
    callW Tryz.prog Z2j [.slice x_9.a x_9.n x_9.c,.int .u8 kind2] [.sc (.int .i64)] fun (x_10:Int) =>
    cond (decide (x_10 ≥ 0))
     (ld (.sc .sl) (Addr.add e_6 1) fun (x_11:Sl) =>
     idxW x_11.a x_11.n 4 x_10 fun x_12 =>
     ld (.agg [.int .u8,.int .i32,.int .i32,.int .i32]) x_12 fun (x_13:(Int × Int × Int × Int)) =>
     stoL x_1 [.int .u8 x_13.1,.int .i32 x_13.2.1,.int .i32 x_13.2.2.1,.int .i32 x_13.2.2.2] 0 <|
     ld (.agg [.int .u8,.int .i32,.int .i32,.int .i32]) x_1 fun (x_14:(Int × Int × Int × Int)) =>
     retW (x_14,true))
     (J_8 ()))
    (J_8 ()))
  <| fun s_15 =>
  K_2 (IntKind.wrap .i64 (s_3+1)))
   (stoL x_1 [.int .u8 0,.int .i32 0,.int .i32 0,.int .i32 0] 0 <|
 ld (.agg [.int .u8,.int .i32,.int .i32,.int .i32]) x_1 fun (x_16:(Int × Int × Int × Int)) =>
 retW (x_16,false)))
  0
theorem Zei {R:Type} (l0:Sl) (id1:Int) (kind2:Int) (K:Res [.agg [.int .u8,.int .i32,.int .i32,.int .i32],.sc .bool]→W R) (Q:R→World→Prop) (w:World) (h:Z9a l0 id1 kind2 (fun r w=>K r Q w) w):callW Tryz.prog Z5u [.slice l0.a l0.n l0.c,.int .u32 id1,.int .u8 kind2] [.agg [.int .u8,.int .i32,.int .i32,.int .i32],.sc .bool] K Q w:=den_c (K:=K) mix Tryz.func22 { con:=[(6020,[])],lop:=[(0,[(13,.sc (.int .i64))])] } ⟨by kernel_rfl,trivial⟩ rfl (by kernel_rfl) h
def Z9l (w0:Option Addr):W (Int) :=
 cond (Option.isNone w0)
  (retW 0)
  (ptrW w0 fun x_1 =>
 ld (.sc (.int .u32)) (Addr.add x_1 2) fun (x_2:Int) =>
 retW x_2)
theorem Zev {R:Type} (w0:Option Addr) (K:Res [.sc (.int .u32)]→W R) (Q:R→World→Prop) (w:World) (h:Z9l w0 (fun r w=>K r Q w) w):callW Tryz.prog Z63 [.pointer w0] [.sc (.int .u32)] K Q w:=den_c (K:=K) mix Tryz.func26 {} trivial rfl (by kernel_rfl) h
def Z6u (w0:Option Addr) (id1:Int) (kind2:Int):W (Int × Int) :=
 callW Tryz.prog Z38 [.pointer w0] [.sc .ptr] fun (x_1:(Option Addr)) =>
 callW Tryz.prog Z16 [.pointer x_1,.int .u32 id1,.int .u8 kind2] [.agg [.int .u8,.int .i32,.int .i32,.int .i32],.sc (.int .i64)] fun (x_2:(Int × Int × Int × Int) × Int) =>
 newW 52 [.int .u8 0,.int .i32 0,.int .i32 0,.int .i32 0] fun x_3 =>
 stoL x_3 [.int .u8 x_2.1.1,.int .i32 x_2.1.2.1,.int .i32 x_2.1.2.2.1,.int .i32 x_2.1.2.2.2] 0 <|
 cond (x_2.2 != 0)
  (retW (0,x_2.2))
  (ptrW w0 fun x_4 =>
 ld (.sc .map) (Addr.add x_4 3) fun (x_5:Option Nat) =>
 rawQ Tryz.prog (Instr.lookup 124 (.map x_5) (.agg ⟨[.int .u32 id1,.int .u8 kind2]⟩) false) [.agg [.int .u8,.int .i32,.int .i32,.int .i32,.int .u32]] fun (x_6:(Int × Int × Int × Int × Int)) =>
 retW (x_6.2.2.2.2,0))
theorem Zbp {R:Type} (w0:Option Addr) (id1:Int) (kind2:Int) (K:Res [.sc (.int .u32),.sc (.int .i64)]→W R) (Q:R→World→Prop) (w:World) (h:Z6u w0 id1 kind2 (fun r w=>K r Q w) w):callW Tryz.prog Z31 [.pointer w0,.int .u32 id1,.int .u8 kind2] [.sc (.int .u32),.sc (.int .i64)] K Q w:=den_c (K:=K) mix Tryz.func63 {} trivial rfl (by kernel_rfl) h
def Z9m (d0:Option Addr):W (Unit) :=
 ptrW d0 fun x_1 =>
 stoL (Addr.add x_1 4) [.slice none 0 0] 0 <|
 rawW Tryz.prog (Instr.makeMap 124 none) [.sc .map] fun (x_2:Option Nat) =>
 callW Tryz.prog Z45 [.pointer d0] [.sc .sl] fun (x_3:Sl) =>
 loopW (σ:=Int) (fun K_4 s_5 =>
  cond (decide (s_5 < (x_3.n:Int)))
   (idxW x_3.a x_3.n 2 s_5 fun x_6 =>
  ld (.agg [.int .u32,.sl]) x_6 fun (x_7:(Int × Sl)) =>
  newW 49 [.int .u32 0,.slice none 0 0] fun x_8 =>
  stoL x_8 [.int .u32 x_7.1,.slice x_7.2.a x_7.2.n x_7.2.c] 0 <|
  ld (.sc .sl) (Addr.add x_8 1) fun (x_9:Sl) =>
  loopW (σ:=Int) (fun K_10 s_11 =>
   cond (decide (s_11 < (x_9.n:Int)))
    (idxW x_9.a x_9.n 4 s_11 fun x_12 =>
   ld (.agg [.int .u8,.int .i32,.int .i32,.int .i32]) x_12 fun (x_13:(Int × Int × Int × Int)) =>
   newW 52 [.int .u8 0,.int .i32 0,.int .i32 0,.int .i32 0] fun x_14 =>
   stoL x_14 [.int .u8 x_13.1,.int .i32 x_13.2.1,.int .i32 x_13.2.2.1,.int .i32 x_13.2.2.2] 0 <|
   ld (.sc (.int .u32)) (Addr.add x_8 0) fun (x_15:Int) =>
   ld (.sc (.int .u8)) (Addr.add x_14 0) fun (x_16:Int) =>
   newW 140 [.int .u32 0,.int .u8 0] fun x_17 =>
   stoL x_17 [.int .u32 x_15,.int .u8 x_16] 0 <|
   joinW (σ:=(Option Addr) × Bool) (fun J_18 =>
    drawW <|
    bothW
     (ptrW d0 fun x_19 =>
     ld (.sc .map) (Addr.add x_19 3) fun (x_20:Option Nat) =>
     ld (.agg [.int .u32,.int .u8]) x_17 fun (x_21:(Int × Int)) =>
     rawQ Tryz.prog (Instr.lookup 124 (.map x_20) (.agg ⟨[.int .u32 x_21.1,.int .u8 x_21.2]⟩) true) [.agg [.int .u8,.int .i32,.int .i32,.int .i32,.int .u32],.sc .bool] fun (x_22:(Int × Int × Int × Int × Int) × Bool) =>
     newW 138 [.int .u8 0,.int .i32 0,.int .i32 0,.int .i32 0,.int .u32 0] fun x_23 =>
     stoL x_23 [.int .u8 x_22.1.1,.int .i32 x_22.1.2.1,.int .i32 x_22.1.2.2.1,.int .i32 x_22.1.2.2.2.1,.int .u32 x_22.1.2.2.2.2] 0 <|
     J_18 ((some x_23),x_22.2))
     (ptrW d0 fun x_24 =>
     ld (.sc .map) (Addr.add x_24 3) fun (x_25:Option Nat) =>
     ld (.agg [.int .u32,.int .u8]) x_17 fun (x_26:(Int × Int)) =>
     newW 138 [.int .u8 0,.int .i32 0,.int .i32 0,.int .i32 0,.int .u32 0] fun x_27 =>
     rawQ Tryz.prog (Instr.lookup 124 (.map x_25) (.agg ⟨[.int .u32 x_26.1,.int .u8 x_26.2]⟩) true) [.agg [.int .u8,.int .i32,.int .i32,.int .i32,.int .u32],.sc .bool] fun (x_28:(Int × Int × Int × Int × Int) × Bool) =>
     stoL x_27 [.int .u8 x_28.1.1,.int .i32 x_28.1.2.1,.int .i32 x_28.1.2.2.1,.int .i32 x_28.1.2.2.2.1,.int .u32 x_28.1.2.2.2.2] 0 <|
     J_18 ((some x_27),x_28.2)))
   <| fun s_29 =>
   joinW (σ:=Bool) (fun J_30 =>
    cond (!s_29.2)
     (J_30 true)
     (ptrW s_29.1 fun x_31 =>
     ld (.agg [.int .u8,.int .i32,.int .i32,.int .i32]) (Addr.add x_31 0) fun (x_32:(Int × Int × Int × Int)) =>
      ld (.agg [.int .u8,.int .i32,.int .i32,.int .i32]) x_14 fun (x_33:(Int × Int × Int × Int)) =>
       rawQ Tryz.prog (do Go.eqGuard .neq 52 (.tmp 49) (.tmp 50) (.agg ⟨[.int .u8 x_32.1,.int .i32 x_32.2.1,.int .i32 x_32.2.2.1,.int .i32 x_32.2.2.2]⟩) (.agg ⟨[.int .u8 x_33.1,.int .i32 x_33.2.1,.int .i32 x_33.2.2.1,.int .i32 x_33.2.2.2]⟩); Go.binOp .neq 52 (.agg ⟨[.int .u8 x_32.1,.int .i32 x_32.2.1,.int .i32 x_32.2.2.1,.int .i32 x_32.2.2.2]⟩) (.agg ⟨[.int .u8 x_33.1,.int .i32 x_33.2.1,.int .i32 x_33.2.2.1,.int .i32 x_33.2.2.2]⟩)) [.sc .bool] fun (x_34:Bool) =>
        J_30 x_34))
   <| fun s_35 =>
   joinW (σ:=Unit) (fun J_36 =>
    cond s_35
     (drawW <|
     ld (.agg [.int .u8,.int .i32,.int .i32,.int .i32]) x_14 fun (x_37:(Int × Int × Int × Int)) =>
     ptrW d0 fun x_38 =>
     ld (.sc (.int .u32)) (Addr.add x_38 2) fun (x_39:Int) =>
     ptrW s_29.1 fun x_40 =>
     stoL x_40 [.int .u8 x_37.1,.int .i32 x_37.2.1,.int .i32 x_37.2.2.1,.int .i32 x_37.2.2.2,.int .u32 x_39] 0 <|
     ld (.sc (.int .u8)) (Addr.add x_14 0) fun (x_41:Int) =>
     joinW (σ:=Unit) (fun J_42 =>
      cond (x_41 == 0)
       (drawW <|
       ptrW d0 fun x_43 =>
       ld (.sc .sl) (Addr.add x_43 4) fun (x_44:Sl) =>
       ld (.sc (.int .u32)) (Addr.add x_8 0) fun (x_45:Int) =>
       idxW (some (Addr.add x_14 1)) 3 1 0 fun x_46 =>
       ld (.sc (.int .i32)) x_46 fun (x_47:Int) =>
       idxW (some (Addr.add x_14 1)) 3 1 1 fun x_48 =>
       ld (.sc (.int .i32)) x_48 fun (x_49:Int) =>
       newW 45 [.int .u32 x_45,.bool true,.int .i32 x_47,.int .i32 x_49] fun x_50 =>
       rawW Tryz.prog (Builtin.append_ #[42,42] 42 #[.slice x_44.a x_44.n x_44.c,.slice (some x_50) 1 1]) [.sc .sl] fun (x_51:Sl) =>
       ptrW d0 fun x_52 =>
       stoL (Addr.add x_52 4) [.slice x_51.a x_51.n x_51.c] 0 <|
       J_42 ())
       (J_42 ()))
     <| fun s_53 =>
     J_36 ())
     (J_36 ()))
   <| fun s_54 =>
   ld (.agg [.int .u32,.int .u8]) x_17 fun (x_55:(Int × Int)) =>
   ptrW s_29.1 fun x_56 =>
   ld (.agg [.int .u8,.int .i32,.int .i32,.int .i32,.int .u32]) x_56 fun (x_57:(Int × Int × Int × Int × Int)) =>
   rawU Tryz.prog (Instr.mapUpdate 124 (.map x_2) (.agg ⟨[.int .u32 x_55.1,.int .u8 x_55.2]⟩) (.agg ⟨[.int .u8 x_57.1,.int .i32 x_57.2.1,.int .i32 x_57.2.2.1,.int .i32 x_57.2.2.2.1,.int .u32 x_57.2.2.2.2]⟩)) <|
   K_10 (IntKind.wrap .i64 (s_11+1)))
    (K_4 (IntKind.wrap .i64 (s_5+1))))
   0)
   (ptrW d0 fun x_58 =>
 ld (.sc .map) (Addr.add x_58 3) fun (x_59:Option Nat) =>
 rawW Tryz.prog (Instr.range 124 (.map x_59)) [.sc .ptr] fun (x_60:Option Addr) =>
 loopW (σ:=Unit) (fun K_61 s_62 =>
  nxtW Tryz.prog (Instr.next (.pointer x_60) false 0)
   (ptrW d0 fun x_65 =>
 stoL (Addr.add x_65 3) [.map x_2] 0 <|
 ptrW d0 fun x_66 =>
 ld (.sc .sl) (Addr.add x_66 4) fun (x_67:Sl) =>
 callW Tryz.prog Z3i [.slice x_67.a x_67.n x_67.c,.func (.func 135) #[] #[]] [] fun (x_68:Unit) =>
 retW ())
   (fun x_63 x_64=>rawW Tryz.prog (Instr.entry (.pointer x_60)) [.agg [.int .u32,.int .u8],.agg [.int .u8,.int .i32,.int .i32,.int .i32,.int .u32]] fun (x_69:(Int × Int) × (Int × Int × Int × Int × Int)) =>
  newW 140 [.int .u32 0,.int .u8 0] fun x_70 =>
  stoL x_70 [.int .u32 x_69.1.1,.int .u8 x_69.1.2] 0 <|
  ld (.agg [.int .u32,.int .u8]) x_70 fun (x_71:(Int × Int)) =>
  rawQ Tryz.prog (Instr.lookup 124 (.map x_2) (.agg ⟨[.int .u32 x_71.1,.int .u8 x_71.2]⟩) true) [.agg [.int .u8,.int .i32,.int .i32,.int .i32,.int .u32],.sc .bool] fun (x_72:(Int × Int × Int × Int × Int) × Bool) =>
  newW 138 [.int .u8 0,.int .i32 0,.int .i32 0,.int .i32 0,.int .u32 0] fun x_73 =>
  stoL x_73 [.int .u8 x_72.1.1,.int .i32 x_72.1.2.1,.int .i32 x_72.1.2.2.1,.int .i32 x_72.1.2.2.2.1,.int .u32 x_72.1.2.2.2.2] 0 <|
  joinW (σ:=Bool) (fun J_74 =>
   cond (!x_72.2)
    (ld (.sc (.int .u8)) (Addr.add x_70 1) fun (x_75:Int) =>
     J_74 (x_75 == 0))
    (J_74 false))
  <| fun s_76 =>
  joinW (σ:=Unit) (fun J_77 =>
   cond s_76
    (drawW <|
    ptrW d0 fun x_78 =>
    ld (.sc .sl) (Addr.add x_78 4) fun (x_79:Sl) =>
    ld (.sc (.int .u32)) (Addr.add x_70 0) fun (x_80:Int) =>
    newW 45 [.int .u32 x_80,.bool false,.int .i32 0,.int .i32 0] fun x_81 =>
    rawW Tryz.prog (Builtin.append_ #[42,42] 42 #[.slice x_79.a x_79.n x_79.c,.slice (some x_81) 1 1]) [.sc .sl] fun (x_82:Sl) =>
    ptrW d0 fun x_83 =>
    stoL (Addr.add x_83 4) [.slice x_82.a x_82.n x_82.c] 0 <|
    J_77 ())
    (J_77 ()))
  <| fun s_84 =>
  K_61 ()))
  ()))
  0
set_option maxRecDepth 100000 in
theorem Zew {R:Type} (d0:Option Addr) (K:Res []→W R) (Q:R→World→Prop) (w:World) (h:Z9m d0 (fun r w=>K r Q w) w):callW Tryz.prog Z64 [.pointer d0] [] K Q w:=den_c (K:=K) mix Tryz.func72 { reg:=[(9,[(8,.sc .ptr),(9,.sc .bool)]),(10,[(52,.sc .bool)]),(21,[(106,.sc .bool)])],con:=[(14061,[]),(12052,[]),(23106,[])],lop:=[(0,[(20,.sc (.int .i64))]),(2,[(27,.sc (.int .i64))]),(4,[])],dr:=[(9,([(5,9)],[[(0,[]),(1,[]),(2,[]),(3,[]),(4,[]),(5,[]),(6,[]),(7,[]),(8,[]),(9,[]),(10,[]),(11,[])],[(0,[]),(1,[]),(2,[]),(3,[]),(4,[]),(9,[]),(5,[]),(6,[]),(7,[]),(8,[]),(10,[]),(11,[])]])),(11,([],[[(0,[]),(1,[]),(2,[]),(3,[]),(4,[]),(5,[]),(6,[])]])),(13,([],[[(0,[]),(1,[]),(2,[]),(3,[]),(4,[]),(5,[]),(6,[]),(7,[]),(8,[]),(9,[]),(10,[]),(11,[]),(12,[]),(13,[]),(14,[]),(15,[]),(16,[]),(17,[]),(18,[])]])),(22,([],[[(0,[]),(1,[]),(2,[]),(3,[]),(4,[]),(5,[]),(6,[]),(7,[]),(8,[]),(9,[]),(10,[]),(11,[]),(12,[])]]))],mp:=[1092124] } trivial rfl (by kernel_rfl) h
def Z7g (s0:Sl):W (Sl) :=
 cond (Option.isNone s0.a)
  (retW (⟨none,0,0⟩:Sl))
  (newW 45 [] fun x_1 =>
 rawW Tryz.prog (Builtin.append_ #[42,42] 42 #[.slice (some x_1) 0 0,.slice s0.a s0.n s0.c]) [.sc .sl] fun (x_2:Sl) =>
 retW x_2)
theorem Zcr {R:Type} (s0:Sl) (K:Res [.sc .sl]→W R) (Q:R→World→Prop) (w:World) (h:Z7g s0 (fun r w=>K r Q w) w):callW Tryz.prog Z4x [.slice s0.a s0.n s0.c] [.sc .sl] K Q w:=den_c (K:=K) mix Tryz.func73 {} trivial rfl (by kernel_rfl) h
def Zal (w0:Option Addr):W ((Option Addr)) :=
 cond (Option.isNone w0)
  (retW none)
  (ptrW w0 fun x_1 =>
 ld (.sc .ptr) (Addr.add x_1 0) fun (x_2:Option Addr) =>
 retW x_2)
theorem Zg9 {R:Type} (w0:Option Addr) (K:Res [.sc .ptr]→W R) (Q:R→World→Prop) (w:World) (h:Zal w0 (fun r w=>K r Q w) w):callW Tryz.prog Z38 [.pointer w0] [.sc .ptr] K Q w:=den_c (K:=K) mix Tryz.func74 {} trivial rfl (by kernel_rfl) h
def Zak (w0:Option Addr) (id1:Int):W ((Int × Sl) × Int) :=
 newW 49 [.int .u32 0,.slice none 0 0] fun x_1 =>
 callW Tryz.prog Z38 [.pointer w0] [.sc .ptr] fun (x_2:(Option Addr)) =>
 callW Tryz.prog Z4g [.pointer x_2,.int .u32 id1] [.agg [.int .u32,.sl],.sc (.int .i64)] fun (x_3:(Int × Sl) × Int) =>
 stoL x_1 [.int .u32 x_3.1.1,.slice x_3.1.2.a x_3.1.2.n x_3.1.2.c] 0 <|
 ld (.agg [.int .u32,.sl]) x_1 fun (x_4:(Int × Sl)) =>
 retW (x_4,x_3.2)
theorem Zg8 {R:Type} (w0:Option Addr) (id1:Int) (K:Res [.agg [.int .u32,.sl],.sc (.int .i64)]→W R) (Q:R→World→Prop) (w:World) (h:Zak w0 id1 (fun r w=>K r Q w) w):callW Tryz.prog Z6k [.pointer w0,.int .u32 id1] [.agg [.int .u32,.sl],.sc (.int .i64)] K Q w:=den_c (K:=K) mix Tryz.func76 {} ⟨by kernel_rfl,trivial⟩ rfl (by kernel_rfl) h
def Z1d (x0:Sl):W (Unit) :=
 callW Tryz.prog Z5n [.int .u64 (IntKind.wrap .u64 (x0.n:Int))] [.sc (.int .i64)] fun (x_1:Int) =>
 callW Tryz.prog Zh [.slice x0.a x0.n x0.c,.int .i64 0,.int .i64 (x0.n:Int),.int .i64 x_1,.func (.func 135) #[] #[]] [] fun (x_2:Unit) =>
 retW ()
theorem Z3c {R:Type} (x0:Sl) (K:Res []→W R) (Q:R→World→Prop) (w:World) (h:Z1d x0 (fun r w=>K r Q w) w):callW Tryz.prog Z3i [.slice x0.a x0.n x0.c,.func (.func 135) #[] #[]] [] K Q w:=den_c (K:=K) mix Tryz.func134 {} trivial rfl (by kernel_rfl) h
def Z6v (a0:(Int × Bool × Int × Int)) (b1:(Int × Bool × Int × Int)):W (Int) :=
 newW 45 [.int .u32 a0.1,.bool a0.2.1,.int .i32 a0.2.2.1,.int .i32 a0.2.2.2] fun a_1 =>
 newW 45 [.int .u32 b1.1,.bool b1.2.1,.int .i32 b1.2.2.1,.int .i32 b1.2.2.2] fun b_2 =>
 ld (.sc (.int .u32)) (Addr.add a_1 0) fun (x_3:Int) =>
 ld (.sc (.int .u32)) (Addr.add b_2 0) fun (x_4:Int) =>
 callW Tryz.prog Z74 [.int .u32 x_3,.int .u32 x_4] [.sc (.int .i64)] fun (x_5:Int) =>
 retW x_5
theorem Zbq {R:Type} (a0:(Int × Bool × Int × Int)) (b1:(Int × Bool × Int × Int)) (K:Res [.sc (.int .i64)]→W R) (Q:R→World→Prop) (w:World) (h:Z6v a0 b1 (fun r w=>K r Q w) w):callW Tryz.prog Z1 [.agg ⟨[.int .u32 a0.1,.bool a0.2.1,.int .i32 a0.2.2.1,.int .i32 a0.2.2.2]⟩,.agg ⟨[.int .u32 b1.1,.bool b1.2.1,.int .i32 b1.2.2.1,.int .i32 b1.2.2.2]⟩] [.sc (.int .i64)] K Q w:=den_c (K:=K) mix Tryz.func135 {} trivial rfl (by kernel_rfl) h
def Zt (d0:Sl) (o1:Int) (p2:Int) (p3:Int):W (Unit) :=
 loopW (σ:=Int × Int × Int × Bool × Bool) (fun K_1 s_2 =>
  joinW (σ:=Int × Int × Int × Bool × Bool) (fun J_3 =>
   cond (decide ((IntKind.wrap .i64 (s_2.2.1 - s_2.1))≤12))
    (callW Tryz.prog Z13 [.slice d0.a d0.n d0.c,.int .i64 s_2.1,.int .i64 s_2.2.1,.func (.func 135) #[] #[]] [] fun (x_4:Unit) =>
    retW ())
    (cond (s_2.2.2.1 == 0)
    (callW Tryz.prog Z1u [.slice d0.a d0.n d0.c,.int .i64 s_2.1,.int .i64 s_2.2.1,.func (.func 135) #[] #[]] [] fun (x_5:Unit) =>
    retW ())
    (joinW (σ:=Int) (fun J_6 =>
    cond (!s_2.2.2.2.1)
     (callW Tryz.prog Z12 [.slice d0.a d0.n d0.c,.int .i64 s_2.1,.int .i64 s_2.2.1,.func (.func 135) #[] #[]] [] fun (x_7:Unit) =>
     J_6 (IntKind.wrap .i64 (s_2.2.2.1 - 1)))
     (J_6 s_2.2.2.1))
   <| fun s_8 =>
   callW Tryz.prog Z1f [.slice d0.a d0.n d0.c,.int .i64 s_2.1,.int .i64 s_2.2.1,.func (.func 135) #[] #[]] [.sc (.int .i64),.sc (.int .i64)] fun (x_9:Int × Int) =>
   joinW (σ:=Int × Int) (fun J_10 =>
    cond (x_9.2 == 2)
     (callW Tryz.prog Z1c [.slice d0.a d0.n d0.c,.int .i64 s_2.1,.int .i64 s_2.2.1,.func (.func 135) #[] #[]] [] fun (x_11:Unit) =>
     J_10 (IntKind.wrap .i64 ((IntKind.wrap .i64 (s_2.2.1 - 1)) - (IntKind.wrap .i64 (x_9.1 - s_2.1))),1))
     (J_10 (x_9.1,x_9.2)))
   <| fun s_12 =>
   joinW (σ:=Bool) (fun J_13 =>
    cond s_2.2.2.2.1
     (cond s_2.2.2.2.2
      (J_13 (s_12.2 == 1))
      (J_13 false))
     (J_13 false))
   <| fun s_14 =>
   joinW (σ:=Unit) (fun J_15 =>
    cond s_14
     (callW Tryz.prog Zg [.slice d0.a d0.n d0.c,.int .i64 s_2.1,.int .i64 s_2.2.1,.func (.func 135) #[] #[]] [.sc .bool] fun (x_16:Bool) =>
     cond x_16
      (retW ())
      (J_15 ()))
     (J_15 ()))
   <| fun s_17 =>
   joinW (σ:=Bool) (fun J_18 =>
    drawW <|
    cond (decide (s_2.1 > 0))
     (idxW d0.a d0.n 4 (IntKind.wrap .i64 (s_2.1 - 1)) fun x_19 =>
         ld (.agg [.int .u32,.bool,.int .i32,.int .i32]) x_19 fun (x_20:(Int × Bool × Int × Int)) =>
          idxW d0.a d0.n 4 s_12.1 fun x_21 =>
             ld (.agg [.int .u32,.bool,.int .i32,.int .i32]) x_21 fun (x_22:(Int × Bool × Int × Int)) =>
              callW Tryz.prog Z1 [.agg ⟨[.int .u32 x_20.1,.bool x_20.2.1,.int .i32 x_20.2.2.1,.int .i32 x_20.2.2.2]⟩,.agg ⟨[.int .u32 x_22.1,.bool x_22.2.1,.int .i32 x_22.2.2.1,.int .i32 x_22.2.2.2]⟩] [.sc (.int .i64)] fun (x_23:Int) =>
               J_18 (!(decide (x_23 < 0))))
     (J_18 false))
   <| fun s_24 =>
   cond s_24
    (callW Tryz.prog Zz [.slice d0.a d0.n d0.c,.int .i64 s_2.1,.int .i64 s_2.2.1,.int .i64 s_12.1,.func (.func 135) #[] #[]] [.sc (.int .i64)] fun (x_25:Int) =>
    J_3 (x_25,s_2.2.1,s_8,s_2.2.2.2.1,s_2.2.2.2.2))
    (callW Tryz.prog Z1p [.slice d0.a d0.n d0.c,.int .i64 s_2.1,.int .i64 s_2.2.1,.int .i64 s_12.1,.func (.func 135) #[] #[]] [.sc (.int .i64),.sc .bool] fun (x_26:Int × Bool) =>
   joinW (σ:=Int × Int × Bool) (fun J_27 =>
    cond (decide ((IntKind.wrap .i64 (x_26.1 - s_2.1)) < (IntKind.wrap .i64 (s_2.2.1 - x_26.1))))
     (callW Tryz.prog Zh [.slice d0.a d0.n d0.c,.int .i64 s_2.1,.int .i64 x_26.1,.int .i64 s_8,.func (.func 135) #[] #[]] [] fun (x_28:Unit) =>
     J_27 (IntKind.wrap .i64 (x_26.1+1),s_2.2.1,decide ((IntKind.wrap .i64 (x_26.1 - s_2.1)) ≥ (IntKind.wrap .i64 (Int.tdiv (IntKind.wrap .i64 (s_2.2.1 - s_2.1)) 8)))))
     (callW Tryz.prog Zh [.slice d0.a d0.n d0.c,.int .i64 (IntKind.wrap .i64 (x_26.1+1)),.int .i64 s_2.2.1,.int .i64 s_8,.func (.func 135) #[] #[]] [] fun (x_29:Unit) =>
     J_27 (s_2.1,x_26.1,decide ((IntKind.wrap .i64 (s_2.2.1 - x_26.1)) ≥ (IntKind.wrap .i64 (Int.tdiv (IntKind.wrap .i64 (s_2.2.1 - s_2.1)) 8))))))
   <| fun s_30 =>
   J_3 (s_30.1,s_30.2.1,s_8,s_30.2.2,x_26.2)))))
  <| fun s_31 =>
  K_1 (s_31.1,s_31.2.1,s_31.2.2.1,s_31.2.2.2.1,s_31.2.2.2.2))
  (o1,p2,p3,true,true)
theorem Z2p {R:Type} (d0:Sl) (o1:Int) (p2:Int) (p3:Int) (K:Res []→W R) (Q:R→World→Prop) (w:World) (h:Zt d0 o1 p2 p3 (fun r w=>K r Q w) w):callW Tryz.prog Zh [.slice d0.a d0.n d0.c,.int .i64 o1,.int .i64 p2,.int .i64 p3,.func (.func 135) #[] #[]] [] K Q w:=den_c (K:=K) mix Tryz.func193 { reg:=[(15,[(75,.sc .bool)]),(17,[(97,.sc .bool)])],con:=[(9039,[(3,.sc (.int .i64))]),(13056,[(13,.sc (.int .i64)),(14,.sc (.int .i64))]),(17075,[]),(26125,[(1,.sc (.int .i64)),(2,.sc (.int .i64)),(10,.sc .bool)])],blk:=[(1,[(1,.sc (.int .i64)),(2,.sc (.int .i64)),(3,.sc (.int .i64)),(10,.sc .bool),(11,.sc .bool)])],lop:=[(0,[(1,.sc (.int .i64)),(2,.sc (.int .i64)),(3,.sc (.int .i64)),(10,.sc .bool),(11,.sc .bool)])],dr:=[(17,([],[[(0,[]),(1,[]),(2,[]),(3,[]),(4,[]),(5,[]),(6,[]),(7,[]),(8,[]),(9,[]),(10,[]),(11,[]),(12,[]),(13,[]),(14,[]),(15,[]),(16,[])]]))] } trivial rfl (by kernel_rfl) h
def Ze (data0:Sl) (a1:Int) (b2:Int):W (Unit) :=
 loopW (σ:=Int) (fun K_1 s_2 =>
  cond (decide (s_2 < b2))
   (loopW (σ:=Int) (fun K_3 s_4 =>
   joinW (σ:=Bool) (fun J_5 =>
    drawW <|
    cond (decide (s_4 > a1))
     (idxW data0.a data0.n 4 s_4 fun x_6 =>
        ld (.agg [.int .u32,.bool,.int .i32,.int .i32]) x_6 fun (x_7:(Int × Bool × Int × Int)) =>
         idxW data0.a data0.n 4 (IntKind.wrap .i64 (s_4 - 1)) fun x_8 =>
             ld (.agg [.int .u32,.bool,.int .i32,.int .i32]) x_8 fun (x_9:(Int × Bool × Int × Int)) =>
              callW Tryz.prog Z1 [.agg ⟨[.int .u32 x_7.1,.bool x_7.2.1,.int .i32 x_7.2.2.1,.int .i32 x_7.2.2.2]⟩,.agg ⟨[.int .u32 x_9.1,.bool x_9.2.1,.int .i32 x_9.2.2.1,.int .i32 x_9.2.2.2]⟩] [.sc (.int .i64)] fun (x_10:Int) =>
               J_5 (decide (x_10 < 0)))
     (J_5 false))
   <| fun s_11 =>
   cond s_11
    (drawW <|
   idxW data0.a data0.n 4 (IntKind.wrap .i64 (s_4 - 1)) fun x_12 =>
   ld (.agg [.int .u32,.bool,.int .i32,.int .i32]) x_12 fun (x_13:(Int × Bool × Int × Int)) =>
   idxW data0.a data0.n 4 s_4 fun x_14 =>
   ld (.agg [.int .u32,.bool,.int .i32,.int .i32]) x_14 fun (x_15:(Int × Bool × Int × Int)) =>
   idxW data0.a data0.n 4 s_4 fun x_16 =>
   stoL x_16 [.int .u32 x_13.1,.bool x_13.2.1,.int .i32 x_13.2.2.1,.int .i32 x_13.2.2.2] 0 <|
   idxW data0.a data0.n 4 (IntKind.wrap .i64 (s_4 - 1)) fun x_17 =>
   stoL x_17 [.int .u32 x_15.1,.bool x_15.2.1,.int .i32 x_15.2.2.1,.int .i32 x_15.2.2.2] 0 <|
   K_3 (IntKind.wrap .i64 (s_4 - 1)))
    (K_1 (IntKind.wrap .i64 (s_2+1))))
   s_2)
   (retW ()))
  (IntKind.wrap .i64 (a1+1))
theorem Z1y {R:Type} (data0:Sl) (a1:Int) (b2:Int) (K:Res []→W R) (Q:R→World→Prop) (w:World) (h:Ze data0 a1 b2 (fun r w=>K r Q w) w):callW Tryz.prog Z13 [.slice data0.a data0.n data0.c,.int .i64 a1,.int .i64 b2,.func (.func 135) #[] #[]] [] K Q w:=den_c (K:=K) mix Tryz.func233 { reg:=[(4,[(34,.sc .bool)])],lop:=[(0,[(8,.sc (.int .i64))]),(2,[(9,.sc (.int .i64))])],dr:=[(4,([],[[(0,[]),(1,[]),(2,[]),(3,[]),(4,[]),(5,[]),(6,[]),(7,[]),(8,[]),(9,[]),(10,[]),(11,[]),(12,[]),(13,[]),(14,[]),(15,[]),(16,[])]])),(6,([],[[(0,[]),(1,[]),(2,[]),(3,[]),(4,[]),(5,[]),(6,[]),(7,[]),(8,[]),(9,[]),(10,[]),(11,[]),(12,[]),(13,[]),(14,[]),(15,[]),(16,[]),(17,[])]]))] } trivial rfl (by kernel_rfl) h
def Zp (data0:Sl) (a1:Int) (b2:Int):W (Unit) :=
 loopW (σ:=Int) (fun K_1 s_2 =>
  cond (decide (s_2 ≥ 0))
   (callW Tryz.prog Zy [.slice data0.a data0.n data0.c,.int .i64 s_2,.int .i64 (IntKind.wrap .i64 (b2 - a1)),.int .i64 a1,.func (.func 135) #[] #[]] [] fun (x_3:Unit) =>
  K_1 (IntKind.wrap .i64 (s_2 - 1)))
   (loopW (σ:=Int) (fun K_4 s_5 =>
  cond (decide (s_5 ≥ 0))
   (drawW <|
  idxW data0.a data0.n 4 (IntKind.wrap .i64 (a1+s_5)) fun x_6 =>
  ld (.agg [.int .u32,.bool,.int .i32,.int .i32]) x_6 fun (x_7:(Int × Bool × Int × Int)) =>
  idxW data0.a data0.n 4 a1 fun x_8 =>
  ld (.agg [.int .u32,.bool,.int .i32,.int .i32]) x_8 fun (x_9:(Int × Bool × Int × Int)) =>
  idxW data0.a data0.n 4 a1 fun x_10 =>
  stoL x_10 [.int .u32 x_7.1,.bool x_7.2.1,.int .i32 x_7.2.2.1,.int .i32 x_7.2.2.2] 0 <|
  idxW data0.a data0.n 4 (IntKind.wrap .i64 (a1+s_5)) fun x_11 =>
  stoL x_11 [.int .u32 x_9.1,.bool x_9.2.1,.int .i32 x_9.2.2.1,.int .i32 x_9.2.2.2] 0 <|
  callW Tryz.prog Zy [.slice data0.a data0.n data0.c,.int .i64 0,.int .i64 s_5,.int .i64 a1,.func (.func 135) #[] #[]] [] fun (x_12:Unit) =>
  K_4 (IntKind.wrap .i64 (s_5 - 1)))
   (retW ()))
  (IntKind.wrap .i64 ((IntKind.wrap .i64 (b2 - a1)) - 1))))
  (IntKind.wrap .i64 (Int.tdiv (IntKind.wrap .i64 ((IntKind.wrap .i64 (b2 - a1)) - 1)) 2))
theorem Z2f {R:Type} (data0:Sl) (a1:Int) (b2:Int) (K:Res []→W R) (Q:R→World→Prop) (w:World) (h:Zp data0 a1 b2 (fun r w=>K r Q w) w):callW Tryz.prog Z1u [.slice data0.a data0.n data0.c,.int .i64 a1,.int .i64 b2,.func (.func 135) #[] #[]] [] K Q w:=den_c (K:=K) mix Tryz.func234 { lop:=[(0,[(11,.sc (.int .i64))]),(2,[(12,.sc (.int .i64))])],dr:=[(10,([],[[(0,[]),(1,[]),(2,[]),(3,[]),(4,[]),(5,[]),(6,[]),(7,[]),(8,[]),(9,[]),(10,[]),(11,[]),(12,[]),(13,[]),(14,[]),(15,[]),(16,[]),(17,[]),(18,[]),(19,[])]]))] } trivial rfl (by kernel_rfl) h
def Zd (d0:Sl) (o1:Int) (p2:Int):W (Unit) :=
 joinW (σ:=Unit) (fun J_1 =>
  cond (decide ((IntKind.wrap .i64 (p2 - o1)) ≥ 8))
   (newW 344 [.int .u64 0] fun x_2 =>
   stoL x_2 [.int .u64 (IntKind.wrap .u64 (IntKind.wrap .i64 (p2 - o1)))] 0 <|
   callW Tryz.prog Z3j [.int .i64 (IntKind.wrap .i64 (p2 - o1))] [.sc (.int .u64)] fun (x_3:Int) =>
   loopW (σ:=Int) (fun K_4 s_5 =>
    cond (decide (s_5≤(IntKind.wrap .i64 ((IntKind.wrap .i64 (o1+(IntKind.wrap .i64 ((IntKind.wrap .i64 (Int.tdiv (IntKind.wrap .i64 (p2 - o1)) 4)) * 2))))+1))))
     (callW Tryz.prog Z2m [.pointer (some x_2)] [.sc (.int .u64)] fun (x_6:Int) =>
    joinW (σ:=Int) (fun J_7 =>
     cond (decide ((IntKind.wrap .i64 (bAnd .u64 x_6 (IntKind.wrap .u64 (x_3 - 1)))) ≥ (IntKind.wrap .i64 (p2 - o1))))
      (J_7 (IntKind.wrap .i64 ((IntKind.wrap .i64 (bAnd .u64 x_6 (IntKind.wrap .u64 (x_3 - 1)))) - (IntKind.wrap .i64 (p2 - o1)))))
      (J_7 (IntKind.wrap .i64 (bAnd .u64 x_6 (IntKind.wrap .u64 (x_3 - 1))))))
    <| fun s_8 =>
    drawW <|
    idxW d0.a d0.n 4 (IntKind.wrap .i64 (o1+s_8)) fun x_9 =>
    ld (.agg [.int .u32,.bool,.int .i32,.int .i32]) x_9 fun (x_10:(Int × Bool × Int × Int)) =>
    idxW d0.a d0.n 4 s_5 fun x_11 =>
    ld (.agg [.int .u32,.bool,.int .i32,.int .i32]) x_11 fun (x_12:(Int × Bool × Int × Int)) =>
    idxW d0.a d0.n 4 s_5 fun x_13 =>
    stoL x_13 [.int .u32 x_10.1,.bool x_10.2.1,.int .i32 x_10.2.2.1,.int .i32 x_10.2.2.2] 0 <|
    idxW d0.a d0.n 4 (IntKind.wrap .i64 (o1+s_8)) fun x_14 =>
    stoL x_14 [.int .u32 x_12.1,.bool x_12.2.1,.int .i32 x_12.2.2.1,.int .i32 x_12.2.2.2] 0 <|
    K_4 (IntKind.wrap .i64 (s_5+1)))
     (J_1 ()))
    (IntKind.wrap .i64 ((IntKind.wrap .i64 (o1+(IntKind.wrap .i64 ((IntKind.wrap .i64 (Int.tdiv (IntKind.wrap .i64 (p2 - o1)) 4)) * 2)))) - 1)))
   (J_1 ()))
 <| fun s_15 =>
 retW ()
theorem Z1x {R:Type} (d0:Sl) (o1:Int) (p2:Int) (K:Res []→W R) (Q:R→World→Prop) (w:World) (h:Zd d0 o1 p2 (fun r w=>K r Q w) w):callW Tryz.prog Z12 [.slice d0.a d0.n d0.c,.int .i64 o1,.int .i64 p2,.func (.func 135) #[] #[]] [] K Q w:=den_c (K:=K) mix Tryz.func235 { con:=[(10045,[(12,.sc (.int .i64))]),(3017,[])],lop:=[(0,[(11,.sc (.int .i64))])],dr:=[(10,([],[[(0,[]),(1,[]),(2,[]),(3,[]),(4,[]),(5,[]),(6,[]),(7,[]),(8,[]),(9,[]),(10,[]),(11,[]),(12,[]),(13,[]),(14,[]),(15,[]),(16,[]),(17,[]),(18,[]),(19,[])]]))] } trivial rfl (by kernel_rfl) h
def Zi (data0:Sl) (a1:Int) (b2:Int):W (Int × Int) :=
 newW 3 [.int .i64 0] fun swaps_1 =>
 joinW (σ:=Int) (fun J_2 =>
  cond (decide ((IntKind.wrap .i64 (b2 - a1)) ≥ 8))
   (joinW (σ:=Int × Int × Int) (fun J_3 =>
    cond (decide ((IntKind.wrap .i64 (b2 - a1)) ≥ 50))
     (callW Tryz.prog Z6 [.slice data0.a data0.n data0.c,.int .i64 (IntKind.wrap .i64 (a1+(IntKind.wrap .i64 ((IntKind.wrap .i64 (Int.tdiv (IntKind.wrap .i64 (b2 - a1)) 4)) * 1)))),.pointer (some swaps_1),.func (.func 135) #[] #[]] [.sc (.int .i64)] fun (x_4:Int) =>
     callW Tryz.prog Z6 [.slice data0.a data0.n data0.c,.int .i64 (IntKind.wrap .i64 (a1+(IntKind.wrap .i64 ((IntKind.wrap .i64 (Int.tdiv (IntKind.wrap .i64 (b2 - a1)) 4)) * 2)))),.pointer (some swaps_1),.func (.func 135) #[] #[]] [.sc (.int .i64)] fun (x_5:Int) =>
     callW Tryz.prog Z6 [.slice data0.a data0.n data0.c,.int .i64 (IntKind.wrap .i64 (a1+(IntKind.wrap .i64 ((IntKind.wrap .i64 (Int.tdiv (IntKind.wrap .i64 (b2 - a1)) 4)) * 3)))),.pointer (some swaps_1),.func (.func 135) #[] #[]] [.sc (.int .i64)] fun (x_6:Int) =>
     J_3 (x_4,x_5,x_6))
     (J_3 (IntKind.wrap .i64 (a1+(IntKind.wrap .i64 ((IntKind.wrap .i64 (Int.tdiv (IntKind.wrap .i64 (b2 - a1)) 4)) * 1))),IntKind.wrap .i64 (a1+(IntKind.wrap .i64 ((IntKind.wrap .i64 (Int.tdiv (IntKind.wrap .i64 (b2 - a1)) 4)) * 2))),IntKind.wrap .i64 (a1+(IntKind.wrap .i64 ((IntKind.wrap .i64 (Int.tdiv (IntKind.wrap .i64 (b2 - a1)) 4)) * 3))))))
   <| fun s_7 =>
   callW Tryz.prog Z19 [.slice data0.a data0.n data0.c,.int .i64 s_7.1,.int .i64 s_7.2.1,.int .i64 s_7.2.2,.pointer (some swaps_1),.func (.func 135) #[] #[]] [.sc (.int .i64)] fun (x_8:Int) =>
   J_2 x_8)
   (J_2 (IntKind.wrap .i64 (a1+(IntKind.wrap .i64 ((IntKind.wrap .i64 (Int.tdiv (IntKind.wrap .i64 (b2 - a1)) 4)) * 2))))))
 <| fun s_9 =>
 ld (.sc (.int .i64)) swaps_1 fun (x_10:Int) =>
 cond (x_10 == 0)
  (retW (s_9,1))
  (cond (x_10 == 12)
   (retW (s_9,2))
   (retW (s_9,0)))
theorem Z24 {R:Type} (data0:Sl) (a1:Int) (b2:Int) (K:Res [.sc (.int .i64),.sc (.int .i64)]→W R) (Q:R→World→Prop) (w:World) (h:Zi data0 a1 b2 (fun r w=>K r Q w) w):callW Tryz.prog Z1f [.slice data0.a data0.n data0.c,.int .i64 a1,.int .i64 b2,.func (.func 135) #[] #[]] [.sc (.int .i64),.sc (.int .i64)] K Q w:=den_c (K:=K) mix Tryz.func236 { con:=[(9036,[(12,.sc (.int .i64)),(13,.sc (.int .i64)),(14,.sc (.int .i64))]),(8034,[(13,.sc (.int .i64))])] } trivial rfl (by kernel_rfl) h
def Zf (data0:Sl) (a1:Int) (b2:Int):W (Unit) :=
 loopW (σ:=Int × Int) (fun K_1 s_2 =>
  cond (decide (s_2.1 < s_2.2))
   (drawW <|
  idxW data0.a data0.n 4 s_2.2 fun x_3 =>
  ld (.agg [.int .u32,.bool,.int .i32,.int .i32]) x_3 fun (x_4:(Int × Bool × Int × Int)) =>
  idxW data0.a data0.n 4 s_2.1 fun x_5 =>
  ld (.agg [.int .u32,.bool,.int .i32,.int .i32]) x_5 fun (x_6:(Int × Bool × Int × Int)) =>
  idxW data0.a data0.n 4 s_2.1 fun x_7 =>
  stoL x_7 [.int .u32 x_4.1,.bool x_4.2.1,.int .i32 x_4.2.2.1,.int .i32 x_4.2.2.2] 0 <|
  idxW data0.a data0.n 4 s_2.2 fun x_8 =>
  stoL x_8 [.int .u32 x_6.1,.bool x_6.2.1,.int .i32 x_6.2.2.1,.int .i32 x_6.2.2.2] 0 <|
  K_1 (IntKind.wrap .i64 (s_2.1+1),IntKind.wrap .i64 (s_2.2 - 1)))
   (retW ()))
  (a1,IntKind.wrap .i64 (b2 - 1))
theorem Z22 {R:Type} (data0:Sl) (a1:Int) (b2:Int) (K:Res []→W R) (Q:R→World→Prop) (w:World) (h:Zf data0 a1 b2 (fun r w=>K r Q w) w):callW Tryz.prog Z1c [.slice data0.a data0.n data0.c,.int .i64 a1,.int .i64 b2,.func (.func 135) #[] #[]] [] K Q w:=den_c (K:=K) mix Tryz.func237 { lop:=[(0,[(8,.sc (.int .i64)),(9,.sc (.int .i64))])],dr:=[(3,([],[[(0,[]),(1,[]),(2,[]),(3,[]),(4,[]),(5,[]),(6,[]),(7,[]),(8,[]),(9,[]),(10,[]),(11,[]),(12,[]),(13,[]),(14,[]),(15,[])]]))] } trivial rfl (by kernel_rfl) h
def Z8 (d0:Sl) (o1:Int) (p2:Int):W (Bool) :=
 loopW (σ:=Int × Int) (fun K_1 s_2 =>
  cond (decide (s_2.2 < 5))
   (loopW (σ:=Int) (fun K_3 s_4 =>
   joinW (σ:=Bool) (fun J_5 =>
    drawW <|
    cond (decide (s_4 < p2))
     (idxW d0.a d0.n 4 s_4 fun x_6 =>
        ld (.agg [.int .u32,.bool,.int .i32,.int .i32]) x_6 fun (x_7:(Int × Bool × Int × Int)) =>
         idxW d0.a d0.n 4 (IntKind.wrap .i64 (s_4 - 1)) fun x_8 =>
             ld (.agg [.int .u32,.bool,.int .i32,.int .i32]) x_8 fun (x_9:(Int × Bool × Int × Int)) =>
              callW Tryz.prog Z1 [.agg ⟨[.int .u32 x_7.1,.bool x_7.2.1,.int .i32 x_7.2.2.1,.int .i32 x_7.2.2.2]⟩,.agg ⟨[.int .u32 x_9.1,.bool x_9.2.1,.int .i32 x_9.2.2.1,.int .i32 x_9.2.2.2]⟩] [.sc (.int .i64)] fun (x_10:Int) =>
               J_5 (!(decide (x_10 < 0))))
     (J_5 false))
   <| fun s_11 =>
   cond s_11
    (K_3 (IntKind.wrap .i64 (s_4+1)))
    (cond (s_4 == p2)
   (retW true)
   (cond (decide ((IntKind.wrap .i64 (p2 - o1)) < 50))
   (retW false)
   (drawW <|
  idxW d0.a d0.n 4 (IntKind.wrap .i64 (s_4 - 1)) fun x_12 =>
  ld (.agg [.int .u32,.bool,.int .i32,.int .i32]) x_12 fun (x_13:(Int × Bool × Int × Int)) =>
  idxW d0.a d0.n 4 s_4 fun x_14 =>
  ld (.agg [.int .u32,.bool,.int .i32,.int .i32]) x_14 fun (x_15:(Int × Bool × Int × Int)) =>
  idxW d0.a d0.n 4 s_4 fun x_16 =>
  stoL x_16 [.int .u32 x_13.1,.bool x_13.2.1,.int .i32 x_13.2.2.1,.int .i32 x_13.2.2.2] 0 <|
  idxW d0.a d0.n 4 (IntKind.wrap .i64 (s_4 - 1)) fun x_17 =>
  stoL x_17 [.int .u32 x_15.1,.bool x_15.2.1,.int .i32 x_15.2.2.1,.int .i32 x_15.2.2.2] 0 <|
  joinW (σ:=Unit) (fun J_18 =>
   cond (decide ((IntKind.wrap .i64 (s_4 - o1)) ≥ 2))
    (joinW (σ:=Unit) (fun J_19 =>
     loopW (σ:=Int) (fun K_20 s_21 =>
      cond (decide (s_21 ≥ 1))
       (drawW <|
      idxW d0.a d0.n 4 s_21 fun x_22 =>
      ld (.agg [.int .u32,.bool,.int .i32,.int .i32]) x_22 fun (x_23:(Int × Bool × Int × Int)) =>
      idxW d0.a d0.n 4 (IntKind.wrap .i64 (s_21 - 1)) fun x_24 =>
      ld (.agg [.int .u32,.bool,.int .i32,.int .i32]) x_24 fun (x_25:(Int × Bool × Int × Int)) =>
      callW Tryz.prog Z1 [.agg ⟨[.int .u32 x_23.1,.bool x_23.2.1,.int .i32 x_23.2.2.1,.int .i32 x_23.2.2.2]⟩,.agg ⟨[.int .u32 x_25.1,.bool x_25.2.1,.int .i32 x_25.2.2.1,.int .i32 x_25.2.2.2]⟩] [.sc (.int .i64)] fun (x_26:Int) =>
      cond (!(decide (x_26 < 0)))
       (J_19 ())
       (drawW <|
      idxW d0.a d0.n 4 (IntKind.wrap .i64 (s_21 - 1)) fun x_27 =>
      ld (.agg [.int .u32,.bool,.int .i32,.int .i32]) x_27 fun (x_28:(Int × Bool × Int × Int)) =>
      idxW d0.a d0.n 4 s_21 fun x_29 =>
      ld (.agg [.int .u32,.bool,.int .i32,.int .i32]) x_29 fun (x_30:(Int × Bool × Int × Int)) =>
      idxW d0.a d0.n 4 s_21 fun x_31 =>
      stoL x_31 [.int .u32 x_28.1,.bool x_28.2.1,.int .i32 x_28.2.2.1,.int .i32 x_28.2.2.2] 0 <|
      idxW d0.a d0.n 4 (IntKind.wrap .i64 (s_21 - 1)) fun x_32 =>
      stoL x_32 [.int .u32 x_30.1,.bool x_30.2.1,.int .i32 x_30.2.2.1,.int .i32 x_30.2.2.2] 0 <|
      K_20 (IntKind.wrap .i64 (s_21 - 1))))
       (J_19 ()))
      (IntKind.wrap .i64 (s_4 - 1)))
    <| fun s_33 =>
    J_18 ())
    (J_18 ()))
  <| fun s_34 =>
  joinW (σ:=Unit) (fun J_35 =>
   cond (decide ((IntKind.wrap .i64 (p2 - s_4)) ≥ 2))
    (joinW (σ:=Unit) (fun J_36 =>
     loopW (σ:=Int) (fun K_37 s_38 =>
      cond (decide (s_38 < p2))
       (drawW <|
      idxW d0.a d0.n 4 s_38 fun x_39 =>
      ld (.agg [.int .u32,.bool,.int .i32,.int .i32]) x_39 fun (x_40:(Int × Bool × Int × Int)) =>
      idxW d0.a d0.n 4 (IntKind.wrap .i64 (s_38 - 1)) fun x_41 =>
      ld (.agg [.int .u32,.bool,.int .i32,.int .i32]) x_41 fun (x_42:(Int × Bool × Int × Int)) =>
      callW Tryz.prog Z1 [.agg ⟨[.int .u32 x_40.1,.bool x_40.2.1,.int .i32 x_40.2.2.1,.int .i32 x_40.2.2.2]⟩,.agg ⟨[.int .u32 x_42.1,.bool x_42.2.1,.int .i32 x_42.2.2.1,.int .i32 x_42.2.2.2]⟩] [.sc (.int .i64)] fun (x_43:Int) =>
      cond (!(decide (x_43 < 0)))
       (J_36 ())
       (drawW <|
      idxW d0.a d0.n 4 (IntKind.wrap .i64 (s_38 - 1)) fun x_44 =>
      ld (.agg [.int .u32,.bool,.int .i32,.int .i32]) x_44 fun (x_45:(Int × Bool × Int × Int)) =>
      idxW d0.a d0.n 4 s_38 fun x_46 =>
      ld (.agg [.int .u32,.bool,.int .i32,.int .i32]) x_46 fun (x_47:(Int × Bool × Int × Int)) =>
      idxW d0.a d0.n 4 s_38 fun x_48 =>
      stoL x_48 [.int .u32 x_45.1,.bool x_45.2.1,.int .i32 x_45.2.2.1,.int .i32 x_45.2.2.2] 0 <|
      idxW d0.a d0.n 4 (IntKind.wrap .i64 (s_38 - 1)) fun x_49 =>
      stoL x_49 [.int .u32 x_47.1,.bool x_47.2.1,.int .i32 x_47.2.2.1,.int .i32 x_47.2.2.2] 0 <|
      K_37 (IntKind.wrap .i64 (s_38+1))))
       (J_36 ()))
      (IntKind.wrap .i64 (s_4+1)))
    <| fun s_50 =>
    J_35 ())
    (J_35 ()))
  <| fun s_51 =>
  K_1 (s_4,IntKind.wrap .i64 (s_2.2+1))))))
   s_2.1)
   (retW false))
  (IntKind.wrap .i64 (o1+1),0)
set_option maxRecDepth 100000 in
theorem Z1e {R:Type} (d0:Sl) (o1:Int) (p2:Int) (K:Res [.sc .bool]→W R) (Q:R→World→Prop) (w:World) (h:Z8 d0 o1 p2 (fun r w=>K r Q w) w):callW Tryz.prog Zg [.slice d0.a d0.n d0.c,.int .i64 o1,.int .i64 p2,.func (.func 135) #[] #[]] [.sc .bool] K Q w:=den_c (K:=K) mix Tryz.func238 { reg:=[(5,[(36,.sc .bool)])],con:=[(14065,[]),(20104,[])],blk:=[(4,[]),(6,[])],lop:=[(0,[(9,.sc (.int .i64)),(10,.sc (.int .i64))]),(2,[(9,.sc (.int .i64))]),(4,[(11,.sc (.int .i64))]),(6,[(12,.sc (.int .i64))])],dr:=[(5,([],[[(0,[]),(1,[]),(2,[]),(3,[]),(4,[]),(5,[]),(6,[]),(7,[]),(8,[]),(9,[]),(10,[]),(11,[]),(12,[]),(13,[]),(14,[]),(15,[]),(16,[]),(17,[])]])),(11,([],[[(0,[]),(1,[]),(2,[]),(3,[]),(4,[]),(5,[]),(6,[]),(7,[]),(8,[]),(9,[]),(10,[]),(11,[]),(12,[]),(13,[]),(14,[]),(15,[]),(16,[]),(17,[])]])),(16,([],[[(0,[]),(1,[]),(2,[]),(3,[]),(4,[]),(5,[]),(6,[]),(7,[]),(8,[]),(9,[]),(10,[]),(11,[]),(12,[])]])),(17,([],[[(0,[]),(1,[]),(2,[]),(3,[]),(4,[]),(5,[]),(6,[]),(7,[]),(8,[]),(9,[]),(10,[]),(11,[]),(12,[]),(13,[]),(14,[]),(15,[]),(16,[]),(17,[])]])),(22,([],[[(0,[]),(1,[]),(2,[]),(3,[]),(4,[]),(5,[]),(6,[]),(7,[]),(8,[]),(9,[]),(10,[]),(11,[]),(12,[])]])),(23,([],[[(0,[]),(1,[]),(2,[]),(3,[]),(4,[]),(5,[]),(6,[]),(7,[]),(8,[]),(9,[]),(10,[]),(11,[]),(12,[]),(13,[]),(14,[]),(15,[]),(16,[]),(17,[])]]))] } trivial rfl (by kernel_rfl) h
def Zb (d0:Sl) (o1:Int) (p2:Int) (p3:Int):W (Int) :=
 drawW <|
 idxW d0.a d0.n 4 p3 fun x_1 =>
 ld (.agg [.int .u32,.bool,.int .i32,.int .i32]) x_1 fun (x_2:(Int × Bool × Int × Int)) =>
 idxW d0.a d0.n 4 o1 fun x_3 =>
 ld (.agg [.int .u32,.bool,.int .i32,.int .i32]) x_3 fun (x_4:(Int × Bool × Int × Int)) =>
 idxW d0.a d0.n 4 o1 fun x_5 =>
 stoL x_5 [.int .u32 x_2.1,.bool x_2.2.1,.int .i32 x_2.2.2.1,.int .i32 x_2.2.2.2] 0 <|
 idxW d0.a d0.n 4 p3 fun x_6 =>
 stoL x_6 [.int .u32 x_4.1,.bool x_4.2.1,.int .i32 x_4.2.2.1,.int .i32 x_4.2.2.2] 0 <|
 loopW (σ:=Int × Int) (fun K_7 s_8 =>
  loopW (σ:=Int) (fun K_9 s_10 =>
   joinW (σ:=Bool) (fun J_11 =>
    drawW <|
    cond (decide (s_10≤s_8.2))
     (idxW d0.a d0.n 4 o1 fun x_12 =>
        ld (.agg [.int .u32,.bool,.int .i32,.int .i32]) x_12 fun (x_13:(Int × Bool × Int × Int)) =>
         idxW d0.a d0.n 4 s_10 fun x_14 =>
            ld (.agg [.int .u32,.bool,.int .i32,.int .i32]) x_14 fun (x_15:(Int × Bool × Int × Int)) =>
             callW Tryz.prog Z1 [.agg ⟨[.int .u32 x_13.1,.bool x_13.2.1,.int .i32 x_13.2.2.1,.int .i32 x_13.2.2.2]⟩,.agg ⟨[.int .u32 x_15.1,.bool x_15.2.1,.int .i32 x_15.2.2.1,.int .i32 x_15.2.2.2]⟩] [.sc (.int .i64)] fun (x_16:Int) =>
              J_11 (!(decide (x_16 < 0))))
     (J_11 false))
   <| fun s_17 =>
   cond s_17
    (K_9 (IntKind.wrap .i64 (s_10+1)))
    (loopW (σ:=Int) (fun K_18 s_19 =>
   joinW (σ:=Bool) (fun J_20 =>
    drawW <|
    cond (decide (s_10≤s_19))
     (idxW d0.a d0.n 4 o1 fun x_21 =>
        ld (.agg [.int .u32,.bool,.int .i32,.int .i32]) x_21 fun (x_22:(Int × Bool × Int × Int)) =>
         idxW d0.a d0.n 4 s_19 fun x_23 =>
            ld (.agg [.int .u32,.bool,.int .i32,.int .i32]) x_23 fun (x_24:(Int × Bool × Int × Int)) =>
             callW Tryz.prog Z1 [.agg ⟨[.int .u32 x_22.1,.bool x_22.2.1,.int .i32 x_22.2.2.1,.int .i32 x_22.2.2.2]⟩,.agg ⟨[.int .u32 x_24.1,.bool x_24.2.1,.int .i32 x_24.2.2.1,.int .i32 x_24.2.2.2]⟩] [.sc (.int .i64)] fun (x_25:Int) =>
              J_20 (decide (x_25 < 0)))
     (J_20 false))
   <| fun s_26 =>
   cond s_26
    (K_18 (IntKind.wrap .i64 (s_19 - 1)))
    (cond (decide (s_10 > s_19))
   (retW s_10)
   (drawW <|
  idxW d0.a d0.n 4 s_19 fun x_27 =>
  ld (.agg [.int .u32,.bool,.int .i32,.int .i32]) x_27 fun (x_28:(Int × Bool × Int × Int)) =>
  idxW d0.a d0.n 4 s_10 fun x_29 =>
  ld (.agg [.int .u32,.bool,.int .i32,.int .i32]) x_29 fun (x_30:(Int × Bool × Int × Int)) =>
  idxW d0.a d0.n 4 s_10 fun x_31 =>
  stoL x_31 [.int .u32 x_28.1,.bool x_28.2.1,.int .i32 x_28.2.2.1,.int .i32 x_28.2.2.2] 0 <|
  idxW d0.a d0.n 4 s_19 fun x_32 =>
  stoL x_32 [.int .u32 x_30.1,.bool x_30.2.1,.int .i32 x_30.2.2.1,.int .i32 x_30.2.2.2] 0 <|
  K_7 (IntKind.wrap .i64 (s_10+1),IntKind.wrap .i64 (s_19 - 1)))))
   s_8.2))
   s_8.1)
  (IntKind.wrap .i64 (o1+1),IntKind.wrap .i64 (p2 - 1))
theorem Z1t {R:Type} (d0:Sl) (o1:Int) (p2:Int) (p3:Int) (K:Res [.sc (.int .i64)]→W R) (Q:R→World→Prop) (w:World) (h:Zb d0 o1 p2 p3 (fun r w=>K r Q w) w):callW Tryz.prog Zz [.slice d0.a d0.n d0.c,.int .i64 o1,.int .i64 p2,.int .i64 p3,.func (.func 135) #[] #[]] [.sc (.int .i64)] K Q w:=den_c (K:=K) mix Tryz.func239 { reg:=[(3,[(47,.sc .bool)]),(5,[(65,.sc .bool)])],lop:=[(0,[(11,.sc (.int .i64)),(12,.sc (.int .i64))]),(2,[(11,.sc (.int .i64))]),(4,[(12,.sc (.int .i64))])],dr:=[(1,([],[[(0,[]),(1,[]),(2,[]),(3,[]),(4,[]),(5,[]),(6,[]),(7,[]),(8,[]),(9,[]),(10,[]),(11,[]),(12,[]),(13,[]),(14,[]),(15,[])]])),(3,([],[[(0,[]),(1,[]),(2,[]),(3,[]),(4,[]),(5,[]),(6,[]),(7,[]),(8,[]),(9,[]),(10,[]),(11,[]),(12,[]),(13,[]),(14,[]),(15,[]),(16,[])]])),(5,([],[[(0,[]),(1,[]),(2,[]),(3,[]),(4,[]),(5,[]),(6,[]),(7,[]),(8,[]),(9,[]),(10,[]),(11,[]),(12,[]),(13,[]),(14,[]),(15,[])]])),(8,([],[[(0,[]),(1,[]),(2,[]),(3,[]),(4,[]),(5,[]),(6,[]),(7,[]),(8,[]),(9,[]),(10,[]),(11,[]),(12,[]),(13,[]),(14,[]),(15,[])]]))] } trivial rfl (by kernel_rfl) h
def Zo (d0:Sl) (o1:Int) (p2:Int) (p3:Int):W (Int × Bool) :=
 drawW <|
 idxW d0.a d0.n 4 p3 fun x_1 =>
 ld (.agg [.int .u32,.bool,.int .i32,.int .i32]) x_1 fun (x_2:(Int × Bool × Int × Int)) =>
 idxW d0.a d0.n 4 o1 fun x_3 =>
 ld (.agg [.int .u32,.bool,.int .i32,.int .i32]) x_3 fun (x_4:(Int × Bool × Int × Int)) =>
 idxW d0.a d0.n 4 o1 fun x_5 =>
 stoL x_5 [.int .u32 x_2.1,.bool x_2.2.1,.int .i32 x_2.2.2.1,.int .i32 x_2.2.2.2] 0 <|
 idxW d0.a d0.n 4 p3 fun x_6 =>
 stoL x_6 [.int .u32 x_4.1,.bool x_4.2.1,.int .i32 x_4.2.2.1,.int .i32 x_4.2.2.2] 0 <|
 loopW (σ:=Int) (fun K_7 s_8 =>
  joinW (σ:=Bool) (fun J_9 =>
   drawW <|
   cond (decide (s_8≤(IntKind.wrap .i64 (p2 - 1))))
    (idxW d0.a d0.n 4 s_8 fun x_10 =>
       ld (.agg [.int .u32,.bool,.int .i32,.int .i32]) x_10 fun (x_11:(Int × Bool × Int × Int)) =>
        idxW d0.a d0.n 4 o1 fun x_12 =>
           ld (.agg [.int .u32,.bool,.int .i32,.int .i32]) x_12 fun (x_13:(Int × Bool × Int × Int)) =>
            callW Tryz.prog Z1 [.agg ⟨[.int .u32 x_11.1,.bool x_11.2.1,.int .i32 x_11.2.2.1,.int .i32 x_11.2.2.2]⟩,.agg ⟨[.int .u32 x_13.1,.bool x_13.2.1,.int .i32 x_13.2.2.1,.int .i32 x_13.2.2.2]⟩] [.sc (.int .i64)] fun (x_14:Int) =>
             J_9 (decide (x_14 < 0)))
    (J_9 false))
  <| fun s_15 =>
  cond s_15
   (K_7 (IntKind.wrap .i64 (s_8+1)))
   (loopW (σ:=Int) (fun K_16 s_17 =>
  joinW (σ:=Bool) (fun J_18 =>
   drawW <|
   cond (decide (s_8≤s_17))
    (idxW d0.a d0.n 4 s_17 fun x_19 =>
       ld (.agg [.int .u32,.bool,.int .i32,.int .i32]) x_19 fun (x_20:(Int × Bool × Int × Int)) =>
        idxW d0.a d0.n 4 o1 fun x_21 =>
           ld (.agg [.int .u32,.bool,.int .i32,.int .i32]) x_21 fun (x_22:(Int × Bool × Int × Int)) =>
            callW Tryz.prog Z1 [.agg ⟨[.int .u32 x_20.1,.bool x_20.2.1,.int .i32 x_20.2.2.1,.int .i32 x_20.2.2.2]⟩,.agg ⟨[.int .u32 x_22.1,.bool x_22.2.1,.int .i32 x_22.2.2.1,.int .i32 x_22.2.2.2]⟩] [.sc (.int .i64)] fun (x_23:Int) =>
             J_18 (!(decide (x_23 < 0))))
    (J_18 false))
  <| fun s_24 =>
  cond s_24
   (K_16 (IntKind.wrap .i64 (s_17 - 1)))
   (cond (decide (s_8 > s_17))
  (drawW <|
  idxW d0.a d0.n 4 o1 fun x_25 =>
  ld (.agg [.int .u32,.bool,.int .i32,.int .i32]) x_25 fun (x_26:(Int × Bool × Int × Int)) =>
  idxW d0.a d0.n 4 s_17 fun x_27 =>
  ld (.agg [.int .u32,.bool,.int .i32,.int .i32]) x_27 fun (x_28:(Int × Bool × Int × Int)) =>
  idxW d0.a d0.n 4 s_17 fun x_29 =>
  stoL x_29 [.int .u32 x_26.1,.bool x_26.2.1,.int .i32 x_26.2.2.1,.int .i32 x_26.2.2.2] 0 <|
  idxW d0.a d0.n 4 o1 fun x_30 =>
  stoL x_30 [.int .u32 x_28.1,.bool x_28.2.1,.int .i32 x_28.2.2.1,.int .i32 x_28.2.2.2] 0 <|
  retW (s_17,true))
  (drawW <|
 idxW d0.a d0.n 4 s_17 fun x_31 =>
 ld (.agg [.int .u32,.bool,.int .i32,.int .i32]) x_31 fun (x_32:(Int × Bool × Int × Int)) =>
 idxW d0.a d0.n 4 s_8 fun x_33 =>
 ld (.agg [.int .u32,.bool,.int .i32,.int .i32]) x_33 fun (x_34:(Int × Bool × Int × Int)) =>
 idxW d0.a d0.n 4 s_8 fun x_35 =>
 stoL x_35 [.int .u32 x_32.1,.bool x_32.2.1,.int .i32 x_32.2.2.1,.int .i32 x_32.2.2.2] 0 <|
 idxW d0.a d0.n 4 s_17 fun x_36 =>
 stoL x_36 [.int .u32 x_34.1,.bool x_34.2.1,.int .i32 x_34.2.2.1,.int .i32 x_34.2.2.2] 0 <|
 loopW (σ:=Int × Int) (fun K_37 s_38 =>
  loopW (σ:=Int) (fun K_39 s_40 =>
   joinW (σ:=Bool) (fun J_41 =>
    drawW <|
    cond (decide (s_40≤s_38.2))
     (idxW d0.a d0.n 4 s_40 fun x_42 =>
        ld (.agg [.int .u32,.bool,.int .i32,.int .i32]) x_42 fun (x_43:(Int × Bool × Int × Int)) =>
         idxW d0.a d0.n 4 o1 fun x_44 =>
            ld (.agg [.int .u32,.bool,.int .i32,.int .i32]) x_44 fun (x_45:(Int × Bool × Int × Int)) =>
             callW Tryz.prog Z1 [.agg ⟨[.int .u32 x_43.1,.bool x_43.2.1,.int .i32 x_43.2.2.1,.int .i32 x_43.2.2.2]⟩,.agg ⟨[.int .u32 x_45.1,.bool x_45.2.1,.int .i32 x_45.2.2.1,.int .i32 x_45.2.2.2]⟩] [.sc (.int .i64)] fun (x_46:Int) =>
              J_41 (decide (x_46 < 0)))
     (J_41 false))
   <| fun s_47 =>
   cond s_47
    (K_39 (IntKind.wrap .i64 (s_40+1)))
    (loopW (σ:=Int) (fun K_48 s_49 =>
   joinW (σ:=Bool) (fun J_50 =>
    drawW <|
    cond (decide (s_40≤s_49))
     (idxW d0.a d0.n 4 s_49 fun x_51 =>
        ld (.agg [.int .u32,.bool,.int .i32,.int .i32]) x_51 fun (x_52:(Int × Bool × Int × Int)) =>
         idxW d0.a d0.n 4 o1 fun x_53 =>
            ld (.agg [.int .u32,.bool,.int .i32,.int .i32]) x_53 fun (x_54:(Int × Bool × Int × Int)) =>
             callW Tryz.prog Z1 [.agg ⟨[.int .u32 x_52.1,.bool x_52.2.1,.int .i32 x_52.2.2.1,.int .i32 x_52.2.2.2]⟩,.agg ⟨[.int .u32 x_54.1,.bool x_54.2.1,.int .i32 x_54.2.2.1,.int .i32 x_54.2.2.2]⟩] [.sc (.int .i64)] fun (x_55:Int) =>
              J_50 (!(decide (x_55 < 0))))
     (J_50 false))
   <| fun s_56 =>
   cond s_56
    (K_48 (IntKind.wrap .i64 (s_49 - 1)))
    (cond (decide (s_40 > s_49))
   (drawW <|
 idxW d0.a d0.n 4 o1 fun x_57 =>
 ld (.agg [.int .u32,.bool,.int .i32,.int .i32]) x_57 fun (x_58:(Int × Bool × Int × Int)) =>
 idxW d0.a d0.n 4 s_49 fun x_59 =>
 ld (.agg [.int .u32,.bool,.int .i32,.int .i32]) x_59 fun (x_60:(Int × Bool × Int × Int)) =>
 idxW d0.a d0.n 4 s_49 fun x_61 =>
 stoL x_61 [.int .u32 x_58.1,.bool x_58.2.1,.int .i32 x_58.2.2.1,.int .i32 x_58.2.2.2] 0 <|
 idxW d0.a d0.n 4 o1 fun x_62 =>
 stoL x_62 [.int .u32 x_60.1,.bool x_60.2.1,.int .i32 x_60.2.2.1,.int .i32 x_60.2.2.2] 0 <|
 retW (s_49,false))
   (drawW <|
  idxW d0.a d0.n 4 s_49 fun x_63 =>
  ld (.agg [.int .u32,.bool,.int .i32,.int .i32]) x_63 fun (x_64:(Int × Bool × Int × Int)) =>
  idxW d0.a d0.n 4 s_40 fun x_65 =>
  ld (.agg [.int .u32,.bool,.int .i32,.int .i32]) x_65 fun (x_66:(Int × Bool × Int × Int)) =>
  idxW d0.a d0.n 4 s_40 fun x_67 =>
  stoL x_67 [.int .u32 x_64.1,.bool x_64.2.1,.int .i32 x_64.2.2.1,.int .i32 x_64.2.2.2] 0 <|
  idxW d0.a d0.n 4 s_49 fun x_68 =>
  stoL x_68 [.int .u32 x_66.1,.bool x_66.2.1,.int .i32 x_66.2.2.1,.int .i32 x_66.2.2.2] 0 <|
  K_37 (IntKind.wrap .i64 (s_40+1),IntKind.wrap .i64 (s_49 - 1)))))
   s_38.2))
   s_38.1)
  (IntKind.wrap .i64 (s_8+1),IntKind.wrap .i64 (s_17 - 1)))))
  (IntKind.wrap .i64 (p2 - 1))))
  (IntKind.wrap .i64 (o1+1))
set_option maxRecDepth 100000 in
theorem Z2c {R:Type} (d0:Sl) (o1:Int) (p2:Int) (p3:Int) (K:Res [.sc (.int .i64),.sc .bool]→W R) (Q:R→World→Prop) (w:World) (h:Zo d0 o1 p2 p3 (fun r w=>K r Q w) w):callW Tryz.prog Z1p [.slice d0.a d0.n d0.c,.int .i64 o1,.int .i64 p2,.int .i64 p3,.func (.func 135) #[] #[]] [.sc (.int .i64),.sc .bool] K Q w:=den_c (K:=K) mix Tryz.func240 { reg:=[(3,[(47,.sc .bool)]),(5,[(66,.sc .bool)]),(13,[(120,.sc .bool)]),(15,[(139,.sc .bool)])],lop:=[(0,[(12,.sc (.int .i64))]),(2,[(13,.sc (.int .i64))]),(4,[(12,.sc (.int .i64)),(13,.sc (.int .i64))]),(6,[(12,.sc (.int .i64))]),(8,[(13,.sc (.int .i64))])],dr:=[(1,([],[[(0,[]),(1,[]),(2,[]),(3,[]),(4,[]),(5,[]),(6,[]),(7,[]),(8,[]),(9,[]),(10,[]),(11,[]),(12,[]),(13,[]),(14,[]),(15,[])]])),(3,([],[[(0,[]),(1,[]),(2,[]),(3,[]),(4,[]),(5,[]),(6,[]),(7,[]),(8,[]),(9,[]),(10,[]),(11,[]),(12,[]),(13,[]),(14,[]),(15,[])]])),(5,([],[[(0,[]),(1,[]),(2,[]),(3,[]),(4,[]),(5,[]),(6,[]),(7,[]),(8,[]),(9,[]),(10,[]),(11,[]),(12,[]),(13,[]),(14,[]),(15,[]),(16,[])]])),(8,([],[[(0,[]),(1,[]),(2,[]),(3,[]),(4,[]),(5,[]),(6,[]),(7,[]),(8,[]),(9,[]),(10,[]),(11,[]),(12,[]),(13,[]),(14,[]),(15,[])]])),(10,([],[[(0,[]),(1,[]),(2,[]),(3,[]),(4,[]),(5,[]),(6,[]),(7,[]),(8,[]),(9,[]),(10,[]),(11,[]),(12,[]),(13,[]),(14,[]),(15,[])]])),(13,([],[[(0,[]),(1,[]),(2,[]),(3,[]),(4,[]),(5,[]),(6,[]),(7,[]),(8,[]),(9,[]),(10,[]),(11,[]),(12,[]),(13,[]),(14,[]),(15,[])]])),(15,([],[[(0,[]),(1,[]),(2,[]),(3,[]),(4,[]),(5,[]),(6,[]),(7,[]),(8,[]),(9,[]),(10,[]),(11,[]),(12,[]),(13,[]),(14,[]),(15,[]),(16,[])]])),(18,([],[[(0,[]),(1,[]),(2,[]),(3,[]),(4,[]),(5,[]),(6,[]),(7,[]),(8,[]),(9,[]),(10,[]),(11,[]),(12,[]),(13,[]),(14,[]),(15,[])]])),(21,([],[[(0,[]),(1,[]),(2,[]),(3,[]),(4,[]),(5,[]),(6,[]),(7,[]),(8,[]),(9,[]),(10,[]),(11,[]),(12,[]),(13,[]),(14,[]),(15,[])]]))] } trivial rfl (by kernel_rfl) h
def Zq (d0:Sl) (o1:Int) (p2:Int) (p3:Int):W (Unit) :=
 loopW (σ:=Int) (fun K_1 s_2 =>
  cond (decide ((IntKind.wrap .i64 ((IntKind.wrap .i64 (2 * s_2))+1)) ≥ p2))
   (retW ())
   (joinW (σ:=Bool) (fun J_3 =>
   drawW <|
   cond (decide ((IntKind.wrap .i64 ((IntKind.wrap .i64 ((IntKind.wrap .i64 (2 * s_2))+1))+1)) < p2))
    (idxW d0.a d0.n 4 (IntKind.wrap .i64 (p3 + (IntKind.wrap .i64 ((IntKind.wrap .i64 (2 * s_2)) + 1)))) fun x_4 =>
         ld (.agg [.int .u32,.bool,.int .i32,.int .i32]) x_4 fun (x_5:(Int × Bool × Int × Int)) =>
          idxW d0.a d0.n 4 (IntKind.wrap .i64 ((IntKind.wrap .i64 (p3 + (IntKind.wrap .i64 ((IntKind.wrap .i64 (2 * s_2)) + 1)))) + 1)) fun x_6 =>
                ld (.agg [.int .u32,.bool,.int .i32,.int .i32]) x_6 fun (x_7:(Int × Bool × Int × Int)) =>
                 callW Tryz.prog Z1 [.agg ⟨[.int .u32 x_5.1,.bool x_5.2.1,.int .i32 x_5.2.2.1,.int .i32 x_5.2.2.2]⟩,.agg ⟨[.int .u32 x_7.1,.bool x_7.2.1,.int .i32 x_7.2.2.1,.int .i32 x_7.2.2.2]⟩] [.sc (.int .i64)] fun (x_8:Int) =>
                  J_3 (decide (x_8 < 0)))
    (J_3 false))
  <| fun s_9 =>
  joinW (σ:=Int) (fun J_10 =>
   cond s_9
    (J_10 (IntKind.wrap .i64 ((IntKind.wrap .i64 ((IntKind.wrap .i64 (2 * s_2))+1))+1)))
    (J_10 (IntKind.wrap .i64 ((IntKind.wrap .i64 (2 * s_2))+1))))
  <| fun s_11 =>
  drawW <|
  idxW d0.a d0.n 4 (IntKind.wrap .i64 (p3+s_2)) fun x_12 =>
  ld (.agg [.int .u32,.bool,.int .i32,.int .i32]) x_12 fun (x_13:(Int × Bool × Int × Int)) =>
  idxW d0.a d0.n 4 (IntKind.wrap .i64 (p3+s_11)) fun x_14 =>
  ld (.agg [.int .u32,.bool,.int .i32,.int .i32]) x_14 fun (x_15:(Int × Bool × Int × Int)) =>
  callW Tryz.prog Z1 [.agg ⟨[.int .u32 x_13.1,.bool x_13.2.1,.int .i32 x_13.2.2.1,.int .i32 x_13.2.2.2]⟩,.agg ⟨[.int .u32 x_15.1,.bool x_15.2.1,.int .i32 x_15.2.2.1,.int .i32 x_15.2.2.2]⟩] [.sc (.int .i64)] fun (x_16:Int) =>
  cond (!(decide (x_16 < 0)))
   (retW ())
   (drawW <|
  idxW d0.a d0.n 4 (IntKind.wrap .i64 (p3+s_11)) fun x_17 =>
  ld (.agg [.int .u32,.bool,.int .i32,.int .i32]) x_17 fun (x_18:(Int × Bool × Int × Int)) =>
  idxW d0.a d0.n 4 (IntKind.wrap .i64 (p3+s_2)) fun x_19 =>
  ld (.agg [.int .u32,.bool,.int .i32,.int .i32]) x_19 fun (x_20:(Int × Bool × Int × Int)) =>
  idxW d0.a d0.n 4 (IntKind.wrap .i64 (p3+s_2)) fun x_21 =>
  stoL x_21 [.int .u32 x_18.1,.bool x_18.2.1,.int .i32 x_18.2.2.1,.int .i32 x_18.2.2.2] 0 <|
  idxW d0.a d0.n 4 (IntKind.wrap .i64 (p3+s_11)) fun x_22 =>
  stoL x_22 [.int .u32 x_20.1,.bool x_20.2.1,.int .i32 x_20.2.2.1,.int .i32 x_20.2.2.2] 0 <|
  K_1 s_11)))
  o1
theorem Z2g {R:Type} (d0:Sl) (o1:Int) (p2:Int) (p3:Int) (K:Res []→W R) (Q:R→World→Prop) (w:World) (h:Zq d0 o1 p2 p3 (fun r w=>K r Q w) w):callW Tryz.prog Zy [.slice d0.a d0.n d0.c,.int .i64 o1,.int .i64 p2,.int .i64 p3,.func (.func 135) #[] #[]] [] K Q w:=den_c (K:=K) mix Tryz.func270 { reg:=[(3,[(40,.sc .bool)])],con:=[(5040,[(11,.sc (.int .i64))])],lop:=[(0,[(10,.sc (.int .i64))])],dr:=[(3,([],[[(0,[]),(1,[]),(2,[]),(3,[]),(4,[]),(5,[]),(6,[]),(7,[]),(8,[]),(9,[]),(10,[]),(11,[]),(12,[]),(13,[]),(14,[]),(15,[]),(16,[]),(17,[]),(18,[]),(19,[]),(20,[]),(21,[])]])),(5,([],[[(0,[]),(1,[]),(2,[]),(3,[]),(4,[]),(5,[]),(6,[]),(7,[]),(8,[]),(9,[]),(10,[]),(11,[]),(12,[]),(13,[]),(14,[]),(15,[])]])),(6,([],[[(0,[]),(1,[]),(2,[]),(3,[]),(4,[]),(5,[]),(6,[]),(7,[]),(8,[]),(9,[]),(10,[]),(11,[]),(12,[]),(13,[]),(14,[]),(15,[]),(16,[]),(17,[]),(18,[]),(19,[]),(20,[]),(21,[]),(22,[]),(23,[])]]))] } trivial rfl (by kernel_rfl) h
def Za (data0:Sl) (a1:Int) (swaps2:Option Addr):W (Int) :=
 callW Tryz.prog Z19 [.slice data0.a data0.n data0.c,.int .i64 (IntKind.wrap .i64 (a1 - 1)),.int .i64 a1,.int .i64 (IntKind.wrap .i64 (a1+1)),.pointer swaps2,.func (.func 135) #[] #[]] [.sc (.int .i64)] fun (x_1:Int) =>
 retW x_1
theorem Z1s {R:Type} (data0:Sl) (a1:Int) (swaps2:Option Addr) (K:Res [.sc (.int .i64)]→W R) (Q:R→World→Prop) (w:World) (h:Za data0 a1 swaps2 (fun r w=>K r Q w) w):callW Tryz.prog Z6 [.slice data0.a data0.n data0.c,.int .i64 a1,.pointer swaps2,.func (.func 135) #[] #[]] [.sc (.int .i64)] K Q w:=den_c (K:=K) mix Tryz.func271 {} trivial rfl (by kernel_rfl) h
def Zv (data0:Sl) (a1:Int) (b2:Int) (c3:Int) (swaps4:Option Addr):W (Int) :=
 callW Tryz.prog Zl [.slice data0.a data0.n data0.c,.int .i64 a1,.int .i64 b2,.pointer swaps4,.func (.func 135) #[] #[]] [.sc (.int .i64),.sc (.int .i64)] fun (x_1:Int × Int) =>
 callW Tryz.prog Zl [.slice data0.a data0.n data0.c,.int .i64 x_1.2,.int .i64 c3,.pointer swaps4,.func (.func 135) #[] #[]] [.sc (.int .i64),.sc (.int .i64)] fun (x_2:Int × Int) =>
 callW Tryz.prog Zl [.slice data0.a data0.n data0.c,.int .i64 x_1.1,.int .i64 x_2.1,.pointer swaps4,.func (.func 135) #[] #[]] [.sc (.int .i64),.sc (.int .i64)] fun (x_3:Int × Int) =>
 retW x_3.2
theorem Z2t {R:Type} (data0:Sl) (a1:Int) (b2:Int) (c3:Int) (swaps4:Option Addr) (K:Res [.sc (.int .i64)]→W R) (Q:R→World→Prop) (w:World) (h:Zv data0 a1 b2 c3 swaps4 (fun r w=>K r Q w) w):callW Tryz.prog Z19 [.slice data0.a data0.n data0.c,.int .i64 a1,.int .i64 b2,.int .i64 c3,.pointer swaps4,.func (.func 135) #[] #[]] [.sc (.int .i64)] K Q w:=den_c (K:=K) mix Tryz.func272 {} trivial rfl (by kernel_rfl) h
def Zw (data0:Sl) (a1:Int) (b2:Int) (swaps3:Option Addr):W (Int × Int) :=
 drawW <|
 idxW data0.a data0.n 4 b2 fun x_1 =>
 ld (.agg [.int .u32,.bool,.int .i32,.int .i32]) x_1 fun (x_2:(Int × Bool × Int × Int)) =>
 idxW data0.a data0.n 4 a1 fun x_3 =>
 ld (.agg [.int .u32,.bool,.int .i32,.int .i32]) x_3 fun (x_4:(Int × Bool × Int × Int)) =>
 callW Tryz.prog Z1 [.agg ⟨[.int .u32 x_2.1,.bool x_2.2.1,.int .i32 x_2.2.2.1,.int .i32 x_2.2.2.2]⟩,.agg ⟨[.int .u32 x_4.1,.bool x_4.2.1,.int .i32 x_4.2.2.1,.int .i32 x_4.2.2.2]⟩] [.sc (.int .i64)] fun (x_5:Int) =>
 cond (decide (x_5 < 0))
  (ptrW swaps3 fun x_6 =>
  ld (.sc (.int .i64)) x_6 fun (x_7:Int) =>
  ptrW swaps3 fun x_8 =>
  stoL x_8 [.int .i64 (IntKind.wrap .i64 (x_7+1))] 0 <|
  retW (b2,a1))
  (retW (a1,b2))
theorem Z2u {R:Type} (data0:Sl) (a1:Int) (b2:Int) (swaps3:Option Addr) (K:Res [.sc (.int .i64),.sc (.int .i64)]→W R) (Q:R→World→Prop) (w:World) (h:Zw data0 a1 b2 swaps3 (fun r w=>K r Q w) w):callW Tryz.prog Zl [.slice data0.a data0.n data0.c,.int .i64 a1,.int .i64 b2,.pointer swaps3,.func (.func 135) #[] #[]] [.sc (.int .i64),.sc (.int .i64)] K Q w:=den_c (K:=K) mix Tryz.func292 { dr:=[(1,([],[[(0,[]),(1,[]),(2,[]),(3,[]),(4,[]),(5,[]),(6,[]),(7,[]),(8,[]),(9,[]),(10,[])]]))] } trivial rfl (by kernel_rfl) h
end Go.Proofs.YtoiahhpgkoknfaaGreat
